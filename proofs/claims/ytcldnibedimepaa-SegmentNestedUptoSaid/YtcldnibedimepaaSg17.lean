/-
  A part of the proof of this seat's laws: the reference's Make.
-/
import Derived.Test.YtcldnibedimepaaSg16
namespace Go.Proofs.Ytcldnibedimepaa
set_option linter.unusedVariables false
set_option linter.unusedSimpArgs false
open Go.RowKit Go.Shelf
namespace Sg
open Ap
set_option maxHeartbeats 4000000
theorem five_on2 {g : Nat} {F P R E U : UInt8} {w W : World} (h : Five g F P R E U W) (hb : Below w.heap.size w W) (X : Obj) : Below w.heap.size w (W.alloc X) ∧ Five g F P R E U (W.alloc X) := ⟨hb.alloc hb.size _, h.alloc _⟩
theorem refMake_calls (F P R E U : UInt8) (nm : List UInt8) (A : Option Addr) (n c : Nat) (l : List (List UInt8)) (w : World) (h : Tx w A n c l) (ht : Sp.tot l ≤ 4194304) (hnm : nm.length ≤ 4194304) :
    Calls Try.prog 30 #[dv F P R E U, .string (Sp.bs nm), .slice A n c] w fun e w' => e = .returned (.string (Sp.bs (Sp.make F nm l))) ∧ Below w.heap.size w w' := by
  have huD := Try.underlying23
  have h5 := Five.new F P R E U w
  have hB : Below w.heap.size w (w.alloc (.cells #[.int .u8 (F.toNat : Int), .int .u8 (P.toNat : Int), .int .u8 (R.toNat : Int), .int .u8 (E.toNat : Int), .int .u8 (U.toNat : Int)] 23)) := (Below.refl _ _).alloc (Nat.le_refl _) _
  have hnl := h.len
  have htl := Sp.tot_len l
  have Htx := Lib.hid h
  have hsign := run_sign
  clear h
  go_enter Try.func30, Try.ntmps30
  go_wp2_with fail
  generalize (w.alloc (.cells #[.int .u8 (F.toNat : Int), .int .u8 (P.toNat : Int), .int .u8 (R.toNat : Int), .int .u8 (E.toNat : Int), .int .u8 (U.toNat : Int)] 23)) = W at *
  go_loopw [7, 8] (fun t i wr => (∃ k : Nat, k ≤ n ∧ i = .int .i64 k ∧ t = .string (Sp.bs (Sp.make F nm (l.take k)))) ∧ Below w.heap.size w wr ∧ Five w.heap.size F P R E U wr) (fun _ i _ => n - (intOf i).toNat)
  case atStart => exact ⟨⟨0, by omega, rfl, by rw [List.take_zero, Sp.make_nil]⟩, hB, h5⟩
  case round =>
    obtain ⟨⟨k, hk, rfl, rfl⟩, hbr, f5r⟩ := hrel
    clear hB h5
    by_cases hlt : k < n
    · obtain ⟨x, hx⟩ : ∃ x, l[k]? = some x := ⟨_, List.getElem?_eq_getElem (by omega)⟩
      obtain ⟨b, o, rfl, hbl, hc⟩ := Htx.out.cells.resolve_left (by omega)
      have hcx := (hbr.cell (p := ⟨b, o + k, none⟩) hbl).trans (hc k x hx)
      have htk := Sp.tot_take l k x hx
      have htle := Sp.tot_take_le l (k + 1)
      have hml := Sp.make_len F nm (l.take k)
      have c0 : (0 : Int) ≤ (k : Int) := by omega
      have c1 : (k : Int) < (n : Int) := by omega
      have hwj : IntKind.i64.wrap ((k : Int) + 1) = (k : Int) + 1 := IntWalk.i64_in _ (by omega)
      have hzx := Sp.bs_size x
      have hzm := Sp.bs_size (Sp.make F nm (l.take k))
      have hM : (Sp.make F nm (l.take k)).length ≤ 8388608 := by omega
      have hX : x.length ≤ 4194304 := by omega
      have hc5 := f5r.cells
      by_cases hcase : nm ≠ Sp.msh ∨ 2 ≤ k
      · have hms := Sp.make_sep (F := F) (nm := nm) hx hcase
        have Hrel : Hid (Sp.bs (Sp.make F nm (l.take k)) ++ (⟨#[F]⟩ : ByteArray) = Sp.bs (Sp.make F nm (l.take k) ++ [F]) ∧ Sp.bs (Sp.make F nm (l.take k) ++ [F]) ++ Sp.bs x = Sp.bs (Sp.make F nm (l.take (k + 1)))) := Lib.hid
          ⟨Sp.bs_append _ [F], by rw [Sp.bs_append, hms]⟩
        obtain ⟨ha1, ha2⟩ := Hrel.out
        have hz3 : (Sp.bs (Sp.make F nm (l.take k) ++ [F])).size = (Sp.make F nm (l.take k)).length + 1 := by rw [Sp.bs_size]; simp
        obtain ⟨hb6, f6⟩ := five_on2 f5r hbr (.cells #[.int .u8 (F.toNat : Int)] 5)
        have hcx6 : (wr.alloc (.cells #[.int .u8 (F.toNat : Int)] 5)).cell? ⟨b, o + k, none⟩ = some (.string (Sp.bs x)) := (hb6.cell (p := ⟨b, o + k, none⟩) hbl).trans (hc k x hx)
        generalize Sp.make F nm (l.take k) = M at *
        generalize hM' : Sp.make F nm (l.take (k + 1)) = M' at *
        have HM' := Lib.hid hM'
        clear hM'
        by_cases hn1 : nm = Sp.msh
        · have H1 := nm_yes hn1
          have hk2 : (1 : Int) < (k : Int) := by have := hcase.resolve_left (not_not_intro hn1); omega
          clear hn1 hcase hms hx hc htk htle hml Hrel
          go_wp2
          go_roundw
          case rel => exact ⟨⟨k + 1, by omega, by go_num, by rw [HM'.out]⟩, hb6, f6⟩
          case measure => simp [intOf]; omega
        · have H1 := nm_no hn1
          clear hn1 hcase hms hx hc htk htle hml Hrel
          go_wp2
          go_roundw
          case rel => exact ⟨⟨k + 1, by omega, by go_num, by rw [HM'.out]⟩, hb6, f6⟩
          case measure => simp [intOf]; omega
      · have hn1 : nm = Sp.msh := Classical.byContradiction fun h => hcase (.inl h)
        have hk2 : k < 2 := Nat.lt_of_not_le fun h => hcase (.inr h)
        have hms := Sp.make_bare (F := F) hx hn1 hk2
        have H1 := nm_yes hn1
        have hk3 : ¬ (1 : Int) < (k : Int) := by omega
        have ha2 : Sp.bs (Sp.make F nm (l.take k)) ++ Sp.bs x = Sp.bs (Sp.make F nm (l.take (k + 1))) := by rw [Sp.bs_append, hms]
        generalize Sp.make F nm (l.take k) = M at *
        generalize hM' : Sp.make F nm (l.take (k + 1)) = M' at *
        have HM' := Lib.hid hM'
        clear hM'
        clear hn1 hcase hms hx hc htk htle hml
        go_wp2
        go_roundw
        case rel => exact ⟨⟨k + 1, by omega, by go_num, by rw [HM'.out]⟩, hbr, f5r⟩
        case measure => simp [intOf]; omega
    · obtain rfl : k = n := by omega
      have c1 : ¬ (k : Int) < (k : Int) := by omega
      have e : l.take k = l := List.take_of_length_le (by omega)
      rw [e]
      go_wp2
      go_ret
      exact ⟨rfl, hbr⟩
end Sg
end Go.Proofs.Ytcldnibedimepaa
