/-
  A part of the proof of this seat's laws: the text of bytes, both sides.
-/
import Derived.Test.YtpchfmeaplhodaaDoorTp1
import Derived.Test.YtpchfmeaplhodaaDoorG6
import Derived.Test.YtpchfmeaplhodaaDoorBld
import Derived.Deep.OwnRows
import Derived.Lib.RabinKarpLaws
namespace Go.Proofs.YtpchfmeaplhodaaDoor
set_option linter.unusedVariables false
set_option linter.unusedSimpArgs false
open Go.RowKit Go.Shelf
namespace Tr
open Ap Sg
set_option maxHeartbeats 8000000
theorem step {w a b : World} (h : Below w.heap.size w a) (hb : Below a.heap.size a b) : Below w.heap.size w b := h.trans (hb.mono h.size)
theorem newB (w : World) : Lib.IsBuilder 59 5 w.heap.size w.heap.size (Lib.byteCells []) (w.alloc (.cells #[.pointer none, .slice none 0 0] 59)) :=
  .inl ⟨Nat.le_refl _, .slice none 0 0, by show (w.heap.push _)[w.heap.size]? = _; simp, World.ownsRow_nil _ _ _ _, by simp [Value.ownBlock]⟩
theorem cells_str (l : List UInt8) : Lib.strCells (Sp.bs l) = Lib.byteCells l := by unfold Lib.strCells Lib.byteCells Sp.bs; simp
theorem cells_app (l m : List UInt8) : Lib.byteCells (l ++ m) = Lib.byteCells l ++ Lib.byteCells m := by unfold Lib.byteCells; simp
theorem cells_one (c : UInt8) : Lib.byteCells [c] = [.int .u8 (c.toNat : Int)] := rfl
theorem ldig_at (n : Nat) (hn : n < 16) : ∀ h, (⟨#[48, 49, 50, 51, 52, 53, 54, 55, 56, 57, 97, 98, 99, 100, 101, 102]⟩ : ByteArray)[n]'h = Sp.ldigs.getD n 0 := by
  intro h
  have : n = 0 ∨ n = 1 ∨ n = 2 ∨ n = 3 ∨ n = 4 ∨ n = 5 ∨ n = 6 ∨ n = 7 ∨ n = 8 ∨ n = 9 ∨ n = 10 ∨ n = 11 ∨ n = 12 ∨ n = 13 ∨ n = 14 ∨ n = 15 := by omega
  rcases this with rfl | rfl | rfl | rfl | rfl | rfl | rfl | rfl | rfl | rfl | rfl | rfl | rfl | rfl | rfl | rfl <;> rfl
theorem ldig_sub (n : Nat) (hn : n < 16) : (⟨#[48, 49, 50, 51, 52, 53, 54, 55, 56, 57, 97, 98, 99, 100, 101, 102]⟩ : ByteArray).extract n (n + 1) = Sp.bs [Sp.ldigs.getD n 0] := by
  have : n = 0 ∨ n = 1 ∨ n = 2 ∨ n = 3 ∨ n = 4 ∨ n = 5 ∨ n = 6 ∨ n = 7 ∨ n = 8 ∨ n = 9 ∨ n = 10 ∨ n = 11 ∨ n = 12 ∨ n = 13 ∨ n = 14 ∨ n = 15 := by omega
  rcases this with rfl | rfl | rfl | rfl | rfl | rfl | rfl | rfl | rfl | rfl | rfl | rfl | rfl | rfl | rfl | rfl <;> rfl
set_option maxRecDepth 100000 in
theorem hex_calls (A : Option Addr) (n c : Nat) (b : List UInt8) (hn : n ≤ 100000) (w : World) (hby : By w A n c b) :
    Calls Tryd.prog 11 #[.slice A n c] w fun e w' => e = .returned (.string (Sp.bs (Sp.hexT b))) ∧ Below w.heap.size w w' := by
  have hl := hby.len
  subst hl
  by_cases h0 : b = []
  · subst h0
    go_enter Tryd.func11, Tryd.ntmps11
    go_wp2_with fail
    go_ret
    exact ⟨rfl, Below.refl _ _⟩
  · have hp := List.length_pos_iff.2 h0
    have g9 : ((b.length : Int) == 0) = false := by rw [beq_eq_false_iff_ne]; omega
    have g9' : ¬ ((b.length : Int) = 0) := by omega
    have eT : Sp.hexT b = Sp.hexs b := by unfold Sp.hexT; rw [if_neg h0]
    rw [eT]
    have Hby := Lib.hid hby
    have hnb := Lib.hid (newB w)
    have hBn := Lib.hid ((Below.refl w.heap.size w).alloc (Nat.le_refl _) (.cells #[.pointer none, .slice none 0 0] 59))
    have hsz : w.heap.size < (w.alloc (.cells #[.pointer none, .slice none 0 0] 59)).heap.size := by rw [World.size_alloc]; exact Nat.lt_succ_self _
    clear hby h0 eT
    go_enter Tryd.func11, Tryd.ntmps11
    go_wp2_with fail
    generalize (w.alloc (.cells #[.pointer none, .slice none 0 0] 59)) = W at *
    go_loopw [5, 11] (fun _ i wr => ∃ k : Nat, k ≤ b.length ∧ i = .int .i64 k ∧ Hid (Lib.IsBuilder 59 5 w.heap.size w.heap.size (Lib.byteCells (Sp.hexs (b.take k))) wr) ∧ w.heap.size < wr.heap.size ∧ Hid (Below w.heap.size w wr)) (fun _ i _ => b.length - (intOf i).toNat)
    case atStart => exact ⟨0, by omega, rfl, hnb, hsz, hBn⟩
    case round =>
      obtain ⟨k, hk, rfl, hbd, hsz3, hB3⟩ := hrel
      clear hnb hsz hBn
      by_cases hlt : k < b.length
      · obtain ⟨x, hx⟩ : ∃ x, b[k]? = some x := ⟨_, List.getElem?_eq_getElem hlt⟩
        obtain ⟨g, o, rfl, hgl, hc⟩ := Hby.out.cells.resolve_left (by omega)
        have hcx := (hB3.out.cell (p := ⟨g, o + k, none⟩) hgl).trans (hc k x hx)
        have c0 : (0 : Int) ≤ (k : Int) := by omega
        have c1 : (k : Int) < (b.length : Int) := by omega
        have hw1 : IntKind.i64.wrap ((k : Int) + 1) = (k : Int) + 1 := IntWalk.i64_in _ (by omega)
        have htk : b.take (k + 1) = b.take k ++ [x] := by rw [List.take_add_one, hx]; rfl
        have Hh := Lib.hid (Sp.hexs_snoc (b.take k) x)
        rw [← htk] at Hh
        have hl1 := Sp.hexs_len (b.take k)
        have htl : (b.take k).length ≤ 100000 := by rw [List.length_take]; omega
        have e0 : 0 ≤ (x.toNat : Int) / 16 := by omega
        have hx255 := x.toNat_lt
        have e1 : (x.toNat : Int) / 16 < 16 := by omega
        have e2 : 0 ≤ (x.toNat : Int) % 16 := by omega
        have e3 : (x.toNat : Int) % 16 < 16 := by omega
        have e4 : ((x.toNat : Int) / 16).toNat = x.toNat / 16 := by omega
        have e5 : ((x.toNat : Int) % 16).toNat = x.toNat % 16 := by omega
        have d1 := ldig_at (x.toNat / 16) (by omega)
        have d2 := ldig_at (x.toNat % 16) (by omega)
        unfold Sp.hl at Hh
        generalize Sp.ldigs.getD (x.toNat / 16) 0 = y1 at *
        generalize Sp.ldigs.getD (x.toNat % 16) 0 = y2 at *
        generalize Sp.hexs (b.take k) = hs at *
        have hbl2 : (Lib.byteCells hs).length ≤ 200000 := by rw [Lib.byteCells_length]; omega
        clear hc hx htk hl1 htl
        go_wp2_with fail
        refine (Bd.writeByte _ _ _ (y1.toNat : Int) _ hbd.out (by omega) (by omega)).mono ?_
        rintro e w4 ⟨rfl, h4, b4⟩
        have hbd5 := Lib.hid h4
        have hB5 := Lib.hid (hB3.out.trans b4)
        have hs5 := b4.size
        clear h4 b4 hbd hB3
        go_wp2_with fail
        refine (Bd.writeByte _ _ _ (y2.toNat : Int) _ (.inr hbd5.out) (by rw [List.length_append, List.length_singleton]; omega) (by omega)).mono ?_
        rintro e w5 ⟨rfl, h5, b5⟩
        have hbd6 := Lib.hid h5
        have hB6 := Lib.hid (hB5.out.trans b5)
        have hs6 := b5.size
        clear h5 b5 hbd5 hB5
        go_wp2_with fail
        go_roundw
        case rel => exact ⟨k + 1, by omega, by go_num, by rw [Hh.out, cells_app]; have := hbd6.out; rw [List.append_assoc] at this; exact .inr this, by omega, hB6⟩
        case measure => simp [intOf]; omega
      · obtain rfl : k = b.length := by omega
        rw [List.take_length] at hbd
        have c1 : ¬ (b.length : Int) < (b.length : Int) := by omega
        have Hs := Lib.hid (Tryd.Builder_String_any _ _ _ wr hbd.out (by omega))
        go_wp2_with fail
        refine Hs.out.mono ?_
        rintro e w4 ⟨rfl, b4⟩
        go_wp2_with fail
        go_ret
        exact ⟨rfl, hB3.out.trans b4⟩
set_option maxRecDepth 100000 in
theorem rhex_calls (A : Option Addr) (n c : Nat) (b : List UInt8) (hn : n ≤ 100000) (w : World) (hby : By w A n c b) :
    Calls Tryd.prog 14 #[.slice A n c] w fun e w' => e = .returned (.string (Sp.bs (Sp.hexT b))) ∧ ∃ q, w' = w.drewN q := by
  have hl := hby.len
  subst hl
  by_cases h0 : b = []
  · subst h0
    go_enter Tryd.func14, Tryd.ntmps14
    go_wp2_with fail
    go_ret
    exact ⟨rfl, 0, rfl⟩
  · have hp := List.length_pos_iff.2 h0
    have g9 : ((b.length : Int) == 0) = false := by rw [beq_eq_false_iff_ne]; omega
    have g9' : ¬ ((b.length : Int) = 0) := by omega
    have eT : Sp.hexT b = Sp.hexs b := by unfold Sp.hexT; rw [if_neg h0]
    rw [eT]
    have Hby := Lib.hid hby
    clear hby h0 eT
    go_enter Tryd.func14, Tryd.ntmps14
    go_wp2_with fail
    go_loopw [3, 4] (fun v i wr => (∃ k : Nat, k ≤ b.length ∧ i = .int .i64 k ∧ v = .string (Sp.bs (Sp.hexs (b.take k)))) ∧ ∃ q, wr = w.drewN q) (fun _ i _ => b.length - (intOf i).toNat)
    case atStart => exact ⟨⟨0, by omega, rfl, rfl⟩, 0, rfl⟩
    case round =>
      obtain ⟨⟨k, hk, rfl, rfl⟩, q, rfl⟩ := hrel
      by_cases hlt : k < b.length
      · obtain ⟨x, hx⟩ : ∃ x, b[k]? = some x := ⟨_, List.getElem?_eq_getElem hlt⟩
        obtain ⟨g, o, rfl, hgl, hc⟩ := Hby.out.cells.resolve_left (by omega)
        have hcx := hc k x hx
        have c0 : (0 : Int) ≤ (k : Int) := by omega
        have c1 : (k : Int) < (b.length : Int) := by omega
        have hw1 : IntKind.i64.wrap ((k : Int) + 1) = (k : Int) + 1 := IntWalk.i64_in _ (by omega)
        have htk : b.take (k + 1) = b.take k ++ [x] := by rw [List.take_add_one, hx]; rfl
        have Hh := Lib.hid (Sp.hexs_snoc (b.take k) x)
        rw [← htk] at Hh
        have hl1 := Sp.hexs_len (b.take k)
        have htl : (b.take k).length ≤ 100000 := by rw [List.length_take]; omega
        have hx255 := x.toNat_lt
        have x0 : 0 ≤ (x.toNat : Int) := by omega
        have x1 : (x.toNat : Int) ≤ 255 := by omega
        have e0 : 0 ≤ (x.toNat : Int) / 16 := by omega
        have e1 : (x.toNat : Int) / 16 + 1 ≤ 16 := by omega
        have e2 : 0 ≤ (x.toNat : Int) % 16 := by omega
        have e3 : (x.toNat : Int) % 16 + 1 ≤ 16 := by omega
        have e4 : ((x.toNat : Int) / 16).toNat = x.toNat / 16 := by omega
        have e5 : ((x.toNat : Int) % 16).toNat = x.toNat % 16 := by omega
        have e6 : ((x.toNat : Int) / 16 + 1).toNat = x.toNat / 16 + 1 := by omega
        have e7 : ((x.toNat : Int) % 16 + 1).toNat = x.toNat % 16 + 1 := by omega
        have e8 : 0 ≤ (x.toNat : Int) / 16 + 1 := by omega
        have e9 : 0 ≤ (x.toNat : Int) % 16 + 1 := by omega
        have f1 : (x.toNat : Int) / 16 ≤ (x.toNat : Int) / 16 + 1 := by omega
        have f2 : (x.toNat : Int) % 16 ≤ (x.toNat : Int) % 16 + 1 := by omega
        have w1 : IntKind.u8.wrap ((x.toNat : Int).tdiv 16) = (x.toNat : Int) / 16 := IntWalk.u8_quo _ _ ⟨x0, x1, by omega⟩
        have w2 : IntKind.u8.wrap ((x.toNat : Int) / 16 + 1) = (x.toNat : Int) / 16 + 1 := IntWalk.u8_in _ (by omega)
        have w3 : (x.toNat : Int).tmod 16 = (x.toNat : Int) % 16 := IntWalk.rem_in _ _ x0
        have w4 : IntKind.u8.wrap ((x.toNat : Int) % 16) = (x.toNat : Int) % 16 := IntWalk.u8_in _ (by omega)
        have w5 : IntKind.u8.wrap ((x.toNat : Int) % 16 + 1) = (x.toNat : Int) % 16 + 1 := IntWalk.u8_in _ (by omega)
        have d1 := ldig_sub (x.toNat / 16) (by omega)
        have d2 := ldig_sub (x.toNat % 16) (by omega)
        unfold Sp.hl at Hh
        generalize Sp.ldigs.getD (x.toNat / 16) 0 = y1 at *
        generalize Sp.ldigs.getD (x.toNat % 16) 0 = y2 at *
        generalize Sp.hexs (b.take k) = hs at *
        obtain ⟨n1, hn1⟩ : ∃ n1, n1 = hs ++ [y1] := ⟨_, rfl⟩
        obtain ⟨n2, hn2⟩ : ∃ n2, n2 = n1 ++ [y2] := ⟨_, rfl⟩
        have a1 : Sp.bs hs ++ Sp.bs [y1] = Sp.bs n1 := by rw [hn1]; exact Sp.bs_append _ _
        have a2 : Sp.bs n1 ++ Sp.bs [y2] = Sp.bs n2 := by rw [hn2]; exact Sp.bs_append _ _
        have z0 := Sp.bs_size hs
        have z1 : (Sp.bs n1).size = hs.length + 1 := by rw [Sp.bs_size, hn1, List.length_append]; rfl
        have z2 : (Sp.bs [y1]).size = 1 := Sp.bs_size _
        have z3 : (Sp.bs [y2]).size = 1 := Sp.bs_size _
        have hsl : hs.length ≤ 200000 := by omega
        have Hn2 : Hid (n2 = Sp.hexs (b.take (k + 1))) := Lib.hid (by rw [Hh.out, hn2, hn1]; simp)
        clear hc hx htk hl1 htl hn1 hn2
        go_wp2_with fail
        go_quiet (fail)
        go_wp2_with fail
        go_roundw
        case rel => exact ⟨⟨k + 1, by omega, by go_num, by rw [Hn2.out]⟩, _, rfl⟩
        case measure => simp [intOf]; omega
      · obtain rfl : k = b.length := by omega
        rw [List.take_length]
        have c1 : ¬ (b.length : Int) < (b.length : Int) := by omega
        go_wp2_with fail
        go_ret
        exact ⟨rfl, q, rfl⟩
end Tr
end Go.Proofs.YtpchfmeaplhodaaDoor
