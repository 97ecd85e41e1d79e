/-
  A part of the proof of this seat's laws: texts decoded.
-/
import Derived.Test.YtkiloebfjooogaaDoorEs4
import Derived.Test.YtkiloebfjooogaaDoorG4
namespace Go.Proofs.YtkiloebfjooogaaDoor
set_option linter.unusedVariables false
set_option linter.unusedSimpArgs false
open Go.RowKit Go.Shelf
namespace Sp
theorem cutL_tot (c : UInt8) : ∀ s : List UInt8, tot (cutL c s) = s.length + 1
  | [] => rfl
  | x :: l => by
    have ih := cutL_tot c l
    by_cases hx : x = c
    · rw [cutL_eq l hx, tot_cons, ih]; simp; omega
    · rw [cutL_other l hx]
      have h0 := cutL_ne c l
      cases h : cutL c l with
      | nil => exact (h0 h).elim
      | cons a b =>
        rw [h, tot_cons] at ih
        rw [List.headD_cons, List.tail_cons, tot_cons]
        simp only [List.length_cons]
        omega
/-- what Decode hands back -/
def decV (r : Except Nat (List UInt8)) (n : Nat) : Value := match r with
  | .ok t => .tuple #[.string (bs t), .int .i64 (n : Int), .int .i64 0]
  | .error a => .tuple #[.string ⟨#[]⟩, .int .i64 (a : Int), .int .i64 10]
theorem decF_last {tl : List UInt8 → Option (List UInt8)} {y : List UInt8} {out : List UInt8} {a : Nat} : decF tl true [y] out a = .error a := by rw [decF]
theorem decF_none {tl : List UInt8 → Option (List UInt8)} {y : List UInt8} {r : List (List UInt8)} {out : List UInt8} {a : Nat} (h : tl y = none) : decF tl true (y :: r) out a = .error a := by
  cases r with
  | nil => rw [decF]
  | cons z r => rw [decF, h]
theorem decF_some {tl : List UInt8 → Option (List UInt8)} {y t : List UInt8} {r : List (List UInt8)} {out : List UInt8} {a : Nat} (h : tl y = some t) (hr : r ≠ []) : decF tl true (y :: r) out a = decF tl false r (out ++ t) (a + y.length + 2) := by
  cases r with
  | nil => exact (hr rfl).elim
  | cons z r => conv => lhs; rw [decF, h]
theorem decF_text {tl : List UInt8 → Option (List UInt8)} {x : List UInt8} {r : List (List UInt8)} {out : List UInt8} {a : Nat} : decF tl false (x :: r) out a = decF tl true r (out ++ x) (a + x.length) := by rw [decF]
theorem decF_end {tl : List UInt8 → Option (List UInt8)} {b : Bool} {out : List UInt8} {a : Nat} : decF tl b [] out a = .ok out := by cases b <;> rw [decF]
end Sp
namespace Es
open Ap Mp Sg
set_option maxHeartbeats 4000000
theorem decode_no (s : List UInt8) (F P R E U : UInt8) (hr : rtB F P R E U = false) (w : World) :
    Calls Tryd.prog 11 #[.string (Sp.bs s), dv F P R E U] w fun e w' => e = .returned (.tuple #[.string ⟨#[]⟩, .int .i64 0, .int .i64 11]) ∧ Below w.heap.size w w' := by
  have huD := Tryd.underlying23
  have hB0 : Below w.heap.size w (w.alloc (.cells #[.int .u8 (F.toNat : Int), .int .u8 (P.toNat : Int), .int .u8 (R.toNat : Int), .int .u8 (E.toNat : Int), .int .u8 (U.toNat : Int)] 23)) := (Below.refl _ _).alloc (Nat.le_refl _) _
  have f0 := Dl.Five.new (F.toNat : Int) (P.toNat : Int) (R.toNat : Int) (E.toNat : Int) (U.toNat : Int) w
  have hc0 := f0.cells
  have Hr := fun w => Lib.hid (right_calls F P R E U w)
  rw [hr] at Hr
  clear hr
  go_enter Tryd.func11, Tryd.ntmps11
  go_wp2_with fail
  refine (Hr _).out.mono ?_
  rintro e w1 ⟨rfl, b1⟩
  go_wp2_with fail
  go_ret3
  exact ⟨rfl, step hB0 b1⟩
theorem TxB.kept {w w' : World} {b g : Nat} {xs : List (List UInt8)} (h : Sg.TxB w g xs) (hk : Lib.OthersKept 5 (some b) w w') (hne : g ≠ b) : Sg.TxB w' g xs :=
  hk g _ h (fun e => hne (Option.some.inj e)) (fun c fz e => absurd (Obj.cells.inj e).2.1 (by decide))
set_option maxRecDepth 100000 in
theorem decode_yes (s : List UInt8) (hs : s.length ≤ 100000) (F P R E U : UInt8) (hr : rtB F P R E U = true) (w : World) (hml : Ml w) :
    Calls Tryd.prog 11 #[.string (Sp.bs s), dv F P R E U] w fun e w' => e = .returned (Sp.decV (Sp.dec F P R E U s) s.length) ∧ Below w.heap.size w w' := by
  have huD := Tryd.underlying23
  have hz := Sp.bs_size s
  have rt := Sp.rt_of hr
  have hB0 : Below w.heap.size w (w.alloc (.cells #[.int .u8 (F.toNat : Int), .int .u8 (P.toNat : Int), .int .u8 (R.toNat : Int), .int .u8 (E.toNat : Int), .int .u8 (U.toNat : Int)] 23)) := (Below.refl _ _).alloc (Nat.le_refl _) _
  have f0 := Dl.Five.new (F.toNat : Int) (P.toNat : Int) (R.toNat : Int) (E.toNat : Int) (U.toNat : Int) w
  have hc0 := f0.cells
  have Hr := fun w => Lib.hid (right_calls F P R E U w)
  rw [hr] at Hr
  have Hml := Lib.hid hml
  obtain ⟨res, hres⟩ : ∃ res, res = Sp.dec F P R E U s := ⟨_, rfl⟩
  rw [← hres]
  have Hres := Lib.hid hres
  clear hr hml hres
  go_enter Tryd.func11, Tryd.ntmps11
  go_wp2_with fail
  refine (Hr _).out.mono ?_
  rintro e w1 ⟨rfl, b1⟩
  have hB1 := Lib.hid (step hB0 b1)
  have f1 := f0.below b1 f0.lt
  have hgl := f1.lt
  have hnb := newB w1
  have hBn := Lib.hid (hB1.out.alloc hB1.out.size (.cells #[.pointer none, .slice none 0 0] 45))
  have hal := (Below.refl w1.heap.size w1).alloc (Nat.le_refl _) (.cells #[.pointer none, .slice none 0 0] 45)
  have ft := f1.below hal hgl
  have hsz : w1.heap.size < (w1.alloc (.cells #[.pointer none, .slice none 0 0] 45)).heap.size := by rw [World.size_alloc]; exact Nat.lt_succ_self _
  have hwB := hB1.out.size
  have hct := ft.cells
  have hmt := Lib.hid (Hml.out.below hBn.out)
  clear hc0 f1 f0 hB0 b1 Hr hB1 hal
  go_wp2_with fail
  generalize (w1.alloc (.cells #[.pointer none, .slice none 0 0] 45)) = W at *
  generalize w1.heap.size = B at *
  refine (delimCutB_calls s E (by omega) W hmt.out).mono ?_
  rintro e w2 ⟨rfl, htx, b2⟩
  have hB2 := Lib.hid (step hBn.out b2)
  have ft2 := Lib.hid (Dl.Five.below ft b2 (by omega))
  have hbd2 := Lib.hid (Bd.stays hnb b2)
  have hs2 := b2.size
  have Htx := Lib.hid htx
  have hgB : W.heap.size + 1 ≠ B := by omega
  generalize W.heap.size + 1 = g at *
  have hcp := Sp.cutL_pos E s
  have hct2 := Sp.cutL_tot E s
  have Hres2 : Hid (Sp.decF (Sp.tell F P R E U) false (Sp.cutL E s) [] 0 = res) := Lib.hid (by rw [Hres.out]; rfl)
  clear hct ft hnb hBn b2 htx hmt Hml Hres
  generalize Sp.cutL E s = ps at *
  obtain ⟨N, hN⟩ : ∃ N, N = ps.length := ⟨_, rfl⟩
  rw [← hN] at hcp ⊢
  have hNt := Sp.tot_len ps
  rw [← hN] at hNt
  have HN := Lib.hid hN
  clear hN
  go_wp2_with fail
  go_loopw [8, 10, 11, 12, 13, 23] (fun av _ _ _ _ i wr => ∃ (k a : Nat) (out : List UInt8), k ≤ N ∧ i = .int .i64 k ∧ av = .int .i64 a ∧ out.length ≤ a ∧ a + Sp.tot (ps.drop k) + k % 2 ≤ s.length + 1 ∧
      Hid (Sp.decF (Sp.tell F P R E U) (decide (k % 2 = 1)) (ps.drop k) out a = res) ∧ Hid (Lib.IsBuilder 45 5 B B (Lib.byteCells out) wr) ∧ Hid (Sg.TxB wr g ps) ∧ Hid (FV w.heap.size F P R E U wr) ∧ B < wr.heap.size ∧ Hid (Below w.heap.size w wr)) (fun _ _ _ _ _ i _ => N - (intOf i).toNat)
  case atStart => exact ⟨0, 0, [], by omega, rfl, rfl, by simp, by simp; omega, Hres2, hbd2, Htx, ft2, by omega, hB2⟩
  case round =>
    obtain ⟨k, a, out, hk, rfl, rfl, hoa, hat, hdec, hbd, Htx3, ft3, hsz3, hB3⟩ := hrel
    clear Hres2 hbd2 Htx ft2 hB2
    by_cases hlt : k < N
    · obtain ⟨x, hxk⟩ : ∃ x, ps[k]? = some x := ⟨_, List.getElem?_eq_getElem (by have := HN.out; omega)⟩
      have hdr : ps.drop k = x :: ps.drop (k + 1) := by
        rw [List.drop_eq_getElem_cons (by have := HN.out; omega)]
        congr 1
        have := List.getElem?_eq_getElem (l := ps) (i := k) (by have := HN.out; omega)
        rw [hxk] at this
        exact (Option.some.inj this).symm
      rw [hdr, Sp.tot_cons] at hat
      rw [hdr] at hdec
      obtain ⟨b9, o9, hg9, -, hcc⟩ := Htx3.out.tx.cells.resolve_left (by have := HN.out; omega)
      have hcx := hcc k x hxk
      simp only [Option.some.injEq, Addr.mk.injEq, and_true] at hg9
      obtain ⟨rfl, rfl⟩ := hg9
      rw [Nat.zero_add] at hcx
      have hzx := Sp.bs_size x
      have c0 : (0 : Int) ≤ (k : Int) := by omega
      have c1 : (k : Int) < (N : Int) := by omega
      have hw1 : IntKind.i64.wrap ((k : Int) + 1) = (k : Int) + 1 := IntWalk.i64_in _ (by omega)
      have hand := Go.Proofs.and_one k (by omega)
      have hxl : x.length ≤ 100001 := by omega
      have hbl2 : (Lib.byteCells out).length ≤ 100001 := by rw [Lib.byteCells_length]; omega
      clear hcc hxk hdr
      by_cases hpar : k % 2 = 1
      · rw [hpar] at hand
        have hand2 : bits BinOp.and IntKind.i64 (k : Int) 1 = 1 := hand
        have hd2 : Hid (Sp.decF (Sp.tell F P R E U) true (x :: ps.drop (k + 1)) out a = res) := Lib.hid (by have := hdec.out; rwa [decide_eq_true hpar] at this)
        have hpar2 : (k + 1) % 2 = 0 := by omega
        have hat2 : a + x.length + 2 + Sp.tot (ps.drop (k + 1)) + (k + 1) % 2 ≤ s.length + 1 := by omega
        have Hat2 := Lib.hid hat2
        have hc3 := ft3.out.cells
        clear hand hdec hpar
        go_wp2_with fail
        refine (tell_calls x (by omega) F P R E U rt _).mono ?_
        rintro e w4 ⟨rfl, b4⟩
        have hB4 := Lib.hid (step hB3.out b4)
        have ft4 := Lib.hid (Dl.Five.below ft3.out b4 ft3.out.lt)
        have hbd4 := Lib.hid (Bd.stays hbd.out b4)
        have Htx4 := Lib.hid (Htx3.out.below b4)
        have hs4 := b4.size
        clear hB3 ft3 hbd Htx3 hc3 b4 hcx
        cases htl : Sp.tell F P R E U x with
        | none =>
          have Hr2 : Hid (res = .error a) := Lib.hid (by rw [← hd2.out]; exact Sp.decF_none htl)
          have e0 : Sp.bs (([] : List UInt8)) = (⟨#[]⟩ : ByteArray) := rfl
          clear hd2 htl
          go_wp2_with fail
          go_ret3
          rw [Hr2.out]
          exact ⟨rfl, hB4.out⟩
        | some t2 =>
          have ht2 := Sp.tell_len htl
          have hwN : IntKind.i64.wrap ((N : Int) - 1) = (N : Int) - 1 := IntWalk.i64_in _ (by omega)
          by_cases hlast : k + 1 = N
          · have hkn : ((k : Int) == (N : Int) - 1) = true := by rw [beq_iff_eq]; omega
            have Hr2 : Hid (res = .error a) := Lib.hid (by
              rw [← hd2.out, List.drop_of_length_le (by have := HN.out; omega)]
              exact Sp.decF_last)
            clear hd2 htl hlast
            go_wp2_with fail
            go_ret3
            rw [Hr2.out]
            exact ⟨rfl, hB4.out⟩
          · have hkn : ((k : Int) == (N : Int) - 1) = false := by rw [beq_eq_false_iff_ne]; omega
            have Hd3 : Hid (Sp.decF (Sp.tell F P R E U) false (ps.drop (k + 1)) (out ++ t2) (a + x.length + 2) = res) := Lib.hid (by
              rw [← hd2.out, Sp.decF_some htl (fun e => by have := congrArg List.length e; rw [List.length_drop, List.length_nil] at this; have := HN.out; omega)])
            have hz2 := Sp.bs_size t2
            have hw2 : IntKind.i64.wrap ((x.length : Int) + 2) = (x.length : Int) + 2 := IntWalk.i64_in _ (by omega)
            have hw3 : IntKind.i64.wrap ((a : Int) + ((x.length : Int) + 2)) = ((a + x.length + 2 : Nat) : Int) := by rw [IntWalk.i64_in _ (by omega)]; omega
            clear hd2 htl hlast hand2
            go_wp2_with fail
            refine (Bd.writeString_k B B _ (Sp.bs t2) _ hbd4.out (by rw [Sp.bs_size]; omega) (by omega)).mono ?_
            rintro e w5 ⟨rfl, h5, b5, k5⟩
            have hbd5 := Lib.hid h5
            have hB5 := Lib.hid (hB4.out.trans (b5.mono hwB))
            have ft5 := Lib.hid (Dl.Five.below ft4.out b5 (by omega))
            have Htx5 := Lib.hid (TxB.kept Htx4.out k5 hgB)
            have hs5 := b5.size
            clear h5 b5 k5 hbd4 hB4 ft4 Htx4 hkn hwN hz2
            go_wp2_with fail
            go_roundw
            case rel => exact ⟨k + 1, a + x.length + 2, out ++ t2, by omega, by go_num, rfl, by rw [List.length_append]; omega, Hat2.out, by rw [hpar2]; exact Hd3, by rw [cells_app, ← cells_str]; exact .inr hbd5.out, Htx5, ft5, by omega, hB5⟩
            case measure => simp [intOf]; omega
      · have hpar0 : k % 2 = 0 := by omega
        rw [hpar0] at hand
        have hand2 : bits BinOp.and IntKind.i64 (k : Int) 1 = 0 := hand
        have hd2 : Hid (Sp.decF (Sp.tell F P R E U) true (ps.drop (k + 1)) (out ++ x) (a + x.length) = res) := Lib.hid (by have := hdec.out; rwa [decide_eq_false hpar, Sp.decF_text] at this)
        have hpar2 : (k + 1) % 2 = 1 := by omega
        have hat2 : a + x.length + Sp.tot (ps.drop (k + 1)) + (k + 1) % 2 ≤ s.length + 1 := by omega
        have Hat2 := Lib.hid hat2
        have hw3 : IntKind.i64.wrap ((a : Int) + (x.length : Int)) = ((a + x.length : Nat) : Int) := by rw [IntWalk.i64_in _ (by omega)]; omega
        clear hand hdec hpar hpar0
        go_wp2_with fail
        refine (Bd.writeString_k B B _ (Sp.bs x) _ hbd.out (by rw [Sp.bs_size]; omega) (by omega)).mono ?_
        rintro e w5 ⟨rfl, h5, b5, k5⟩
        have hbd5 := Lib.hid h5
        have hB5 := Lib.hid (hB3.out.trans (b5.mono hwB))
        have ft5 := Lib.hid (Dl.Five.below ft3.out b5 (by omega))
        have Htx5 := Lib.hid (TxB.kept Htx3.out k5 hgB)
        have hs5 := b5.size
        clear h5 b5 k5 hbd hB3 ft3 Htx3 hand2 hcx
        go_wp2_with fail
        go_roundw
        case rel => exact ⟨k + 1, a + x.length, out ++ x, by omega, by go_num, rfl, by rw [List.length_append]; omega, Hat2.out, by rw [hpar2]; exact hd2, by rw [cells_app, ← cells_str]; exact .inr hbd5.out, Htx5, ft5, by omega, hB5⟩
        case measure => simp [intOf]; omega
    · obtain rfl : k = N := by omega
      have Hr2 : Hid (res = .ok out) := Lib.hid (by
        rw [← hdec.out, List.drop_of_length_le (by have := HN.out; omega)]
        exact Sp.decF_end)
      have c1 : ¬ (k : Int) < (k : Int) := by omega
      have Hs := Lib.hid (Tryd.Builder_String_any B B _ wr hbd.out (by omega))
      clear hdec
      go_wp2_with fail
      refine Hs.out.mono ?_
      rintro e w4 ⟨rfl, b4⟩
      go_wp2_with fail
      go_ret3
      rw [Hr2.out]
      exact ⟨rfl, hB3.out.trans (b4.mono hwB)⟩
end Es
end Go.Proofs.YtkiloebfjooogaaDoor
