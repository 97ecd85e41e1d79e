/-
  A part of the proof of this seat's laws: the bytes of a text, both sides.
-/
import Derived.Test.YtpchfmeaplhodaaDoorTr1
namespace Go.Proofs.YtpchfmeaplhodaaDoor
set_option linter.unusedVariables false
set_option linter.unusedSimpArgs false
open Go.RowKit Go.Shelf
namespace Sp
/-- all of a text are digits, two by two -/
theorem unl_take {s : List UInt8} : ∀ (k : Nat) (t : List UInt8), unl (s.take (2 * k)) = some t → ∀ (c d : UInt8), s[2 * k]? = some c → s[2 * k + 1]? = some d → ∀ {va vb : Nat}, ldv c = some va → ldv d = some vb →
    unl (s.take (2 * (k + 1))) = some (t ++ [UInt8.ofNat (16 * va + vb)])
  | 0, t, h, c, d, hc, hd, va, vb, ha, hb => by
    simp [unl] at h
    subst h
    match s, hc, hd with
    | x :: y :: l, hc, hd =>
      simp at hc hd
      subst hc hd
      simp [unl_two _ ha hb, unl]
  | k + 1, t, h, c, d, hc, hd, va, vb, ha, hb => by
    match s, hc, hd with
    | x :: y :: l, hc, hd =>
      have e1 : 2 * (k + 1) = 2 * k + 2 := by omega
      have e2 : 2 * (k + 1 + 1) = 2 * (k + 1) + 2 := by omega
      rw [e1] at h hc hd
      rw [e2]
      simp only [List.take_succ_cons] at h ⊢
      cases hx : ldv x with
      | none => rw [unl_bad1 _ _ hx] at h; cases h
      | some vx =>
        cases hy : ldv y with
        | none => rw [unl_bad2 _ _ hy] at h; cases h
        | some vy =>
          rw [unl_two _ hx hy] at h ⊢
          cases hr : unl (l.take (2 * k)) with
          | none => rw [hr] at h; cases h
          | some r =>
            rw [hr] at h
            simp at h
            subst h
            have hc' : l[2 * k]? = some c := by simpa using hc
            have hd' : l[2 * k + 1]? = some d := by
              rw [show 2 * k + 2 + 1 = (2 * k + 1) + 1 + 1 by omega] at hd
              simpa using hd
            rw [unl_take k r hr c d hc' hd' ha hb]
            simp
theorem unl_none : ∀ (s : List UInt8) (k : Nat) (c d : UInt8), s[2 * k]? = some c → s[2 * k + 1]? = some d → (ldv c = none ∨ ldv d = none) → unl s = none
  | s, 0, c, d, hc, hd, h => by
    match s, hc, hd with
    | x :: y :: l, hc, hd =>
      simp at hc hd
      subst hc hd
      rcases h with h | h
      · exact unl_bad1 _ _ h
      · exact unl_bad2 _ _ h
  | s, k + 1, c, d, hc, hd, h => by
    match s, hc, hd with
    | x :: y :: l, hc, hd =>
      rw [show 2 * (k + 1) = 2 * k + 1 + 1 by omega] at hc
      rw [show 2 * (k + 1) + 1 = 2 * k + 1 + 1 + 1 by omega] at hd
      have hc' : l[2 * k]? = some c := by simpa using hc
      have hd' : l[2 * k + 1]? = some d := by simpa using hd
      have := unl_none l k c d hc' hd' h
      unfold unl
      rw [this]
      cases ldv x <;> cases ldv y <;> rfl
theorem unl_odd : ∀ (s : List UInt8), s.length % 2 = 1 → unl s = none
  | [], h => by simp at h
  | [_], _ => rfl
  | x :: y :: l, h => by
    have := unl_odd l (by simp only [List.length_cons] at h; omega)
    unfold unl
    rw [this]
    cases ldv x <;> cases ldv y <;> rfl
/-- a digit's number; -1: it is none -/
def ldi (c : UInt8) : Int := match ldv c with
  | some v => (v : Int)
  | none => -1
theorem ldi_some {c : UInt8} {v : Nat} (h : ldv c = some v) : ldi c = v := by unfold ldi; rw [h]
theorem ldi_none {c : UInt8} (h : ldv c = none) : ldi c = -1 := by unfold ldi; rw [h]
theorem bytesT_odd {s : List UInt8} (h : s ≠ [45]) (ho : s.length % 2 = 1) : bytesT s = none := by
  unfold bytesT
  rw [if_neg h, unl_odd s ho]
  split <;> rfl
theorem bytesT_unl {s : List UInt8} (h : s ≠ [45]) (h0 : s ≠ []) : bytesT s = unl s := by
  unfold bytesT
  rw [if_neg h, if_neg h0]
end Sp
namespace Tr
open Ap Sg
set_option maxHeartbeats 8000000
theorem infoByte : (Tryd.prog.info? 5).map (fun i => (i.zero, i.size, i.bytes)) = some (some (.int .u8 0), 1, 1) := by kernel_rfl
theorem By.ofMine {w : World} {base : Nat} {A : Option Addr} {n c : Nat} {t : List UInt8} (h : Mine w base A n c (Lib.byteCells t)) : By w A n c t := by
  have hl : t.length = n := by have := h.len; rwa [Lib.byteCells_length] at this
  refine ⟨h.cap, hl, ?_⟩
  by_cases h0 : n = 0
  · exact .inl h0
  · obtain ⟨g, hA, hg, hlt, hc⟩ := h.cell (by omega)
    exact .inr ⟨g, 0, hA, hlt, fun j x hj => hc j _ (by unfold Lib.byteCells; rw [List.getElem?_map, hj]; rfl)⟩
theorem By.nil (w : World) : By w none 0 0 [] := ⟨Nat.le_refl _, rfl, .inl rfl⟩
set_option maxRecDepth 100000 in
theorem value_calls (c : UInt8) (w : World) : Calls Tryd.prog 29 #[.int .u8 (c.toNat : Int)] w fun e w' => e = .returned (.int .i64 (Sp.ldi c)) ∧ w' = w := by
  have hc := c.toNat_lt
  have w1 : IntKind.i64.wrap ((c.toNat : Int) - 48) = (c.toNat : Int) - 48 := IntWalk.i64_in _ (by omega)
  have w2 : IntKind.i64.wrap ((c.toNat : Int) - 87) = (c.toNat : Int) - 87 := IntWalk.i64_in _ (by omega)
  obtain ⟨z, hz⟩ : ∃ z, z = Sp.ldi c := ⟨_, rfl⟩
  rw [← hz]
  unfold Sp.ldi Sp.ldv at hz
  by_cases h1 : 48 ≤ c.toNat ∧ c.toNat ≤ 57
  · rw [if_pos h1] at hz
    have c1 : (48 : Int) ≤ (c.toNat : Int) := by omega
    have c2 : (c.toNat : Int) ≤ 57 := by omega
    have c3 : z = (c.toNat : Int) - 48 := by simp only at hz; omega
    clear hz h1
    subst c3
    go_enter Tryd.func29, Tryd.ntmps29
    go_wp2_with fail
    go_ret
    exact ⟨rfl, rfl⟩
  · rw [if_neg h1] at hz
    by_cases h2 : 97 ≤ c.toNat ∧ c.toNat ≤ 102
    · rw [if_pos h2] at hz
      have c1 : (97 : Int) ≤ (c.toNat : Int) := by omega
      have c2 : (c.toNat : Int) ≤ 102 := by omega
      have c4 : (48 : Int) ≤ (c.toNat : Int) := by omega
      have c5 : ¬ (c.toNat : Int) ≤ 57 := by omega
      have c3 : z = (c.toNat : Int) - 87 := by simp only at hz; omega
      clear hz h1 h2
      subst c3
      go_enter Tryd.func29, Tryd.ntmps29
      go_wp2_with fail
      go_ret
      exact ⟨rfl, rfl⟩
    · rw [if_neg h2] at hz
      simp only at hz
      subst hz
      by_cases h3 : 48 ≤ c.toNat
      · have c4 : (48 : Int) ≤ (c.toNat : Int) := by omega
        have c5 : ¬ (c.toNat : Int) ≤ 57 := by omega
        by_cases h4 : 97 ≤ c.toNat
        · have c6 : (97 : Int) ≤ (c.toNat : Int) := by omega
          have c7 : ¬ (c.toNat : Int) ≤ 102 := by omega
          clear h1 h2 h3 h4
          go_enter Tryd.func29, Tryd.ntmps29
          go_wp2_with fail
          go_ret
          exact ⟨rfl, rfl⟩
        · have c6 : ¬ (97 : Int) ≤ (c.toNat : Int) := by omega
          clear h1 h2 h3 h4
          go_enter Tryd.func29, Tryd.ntmps29
          go_wp2_with fail
          go_ret
          exact ⟨rfl, rfl⟩
      · have c4 : ¬ (48 : Int) ≤ (c.toNat : Int) := by omega
        have c6 : ¬ (97 : Int) ≤ (c.toNat : Int) := by omega
        clear h1 h2 h3
        go_enter Tryd.func29, Tryd.ntmps29
        go_wp2_with fail
        go_ret
        exact ⟨rfl, rfl⟩
/-- what the bytes of a text are told as -/
def BytesRet (w : World) (s : List UInt8) (e : Ending) (w' : World) : Prop :=
  (Sp.bytesT s = none → e = .returned (.tuple #[.slice none 0 0, .bool false])) ∧
  (∀ t, Sp.bytesT s = some t → ∃ A n c, e = .returned (.tuple #[.slice A n c, .bool true]) ∧ By w' A n c t ∧ ∀ g o, A = some ⟨g, o, none⟩ → w.heap.size ≤ g) ∧ Below w.heap.size w w'
theorem Mine.low {w : World} {base : Nat} {A : Option Addr} {n c : Nat} {xs : List Value} (h : Mine w base A n c xs) : ∀ g o, A = some ⟨g, o, none⟩ → base ≤ g := by
  rintro g o rfl
  rcases h.at_ with ⟨h0, -⟩ | ⟨g', cur, t, lo, hi, hA, hg, -⟩
  · cases h0
  · cases hA; exact hg
theorem BytesRet.no {w w' : World} {s : List UInt8} (h : Sp.bytesT s = none) (hb : Below w.heap.size w w') : BytesRet w s (.returned (.tuple #[.slice none 0 0, .bool false])) w' :=
  ⟨fun _ => rfl, (fun t h' => by rw [h] at h'; cases h'), hb⟩
theorem BytesRet.yes {w w' : World} {s t : List UInt8} {A : Option Addr} {n c : Nat} (h : Sp.bytesT s = some t) (ht : By w' A n c t) (hA : ∀ g o, A = some ⟨g, o, none⟩ → w.heap.size ≤ g) (hb : Below w.heap.size w w') : BytesRet w s (.returned (.tuple #[.slice A n c, .bool true])) w' :=
  ⟨(fun h' => by rw [h] at h'; cases h'), (fun t' h' => by rw [h] at h'; cases h'; exact ⟨_, _, _, rfl, ht, hA⟩), hb⟩
set_option maxRecDepth 100000 in
theorem rbytes_calls (s : List UInt8) (hn : s.length ≤ 100000) (w : World) :
    Calls Tryd.prog 13 #[.string (Sp.bs s)] w fun e w' => BytesRet w s e w' := by
  have hsz := Sp.bs_size s
  have one : ((Sp.bs s).toList == [45]) = decide (s = [45]) := by
    rw [Sp.bs_toList]
    by_cases h : s = [45]
    · rw [decide_eq_true h, h]; rfl
    · rw [decide_eq_false h, beq_eq_false_iff_ne]; exact h
  have emp : (Sp.bs s).toList.isEmpty = decide (s = []) := by
    rw [Sp.bs_toList]
    cases s <;> simp
  by_cases h45 : s = [45]
  · rw [decide_eq_true h45] at one
    have HQ := Lib.hid (BytesRet.yes (w := w) (s := s) (t := []) (by rw [h45]; rfl) (By.nil w) (fun g o h => by cases h) (Below.refl _ _))
    clear h45
    go_enter Tryd.func13, Tryd.ntmps13
    go_wp2_with fail
    go_ret2
    exact HQ.out
  rw [decide_eq_false h45] at one
  by_cases h0 : s = []
  · rw [decide_eq_true h0] at emp
    have HQ := Lib.hid (BytesRet.no (w := w) (s := s) (by rw [h0]; rfl) (Below.refl _ _))
    clear h45 h0
    go_enter Tryd.func13, Tryd.ntmps13
    go_wp2_with fail
    go_ret2
    exact HQ.out
  rw [decide_eq_false h0] at emp
  have w1 : (s.length : Int).tmod 2 = (s.length : Int) % 2 := IntWalk.rem_in _ _ (by omega)
  have w2 : IntKind.i64.wrap ((s.length : Int) % 2) = (s.length : Int) % 2 := IntWalk.i64_in _ (by omega)
  by_cases ho : s.length % 2 = 1
  · have w3 : (s.length : Int) % 2 = 1 := by omega
    have HQ := Lib.hid (BytesRet.no (w := w) (Sp.bytesT_odd h45 ho) (Below.refl _ _))
    clear h45 h0 ho
    go_enter Tryd.func13, Tryd.ntmps13
    go_wp2_with fail
    go_ret2
    exact HQ.out
  have w3 : (s.length : Int) % 2 = 0 := by omega
  obtain ⟨q, hq⟩ : ∃ q, s.length = 2 * q := ⟨s.length / 2, by omega⟩
  have hbad : ∀ W, Sp.unl s = none → Below w.heap.size w W → BytesRet w s (.returned (.tuple #[.slice none 0 0, .bool false])) W := fun W h hb => BytesRet.no (by rw [Sp.bytesT_unl h45 h0, h]) hb
  have hgood : ∀ W A n c t, Sp.unl s = some t → By W A n c t → (∀ g o, A = some ⟨g, o, none⟩ → w.heap.size ≤ g) → Below w.heap.size w W → BytesRet w s (.returned (.tuple #[.slice A n c, .bool true])) W := fun W A n c t h ht hA hb => BytesRet.yes (by rw [Sp.bytesT_unl h45 h0, h]) ht hA hb
  have Hb := Lib.hid hbad
  have Hg := Lib.hid hgood
  obtain ⟨i0, hi, hz0, hz1, hz2⟩ := info_parts infoByte
  clear hbad hgood h45 h0 ho
  go_enter Tryd.func13, Tryd.ntmps13
  go_wp2_with fail
  go_loopw [4, 5] (fun v i wr => ∃ (k : Nat) (A : Option Addr) (c : Nat) (t : List UInt8), k ≤ q ∧ i = .int .i64 ((2 * k : Nat) : Int) ∧ v = .slice A k c ∧ t.length = k ∧ Hid (Sp.unl (s.take (2 * k)) = some t) ∧ Hid (Mine wr w.heap.size A k c (Lib.byteCells t)) ∧ Hid (Below w.heap.size w wr)) (fun _ i _ => s.length - (intOf i).toNat)
  case atStart => exact ⟨0, none, 0, [], by omega, rfl, rfl, rfl, rfl, Mine.nil _ _, Below.refl _ _⟩
  case round =>
    obtain ⟨k, A, c, t, hk, rfl, rfl, htl, hu, hm, hb⟩ := hrel
    by_cases hlt : k < q
    · obtain ⟨x, hx⟩ : ∃ x, s[2 * k]? = some x := ⟨_, List.getElem?_eq_getElem (by omega)⟩
      obtain ⟨y, hy⟩ : ∃ y, s[2 * k + 1]? = some y := ⟨_, List.getElem?_eq_getElem (by omega)⟩
      have hxk := bs_at hx
      have hyk := bs_at hy
      have Hno := Lib.hid (Sp.unl_none s k x y hx hy)
      have Hyes := Lib.hid (fun va vb => @Sp.unl_take s k t hu.out x y hx hy va vb)
      have c0 : (0 : Int) ≤ ((2 * k : Nat) : Int) := by omega
      have c1 : ((2 * k : Nat) : Int) < (s.length : Int) := by omega
      have c2 : (0 : Int) ≤ ((2 * k : Nat) : Int) + 1 := by omega
      have c3 : ((2 * k : Nat) : Int) + 1 < (s.length : Int) := by omega
      have c4 : (((2 * k : Nat) : Int) + 1).toNat = 2 * k + 1 := by omega
      have hw1 : IntKind.i64.wrap (((2 * k : Nat) : Int) + 1) = ((2 * k : Nat) : Int) + 1 := IntWalk.i64_in _ (by omega)
      have hw2 : IntKind.i64.wrap (((2 * k : Nat) : Int) + 2) = ((2 * k : Nat) : Int) + 2 := IntWalk.i64_in _ (by omega)
      have hA := Lib.hid (value_calls x wr)
      have hB := Lib.hid (value_calls y wr)
      clear hx hy
      cases hdx : Sp.ldv x with
      | none =>
        have ex := Sp.ldi_none hdx
        rw [ex] at hA
        have hun := Hno.out (.inl hdx)
        have HQ := Lib.hid (Hb.out wr hun hb.out)
        have ey : Sp.ldi y ≤ 15 := by
          cases hdy : Sp.ldv y with
          | none => rw [Sp.ldi_none hdy]; omega
          | some v => rw [Sp.ldi_some hdy]; have := Sp.ldv_le hdy; omega
        clear hdx ex Hno Hyes hun
        generalize Sp.ldi y = zy at *
        go_wp2_with fail
        refine hA.out.mono ?_
        rintro e w4 ⟨rfl, rfl⟩
        go_wp2_with fail
        refine hB.out.mono ?_
        rintro e w5 ⟨rfl, rfl⟩
        go_wp2_with fail
        go_ret2
        exact HQ.out
      | some va =>
        have ex := Sp.ldi_some hdx
        have lx := Sp.ldv_le hdx
        rw [ex] at hA
        cases hdy : Sp.ldv y with
        | none =>
          have ey := Sp.ldi_none hdy
          rw [ey] at hB
          have hun := Hno.out (.inr hdy)
          have HQ := Lib.hid (Hb.out wr hun hb.out)
          have g1 : ¬ (va : Int) < 0 := by omega
          clear hdx hdy ex ey Hno Hyes hun
          go_wp2_with fail
          refine hA.out.mono ?_
          rintro e w4 ⟨rfl, rfl⟩
          go_wp2_with fail
          refine hB.out.mono ?_
          rintro e w5 ⟨rfl, rfl⟩
          go_wp2_with fail
          go_ret2
          exact HQ.out
        | some vb =>
          have ey := Sp.ldi_some hdy
          have ly := Sp.ldv_le hdy
          rw [ey] at hB
          have Hn := Lib.hid (Hyes.out va vb hdx hdy)
          have g1 : ¬ (va : Int) < 0 := by omega
          have g2 : ¬ (vb : Int) < 0 := by omega
          have hw3 : IntKind.i64.wrap (16 * (va : Int)) = 16 * (va : Int) := IntWalk.i64_in _ (by omega)
          have hw4 : IntKind.i64.wrap (16 * (va : Int) + (vb : Int)) = 16 * (va : Int) + (vb : Int) := IntWalk.i64_in _ (by omega)
          have hw5 : IntKind.u8.wrap (16 * (va : Int) + (vb : Int)) = 16 * (va : Int) + (vb : Int) := IntWalk.u8_in _ (by omega)
          have hcell := Lib.hid (show (16 * (va : Int) + (vb : Int)) = ((UInt8.ofNat (16 * va + vb)).toNat : Int) by simp; omega)
          have g3 : 0 ≤ va := by omega
          clear hdx hdy ex ey Hno Hyes
          go_wp2_with fail
          refine hA.out.mono ?_
          rintro e w4 ⟨rfl, rfl⟩
          go_wp2_with fail
          refine hB.out.mono ?_
          rintro e w5 ⟨rfl, rfl⟩
          go_wp2_with (at_builtin; (refine Ap.wpList_append_mine _ rfl (.tmp 39) (.tmp 45) 22 rfl 5 i0 (.int .u8 0) 1 Tryd.underlying22 hi hz0 hz1 hz2 rfl w.heap.size _ _ _ (Lib.byteCells t) rfl ?hm _ _ _ [.int .u8 (16 * (va : Int) + (vb : Int))] rfl ?hn ?hX ?h1c ?b1 ?b2 ?hbase ?_); (case hm => exact (hm.out.below ((Below.refl _ _).alloc (Nat.le_refl _) _))); (case hn => rfl); (case hX => exact .inr ⟨_, rfl, one_cell _ _ _ _ rfl⟩); (case h1c => (simp [Value.oneCell'])); (case b1 => (simp only [maxLen]; omega)); (case b2 => omega); (case hbase => (have := hb.out.size; simp; omega)); intro A1 c1' W1 hm1 hb1)
          go_roundw
          case rel => exact ⟨k + 1, _, _, t ++ [UInt8.ofNat (16 * va + vb)], by omega, by go_num, rfl, by simp [htl], Hn, by rw [cells_app, cells_one, ← hcell.out]; exact hm1, hb.out.trans (((Below.refl _ _).alloc hb.out.size _).trans hb1)⟩
          case measure => simp [intOf]; omega
    · obtain rfl : k = q := by omega
      have c1 : ¬ ((2 * k : Nat) : Int) < (s.length : Int) := by omega
      rw [← hq, List.take_length] at hu
      have HQ := Lib.hid (Hg.out wr _ _ _ t hu.out (By.ofMine hm.out) (Mine.low hm.out) hb.out)
      go_wp2_with fail
      go_ret2
      exact HQ.out
end Tr
end Go.Proofs.YtpchfmeaplhodaaDoor
