/-
  A part of the proof of this seat's laws: the bytes of a text, the program's.
-/
import Derived.Test.YtpchfmeaplhodaaDoorTr2
namespace Go.Proofs.YtpchfmeaplhodaaDoor
set_option linter.unusedVariables false
set_option linter.unusedSimpArgs false
open Go.RowKit Go.Shelf
namespace Sp
theorem or_low (v y : Nat) (hv : v ≤ 15) (hy : y ≤ 15) : bits .or .u8 ((v : Int) * 16) (y : Int) = (v : Int) * 16 + (y : Int) := by
  have key : ∀ a b : Fin 16, bits .or .u8 ((a.val : Int) * 16) (b.val : Int) = (a.val : Int) * 16 + (b.val : Int) := by decide +kernel
  exact key ⟨v, by omega⟩ ⟨y, by omega⟩
theorem or_nil (y : Nat) (hy : y ≤ 15) : bits .or .u8 0 (y : Int) = (y : Int) := by
  have key : ∀ b : Fin 16, bits .or .u8 0 (b.val : Int) = (b.val : Int) := by decide +kernel
  exact key ⟨y, by omega⟩
theorem and_one (n : Nat) (hn : n ≤ 1000000) : bits .and .i64 (n : Int) 1 = (n : Int) % 2 :=
  bits_mask .i64 20 (by decide) (fun z h0 h1 => by rw [IntKind.wrap_i64]; omega) 1 (by decide) _ (by omega) (by omega)
theorem ldv_ix {c : UInt8} {v : Nat} (h : ldv c = some v) : Lib.indexByte ldigs c = v := by rw [ldv_index, h]
theorem ldv_ix_none {c : UInt8} (h : ldv c = none) : Lib.indexByte ldigs c = -1 := by rw [ldv_index, h]
end Sp
namespace Tr
open Ap Sg
set_option maxHeartbeats 8000000
abbrev rowF (u : List UInt8) : Nat → Value := fun j => .int .u8 ((u.getD j 0).toNat : Int)
theorem rowF_at (t : List UInt8) (z : UInt8) (m : Nat) (h : t.length = m) : ∀ j, (if j = m then Value.int .u8 (z.toNat : Int) else rowF t j) = rowF (t ++ [z]) j := by
  intro j
  unfold rowF
  by_cases e : j = m
  · subst e
    rw [if_pos rfl, ← h]; simp
  · rw [if_neg e]
    congr 3
    rw [List.getD_eq_getElem?_getD, List.getD_eq_getElem?_getD]
    by_cases h2 : j < m
    · rw [List.getElem?_append_left (by omega)]
    · rw [List.getElem?_eq_none (by omega), List.getElem?_eq_none (by simp; omega)]
theorem rowF_over (t : List UInt8) (x z : UInt8) (m : Nat) (h : t.length = m) : ∀ j, (if j = m then Value.int .u8 (z.toNat : Int) else rowF (t ++ [x]) j) = rowF (t ++ [z]) j := by
  intro j
  rw [← rowF_at t z m h j]
  by_cases e : j = m
  · rw [if_pos e, if_pos e]
  · rw [if_neg e, if_neg e, ← rowF_at t x m h j, if_neg e]
theorem By.row {w : World} {b q : Nat} {T : TypeId} {t : List UInt8} (h : w.rowIs b T q (rowF t)) (hl : t.length = q) : By w (some ⟨b, 0, none⟩) q q t := by
  refine ⟨Nat.le_refl _, hl, .inr ⟨b, 0, rfl, h.lt, fun j y hj => ?_⟩⟩
  have hlt := (List.getElem?_eq_some_iff.1 hj).1
  rw [Nat.zero_add, h.cell (by omega)]
  unfold rowF
  rw [List.getD_eq_getElem?_getD, hj]; rfl
theorem ixb (c : UInt8) (w : World) : Calls Tryd.prog 28 #[.string ⟨#[48, 49, 50, 51, 52, 53, 54, 55, 56, 57, 97, 98, 99, 100, 101, 102]⟩, .int .u8 (c.toNat : Int)] w fun e w' => e = .returned (.int .i64 (Lib.indexByte Sp.ldigs c)) ∧ w' = w := by
  have h := Tryd.strings_IndexByte ⟨#[48, 49, 50, 51, 52, 53, 54, 55, 56, 57, 97, 98, 99, 100, 101, 102]⟩ (c.toNat : Int) w
  have e : ((c.toNat : Int)).toNat.toUInt8 = c := by simp
  rw [e] at h
  exact h
set_option maxRecDepth 100000 in
theorem bytes_calls (s : List UInt8) (hn : s.length ≤ 100000) (w : World) :
    Calls Tryd.prog 12 #[.string (Sp.bs s)] w fun e w' => BytesRet w s e w' := by
  have hsz := Sp.bs_size s
  have one : ((Sp.bs s).toList == [45]) = decide (s = [45]) := by
    rw [Sp.bs_toList]
    by_cases h : s = [45]
    · rw [decide_eq_true h, h]; rfl
    · rw [decide_eq_false h, beq_eq_false_iff_ne]; exact h
  have emp : (Sp.bs s).toList.isEmpty = decide (s = []) := by
    rw [Sp.bs_toList]
    cases s <;> simp
  by_cases h45 : s = [45]
  · rw [decide_eq_true h45] at one
    have HQ := Lib.hid (BytesRet.yes (w := w) (s := s) (t := []) (by rw [h45]; rfl) (By.nil w) (fun g o h => by cases h) (Below.refl _ _))
    clear h45
    go_enter Tryd.func12, Tryd.ntmps12
    go_wp2_with fail
    go_ret2
    exact HQ.out
  rw [decide_eq_false h45] at one
  by_cases h0 : s = []
  · rw [decide_eq_true h0] at emp
    have HQ := Lib.hid (BytesRet.no (w := w) (s := s) (by rw [h0]; rfl) (Below.refl _ _))
    clear h45 h0
    go_enter Tryd.func12, Tryd.ntmps12
    go_wp2_with fail
    go_ret2
    exact HQ.out
  rw [decide_eq_false h0] at emp
  have w1 := Sp.and_one s.length (by omega)
  by_cases ho : s.length % 2 = 1
  · have w3 : (s.length : Int) % 2 = 1 := by omega
    have HQ := Lib.hid (BytesRet.no (w := w) (Sp.bytesT_odd h45 ho) (Below.refl _ _))
    clear h45 h0 ho
    go_enter Tryd.func12, Tryd.ntmps12
    go_wp2_with fail
    go_ret2
    exact HQ.out
  have w3 : (s.length : Int) % 2 = 0 := by omega
  obtain ⟨q, hq⟩ : ∃ q, s.length = 2 * q := ⟨s.length / 2, by omega⟩
  have hbad : ∀ W, Sp.unl s = none → Below w.heap.size w W → BytesRet w s (.returned (.tuple #[.slice none 0 0, .bool false])) W := fun W h hb => BytesRet.no (by rw [Sp.bytesT_unl h45 h0, h]) hb
  have hgood : ∀ W A n c t, Sp.unl s = some t → By W A n c t → (∀ g o, A = some ⟨g, o, none⟩ → w.heap.size ≤ g) → Below w.heap.size w W → BytesRet w s (.returned (.tuple #[.slice A n c, .bool true])) W := fun W A n c t h ht hA hb => BytesRet.yes (by rw [Sp.bytesT_unl h45 h0, h]) ht hA hb
  have Hb := Lib.hid hbad
  have Hg := Lib.hid hgood
  have hmk : ∀ W, (Instr.makeSlice 22 (.int .i64 (q : Int)) (.int .i64 (q : Int))).run Tryd.prog W = .ok (.slice (some ⟨W.heap.size, 0, none⟩) q q) (W.alloc (.cells (madeCells #[.int .u8 0] q) 5)) := fun W => run_make_row' 22 5 (.int .u8 0) 1 Tryd.underlying22 infoByte rfl .i64 .i64 q (by omega) (by omega) W
  have hq2 : (s.length : Int) / 2 = (q : Int) := by omega
  have hr0 := World.rowIs_made w (.int .u8 0) q 5
  have hb0 := Lib.hid ((Below.refl w.heap.size w).alloc (Nat.le_refl _) (.cells (madeCells #[.int .u8 0] q) 5))
  have Hq := Lib.hid hq
  clear hbad hgood h45 h0 ho hq
  go_enter Tryd.func12, Tryd.ntmps12
  go_wp2_with fail
  have Hr0 := Lib.hid hr0
  clear hr0 hmk hq2 w1 w3
  generalize (w.alloc (.cells (madeCells #[.int .u8 0] q) 5)) = W at *
  go_loopw [5, 6, 23] (fun _ _ i wr => ∃ (k m d : Nat) (t u : List UInt8), Hid (k = 2 * m + d) ∧ d ≤ 1 ∧ k ≤ s.length ∧ i = .int .i64 (k : Int) ∧ t.length = m ∧ Hid (Sp.unl (s.take (2 * m)) = some t) ∧ Hid ((d = 0 ∧ u = t) ∨ (d = 1 ∧ ∃ x v, s[2 * m]? = some x ∧ Sp.ldv x = some v ∧ u = t ++ [UInt8.ofNat v])) ∧ Hid (wr.rowIs w.heap.size 5 q (rowF u)) ∧ Hid (Below w.heap.size w wr)) (fun _ _ i _ => s.length - (intOf i).toNat)
  case atStart => exact ⟨0, 0, 0, [], [], rfl, by omega, by omega, rfl, rfl, rfl, .inl ⟨rfl, rfl⟩, Hr0.out.congr (fun i hi => by simp [rowF]), hb0⟩
  case round =>
    obtain ⟨k, m, d, t, u, Hk, hd, hk, rfl, htl, hu, hcase, hr, hb⟩ := hrel
    have hq := Hq.out
    have hkk := Hk.out
    clear Hr0 hb0
    by_cases hlt : k < s.length
    · obtain ⟨y, hy⟩ : ∃ y, s[k]? = some y := ⟨_, List.getElem?_eq_getElem hlt⟩
      have hyk := bs_at hy
      have c0 : (0 : Int) ≤ (k : Int) := by omega
      have c1 : (k : Int) < (s.length : Int) := by omega
      have hw1 : IntKind.i64.wrap ((k : Int) + 1) = (k : Int) + 1 := IntWalk.i64_in _ (by omega)
      have hq3 : (k : Int) / 2 = (m : Int) := by omega
      have hix := Lib.hid (ixb y wr)
      have c2 : (0 : Int) ≤ (m : Int) := by omega
      have c3 : (m : Int) < (q : Int) := by omega
      have hfro := hr.out.frozen m
      have hce := hr.out.cell (i := m) (by omega)
      cases hdy : Sp.ldv y with
      | none =>
        have hun : Sp.unl s = none := by
          rcases hcase.out with ⟨h1, -⟩ | ⟨h1, x, v, hx, hv, -⟩
          · rw [show k = 2 * m by omega] at hy; exact Sp.unl_none s m y (s[2 * m + 1]'(by omega)) hy (List.getElem?_eq_getElem _) (.inl hdy)
          · rw [show k = 2 * m + 1 by omega] at hy; exact Sp.unl_none s m x y hx hy (.inr hdy)
        have HQ := Lib.hid (Hb.out wr hun hb.out)
        rw [Sp.ldv_ix_none hdy] at hix
        clear hun hdy hy hcase hq hkk
        go_wp2_with fail
        refine hix.out.mono ?_
        rintro e w4 ⟨rfl, rfl⟩
        go_wp2_with fail
        go_ret2
        exact HQ.out
      | some vy =>
        have ly := Sp.ldv_le hdy
        rw [Sp.ldv_ix hdy] at hix
        have g1 : ¬ (vy : Int) < 0 := by omega
        have g2 : IntKind.u8.wrap (vy : Int) = (vy : Int) := IntWalk.u8_in _ (by omega)
        rcases hcase.out with ⟨rfl, hut⟩ | ⟨rfl, x, v, hx, hv, rfl⟩
        · rw [hut] at hr hce
          have hy0 : s[2 * m]? = some y := by rw [show 2 * m = k by omega]; exact hy
          have hz : rowF t m = .int .u8 0 := by unfold rowF; rw [List.getD_eq_getElem?_getD, List.getElem?_eq_none (by omega)]; rfl
          rw [hz] at hce
          have hor := Sp.or_nil vy ly
          have hsh : IntKind.u8.wrap 0 = 0 := rfl
          have Hset : Hid ((wr.setCell ⟨w.heap.size, m, none⟩ (.int .u8 (vy : Int))).rowIs w.heap.size 5 q (rowF (t ++ [UInt8.ofNat vy]))) := Lib.hid ((hr.out.set m (.int .u8 (vy : Int))).congr (fun j hj => by
            have e : (vy : Int) = ((UInt8.ofNat vy).toNat : Int) := by simp; omega
            rw [e]; exact rowF_at t _ m htl j))
          have Hbs := Lib.hid (hb.out.setCell (p := ⟨w.heap.size, m, none⟩) (Nat.le_refl _) (.int .u8 (vy : Int)))
          have Hnext : Hid (∃ x v, s[2 * m]? = some x ∧ Sp.ldv x = some v ∧ t ++ [UInt8.ofNat vy] = t ++ [UInt8.ofNat v]) := Lib.hid ⟨y, vy, hy0, hdy, rfl⟩
          clear hut hy0 hdy hy hcase hz hq hkk
          go_wp2_with fail
          refine hix.out.mono ?_
          rintro e w4 ⟨rfl, rfl⟩
          go_wp2_with fail
          go_roundw
          case rel => exact ⟨k + 1, m, 1, t, t ++ [UInt8.ofNat vy], Lib.hid (by have := Hk.out; omega), by omega, by omega, by go_num, htl, hu, Lib.hid (.inr ⟨rfl, Hnext.out⟩), Hset, Hbs⟩
          case measure => simp [intOf]; omega
        · have hz : rowF (t ++ [UInt8.ofNat v]) m = .int .u8 (v : Int) := by
            have lv := Sp.ldv_le hv
            unfold rowF; rw [List.getD_eq_getElem?_getD, ← htl]; simp; omega
          rw [hz] at hce
          have lv := Sp.ldv_le hv
          have hor := Sp.or_low v vy lv ly
          have hsh : IntKind.u8.wrap ((v : Int) * 16) = (v : Int) * 16 := IntWalk.u8_in _ (by omega)
          have Hset : Hid ((wr.setCell ⟨w.heap.size, m, none⟩ (.int .u8 ((v : Int) * 16 + (vy : Int)))).rowIs w.heap.size 5 q (rowF (t ++ [UInt8.ofNat (16 * v + vy)]))) := Lib.hid ((hr.out.set m (.int .u8 ((v : Int) * 16 + (vy : Int)))).congr (fun j hj => by
            have e : ((v : Int) * 16 + (vy : Int)) = ((UInt8.ofNat (16 * v + vy)).toNat : Int) := by simp; omega
            rw [e]; exact rowF_over t _ _ m htl j))
          have Hbs := Lib.hid (hb.out.setCell (p := ⟨w.heap.size, m, none⟩) (Nat.le_refl _) (.int .u8 ((v : Int) * 16 + (vy : Int))))
          have Hu2 := Lib.hid (Sp.unl_take m t hu.out x y hx (by rw [show 2 * m + 1 = k by omega]; exact hy) hv hdy)
          clear hdy hy hcase hz hx hv hu hq hkk
          go_wp2_with fail
          refine hix.out.mono ?_
          rintro e w4 ⟨rfl, rfl⟩
          go_wp2_with fail
          go_roundw
          case rel => exact ⟨k + 1, m + 1, 0, t ++ [UInt8.ofNat (16 * v + vy)], _, Lib.hid (by have := Hk.out; omega), by omega, by omega, by go_num, by simp [htl], Hu2, Lib.hid (.inl ⟨rfl, rfl⟩), Hset, Hbs⟩
          case measure => simp [intOf]; omega
    · have hd0 : d = 0 := by omega
      subst hd0
      obtain rfl : m = q := by omega
      have c1 : ¬ (k : Int) < (s.length : Int) := by omega
      rcases hcase.out with ⟨-, rfl⟩ | ⟨h1, -⟩
      · rw [← hq, List.take_length] at hu
        have HQ := Lib.hid (Hg.out wr _ _ _ u hu.out (By.row hr.out htl) (fun g o h => by cases h; exact Nat.le_refl _) hb.out)
        clear hcase hq hkk
        go_wp2_with fail
        go_ret2
        exact HQ.out
      · omega
end Tr
end Go.Proofs.YtpchfmeaplhodaaDoor
