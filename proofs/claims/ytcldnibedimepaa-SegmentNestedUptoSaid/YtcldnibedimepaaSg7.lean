/-
  A part of the proof of this seat's laws: repetitions, components; the law's own helpers.
-/
import Derived.Test.YtcldnibedimepaaSg6
namespace Go.Proofs.Ytcldnibedimepaa
set_option linter.unusedVariables false
set_option linter.unusedSimpArgs false
open Go.RowKit Go.Shelf
namespace Sp
theorem cutL_sum (c : UInt8) (l : List UInt8) : ∀ t ∈ cutL c l, t.length ≤ l.length := by
  intro t ht
  induction l generalizing t with
  | nil => simp [cutL] at ht; simp [ht]
  | cons x l ih =>
    by_cases hx : x = c
    · rw [cutL_eq l hx] at ht
      rcases List.mem_cons.1 ht with rfl | ht
      · simp
      · exact Nat.le_trans (ih _ ht) (by simp)
    · rw [cutL_other l hx] at ht
      rcases List.mem_cons.1 ht with rfl | ht
      · have h0 := cutL_ne c l
        cases h : cutL c l with
        | nil => exact (h0 h).elim
        | cons a b => have := ih a (by rw [h]; simp); simp; omega
      · exact Nat.le_trans (ih _ (List.mem_of_mem_tail ht)) (by simp)
theorem pick_mem {l : List (List UInt8)} {n : Int} (h1 : 1 ≤ n) (h2 : n ≤ l.length) : pick l n ∈ l := by
  unfold pick
  rw [if_pos h1]
  have : (n - 1).toNat < l.length := by omega
  rw [List.getElem?_eq_getElem this]
  exact List.getElem_mem this
theorem pick_len {c : UInt8} {s : List UInt8} {n : Int} : (pick (cutL c s) n).length ≤ s.length := by
  by_cases h1 : 1 ≤ n
  · by_cases h2 : n ≤ (cutL c s).length
    · exact cutL_sum c s _ (pick_mem h1 h2)
    · unfold pick; rw [if_pos h1, List.getElem?_eq_none (by omega)]; simp
  · unfold pick; rw [if_neg h1]; simp
/-- the components of the nth repetition -/
def parts (s : List UInt8) (n : Int) (P R : UInt8) : List (List UInt8) :=
  if 1 ≤ n ∧ n ≤ ((cutL R s).length : Int) then cutL P (pick (cutL R s) n) else []
end Sp
namespace Sg
set_option maxHeartbeats 1000000
theorem again_low (s : List UInt8) (n : Int) (hn : n < 1) (F P R E U : UInt8) (hs : s.length ≤ 140737488351232) (w : World) :
    Calls Try.prog 34 #[.string (Sp.bs s), .int .i64 n, dv F P R E U] w fun e w' =>
      e = .returned (.tuple #[.string (Sp.bs (Sp.pick (Sp.cutL R s) n)), .bool false]) ∧ Below w.heap.size w w' := by
  have huD := Try.underlying23
  have h5 := Five.new F P R E U w
  have hB : Below w.heap.size w (w.alloc (.cells #[.int .u8 (F.toNat : Int), .int .u8 (P.toNat : Int), .int .u8 (R.toNat : Int), .int .u8 (E.toNat : Int), .int .u8 (U.toNat : Int)] 23)) := (Below.refl _ _).alloc (Nat.le_refl _) _
  have Hf := Lib.hid (nth_calls s R n hs)
  go_enter Try.func34, Try.ntmps34
  go_wp2_with fail
  have hc := h5.cells
  generalize (w.alloc (.cells #[.int .u8 (F.toNat : Int), .int .u8 (P.toNat : Int), .int .u8 (R.toNat : Int), .int .u8 (E.toNat : Int), .int .u8 (U.toNat : Int)] 23)) = W at *
  go_wp2_with (go_at_call 33; refine (Hf.out _).mono ?_; rintro e w' ⟨rfl, hb⟩)
  go_ret2
  exact ⟨rfl, hB.trans (hb.mono hB.size)⟩
theorem again_high (s : List UInt8) (n : Int) (hn : 1 ≤ n) (F P R E U : UInt8) (hs : s.length ≤ 140737488351232) (w : World) :
    Calls Try.prog 34 #[.string (Sp.bs s), .int .i64 n, dv F P R E U] w fun e w' =>
      e = .returned (.tuple #[.string (Sp.bs (Sp.pick (Sp.cutL R s) n)), .bool (decide (n ≤ ((Sp.cutL R s).length : Int)))]) ∧ Below w.heap.size w w' := by
  have huD := Try.underlying23
  have h5 := Five.new F P R E U w
  have hB : Below w.heap.size w (w.alloc (.cells #[.int .u8 (F.toNat : Int), .int .u8 (P.toNat : Int), .int .u8 (R.toNat : Int), .int .u8 (E.toNat : Int), .int .u8 (U.toNat : Int)] 23)) := (Below.refl _ _).alloc (Nat.le_refl _) _
  have Hf := Lib.hid (nth_calls s R n hs)
  go_enter Try.func34, Try.ntmps34
  go_wp2_with fail
  have hc := h5.cells
  generalize (w.alloc (.cells #[.int .u8 (F.toNat : Int), .int .u8 (P.toNat : Int), .int .u8 (R.toNat : Int), .int .u8 (E.toNat : Int), .int .u8 (U.toNat : Int)] 23)) = W at *
  go_wp2_with (go_at_call 33; refine (Hf.out _).mono ?_; rintro e w' ⟨rfl, hb⟩)
  go_ret2
  exact ⟨rfl, hB.trans (hb.mono hB.size)⟩
theorem again_calls (s : List UInt8) (n : Int) (F P R E U : UInt8) (hs : s.length ≤ 140737488351232) (w : World) :
    Calls Try.prog 34 #[.string (Sp.bs s), .int .i64 n, dv F P R E U] w fun e w' =>
      e = .returned (.tuple #[.string (Sp.bs (Sp.pick (Sp.cutL R s) n)), .bool (decide (1 ≤ n ∧ n ≤ ((Sp.cutL R s).length : Int)))]) ∧ Below w.heap.size w w' := by
  by_cases hn : 1 ≤ n
  · have h := again_high s n hn F P R E U hs w
    simpa only [hn, true_and] using h
  · have h := again_low s n (by omega) F P R E U hs w
    simpa only [hn, false_and, decide_false] using h
theorem agains_calls (s : List UInt8) (F P R E U : UInt8) (hs : s.length ≤ 140737488351232) (w : World) :
    Calls Try.prog 16 #[.string (Sp.bs s), dv F P R E U] w fun e w' => e = .returned (.int .i64 ((Sp.cutL R s).length : Int)) ∧ Below w.heap.size w w' := by
  have huD := Try.underlying23
  have h5 := Five.new F P R E U w
  have hB : Below w.heap.size w (w.alloc (.cells #[.int .u8 (F.toNat : Int), .int .u8 (P.toNat : Int), .int .u8 (R.toNat : Int), .int .u8 (E.toNat : Int), .int .u8 (U.toNat : Int)] 23)) := (Below.refl _ _).alloc (Nat.le_refl _) _
  have Hf := Lib.hid (nth_calls s R 1 hs)
  go_enter Try.func16, Try.ntmps16
  go_wp2_with fail
  have hc := h5.cells
  generalize (w.alloc (.cells #[.int .u8 (F.toNat : Int), .int .u8 (P.toNat : Int), .int .u8 (R.toNat : Int), .int .u8 (E.toNat : Int), .int .u8 (U.toNat : Int)] 23)) = W at *
  go_wp2_with (go_at_call 33; refine (Hf.out _).mono ?_; rintro e w' ⟨rfl, hb⟩)
  go_ret
  exact ⟨rfl, hB.trans (hb.mono hB.size)⟩
theorem parts_no (s : List UInt8) (n : Int) (F P R E U : UInt8) (hs : s.length ≤ 140737488351232) (hn : ¬(1 ≤ n ∧ n ≤ ((Sp.cutL R s).length : Int))) (w : World) :
    Calls Try.prog 18 #[.string (Sp.bs s), .int .i64 n, dv F P R E U] w fun e w' => e = .returned (.int .i64 0) ∧ Below w.heap.size w w' := by
  have huD := Try.underlying23
  have h5 := Five.new F P R E U w
  have hB : Below w.heap.size w (w.alloc (.cells #[.int .u8 (F.toNat : Int), .int .u8 (P.toNat : Int), .int .u8 (R.toNat : Int), .int .u8 (E.toNat : Int), .int .u8 (U.toNat : Int)] 23)) := (Below.refl _ _).alloc (Nat.le_refl _) _
  have hf := again_calls s n F P R E U hs
  rw [decide_eq_false hn] at hf
  have Hf := Lib.hid hf
  clear hf hn
  go_enter Try.func18, Try.ntmps18
  go_wp2_with (go_at_call 34; refine (Hf.out _).mono ?_; rintro e w' ⟨rfl, hb⟩)
  go_ret
  exact ⟨rfl, hB.trans (hb.mono hB.size)⟩
theorem parts_yes (s : List UInt8) (n : Int) (F P R E U : UInt8) (hs : s.length ≤ 140737488351232) (hn : 1 ≤ n ∧ n ≤ ((Sp.cutL R s).length : Int)) (w : World) :
    Calls Try.prog 18 #[.string (Sp.bs s), .int .i64 n, dv F P R E U] w fun e w' => e = .returned (.int .i64 ((Sp.cutL P (Sp.pick (Sp.cutL R s) n)).length : Int)) ∧ Below w.heap.size w w' := by
  have huD := Try.underlying23
  have h5 := Five.new F P R E U w
  have hB : Below w.heap.size w (w.alloc (.cells #[.int .u8 (F.toNat : Int), .int .u8 (P.toNat : Int), .int .u8 (R.toNat : Int), .int .u8 (E.toNat : Int), .int .u8 (U.toNat : Int)] 23)) := (Below.refl _ _).alloc (Nat.le_refl _) _
  have hf := again_calls s n F P R E U hs
  rw [decide_eq_true hn] at hf
  have Hf := Lib.hid hf
  have Hg := Lib.hid (nth_calls (Sp.pick (Sp.cutL R s) n) P 1 (Nat.le_trans Sp.pick_len hs))
  clear hf hn
  go_enter Try.func18, Try.ntmps18
  go_wp2_with first
    | (go_at_call 34; refine (Hf.out _).mono ?_; rintro e w' ⟨rfl, hb⟩; have hB2 := hB.trans (hb.mono hB.size); have h52 := h5.below hb h5.lt; have hc := h52.cells)
    | (go_at_call 33; refine (Hg.out _).mono ?_; rintro e w2 ⟨rfl, hb2⟩)
  go_ret
  exact ⟨rfl, hB2.trans (hb2.mono hB2.size)⟩
theorem parts_calls (s : List UInt8) (n : Int) (F P R E U : UInt8) (hs : s.length ≤ 140737488351232) (w : World) :
    Calls Try.prog 18 #[.string (Sp.bs s), .int .i64 n, dv F P R E U] w fun e w' => e = .returned (.int .i64 ((Sp.parts s n P R).length : Int)) ∧ Below w.heap.size w w' := by
  unfold Sp.parts
  split
  · exact parts_yes s n F P R E U hs ‹_› w
  · exact parts_no s n F P R E U hs ‹_› w
theorem part_no (s : List UInt8) (r n : Int) (F P R E U : UInt8) (hs : s.length ≤ 140737488351232) (hn : ¬(1 ≤ r ∧ r ≤ ((Sp.cutL R s).length : Int))) (w : World) :
    Calls Try.prog 19 #[.string (Sp.bs s), .int .i64 r, .int .i64 n, dv F P R E U] w fun e w' => e = .returned (.tuple #[.string ⟨#[]⟩, .bool false]) ∧ Below w.heap.size w w' := by
  have huD := Try.underlying23
  have h5 := Five.new F P R E U w
  have hB : Below w.heap.size w (w.alloc (.cells #[.int .u8 (F.toNat : Int), .int .u8 (P.toNat : Int), .int .u8 (R.toNat : Int), .int .u8 (E.toNat : Int), .int .u8 (U.toNat : Int)] 23)) := (Below.refl _ _).alloc (Nat.le_refl _) _
  have hf := again_calls s r F P R E U hs
  rw [decide_eq_false hn] at hf
  have Hf := Lib.hid hf
  clear hf hn
  go_enter Try.func19, Try.ntmps19
  go_wp2_with (go_at_call 34; refine (Hf.out _).mono ?_; rintro e w' ⟨rfl, hb⟩)
  go_ret2
  exact ⟨rfl, hB.trans (hb.mono hB.size)⟩
theorem part_low (s : List UInt8) (r n : Int) (F P R E U : UInt8) (hs : s.length ≤ 140737488351232) (hr : 1 ≤ r ∧ r ≤ ((Sp.cutL R s).length : Int)) (hn : n < 1) (w : World) :
    Calls Try.prog 19 #[.string (Sp.bs s), .int .i64 r, .int .i64 n, dv F P R E U] w fun e w' =>
      e = .returned (.tuple #[.string (Sp.bs (Sp.pick (Sp.cutL P (Sp.pick (Sp.cutL R s) r)) n)), .bool false]) ∧ Below w.heap.size w w' := by
  have huD := Try.underlying23
  have h5 := Five.new F P R E U w
  have hB : Below w.heap.size w (w.alloc (.cells #[.int .u8 (F.toNat : Int), .int .u8 (P.toNat : Int), .int .u8 (R.toNat : Int), .int .u8 (E.toNat : Int), .int .u8 (U.toNat : Int)] 23)) := (Below.refl _ _).alloc (Nat.le_refl _) _
  have hf := again_calls s r F P R E U hs
  rw [decide_eq_true hr] at hf
  have Hf := Lib.hid hf
  have Hg := Lib.hid (nth_calls (Sp.pick (Sp.cutL R s) r) P n (Nat.le_trans Sp.pick_len hs))
  clear hf hr
  go_enter Try.func19, Try.ntmps19
  go_wp2_with first
    | (go_at_call 34; refine (Hf.out _).mono ?_; rintro e w' ⟨rfl, hb⟩; have hB2 := hB.trans (hb.mono hB.size); have h52 := h5.below hb h5.lt; have hc := h52.cells)
    | (go_at_call 33; refine (Hg.out _).mono ?_; rintro e w2 ⟨rfl, hb2⟩)
  go_ret2
  exact ⟨rfl, hB2.trans (hb2.mono hB2.size)⟩
theorem part_high (s : List UInt8) (r n : Int) (F P R E U : UInt8) (hs : s.length ≤ 140737488351232) (hr : 1 ≤ r ∧ r ≤ ((Sp.cutL R s).length : Int)) (hn : 1 ≤ n) (w : World) :
    Calls Try.prog 19 #[.string (Sp.bs s), .int .i64 r, .int .i64 n, dv F P R E U] w fun e w' =>
      e = .returned (.tuple #[.string (Sp.bs (Sp.pick (Sp.cutL P (Sp.pick (Sp.cutL R s) r)) n)), .bool (decide (n ≤ ((Sp.cutL P (Sp.pick (Sp.cutL R s) r)).length : Int)))]) ∧ Below w.heap.size w w' := by
  have huD := Try.underlying23
  have h5 := Five.new F P R E U w
  have hB : Below w.heap.size w (w.alloc (.cells #[.int .u8 (F.toNat : Int), .int .u8 (P.toNat : Int), .int .u8 (R.toNat : Int), .int .u8 (E.toNat : Int), .int .u8 (U.toNat : Int)] 23)) := (Below.refl _ _).alloc (Nat.le_refl _) _
  have hf := again_calls s r F P R E U hs
  rw [decide_eq_true hr] at hf
  have Hf := Lib.hid hf
  have Hg := Lib.hid (nth_calls (Sp.pick (Sp.cutL R s) r) P n (Nat.le_trans Sp.pick_len hs))
  clear hf hr
  go_enter Try.func19, Try.ntmps19
  go_wp2_with first
    | (go_at_call 34; refine (Hf.out _).mono ?_; rintro e w' ⟨rfl, hb⟩; have hB2 := hB.trans (hb.mono hB.size); have h52 := h5.below hb h5.lt; have hc := h52.cells)
    | (go_at_call 33; refine (Hg.out _).mono ?_; rintro e w2 ⟨rfl, hb2⟩)
  go_ret2
  exact ⟨rfl, hB2.trans (hb2.mono hB2.size)⟩
theorem part_calls (s : List UInt8) (r n : Int) (F P R E U : UInt8) (hs : s.length ≤ 140737488351232) (w : World) :
    Calls Try.prog 19 #[.string (Sp.bs s), .int .i64 r, .int .i64 n, dv F P R E U] w fun e w' =>
      e = .returned (.tuple #[.string (Sp.bs (Sp.pick (Sp.parts s r P R) n)), .bool (decide (1 ≤ n ∧ n ≤ ((Sp.parts s r P R).length : Int)))]) ∧ Below w.heap.size w w' := by
  unfold Sp.parts
  split
  · by_cases hn : 1 ≤ n
    · have h := part_high s r n F P R E U hs ‹_› hn w
      simpa only [hn, true_and] using h
    · have h := part_low s r n F P R E U hs ‹_› (by omega) w
      simpa only [hn, false_and, decide_false] using h
  · have h := part_no s r n F P R E U hs ‹_› w
    have e : decide (1 ≤ n ∧ n ≤ ((([] : List (List UInt8)).length : Nat) : Int)) = false := by rw [decide_eq_false_iff_not]; simp; omega
    rw [Sp.pick_nil, e]
    exact h
theorem plain_calls (w : World) : Calls Try.prog 10 #[] w fun e w' => e = .returned (dv 124 94 126 92 38) ∧ Below w.heap.size w w' := by
  have huD := Try.underlying23
  go_enter Try.func10, Try.ntmps10
  go_wp2
  exact bodyPost_ret (v := .agg #[.int .u8 124, .int .u8 94, .int .u8 126, .int .u8 92, .int .u8 38]) (by simp [results, Try.results10, go_sem]) rfl ⟨rfl, (Below.refl _ _).alloc (Nat.le_refl _) _⟩
/-- the plain signs -/
abbrev pl : Value := .agg #[.int .u8 124, .int .u8 94, .int .u8 126, .int .u8 92, .int .u8 38]
theorem alive_calls (w : World) : Calls Try.prog 12 #[] w fun e w' => e = .returned (.bool true) ∧ Below w.heap.size w w' := by
  have h1 : ∀ w, Calls Try.prog 14 #[.string ⟨#[80, 73, 68, 124, 97, 94, 98, 126, 99, 124, 100]⟩, .int .i64 1, pl] w fun e w' => e = .returned (.tuple #[.string ⟨#[97, 94, 98, 126, 99]⟩, .bool true]) ∧ Below w.heap.size w w' := fun w => by
    have h := Field_calls [80, 73, 68, 124, 97, 94, 98, 126, 99, 124, 100] 1 (by omega) 124 94 126 92 38 (by decide) w
    rw [show Sp.pick (Sp.fields [80, 73, 68, 124, 97, 94, 98, 126, 99, 124, 100] 124) 1 = [97, 94, 98, 126, 99] by decide +kernel, show (decide ((1 : Int) ≤ 1 ∧ (1 : Int) ≤ ((Sp.fields [80, 73, 68, 124, 97, 94, 98, 126, 99, 124, 100] 124).length : Int))) = true by decide +kernel] at h
    exact h
  have h2 : ∀ w, Calls Try.prog 19 #[.string ⟨#[97, 94, 98, 126, 99]⟩, .int .i64 2, .int .i64 1, pl] w fun e w' => e = .returned (.tuple #[.string ⟨#[99]⟩, .bool true]) ∧ Below w.heap.size w w' := fun w => by
    have h := part_calls [97, 94, 98, 126, 99] 2 1 124 94 126 92 38 (by decide) w
    rw [show Sp.pick (Sp.parts [97, 94, 98, 126, 99] 2 94 126) 1 = [99] by decide +kernel, show (decide ((1 : Int) ≤ 1 ∧ (1 : Int) ≤ ((Sp.parts [97, 94, 98, 126, 99] 2 94 126).length : Int))) = true by decide +kernel] at h
    exact h
  have h3 : ∀ w, Calls Try.prog 14 #[.string ⟨#[77, 83, 72, 124, 94, 126, 92, 38, 124, 120]⟩, .int .i64 2, pl] w fun e w' => e = .returned (.tuple #[.string ⟨#[94, 126, 92, 38]⟩, .bool true]) ∧ Below w.heap.size w w' := fun w => by
    have h := Field_calls [77, 83, 72, 124, 94, 126, 92, 38, 124, 120] 2 (by omega) 124 94 126 92 38 (by decide) w
    rw [show Sp.pick (Sp.fields [77, 83, 72, 124, 94, 126, 92, 38, 124, 120] 124) 2 = [94, 126, 92, 38] by decide +kernel, show (decide ((1 : Int) ≤ 2 ∧ (2 : Int) ≤ ((Sp.fields [77, 83, 72, 124, 94, 126, 92, 38, 124, 120] 124).length : Int))) = true by decide +kernel] at h
    exact h
  have H1 := Lib.hid h1
  have H2 := Lib.hid h2
  have H3 := Lib.hid h3
  clear h1 h2 h3
  go_enter Try.func12, Try.ntmps12
  go_wp2_with fail
  refine (plain_calls _).mono ?_
  rintro e w1 ⟨rfl, b1⟩
  go_wp2_with fail
  refine (H1.out _).mono ?_
  rintro e w2 ⟨rfl, b2⟩
  go_wp2_with fail
  refine (plain_calls _).mono ?_
  rintro e w3 ⟨rfl, b3⟩
  go_wp2_with fail
  refine (H2.out _).mono ?_
  rintro e w4 ⟨rfl, b4⟩
  go_wp2_with fail
  refine (plain_calls _).mono ?_
  rintro e w5 ⟨rfl, b5⟩
  go_wp2_with fail
  refine (H3.out _).mono ?_
  rintro e w6 ⟨rfl, b6⟩
  go_wp2_with fail
  go_ret
  have c2 := b1.trans (b2.mono b1.size)
  have c3 := c2.trans (b3.mono c2.size)
  have c4 := c3.trans (b4.mono c3.size)
  have c5 := c4.trans (b5.mono c4.size)
  exact ⟨rfl, c5.trans (b6.mono c5.size)⟩
end Sg
end Go.Proofs.Ytcldnibedimepaa
