/-
  A part of the proof of this seat's laws: a segment's fields, joined.
-/
import Derived.Test.YtcldnibedimepaaSg5
namespace Go.Proofs.Ytcldnibedimepaa
set_option linter.unusedVariables false
set_option linter.unusedSimpArgs false
open Go.RowKit Go.Shelf
namespace Sg
set_option maxHeartbeats 1000000
theorem field_msh_no (s : List UInt8) (n : Int) (F P R E U : UInt8) (hs : s.length ≤ 140737488351232) (w : World) (h1 : s.take 3 = Sp.msh) (h2 : s.take 4 ≠ Sp.msh ++ [F]) :
    Calls Try.prog 31 #[.string (Sp.bs s), .int .i64 n, dv F P R E U] w fun e w' => e = .returned (.tuple #[.string ⟨#[]⟩, .int .i64 0]) ∧ Below w.heap.size w w' := by
  have huD := Try.underlying23
  have h5 := Five.new F P R E U w
  have hB : Below w.heap.size w (w.alloc (.cells #[.int .u8 (F.toNat : Int), .int .u8 (P.toNat : Int), .int .u8 (R.toNat : Int), .int .u8 (E.toNat : Int), .int .u8 (U.toNat : Int)] 23)) := (Below.refl _ _).alloc (Nat.le_refl _) _
  have H1 := take3_yes h1
  have hc := fun w => cutPrefix_no s F w h2
  have hh := run_head w F
  generalize Sp.bs (Sp.msh ++ [F]) = p at hc hh
  have Hc := Lib.hid hc
  have Hn := Lib.hid (name_calls s hs)
  have hsign := run_sign
  clear h1 h2 hc
  go_enter Try.func31, Try.ntmps31
  go_wp2_with first
    | (go_at_call 13; refine (Hn.out _).mono ?_; rintro e w' ⟨rfl, rfl⟩; generalize (w.alloc (.cells #[.int .u8 (F.toNat : Int), .int .u8 (P.toNat : Int), .int .u8 (R.toNat : Int), .int .u8 (E.toNat : Int), .int .u8 (U.toNat : Int)] 23)) = W at *; have hc := h5.cells)
    | (go_at_call 39; refine (Hc.out _).mono ?_; rintro e w' ⟨rfl, rfl⟩)
  go_ret2
  exact ⟨rfl, (five_on h5 hB 0 _).1⟩
theorem field_msh_one (s : List UInt8) (F P R E U : UInt8) (hs : s.length ≤ 140737488351232) (w : World) (h1 : s.take 3 = Sp.msh) (h2 : s.take 4 = Sp.msh ++ [F]) :
    Calls Try.prog 31 #[.string (Sp.bs s), .int .i64 1, dv F P R E U] w fun e w' =>
      e = .returned (.tuple #[.string (Sp.bs [F]), .int .i64 (((Sp.cutL F (s.drop 4)).length : Int) + 1)]) ∧ Below w.heap.size w w' := by
  have huD := Try.underlying23
  have h5 := Five.new F P R E U w
  have hB : Below w.heap.size w (w.alloc (.cells #[.int .u8 (F.toNat : Int), .int .u8 (P.toNat : Int), .int .u8 (R.toNat : Int), .int .u8 (E.toNat : Int), .int .u8 (U.toNat : Int)] 23)) := (Below.refl _ _).alloc (Nat.le_refl _) _
  have H1 := take3_yes h1
  have hc := fun w => cutPrefix_yes s F w h2 hs
  have hh := run_head w F
  have hlen := Sp.cutL_length F (s.drop 4)
  have hcnt := List.count_le_length (a := F) (l := s.drop 4)
  rw [List.length_drop] at hcnt
  have hw : IntKind.i64.wrap (((Sp.cutL F (s.drop 4)).length : Int) + 1) = ((Sp.cutL F (s.drop 4)).length : Int) + 1 := IntWalk.i64_in _ (by omega)
  have Hh := Lib.hid (nth_calls (s.drop 4) F 0 (by rw [List.length_drop]; omega))
  generalize (Sp.cutL F (s.drop 4)).length = k at *
  generalize Sp.bs (Sp.msh ++ [F]) = p at hc hh
  have Hc := Lib.hid hc
  have Hn := Lib.hid (name_calls s hs)
  have hsign := run_sign
  clear h1 h2 hc hlen hcnt
  go_enter Try.func31, Try.ntmps31
  go_wp2_with first
    | (go_at_call 13; refine (Hn.out _).mono ?_; rintro e w' ⟨rfl, rfl⟩; generalize (w.alloc (.cells #[.int .u8 (F.toNat : Int), .int .u8 (P.toNat : Int), .int .u8 (R.toNat : Int), .int .u8 (E.toNat : Int), .int .u8 (U.toNat : Int)] 23)) = W at *; have hc := h5.cells)
    | (go_at_call 39; refine (Hc.out _).mono ?_; rintro e w' ⟨rfl, rfl⟩; obtain ⟨hB2, h52⟩ := five_on h5 hB 0 (.int .u8 (F.toNat : Int)); change Below _ _ (W.alloc (.cells #[.int .u8 (F.toNat : Int)] 5)) at hB2; change Five _ _ _ _ _ _ (W.alloc (.cells #[.int .u8 (F.toNat : Int)] 5)) at h52; generalize (W.alloc (.cells #[.int .u8 (F.toNat : Int)] 5)) = W2 at *; have hc2 := h52.cells)
    | (go_at_call 33; refine (Hh.out _).mono ?_; rintro e w' ⟨rfl, hb⟩; have h53 := h52.below hb h52.lt; have hc3 := h53.cells)
  go_ret2
  exact ⟨rfl, (hB2.trans (hb.mono hB2.size)).alloc (Nat.le_trans hB2.size hb.size) _⟩
theorem field_msh_more (s : List UInt8) (n : Int) (hn : 2 ≤ n) (hn' : n ≤ 9223372036854775807) (F P R E U : UInt8) (hs : s.length ≤ 140737488351232) (w : World) (h1 : s.take 3 = Sp.msh) (h2 : s.take 4 = Sp.msh ++ [F]) :
    Calls Try.prog 31 #[.string (Sp.bs s), .int .i64 n, dv F P R E U] w fun e w' =>
      e = .returned (.tuple #[.string (Sp.bs (Sp.pick (Sp.cutL F (s.drop 4)) (n - 1))), .int .i64 (((Sp.cutL F (s.drop 4)).length : Int) + 1)]) ∧ Below w.heap.size w w' := by
  have huD := Try.underlying23
  have h5 := Five.new F P R E U w
  have hB : Below w.heap.size w (w.alloc (.cells #[.int .u8 (F.toNat : Int), .int .u8 (P.toNat : Int), .int .u8 (R.toNat : Int), .int .u8 (E.toNat : Int), .int .u8 (U.toNat : Int)] 23)) := (Below.refl _ _).alloc (Nat.le_refl _) _
  have H1 := take3_yes h1
  have hc := fun w => cutPrefix_yes s F w h2 hs
  have hh := run_head w F
  have hlen := Sp.cutL_length F (s.drop 4)
  have hcnt := List.count_le_length (a := F) (l := s.drop 4)
  rw [List.length_drop] at hcnt
  have hw : IntKind.i64.wrap (((Sp.cutL F (s.drop 4)).length : Int) + 1) = ((Sp.cutL F (s.drop 4)).length : Int) + 1 := IntWalk.i64_in _ (by omega)
  have hw2 : IntKind.i64.wrap (n - 1) = n - 1 := IntWalk.i64_in _ (by omega)
  have hq : (n == 1) = false := by rw [beq_eq_false_iff_ne]; omega
  have Hh := Lib.hid (nth_calls (s.drop 4) F (n - 1) (by rw [List.length_drop]; omega))
  generalize (Sp.cutL F (s.drop 4)).length = k at *
  generalize Sp.bs (Sp.msh ++ [F]) = p at hc hh
  have Hc := Lib.hid hc
  have Hn := Lib.hid (name_calls s hs)
  have hsign := run_sign
  clear h1 h2 hc hlen hcnt
  go_enter Try.func31, Try.ntmps31
  go_wp2_with first
    | (go_at_call 13; refine (Hn.out _).mono ?_; rintro e w' ⟨rfl, rfl⟩; generalize (w.alloc (.cells #[.int .u8 (F.toNat : Int), .int .u8 (P.toNat : Int), .int .u8 (R.toNat : Int), .int .u8 (E.toNat : Int), .int .u8 (U.toNat : Int)] 23)) = W at *; have hc := h5.cells)
    | (go_at_call 39; refine (Hc.out _).mono ?_; rintro e w' ⟨rfl, rfl⟩; obtain ⟨hB2, h52⟩ := five_on h5 hB 0 (.int .u8 (F.toNat : Int)); change Below _ _ (W.alloc (.cells #[.int .u8 (F.toNat : Int)] 5)) at hB2; change Five _ _ _ _ _ _ (W.alloc (.cells #[.int .u8 (F.toNat : Int)] 5)) at h52; generalize (W.alloc (.cells #[.int .u8 (F.toNat : Int)] 5)) = W2 at *; have hc2 := h52.cells)
    | (go_at_call 33; refine (Hh.out _).mono ?_; rintro e w' ⟨rfl, hb⟩; have h53 := h52.below hb h52.lt; have hc3 := h53.cells)
  go_ret2
  exact ⟨rfl, hB2.trans (hb.mono hB2.size)⟩
/-- a segment's nth field, and how many there are -/
theorem field_calls (s : List UInt8) (n : Int) (hn : 1 ≤ n) (hn' : n ≤ 9223372036854775807) (F P R E U : UInt8) (hs : s.length ≤ 140737488351232) (w : World) :
    Calls Try.prog 31 #[.string (Sp.bs s), .int .i64 n, dv F P R E U] w fun e w' =>
      e = .returned (.tuple #[.string (Sp.bs (Sp.pick (Sp.fields s F) n)), .int .i64 ((Sp.fields s F).length : Int)]) ∧ Below w.heap.size w w' := by
  unfold Sp.fields
  by_cases h1 : s.take 3 = Sp.msh
  · rw [if_neg (by simpa using h1)]
    by_cases h2 : s.take 4 = Sp.msh ++ [F]
    · rw [if_pos h2]
      have hl : (([F] :: Sp.cutL F (s.drop 4)).length : Int) = ((Sp.cutL F (s.drop 4)).length : Int) + 1 := by simp
      rw [hl]
      by_cases h3 : n = 1
      · subst h3
        exact field_msh_one s F P R E U hs w h1 h2
      · have hp : Sp.pick ([F] :: Sp.cutL F (s.drop 4)) n = Sp.pick (Sp.cutL F (s.drop 4)) (n - 1) := by
          unfold Sp.pick
          rw [if_pos hn, if_pos (by omega)]
          have : (n - 1).toNat = (n - 1 - 1).toNat + 1 := by omega
          rw [this]; simp
        rw [hp]
        exact field_msh_more s n (by omega) hn' F P R E U hs w h1 h2
    · rw [if_neg h2, Sp.pick_nil]
      exact field_msh_no s n F P R E U hs w h1 h2
  · rw [if_pos h1]
    by_cases h2 : Lib.indexByte s F = -1
    · rw [Sp.cutL_miss F s h2]
      simp only [List.tail_cons, Sp.pick_nil]
      exact field_miss s n F P R E U hs w h1 h2
    · obtain ⟨i, hi⟩ : ∃ i : Nat, Lib.indexByte s F = i := ⟨(Lib.indexByte s F).toNat, by have := Lib.indexByte_ge s F; omega⟩
      rw [Sp.cutL_hit F s i hi]
      exact field_hit s n F P R E U hs w h1 i hi
theorem count_calls (s : List UInt8) (F P R E U : UInt8) (hs : s.length ≤ 140737488351232) (w : World) :
    Calls Try.prog 11 #[.string (Sp.bs s), dv F P R E U] w fun e w' => e = .returned (.int .i64 ((Sp.fields s F).length : Int)) ∧ Below w.heap.size w w' := by
  have huD := Try.underlying23
  have h5 := Five.new F P R E U w
  have hB : Below w.heap.size w (w.alloc (.cells #[.int .u8 (F.toNat : Int), .int .u8 (P.toNat : Int), .int .u8 (R.toNat : Int), .int .u8 (E.toNat : Int), .int .u8 (U.toNat : Int)] 23)) := (Below.refl _ _).alloc (Nat.le_refl _) _
  have Hf := Lib.hid (field_calls s 1 (by omega) (by omega) F P R E U hs)
  go_enter Try.func11, Try.ntmps11
  go_wp2_with (go_at_call 31; refine (Hf.out _).mono ?_; rintro e w' ⟨rfl, hb⟩)
  go_ret
  exact ⟨rfl, hB.trans (hb.mono hB.size)⟩
theorem Field_low (s : List UInt8) (n : Int) (hn : n < 1) (F P R E U : UInt8) (hs : s.length ≤ 140737488351232) (w : World) :
    Calls Try.prog 14 #[.string (Sp.bs s), .int .i64 n, dv F P R E U] w fun e w' =>
      e = .returned (.tuple #[.string ⟨#[]⟩, .bool false]) ∧ Below w.heap.size w w' := by
  have huD := Try.underlying23
  go_enter Try.func14, Try.ntmps14
  go_wp2
  go_ret2
  exact ⟨rfl, (Below.refl _ _).alloc (Nat.le_refl _) _⟩
theorem Field_high (s : List UInt8) (n : Int) (hn : 1 ≤ n) (hn' : n ≤ 9223372036854775807) (F P R E U : UInt8) (hs : s.length ≤ 140737488351232) (w : World) :
    Calls Try.prog 14 #[.string (Sp.bs s), .int .i64 n, dv F P R E U] w fun e w' =>
      e = .returned (.tuple #[.string (Sp.bs (Sp.pick (Sp.fields s F) n)), .bool (decide (n ≤ ((Sp.fields s F).length : Int)))]) ∧ Below w.heap.size w w' := by
  have huD := Try.underlying23
  have h5 := Five.new F P R E U w
  have hB : Below w.heap.size w (w.alloc (.cells #[.int .u8 (F.toNat : Int), .int .u8 (P.toNat : Int), .int .u8 (R.toNat : Int), .int .u8 (E.toNat : Int), .int .u8 (U.toNat : Int)] 23)) := (Below.refl _ _).alloc (Nat.le_refl _) _
  have Hf := Lib.hid (field_calls s n hn hn' F P R E U hs)
  go_enter Try.func14, Try.ntmps14
  go_wp2_with (go_at_call 31; refine (Hf.out _).mono ?_; rintro e w' ⟨rfl, hb⟩)
  go_ret2
  exact ⟨rfl, hB.trans (hb.mono hB.size)⟩
theorem Field_calls (s : List UInt8) (n : Int) (hn' : n ≤ 9223372036854775807) (F P R E U : UInt8) (hs : s.length ≤ 140737488351232) (w : World) :
    Calls Try.prog 14 #[.string (Sp.bs s), .int .i64 n, dv F P R E U] w fun e w' =>
      e = .returned (.tuple #[.string (Sp.bs (Sp.pick (Sp.fields s F) n)), .bool (decide (1 ≤ n ∧ n ≤ ((Sp.fields s F).length : Int)))]) ∧ Below w.heap.size w w' := by
  by_cases hn : 1 ≤ n
  · have h := Field_high s n hn hn' F P R E U hs w
    simpa only [hn, true_and] using h
  · have h := Field_low s n (by omega) F P R E U hs w
    have e : Sp.pick (Sp.fields s F) n = [] := by unfold Sp.pick; rw [if_neg hn]
    rw [e, show Sp.bs [] = ⟨#[]⟩ from rfl]
    simpa only [hn, false_and, decide_false] using h
end Sg
end Go.Proofs.Ytcldnibedimepaa
