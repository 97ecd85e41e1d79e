/-
  A part of the proof of this seat's laws: SegmentCounts.
-/
import Derived.Test.YtcldnibedimepaaSg7
namespace Go.Proofs.Ytcldnibedimepaa
set_option linter.unusedVariables false
set_option linter.unusedSimpArgs false
open Go.RowKit Go.Shelf
namespace Sp
theorem cutL_mid (c : UInt8) (b : List UInt8) : ∀ a : List UInt8, cutL c (a ++ c :: b) = cutL c a ++ cutL c b
  | [] => by rw [List.nil_append, cutL_eq b rfl]; rfl
  | x :: a => by
    have ih := cutL_mid c b a
    by_cases hx : x = c
    · rw [List.cons_append, cutL_eq _ hx, cutL_eq _ hx, ih]; rfl
    · rw [List.cons_append, cutL_other _ hx, cutL_other _ hx, ih]
      have h0 := cutL_ne c a
      cases h : cutL c a with
      | nil => exact (h0 h).elim
      | cons y l => simp
theorem cutL_reps (c : UInt8) (s : List UInt8) : ∀ k : Nat, cutL c (s ++ List.replicate k c) = cutL c s ++ List.replicate k []
  | 0 => by simp
  | k + 1 => by
    have ih := cutL_reps c s k
    rw [List.replicate_succ', ← List.append_assoc, cutL_mid c [] (s ++ List.replicate k c), ih, cutL_nil, List.replicate_succ', List.append_assoc]
theorem fields_reps (s : List UInt8) (F : UInt8) (k : Nat) (h3 : 3 ≤ s.length) (h : ¬(s.take 3 = msh ∧ (fields s F).length = 0)) :
    fields (s ++ List.replicate k F) F = fields s F ++ List.replicate k [] := by
  have e3 : (s ++ List.replicate k F).take 3 = s.take 3 := by rw [List.take_append_of_le_length h3]
  unfold fields at *
  rw [e3]
  by_cases h1 : s.take 3 = msh
  · have h1' : ¬ s.take 3 ≠ msh := not_not_intro h1
    simp only [if_neg h1'] at h ⊢
    by_cases h2 : s.take 4 = msh ++ [F]
    · have h4 : 4 ≤ s.length := by have := congrArg List.length h2; simp at this; omega
      have e4 : (s ++ List.replicate k F).take 4 = s.take 4 := by rw [List.take_append_of_le_length h4]
      rw [e4, if_pos h2, if_pos h2, List.drop_append_of_le_length h4, cutL_reps]
      rfl
    · rw [if_neg h2] at h
      exact absurd ⟨h1, rfl⟩ h
  · rw [if_pos h1, if_pos h1, cutL_reps]
    have h0 := cutL_ne F s
    cases h : cutL F s with
    | nil => exact (h0 h).elim
    | cons y l => simp
theorem fields_bound (s : List UInt8) (F : UInt8) : (fields s F).length ≤ s.length + 1 := by
  unfold fields
  have h1 := cutL_length F s
  have h2 := List.count_le_length (a := F) (l := s)
  have h3 := cutL_length F (s.drop 4)
  have h4 := List.count_le_length (a := F) (l := s.drop 4)
  rw [List.length_drop] at h4
  split
  · simp; omega
  · split
    · rename_i h
      have := congrArg List.length h
      simp at this ⊢; omega
    · simp
theorem pick_reps (l : List (List UInt8)) (k : Nat) (n : Int) : pick (l ++ List.replicate k []) n = pick l n := by
  unfold pick
  split
  · rw [List.getElem?_append]
    split
    · rfl
    · rw [List.getElem?_eq_none (l := l) (by omega), List.getElem?_replicate]
      split <;> rfl
  · rfl
end Sp
namespace Sg
set_option maxHeartbeats 2000000
theorem counts_long (s : List UInt8) (m : Int) (hs : s.length ≤ 140737488351232) (hm : 0 ≤ m ∧ m < 256) (w : World) (h : 1000 < s.length) :
    Calls Try.prog 3 #[.string (Sp.bs s), .int .u8 m] w fun e w' => e = .returned (.bool true) ∧ Below w.heap.size w w' := by
  have huD := Try.underlying23
  have hz := Sp.bs_size s
  have Hc : Hid (∀ w, Calls Try.prog 11 #[.string (Sp.bs s), pl] w fun e w' => e = .returned (.int .i64 ((Sp.fields s 124).length : Int)) ∧ Below w.heap.size w w') := Lib.hid (count_calls s 124 94 126 92 38 hs)
  have Hn := Lib.hid (name_calls s hs)
  have h1 : (1000 : Int) < (s.length : Int) := by omega
  go_enter Try.func3, Try.ntmps3
  go_wp2_with fail
  refine (plain_calls _).mono ?_
  rintro e w1 ⟨rfl, b1⟩
  go_wp2_with fail
  have f5 := Five.new 124 94 126 92 38 w1
  have hB : Below w.heap.size w (w1.alloc (.cells #[.int .u8 124, .int .u8 94, .int .u8 126, .int .u8 92, .int .u8 38] 23)) := b1.alloc b1.size _
  change Five _ _ _ _ _ _ (w1.alloc (.cells #[.int .u8 124, .int .u8 94, .int .u8 126, .int .u8 92, .int .u8 38] 23)) at f5
  generalize (w1.alloc (.cells #[.int .u8 124, .int .u8 94, .int .u8 126, .int .u8 92, .int .u8 38] 23)) = W1 at *
  have hg : w.heap.size ≤ w1.heap.size := b1.size
  generalize w1.heap.size = g at *
  refine (Hc.out _).mono ?_
  rintro e w2 ⟨rfl, b2⟩
  have hB2 := hB.trans (b2.mono hB.size)
  have f52 := f5.below b2 f5.lt
  clear f5 hB b2 b1
  go_wp2_with fail
  refine (alive_calls _).mono ?_
  rintro e w3 ⟨rfl, b3⟩
  have hB3 := hB2.trans (b3.mono hB2.size)
  have f53 := f52.below b3 f52.lt
  clear f52 hB2 b3
  go_wp2_with fail
  refine (alive_calls _).mono ?_
  rintro e w4 ⟨rfl, b4⟩
  go_wp2_with fail
  go_ret
  exact ⟨rfl, hB3.trans (b4.mono hB3.size)⟩
theorem counts_head (s : List UInt8) (m : Int) (hs : s.length ≤ 140737488351232) (hm : 0 ≤ m ∧ m < 256) (w : World) (h : s.length ≤ 1000) (h1 : s.take 3 = Sp.msh) (h2 : (Sp.fields s 124).length = 0) :
    Calls Try.prog 3 #[.string (Sp.bs s), .int .u8 m] w fun e w' => e = .returned (.bool true) ∧ Below w.heap.size w w' := by
  have huD := Try.underlying23
  have hz := Sp.bs_size s
  have Hc : Hid (∀ w, Calls Try.prog 11 #[.string (Sp.bs s), pl] w fun e w' => e = .returned (.int .i64 ((Sp.fields s 124).length : Int)) ∧ Below w.heap.size w w') := Lib.hid (count_calls s 124 94 126 92 38 hs)
  have Hn := Lib.hid (name_calls s hs)
  have H1 := take3_yes h1
  have hl : (s.length : Int) ≤ 1000 := by omega
  rw [h2] at Hc
  clear h1 h2
  go_enter Try.func3, Try.ntmps3
  go_wp2_with fail
  refine (plain_calls _).mono ?_
  rintro e w1 ⟨rfl, b1⟩
  go_wp2_with fail
  have f5 := Five.new 124 94 126 92 38 w1
  have hB : Below w.heap.size w (w1.alloc (.cells #[.int .u8 124, .int .u8 94, .int .u8 126, .int .u8 92, .int .u8 38] 23)) := b1.alloc b1.size _
  change Five _ _ _ _ _ _ (w1.alloc (.cells #[.int .u8 124, .int .u8 94, .int .u8 126, .int .u8 92, .int .u8 38] 23)) at f5
  generalize (w1.alloc (.cells #[.int .u8 124, .int .u8 94, .int .u8 126, .int .u8 92, .int .u8 38] 23)) = W1 at *
  have hg : w.heap.size ≤ w1.heap.size := b1.size
  generalize w1.heap.size = g at *
  refine (Hc.out _).mono ?_
  rintro e w2 ⟨rfl, b2⟩
  have hB2 := hB.trans (b2.mono hB.size)
  have f52 := f5.below b2 f5.lt
  clear f5 hB b2 b1
  go_wp2_with fail
  refine (alive_calls _).mono ?_
  rintro e w3 ⟨rfl, b3⟩
  have hB3 := hB2.trans (b3.mono hB2.size)
  have f53 := f52.below b3 f52.lt
  clear f52 hB2 b3
  go_wp2_with fail
  refine (Hn.out _).mono ?_
  rintro e w' ⟨rfl, rfl⟩
  go_wp2_with fail
  refine (alive_calls _).mono ?_
  rintro e w4 ⟨rfl, b4⟩
  go_wp2_with fail
  go_ret
  exact ⟨rfl, hB3.trans (b4.mono hB3.size)⟩
theorem counts_short (s : List UInt8) (m : Int) (hs : s.length ≤ 140737488351232) (hm : 0 ≤ m ∧ m < 256) (w : World) (h : s.length < 3) :
    Calls Try.prog 3 #[.string (Sp.bs s), .int .u8 m] w fun e w' => e = .returned (.bool true) ∧ Below w.heap.size w w' := by
  have huD := Try.underlying23
  have hz := Sp.bs_size s
  have Hc : Hid (∀ w, Calls Try.prog 11 #[.string (Sp.bs s), pl] w fun e w' => e = .returned (.int .i64 ((Sp.fields s 124).length : Int)) ∧ Below w.heap.size w w') := Lib.hid (count_calls s 124 94 126 92 38 hs)
  have Hn := Lib.hid (name_calls s hs)
  have H1 : ((Sp.bs (s.take 3)).toList == [77, 83, 72]) = false := take3_no (fun e => by have := congrArg List.length e; simp at this; omega)
  have hl : (s.length : Int) ≤ 1000 := by omega
  have hl3 : (s.length : Int) < 3 := by omega
  go_enter Try.func3, Try.ntmps3
  go_wp2_with fail
  refine (plain_calls _).mono ?_
  rintro e w1 ⟨rfl, b1⟩
  go_wp2_with fail
  have f5 := Five.new 124 94 126 92 38 w1
  have hB : Below w.heap.size w (w1.alloc (.cells #[.int .u8 124, .int .u8 94, .int .u8 126, .int .u8 92, .int .u8 38] 23)) := b1.alloc b1.size _
  change Five _ _ _ _ _ _ (w1.alloc (.cells #[.int .u8 124, .int .u8 94, .int .u8 126, .int .u8 92, .int .u8 38] 23)) at f5
  generalize (w1.alloc (.cells #[.int .u8 124, .int .u8 94, .int .u8 126, .int .u8 92, .int .u8 38] 23)) = W1 at *
  have hg : w.heap.size ≤ w1.heap.size := b1.size
  generalize w1.heap.size = g at *
  refine (Hc.out _).mono ?_
  rintro e w2 ⟨rfl, b2⟩
  have hB2 := hB.trans (b2.mono hB.size)
  have f52 := f5.below b2 f5.lt
  clear f5 hB b2 b1
  go_wp2_with fail
  refine (alive_calls _).mono ?_
  rintro e w3 ⟨rfl, b3⟩
  have hB3 := hB2.trans (b3.mono hB2.size)
  have f53 := f52.below b3 f52.lt
  clear f52 hB2 b3
  go_wp2_with fail
  refine (Hn.out _).mono ?_
  rintro e w' ⟨rfl, rfl⟩
  go_wp2_with fail
  refine (alive_calls _).mono ?_
  rintro e w4 ⟨rfl, b4⟩
  go_wp2_with fail
  go_ret
  exact ⟨rfl, hB3.trans (b4.mono hB3.size)⟩
theorem counts_in1 (s : List UInt8) (m : Int) (hs : s.length ≤ 140737488351232) (hm : 0 ≤ m ∧ m < 256) (w : World) (h : s.length ≤ 1000) (h3 : 3 ≤ s.length) (h1 : s.take 3 ≠ Sp.msh) :
    Calls Try.prog 3 #[.string (Sp.bs s), .int .u8 m] w fun e w' => e = .returned (.bool true) ∧ Below w.heap.size w w' := by
  have huD := Try.underlying23
  have hz := Sp.bs_size s
  have Hc : Hid (∀ w, Calls Try.prog 11 #[.string (Sp.bs s), pl] w fun e w' => e = .returned (.int .i64 ((Sp.fields s 124).length : Int)) ∧ Below w.heap.size w w') := Lib.hid (count_calls s 124 94 126 92 38 hs)
  have Hn := Lib.hid (name_calls s hs)
  have H1 := take3_no h1
  have hin : ¬(s.take 3 = Sp.msh ∧ (Sp.fields s 124).length = 0) := fun h => h1 h.1
  have hl : (s.length : Int) ≤ 1000 := by omega
  have hl3 : (3 : Int) ≤ (s.length : Int) := by omega
  go_enter Try.func3, Try.ntmps3
  go_wp2_with fail
  refine (plain_calls _).mono ?_
  rintro e w1 ⟨rfl, b1⟩
  go_wp2_with fail
  have f5 := Five.new 124 94 126 92 38 w1
  have hB : Below w.heap.size w (w1.alloc (.cells #[.int .u8 124, .int .u8 94, .int .u8 126, .int .u8 92, .int .u8 38] 23)) := b1.alloc b1.size _
  change Five _ _ _ _ _ _ (w1.alloc (.cells #[.int .u8 124, .int .u8 94, .int .u8 126, .int .u8 92, .int .u8 38] 23)) at f5
  generalize (w1.alloc (.cells #[.int .u8 124, .int .u8 94, .int .u8 126, .int .u8 92, .int .u8 38] 23)) = W1 at *
  have hg : w.heap.size ≤ w1.heap.size := b1.size
  generalize w1.heap.size = g at *
  refine (Hc.out _).mono ?_
  rintro e w2 ⟨rfl, b2⟩
  have hB2 := hB.trans (b2.mono hB.size)
  have f52 := f5.below b2 f5.lt
  clear f5 hB b2 b1
  go_wp2_with fail
  refine (alive_calls _).mono ?_
  rintro e w3 ⟨rfl, b3⟩
  have hB3 := hB2.trans (b3.mono hB2.size)
  have f53 := f52.below b3 f52.lt
  clear f52 hB2 b3
  go_wp2_with fail
  refine (Hn.out _).mono ?_
  rintro e w' ⟨rfl, rfl⟩
  go_wp2_with fail
  generalize hk : m % 20 = q at *
  obtain ⟨k, rfl⟩ : ∃ k : Nat, q = k := ⟨q.toNat, by omega⟩
  have hk20 : k < 20 := by omega
  have hfr := Sp.fields_reps s 124 k h3 hin
  have hfb := Sp.fields_bound s 124
  have Hc2 := count_calls (s ++ List.replicate k 124) 124 94 126 92 38 (by simp; omega)
  have HF1 := fun i hi => Field_calls (s ++ List.replicate k 124) i hi 124 94 126 92 38 (by simp; omega)
  have HF2 := fun i hi => Field_calls s i hi 124 94 126 92 38 hs
  rw [hfr] at Hc2 HF1
  rw [List.length_append, List.length_replicate] at Hc2
  simp only [Sp.pick_reps, List.length_append, List.length_replicate] at HF1
  generalize Sp.fields s 124 = fs at *
  generalize hN : fs.length = N at *
  have hwk : IntKind.i64.wrap ((N : Int) + (k : Int)) = (N : Int) + (k : Int) := IntWalk.i64_in _ (by omega)
  have Hc2 : Hid (∀ w, Calls Try.prog 11 #[.string (Sp.bs (s ++ List.replicate k 124)), pl] w fun e w' => e = .returned (.int .i64 ((N : Int) + (k : Int))) ∧ Below w.heap.size w w') := Lib.hid Hc2
  have HF1 : Hid (∀ (i : Nat), 1 ≤ i → i ≤ N + k → ∀ w, Calls Try.prog 14 #[.string (Sp.bs (s ++ List.replicate k 124)), .int .i64 (i : Int), pl] w fun e w' =>
      e = .returned (.tuple #[.string (Sp.bs (Sp.pick fs (i : Int))), .bool true]) ∧ Below w.heap.size w w') := Lib.hid (fun i h1 h2 w => by
    have h := HF1 (i : Int) (by omega) w
    rw [decide_eq_true ⟨by omega, by omega⟩] at h
    exact h)
  have HF2y : Hid (∀ (i : Nat), 1 ≤ i → i ≤ N → ∀ w, Calls Try.prog 14 #[.string (Sp.bs s), .int .i64 (i : Int), pl] w fun e w' =>
      e = .returned (.tuple #[.string (Sp.bs (Sp.pick fs (i : Int))), .bool true]) ∧ Below w.heap.size w w') := Lib.hid (fun i h1 h2 w => by
    have h := HF2 (i : Int) (by omega) w
    rw [decide_eq_true ⟨by omega, by omega⟩] at h
    exact h)
  have HF2n : Hid (∀ (i : Nat), N < i → i ≤ N + k → ∀ w, Calls Try.prog 14 #[.string (Sp.bs s), .int .i64 (i : Int), pl] w fun e w' =>
      e = .returned (.tuple #[.string (Sp.bs (Sp.pick fs (i : Int))), .bool false]) ∧ Below w.heap.size w w') := Lib.hid (fun i h1 h2 w => by
    have h := HF2 (i : Int) (by omega) w
    rw [decide_eq_false (by omega)] at h
    exact h)
  have hb0 : N + k ≤ 2000 := by omega
  have Happ : Hid (∀ j : Nat, Sp.bs (s ++ List.replicate j 124) ++ (⟨#[124]⟩ : ByteArray) = Sp.bs (s ++ List.replicate (j + 1) 124)) := Lib.hid (fun j => by
    rw [show (⟨#[124]⟩ : ByteArray) = Sp.bs [124] from rfl, Sp.bs_append, List.replicate_succ', List.append_assoc])
  clear HF2 hfr hfb hin hN hk H1 Hn Hc
  go_loop [8, 45] (fun t i => ∃ j : Nat, j ≤ k ∧ i = .int .i64 j ∧ t = .string (Sp.bs (s ++ List.replicate j 124))) (fun _ i => k - (intOf i).toNat)
  case atStart => exact ⟨0, by omega, rfl, by simp⟩
  case round =>
    obtain ⟨j, hj, rfl, rfl⟩ := hrel
    by_cases hlt : j < k
    · have happ := Happ.out j
      have hwj : IntKind.i64.wrap ((j : Int) + 1) = (j : Int) + 1 := IntWalk.i64_in _ (by omega)
      have c1 : (j : Int) < (k : Int) := by omega
      have hsz : (Sp.bs (s ++ List.replicate j 124)).size = s.length + j := by rw [Sp.bs_size]; simp
      go_wp2
      go_round
      case rel => exact ⟨j + 1, by omega, by go_num, rfl⟩
      case measure => simp [intOf]; omega
    · obtain rfl : j = k := by omega
      have c1 : ¬ (j : Int) < (j : Int) := by omega
      have hc5 := f53.cells
      clear c1 Happ
      go_wp2_with fail
      refine (Hc2.out _).mono ?_
      rintro e w4 ⟨rfl, b4⟩
      have hB4 := hB3.trans (b4.mono hB3.size)
      have f54 := f53.below b4 f53.lt
      clear f53 hB3 b4 hc5
      go_wp2_with fail
      go_loopw [9] (fun i wr => (∃ q : Nat, 1 ≤ q ∧ q ≤ N + j + 1 ∧ i = .int .i64 q) ∧ Below w.heap.size w wr ∧ Five g 124 94 126 92 38 wr) (fun i wr => N + j + 1 - (intOf i).toNat)
      case atStart => exact ⟨⟨1, by omega, by omega, rfl⟩, hB4, f54⟩
      case round =>
        obtain ⟨⟨q, hq1, hq2, rfl⟩, hBr, f5r⟩ := hrel
        by_cases hqn : q ≤ N + j
        · have c1 : (q : Int) ≤ (N : Int) + (j : Int) := by omega
          have hc5 := f5r.cells
          have hwq : IntKind.i64.wrap ((q : Int) + 1) = (q : Int) + 1 := IntWalk.i64_in _ (by omega)
          have H1 := Lib.hid (HF1.out q hq1 hqn)
          go_wp2_with fail
          refine (H1.out _).mono ?_
          rintro e w5 ⟨rfl, b5⟩
          have hB5 := hBr.trans (b5.mono hBr.size)
          have f55 := f5r.below b5 f5r.lt
          have hc6 := f55.cells
          by_cases hqN : q ≤ N
          · have H2 := Lib.hid (HF2y.out q hq1 hqN)
            have c2 : (q : Int) ≤ (N : Int) := by omega
            go_wp2_with fail
            refine (H2.out _).mono ?_
            rintro e w6 ⟨rfl, b6⟩
            have hB6 := hB5.trans (b6.mono hB5.size)
            have f56 := f55.below b6 f55.lt
            go_wp2
            go_roundw
            case rel => exact ⟨⟨q + 1, by omega, by omega, by go_num⟩, hB6, f56⟩
            case measure => simp [intOf]; omega
          · have H2 := Lib.hid (HF2n.out q (by omega) hqn)
            have c2 : ¬ (q : Int) ≤ (N : Int) := by omega
            go_wp2_with fail
            refine (H2.out _).mono ?_
            rintro e w6 ⟨rfl, b6⟩
            have hB6 := hB5.trans (b6.mono hB5.size)
            have f56 := f55.below b6 f55.lt
            go_wp2
            go_roundw
            case rel => exact ⟨⟨q + 1, by omega, by omega, by go_num⟩, hB6, f56⟩
            case measure => simp [intOf]; omega
        · have c1 : ¬ (q : Int) ≤ (N : Int) + (j : Int) := by omega
          go_wp2
          go_ret
          exact ⟨rfl, hBr⟩
theorem counts_in2 (s : List UInt8) (m : Int) (hs : s.length ≤ 140737488351232) (hm : 0 ≤ m ∧ m < 256) (w : World) (h : s.length ≤ 1000) (h3 : 3 ≤ s.length) (h1 : s.take 3 = Sp.msh) (h2 : (Sp.fields s 124).length ≠ 0) :
    Calls Try.prog 3 #[.string (Sp.bs s), .int .u8 m] w fun e w' => e = .returned (.bool true) ∧ Below w.heap.size w w' := by
  have huD := Try.underlying23
  have hz := Sp.bs_size s
  have Hc : Hid (∀ w, Calls Try.prog 11 #[.string (Sp.bs s), pl] w fun e w' => e = .returned (.int .i64 ((Sp.fields s 124).length : Int)) ∧ Below w.heap.size w w') := Lib.hid (count_calls s 124 94 126 92 38 hs)
  have Hn := Lib.hid (name_calls s hs)
  have H1 := take3_yes h1
  have hin : ¬(s.take 3 = Sp.msh ∧ (Sp.fields s 124).length = 0) := fun h => h2 h.2
  have hq0 : ((Sp.fields s 124).length : Int) ≠ 0 := by omega
  have hq0' : (((Sp.fields s 124).length : Int) == 0) = false := by rw [beq_eq_false_iff_ne]; omega
  clear h1 h2
  have hl : (s.length : Int) ≤ 1000 := by omega
  have hl3 : (3 : Int) ≤ (s.length : Int) := by omega
  go_enter Try.func3, Try.ntmps3
  go_wp2_with fail
  refine (plain_calls _).mono ?_
  rintro e w1 ⟨rfl, b1⟩
  go_wp2_with fail
  have f5 := Five.new 124 94 126 92 38 w1
  have hB : Below w.heap.size w (w1.alloc (.cells #[.int .u8 124, .int .u8 94, .int .u8 126, .int .u8 92, .int .u8 38] 23)) := b1.alloc b1.size _
  change Five _ _ _ _ _ _ (w1.alloc (.cells #[.int .u8 124, .int .u8 94, .int .u8 126, .int .u8 92, .int .u8 38] 23)) at f5
  generalize (w1.alloc (.cells #[.int .u8 124, .int .u8 94, .int .u8 126, .int .u8 92, .int .u8 38] 23)) = W1 at *
  have hg : w.heap.size ≤ w1.heap.size := b1.size
  generalize w1.heap.size = g at *
  refine (Hc.out _).mono ?_
  rintro e w2 ⟨rfl, b2⟩
  have hB2 := hB.trans (b2.mono hB.size)
  have f52 := f5.below b2 f5.lt
  clear f5 hB b2 b1
  go_wp2_with fail
  refine (alive_calls _).mono ?_
  rintro e w3 ⟨rfl, b3⟩
  have hB3 := hB2.trans (b3.mono hB2.size)
  have f53 := f52.below b3 f52.lt
  clear f52 hB2 b3
  go_wp2_with fail
  refine (Hn.out _).mono ?_
  rintro e w' ⟨rfl, rfl⟩
  go_wp2_with fail
  generalize hk : m % 20 = q at *
  obtain ⟨k, rfl⟩ : ∃ k : Nat, q = k := ⟨q.toNat, by omega⟩
  have hk20 : k < 20 := by omega
  have hfr := Sp.fields_reps s 124 k h3 hin
  have hfb := Sp.fields_bound s 124
  have Hc2 := count_calls (s ++ List.replicate k 124) 124 94 126 92 38 (by simp; omega)
  have HF1 := fun i hi => Field_calls (s ++ List.replicate k 124) i hi 124 94 126 92 38 (by simp; omega)
  have HF2 := fun i hi => Field_calls s i hi 124 94 126 92 38 hs
  rw [hfr] at Hc2 HF1
  rw [List.length_append, List.length_replicate] at Hc2
  simp only [Sp.pick_reps, List.length_append, List.length_replicate] at HF1
  generalize Sp.fields s 124 = fs at *
  generalize hN : fs.length = N at *
  have hwk : IntKind.i64.wrap ((N : Int) + (k : Int)) = (N : Int) + (k : Int) := IntWalk.i64_in _ (by omega)
  have Hc2 : Hid (∀ w, Calls Try.prog 11 #[.string (Sp.bs (s ++ List.replicate k 124)), pl] w fun e w' => e = .returned (.int .i64 ((N : Int) + (k : Int))) ∧ Below w.heap.size w w') := Lib.hid Hc2
  have HF1 : Hid (∀ (i : Nat), 1 ≤ i → i ≤ N + k → ∀ w, Calls Try.prog 14 #[.string (Sp.bs (s ++ List.replicate k 124)), .int .i64 (i : Int), pl] w fun e w' =>
      e = .returned (.tuple #[.string (Sp.bs (Sp.pick fs (i : Int))), .bool true]) ∧ Below w.heap.size w w') := Lib.hid (fun i h1 h2 w => by
    have h := HF1 (i : Int) (by omega) w
    rw [decide_eq_true ⟨by omega, by omega⟩] at h
    exact h)
  have HF2y : Hid (∀ (i : Nat), 1 ≤ i → i ≤ N → ∀ w, Calls Try.prog 14 #[.string (Sp.bs s), .int .i64 (i : Int), pl] w fun e w' =>
      e = .returned (.tuple #[.string (Sp.bs (Sp.pick fs (i : Int))), .bool true]) ∧ Below w.heap.size w w') := Lib.hid (fun i h1 h2 w => by
    have h := HF2 (i : Int) (by omega) w
    rw [decide_eq_true ⟨by omega, by omega⟩] at h
    exact h)
  have HF2n : Hid (∀ (i : Nat), N < i → i ≤ N + k → ∀ w, Calls Try.prog 14 #[.string (Sp.bs s), .int .i64 (i : Int), pl] w fun e w' =>
      e = .returned (.tuple #[.string (Sp.bs (Sp.pick fs (i : Int))), .bool false]) ∧ Below w.heap.size w w') := Lib.hid (fun i h1 h2 w => by
    have h := HF2 (i : Int) (by omega) w
    rw [decide_eq_false (by omega)] at h
    exact h)
  have hb0 : N + k ≤ 2000 := by omega
  have Happ : Hid (∀ j : Nat, Sp.bs (s ++ List.replicate j 124) ++ (⟨#[124]⟩ : ByteArray) = Sp.bs (s ++ List.replicate (j + 1) 124)) := Lib.hid (fun j => by
    rw [show (⟨#[124]⟩ : ByteArray) = Sp.bs [124] from rfl, Sp.bs_append, List.replicate_succ', List.append_assoc])
  clear HF2 hfr hfb hin hN hk H1 Hn Hc
  go_loop [8, 45] (fun t i => ∃ j : Nat, j ≤ k ∧ i = .int .i64 j ∧ t = .string (Sp.bs (s ++ List.replicate j 124))) (fun _ i => k - (intOf i).toNat)
  case atStart => exact ⟨0, by omega, rfl, by simp⟩
  case round =>
    obtain ⟨j, hj, rfl, rfl⟩ := hrel
    by_cases hlt : j < k
    · have happ := Happ.out j
      have hwj : IntKind.i64.wrap ((j : Int) + 1) = (j : Int) + 1 := IntWalk.i64_in _ (by omega)
      have c1 : (j : Int) < (k : Int) := by omega
      have hsz : (Sp.bs (s ++ List.replicate j 124)).size = s.length + j := by rw [Sp.bs_size]; simp
      go_wp2
      go_round
      case rel => exact ⟨j + 1, by omega, by go_num, rfl⟩
      case measure => simp [intOf]; omega
    · obtain rfl : j = k := by omega
      have c1 : ¬ (j : Int) < (j : Int) := by omega
      have hc5 := f53.cells
      clear c1 Happ
      go_wp2_with fail
      refine (Hc2.out _).mono ?_
      rintro e w4 ⟨rfl, b4⟩
      have hB4 := hB3.trans (b4.mono hB3.size)
      have f54 := f53.below b4 f53.lt
      clear f53 hB3 b4 hc5
      go_wp2_with fail
      go_loopw [9] (fun i wr => (∃ q : Nat, 1 ≤ q ∧ q ≤ N + j + 1 ∧ i = .int .i64 q) ∧ Below w.heap.size w wr ∧ Five g 124 94 126 92 38 wr) (fun i wr => N + j + 1 - (intOf i).toNat)
      case atStart => exact ⟨⟨1, by omega, by omega, rfl⟩, hB4, f54⟩
      case round =>
        obtain ⟨⟨q, hq1, hq2, rfl⟩, hBr, f5r⟩ := hrel
        by_cases hqn : q ≤ N + j
        · have c1 : (q : Int) ≤ (N : Int) + (j : Int) := by omega
          have hc5 := f5r.cells
          have hwq : IntKind.i64.wrap ((q : Int) + 1) = (q : Int) + 1 := IntWalk.i64_in _ (by omega)
          have H1 := Lib.hid (HF1.out q hq1 hqn)
          go_wp2_with fail
          refine (H1.out _).mono ?_
          rintro e w5 ⟨rfl, b5⟩
          have hB5 := hBr.trans (b5.mono hBr.size)
          have f55 := f5r.below b5 f5r.lt
          have hc6 := f55.cells
          by_cases hqN : q ≤ N
          · have H2 := Lib.hid (HF2y.out q hq1 hqN)
            have c2 : (q : Int) ≤ (N : Int) := by omega
            go_wp2_with fail
            refine (H2.out _).mono ?_
            rintro e w6 ⟨rfl, b6⟩
            have hB6 := hB5.trans (b6.mono hB5.size)
            have f56 := f55.below b6 f55.lt
            go_wp2
            go_roundw
            case rel => exact ⟨⟨q + 1, by omega, by omega, by go_num⟩, hB6, f56⟩
            case measure => simp [intOf]; omega
          · have H2 := Lib.hid (HF2n.out q (by omega) hqn)
            have c2 : ¬ (q : Int) ≤ (N : Int) := by omega
            go_wp2_with fail
            refine (H2.out _).mono ?_
            rintro e w6 ⟨rfl, b6⟩
            have hB6 := hB5.trans (b6.mono hB5.size)
            have f56 := f55.below b6 f55.lt
            go_wp2
            go_roundw
            case rel => exact ⟨⟨q + 1, by omega, by omega, by go_num⟩, hB6, f56⟩
            case measure => simp [intOf]; omega
        · have c1 : ¬ (q : Int) ≤ (N : Int) + (j : Int) := by omega
          go_wp2
          go_ret
          exact ⟨rfl, hBr⟩
theorem counts_calls (s : List UInt8) (m : Int) (hs : s.length ≤ 140737488351232) (hm : 0 ≤ m ∧ m < 256) (w : World) :
    Calls Try.prog 3 #[.string (Sp.bs s), .int .u8 m] w fun e w' => e = .returned (.bool true) ∧ Below w.heap.size w w' := by
  by_cases h : 1000 < s.length
  · exact counts_long s m hs hm w h
  by_cases h3 : s.length < 3
  · exact counts_short s m hs hm w h3
  by_cases h1 : s.take 3 = Sp.msh
  · by_cases h2 : (Sp.fields s 124).length = 0
    · exact counts_head s m hs hm w (by omega) h1 h2
    · exact counts_in2 s m hs hm w (by omega) (by omega) h1 h2
  · exact counts_in1 s m hs hm w (by omega) (by omega) h1
theorem counts_at (s : ByteArray) (m : Int) (w : World) (hs : s.size ≤ 140737488351232) (hm : 0 ≤ m ∧ m ≤ 255) :
    Calls Try.prog 3 #[.string s, .int .u8 m] w fun e w' => e = .returned (.bool true) ∧ Below w.heap.size w w' := by
  have h := counts_calls s.data.toList m (by rw [Array.length_toList]; exact hs) ⟨hm.1, by omega⟩ w
  rwa [Sp.bs_data] at h
end Sg
end Go.Proofs.Ytcldnibedimepaa
