/-
  A part of the proof of this seat's laws: the reference's signs.
-/
import Derived.Test.YtkiloebfjooogaaDoorDelB
import Derived.Test.YtkiloebfjooogaaDoorQr
namespace Go.Proofs.YtkiloebfjooogaaDoor
set_option linter.unusedVariables false
set_option linter.unusedSimpArgs false
open Go.RowKit
namespace Rf
open Dl
set_option maxHeartbeats 1000000
theorem below_drewN (B : Nat) (w : World) (n : Nat) : Below B w (w.drewN n) := ⟨rfl, rfl, rfl, Nat.le_refl _, fun _ _ => rfl⟩
theorem sign_calls (c : Int) (w : World) : Calls Tryd.prog 26 #[.int .u8 c] w fun e w' => e = .returned (.bool (Sp.sgn c)) ∧ w' = w := by
  have hc : (97 ≤ c ∧ c ≤ 122) ∨ (65 ≤ c ∧ c ≤ 90) ∨ (48 ≤ c ∧ c ≤ 57) ∨ c < 33 ∨ 126 < c ∨ (33 ≤ c ∧ c ≤ 47) ∨ (58 ≤ c ∧ c ≤ 64) ∨ (91 ≤ c ∧ c ≤ 96) ∨ (123 ≤ c ∧ c ≤ 126) := by omega
  rcases hc with hc | hc | hc | hc | hc | hc | hc | hc | hc
  all_goals
    go_enter Tryd.func26, Tryd.ntmps26
    go_wp2
    go_ret
    exact ⟨ret_bool (by unfold Sp.sgn; rw [Bool.eq_iff_iff]; simp <;> omega), rfl⟩
theorem rfive_calls (a b c d f : Int) (w : World) : Calls Tryd.prog 25 #[.agg #[.int .u8 a, .int .u8 b, .int .u8 c, .int .u8 d, .int .u8 f]] w fun e w' => 
   e = .returned (.slice (some ⟨w.heap.size + 1, 0, none⟩) 5 5) ∧ w' = (w.alloc (.cells #[.int .u8 a, .int .u8 b, .int .u8 c, .int .u8 d, .int .u8 f] 23)).alloc (.cells #[.int .u8 a, .int .u8 b, .int .u8 c, .int .u8 d, .int .u8 f] 5)  := by
  have huD := Tryd.underlying23
  go_enter Tryd.func25, Tryd.ntmps25
  go_wp2
  go_ret
  exact ⟨rfl, rfl⟩
/-- what five leaves: five bytes in a row -/
theorem five_row (a b c d f : Int) (w : World) : ∀ i, i < 5 → ((w.alloc (.cells #[.int .u8 a, .int .u8 b, .int .u8 c, .int .u8 d, .int .u8 f] 23)).alloc (.cells #[.int .u8 a, .int .u8 b, .int .u8 c, .int .u8 d, .int .u8 f] 5)).cell? ⟨w.heap.size + 1, i, none⟩ = some (.int .u8 ([a, b, c, d, f].getD i 0)) := by
  intro i hi
  have e : i = 0 ∨ i = 1 ∨ i = 2 ∨ i = 3 ∨ i = 4 := by omega
  rcases e with rfl | rfl | rfl | rfl | rfl <;> go_simp <;> rfl
set_option maxRecDepth 100000 in
theorem rright_calls (a b c d f : Int) (w : World) :
    Calls Tryd.prog 14 #[.agg #[.int .u8 a, .int .u8 b, .int .u8 c, .int .u8 d, .int .u8 f]] w fun e w' =>
      e = .returned (.bool (Sp.right a b c d f)) ∧ Below w.heap.size w w' := by
  have Hr := Lib.hid (Sp.right_ref a b c d f)
  generalize Sp.right a b c d f = r at *
  have huD := Tryd.underlying23
  have hrow := five_row a b c d f (w.alloc (.cells #[.int .u8 a, .int .u8 b, .int .u8 c, .int .u8 d, .int .u8 f] 23))
  rw [World.size_alloc] at hrow
  go_enter Tryd.func14, Tryd.ntmps14
  go_wp2_with (go_at_call 25; refine (rfive_calls a b c d f _).mono ?_; rintro e w' ⟨rfl, rfl⟩)
  have hB : Below w.heap.size w (((w.alloc (.cells #[.int .u8 a, .int .u8 b, .int .u8 c, .int .u8 d, .int .u8 f] 23)).alloc (.cells #[.int .u8 a, .int .u8 b, .int .u8 c, .int .u8 d, .int .u8 f] 23)).alloc (.cells #[.int .u8 a, .int .u8 b, .int .u8 c, .int .u8 d, .int .u8 f] 5)) :=
    (((Below.refl _ _).alloc (Nat.le_refl _) _).alloc (by simp) _).alloc (by simp <;> omega) _
  generalize ((w.alloc (.cells #[.int .u8 a, .int .u8 b, .int .u8 c, .int .u8 d, .int .u8 f] 23)).alloc (.cells #[.int .u8 a, .int .u8 b, .int .u8 c, .int .u8 d, .int .u8 f] 23)).alloc (.cells #[.int .u8 a, .int .u8 b, .int .u8 c, .int .u8 d, .int .u8 f] 5) = W2 at *
  have Hrow := Lib.hid hrow; clear hrow
  have HB := Lib.hid hB; clear hB
  go_loopw [4, 5] (fun i _ wr => (∃ k : Nat, k ≤ 5 ∧ i = .int .i64 k ∧ Hid (∀ j, j < k → Sp.okRef [a, b, c, d, f] j)) ∧ ∃ n, wr = W2.drewN n) (fun i _ _ => 5 - (intOf i).toNat)
  case atStart => exact ⟨⟨0, by omega, rfl, fun j hj => by omega⟩, 0, rfl⟩
  case round =>
    obtain ⟨⟨k, hk5, rfl, Hk⟩, n, rfl⟩ := hrel
    by_cases hlt : k < 5
    · have hx := Hrow.out k hlt
      have Hok : Hid (Sp.okRef [a, b, c, d, f] k ↔ (Sp.sgn ([a, b, c, d, f].getD k 0) = true ∧ ∀ j, j < k → [a, b, c, d, f].getD j 0 ≠ [a, b, c, d, f].getD k 0)) := Iff.rfl
      generalize [a, b, c, d, f].getD k 0 = x at *
      have hsg := fun w => sign_calls x w
      cases hs : Sp.sgn x with
      | false =>
        rw [hs] at hsg
        have Hs := Lib.hid hs; clear hs
        have Hsg := fun w => Lib.hid (hsg w); clear hsg
        go_wp2_with (go_at_call 26; refine (Hsg _).out.mono ?_; rintro e w' ⟨rfl, rfl⟩)
        go_ret
        exact ⟨ret_bool (by
          cases hr : r with
          | false => rfl
          | true =>
            have h1 := (Hok.out.1 (Hr.out.1 hr k hlt)).1
            rw [Hs.out] at h1
            cases h1), HB.out.trans (below_drewN _ _ _)⟩
      | true =>
        rw [hs] at hsg
        have Hs := Lib.hid hs; clear hs
        have Hsg := fun w => Lib.hid (hsg w); clear hsg
        go_wp2_with (go_at_call 26; refine (Hsg _).out.mono ?_; rintro e w' ⟨rfl, rfl⟩)
        go_loopw [5] (fun j wr => (∃ q : Nat, q ≤ k ∧ j = .int .i64 q ∧ Hid (∀ p, p < q → [a, b, c, d, f].getD p 0 ≠ x)) ∧ ∃ n, wr = W2.drewN n) (fun j _ => k - (intOf j).toNat)
        case atStart => exact ⟨⟨0, by omega, rfl, fun j hj => by omega⟩, _, rfl⟩
        case round =>
          clear n
          obtain ⟨⟨q, hqk, rfl, Hq⟩, n, rfl⟩ := hrel
          by_cases hq : q < k
          · have hy := Hrow.out q (by omega)
            have hHy : Hid ((∀ p, p < q + 1 → [a, b, c, d, f].getD p 0 ≠ x) ↔ ((∀ p, p < q → [a, b, c, d, f].getD p 0 ≠ x) ∧ [a, b, c, d, f].getD q 0 ≠ x)) := by
              constructor
              · intro h
                exact ⟨fun p hp => h p (by omega), h q (by omega)⟩
              · rintro ⟨h1, h2⟩ p hp
                by_cases e : p = q
                · subst e; exact h2
                · exact h1 p (by omega)
            have hno : Hid ([a, b, c, d, f].getD q 0 = x → ¬ Sp.okRef [a, b, c, d, f] k) := fun h hk => (Hok.out.1 hk).2 q hq h
            generalize [a, b, c, d, f].getD q 0 = y at *
            have q0 : (0 : Int) ≤ (q : Int) := by omega
            have q5 : (q : Int) < 5 := by omega
            have k0 : (0 : Int) ≤ (k : Int) := by omega
            have k5 : (k : Int) < 5 := by omega
            by_cases hyx : y = x
            · have t1 : (y == x) = true := beq_iff_eq.2 hyx
              have Hyx := Lib.hid hyx; clear hyx
              go_wp2_with fail
              go_quiet (fail)
              go_wp2_with fail
              go_ret
              exact ⟨ret_bool (by
                cases hr : r with
                | false => rfl
                | true => exact absurd (Hr.out.1 hr k hlt) (hno.out Hyx.out)), (HB.out.trans (below_drewN _ _ _)).trans (below_drewN _ _ _)⟩
            · have t1 : (y == x) = false := beq_eq_false_iff_ne.2 hyx
              have Hyx := Lib.hid hyx; clear hyx
              go_wp2_with fail
              go_quiet (fail)
              go_wp2_with fail
              go_roundw
              case rel => exact ⟨⟨q + 1, by omega, by go_num, hHy.out.2 ⟨Hq.out, Hyx.out⟩⟩, _, by first | rfl | exact World.drewN_drewN _ _ _⟩
              case measure => simp [intOf]; omega
          · obtain rfl : q = k := by omega
            go_wp2
            go_roundw
            case rel => exact ⟨⟨q + 1, by omega, by go_num, fun j hj => by
              by_cases e : j = q
              · subst e; exact Hok.out.2 ⟨Hs.out, Hq.out⟩
              · exact Hk.out j (by omega)⟩, _, rfl⟩
            case measure => simp [intOf]; omega
    · go_wp2
      go_ret
      exact ⟨ret_bool (Hr.out.2 fun j hj => Hk.out j (by omega)).symm, HB.out.trans (below_drewN _ _ _)⟩
end Rf
end Go.Proofs.YtkiloebfjooogaaDoor
