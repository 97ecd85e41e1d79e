/-
  A part of the proof of this seat's laws.
-/
import Derived.Test.YtkjhjeaeffooaaaAl6
namespace Go.Proofs.Ytkjhjeaeffooaaa
set_option linter.unusedVariables false
set_option linter.unusedSimpArgs false
open Go.RowKit
namespace Dl
set_option maxHeartbeats 4000000
/-- a byte that no sign may be -/
theorem lawRight (a b c d f v : Int) (w : World) (ha : Sp.isByte a) (hb : Sp.isByte b) (hc : Sp.isByte c) (hd : Sp.isByte d) (hf : Sp.isByte f) (hv : Sp.isByte v) :
    Calls Try.prog 3 #[.agg #[.int .u8 a, .int .u8 b, .int .u8 c, .int .u8 d, .int .u8 f], .int .u8 v] w fun e w' => e = .returned (.bool true) ∧ Below w.heap.size w w' := by
  have huD := Try.underlying23
  have h5 := Five.new a b c d f w
  have hB : Below w.heap.size w (w.alloc (.cells #[.int .u8 a, .int .u8 b, .int .u8 c, .int .u8 d, .int .u8 f] 23)) := (Below.refl _ _).alloc (Nat.le_refl _) _
  have c1 := fun W => right_calls a b c d f W ha hb hc hd hf
  have c2 := fun W => right_calls f d a b c W hf hd ha hb hc
  have c3 := fun W => right_calls a a c d f W ha ha hc hd hf
  have c4 := fun W => right_calls a b v d f W ha hb hv hd hf
  rw [Sp.right_turned] at c2
  rw [Sp.right_twice] at c3
  have c4 : Sp.sgn v = false → ∀ W, Calls Try.prog 6 #[.agg #[.int .u8 a, .int .u8 b, .int .u8 v, .int .u8 d, .int .u8 f]] W fun e w' => e = .returned (.bool false) ∧ Below W.heap.size W w' :=
    fun h W => by have := c4 W; rw [Sp.right_other _ _ _ _ _ h] at this; exact this
  clear ha hb hc hd hf hv
  generalize Sp.right a b c d f = r at *
  have C2 := fun W => Lib.hid (c2 W)
  have C3 := fun W => Lib.hid (c3 W)
  have C4 := Lib.hid c4
  clear c2 c3 c4
  go_enter Try.func3, Try.ntmps3
  go_wp2_with fail
  generalize (w.alloc (.cells #[.int .u8 a, .int .u8 b, .int .u8 c, .int .u8 d, .int .u8 f] 23)) = W at *
  refine (c1 _).mono ?_
  rintro e w1 ⟨rfl, hb1⟩
  have k1 := Five.keep ⟨hB, h5⟩ hb1
  clear hB h5 hb1 W
  obtain ⟨hB, h5⟩ := k1
  have hc5 := h5.cells
  have hz := hB.size
  have hlt := h5.lt
  have h6 := (Five.new f d a b c w1)
  have hB2 := hB.alloc hz (.cells #[.int .u8 f, .int .u8 d, .int .u8 a, .int .u8 b, .int .u8 c] 23)
  have h52 := h5.alloc (.cells #[.int .u8 f, .int .u8 d, .int .u8 a, .int .u8 b, .int .u8 c] 23)
  go_wp2_with fail
  generalize w1.alloc (.cells #[.int .u8 f, .int .u8 d, .int .u8 a, .int .u8 b, .int .u8 c] 23) = W2 at *
  clear hB h5 hc5 hz
  have k0 := h52.drew.cells
  have k1 := fun X => (h52.alloc X).drew.cells
  have k2 := fun X Y => ((h52.alloc X).alloc Y).drew.cells
  go_region_held3 (fun w' => w'.cell? ⟨w.heap.size, 0, none⟩ = some (.int .u8 a) ∧ w'.cell? ⟨w.heap.size, 1, none⟩ = some (.int .u8 b) ∧ w'.cell? ⟨w.heap.size, 2, none⟩ = some (.int .u8 c) ∧
    w'.cell? ⟨w.heap.size, 3, none⟩ = some (.int .u8 d) ∧ w'.cell? ⟨w.heap.size, 4, none⟩ = some (.int .u8 f)) (first | exact k0 | exact k1 _ | exact k2 _ _) (fail)
  all_goals clear k0 k1 k2
  all_goals
    go_wp2_with fail
    refine (alive_calls _).mono ?_
    rintro e w3 ⟨rfl, hb3⟩
    replace hb3 := Qr.undrew hb3
    have k3 : ∀ X Y : Obj, Below ((W2.alloc X).alloc Y).heap.size ((W2.alloc X).alloc Y) w3 → Below w.heap.size w w3 ∧ Five w1.heap.size f d a b c w3 := fun X Y hb =>
      have hB4 := (hB2.alloc hB2.size X).alloc (Nat.le_trans hB2.size (by simp)) Y
      ⟨hB4.trans (hb.mono hB4.size), ((h6.alloc X).alloc Y).below hb ((h6.alloc X).alloc Y).lt⟩
    obtain ⟨hB3, h63⟩ := k3 _ _ hb3
  · have h7 : Five W2.heap.size a a c d f w3 := ((Five.new a a c d f W2).alloc (.cells #[.int .u8 a, .int .u8 b, .int .u8 v, .int .u8 d, .int .u8 f] 23)).below hb3 ((Five.new a a c d f W2).alloc (.cells #[.int .u8 a, .int .u8 b, .int .u8 v, .int .u8 d, .int .u8 f] 23)).lt
    have h8 : Five (W2.heap.size + 1) a b v d f w3 := by
      have h := Five.new a b v d f (W2.alloc (.cells #[.int .u8 a, .int .u8 a, .int .u8 c, .int .u8 d, .int .u8 f] 23))
      rw [World.size_alloc] at h
      exact h.below hb3 h.lt
    clear hb3 h52 h6 hB2 hlt k3
    generalize W2.heap.size + 1 = g8 at *
    generalize W2.heap.size = g7 at *
    have hc6 := h63.cells
    go_wp2_with fail
    cases r
    all_goals
      refine (C2 _).out.mono ?_
      rintro e w4 ⟨rfl, hb4⟩
      have h64 := h63.below hb4 h63.lt
      have h74 := h7.below hb4 h7.lt
      have h84 := h8.below hb4 h8.lt
      have hB4 := hB3.trans (hb4.mono hB3.size)
      clear hc6 h63 h7 h8 hb4 hB3 w3
      have hc7 := h74.cells
      go_wp2_with fail
      refine (C3 _).out.mono ?_
      rintro e w5 ⟨rfl, hb5⟩
      have h85 := h84.below hb5 h84.lt
      have hB5 := hB4.trans (hb5.mono hB4.size)
      clear hc7 h64 h74 h84 hB4 hb5
      have hc8 := h85.cells
      have hv9 : (97 ≤ v ∧ v ≤ 122) ∨ (65 ≤ v ∧ v ≤ 90) ∨ (48 ≤ v ∧ v ≤ 57) ∨ v ≤ 32 ∨ 126 < v ∨ (33 ≤ v ∧ v ≤ 47) ∨ (58 ≤ v ∧ v ≤ 64) ∨ (91 ≤ v ∧ v ≤ 96) ∨ (123 ≤ v ∧ v ≤ 126) := by omega
      have hsg : Hid (((97 ≤ v ∧ v ≤ 122) ∨ (65 ≤ v ∧ v ≤ 90) ∨ (48 ≤ v ∧ v ≤ 57) ∨ v ≤ 32 ∨ 126 < v) → Sp.sgn v = false) := fun h => by unfold Sp.sgn; exact decide_eq_false (by omega)
      rcases hv9 with hv | hv | hv | hv | hv | hv | hv | hv | hv
      all_goals
        go_wp2_with (go_at_call 6; refine (C4.out (hsg.out (by omega)) _).mono ?_; rintro e w6 ⟨rfl, hb6⟩; have hB6 := hB5.trans (hb6.mono hB5.size))
        go_ret
        exact ⟨rfl, by first | exact hB6 | exact hB5⟩
  · have h8 : Five W2.heap.size a b v d f w3 := ((Five.new a b v d f W2).alloc (.cells #[.int .u8 a, .int .u8 a, .int .u8 c, .int .u8 d, .int .u8 f] 23)).below hb3 ((Five.new a b v d f W2).alloc (.cells #[.int .u8 a, .int .u8 a, .int .u8 c, .int .u8 d, .int .u8 f] 23)).lt
    have h7 : Five (W2.heap.size + 1) a a c d f w3 := by
      have h := Five.new a a c d f (W2.alloc (.cells #[.int .u8 a, .int .u8 b, .int .u8 v, .int .u8 d, .int .u8 f] 23))
      rw [World.size_alloc] at h
      exact h.below hb3 h.lt
    clear hb3 h52 h6 hB2 hlt k3
    generalize W2.heap.size + 1 = g7 at *
    generalize W2.heap.size = g8 at *
    have hc6 := h63.cells
    go_wp2_with fail
    cases r
    all_goals
      refine (C2 _).out.mono ?_
      rintro e w4 ⟨rfl, hb4⟩
      have h64 := h63.below hb4 h63.lt
      have h74 := h7.below hb4 h7.lt
      have h84 := h8.below hb4 h8.lt
      have hB4 := hB3.trans (hb4.mono hB3.size)
      clear hc6 h63 h7 h8 hb4 hB3 w3
      have hc7 := h74.cells
      go_wp2_with fail
      refine (C3 _).out.mono ?_
      rintro e w5 ⟨rfl, hb5⟩
      have h85 := h84.below hb5 h84.lt
      have hB5 := hB4.trans (hb5.mono hB4.size)
      clear hc7 h64 h74 h84 hB4 hb5
      have hc8 := h85.cells
      have hv9 : (97 ≤ v ∧ v ≤ 122) ∨ (65 ≤ v ∧ v ≤ 90) ∨ (48 ≤ v ∧ v ≤ 57) ∨ v ≤ 32 ∨ 126 < v ∨ (33 ≤ v ∧ v ≤ 47) ∨ (58 ≤ v ∧ v ≤ 64) ∨ (91 ≤ v ∧ v ≤ 96) ∨ (123 ≤ v ∧ v ≤ 126) := by omega
      have hsg : Hid (((97 ≤ v ∧ v ≤ 122) ∨ (65 ≤ v ∧ v ≤ 90) ∨ (48 ≤ v ∧ v ≤ 57) ∨ v ≤ 32 ∨ 126 < v) → Sp.sgn v = false) := fun h => by unfold Sp.sgn; exact decide_eq_false (by omega)
      rcases hv9 with hv | hv | hv | hv | hv | hv | hv | hv | hv
      all_goals
        go_wp2_with (go_at_call 6; refine (C4.out (hsg.out (by omega)) _).mono ?_; rintro e w6 ⟨rfl, hb6⟩; have hB6 := hB5.trans (hb6.mono hB5.size))
        go_ret
        exact ⟨rfl, by first | exact hB6 | exact hB5⟩
end Dl
end Go.Proofs.Ytkjhjeaeffooaaa
