/-
  A part of the proof of this seat's laws: the reference's letters, digits, insides.
-/
import Derived.Test.YtkiloebfjooogaaDoorEp8
import Derived.Test.YtkiloebfjooogaaDoorRf6
namespace Go.Proofs.YtkiloebfjooogaaDoor
set_option linter.unusedVariables false
set_option linter.unusedSimpArgs false
open Go.RowKit Go.Shelf
namespace Sp
/-- the letter of a sign; 0: it is none -/
def letterOf (F P R E U c : UInt8) : UInt8 := if c = F then 70 else if c = P then 83 else if c = U then 84 else if c = R then 82 else if c = E then 69 else 0
section
variable (F P R E U : UInt8)
theorem ins_some (c : UInt8) : (ins F P R E U c).isSome = (letterOf F P R E U c != 0 || (c == 11 || (c == 13 || c == 28))) := by
  rw [ins_eq]
  unfold letterOf
  by_cases h1 : c = 11
  · subst h1; simp
  by_cases h2 : c = 13
  · subst h2; simp
  by_cases h3 : c = 28
  · subst h3; simp
  rw [if_neg h1, if_neg h2, if_neg h3]
  have e1 : (c == 11) = false := beq_eq_false_iff_ne.2 h1
  have e2 : (c == 13) = false := beq_eq_false_iff_ne.2 h2
  have e3 : (c == 28) = false := beq_eq_false_iff_ne.2 h3
  rw [e1, e2, e3]
  by_cases h4 : c = F
  · rw [if_pos h4, if_pos h4]; rfl
  rw [if_neg h4, if_neg h4]
  by_cases h5 : c = P
  · rw [if_pos h5, if_pos h5]; rfl
  rw [if_neg h5, if_neg h5]
  by_cases h6 : c = U
  · rw [if_pos h6, if_pos h6]; rfl
  rw [if_neg h6, if_neg h6]
  by_cases h7 : c = R
  · rw [if_pos h7, if_pos h7]; rfl
  rw [if_neg h7, if_neg h7]
  by_cases h8 : c = E
  · rw [if_pos h8, if_pos h8]; rfl
  rw [if_neg h8, if_neg h8]; rfl
variable {F P R E U}
theorem ins_letter (r : Rt F P R E U) {c : UInt8} (h : letterOf F P R E U c ≠ 0) : ins F P R E U c = some [letterOf F P R E U c] := by
  rw [ins_eq]
  have n1 : c = F ∨ c = P ∨ c = U ∨ c = R ∨ c = E := by
    unfold letterOf at h
    by_cases h4 : c = F
    · exact .inl h4
    by_cases h5 : c = P
    · exact .inr (.inl h5)
    by_cases h6 : c = U
    · exact .inr (.inr (.inl h6))
    by_cases h7 : c = R
    · exact .inr (.inr (.inr (.inl h7)))
    by_cases h8 : c = E
    · exact .inr (.inr (.inr (.inr h8)))
    rw [if_neg h4, if_neg h5, if_neg h6, if_neg h7, if_neg h8] at h
    exact absurd rfl h
  have hn : c ≠ 11 ∧ c ≠ 13 ∧ c ≠ 28 := by
    rcases n1 with rfl | rfl | rfl | rfl | rfl
    · exact r.sF.ne
    · exact r.sP.ne
    · exact r.sU.ne
    · exact r.sR.ne
    · exact r.sE.ne
  rw [if_neg hn.1, if_neg hn.2.1, if_neg hn.2.2]
  unfold letterOf at h ⊢
  by_cases h4 : c = F
  · rw [if_pos h4, if_pos h4]
  rw [if_neg h4, if_neg h4]
  by_cases h5 : c = P
  · rw [if_pos h5, if_pos h5]
  rw [if_neg h5, if_neg h5]
  by_cases h6 : c = U
  · rw [if_pos h6, if_pos h6]
  rw [if_neg h6, if_neg h6]
  by_cases h7 : c = R
  · rw [if_pos h7, if_pos h7]
  rw [if_neg h7, if_neg h7]
  by_cases h8 : c = E
  · rw [if_pos h8, if_pos h8]
  rw [if_neg h4, if_neg h5, if_neg h6, if_neg h7, if_neg h8] at h
  exact absurd rfl h
theorem ins_zero {c : UInt8} (h : letterOf F P R E U c = 0) : ins F P R E U c = if c = 11 then some [88, 48, 66] else if c = 13 then some [88, 48, 68] else if c = 28 then some [88, 49, 67] else none := by
  rw [ins_eq]
  unfold letterOf at h
  by_cases h4 : c = F
  · rw [if_pos h4] at h; exact absurd h (by decide)
  rw [if_neg h4] at h
  by_cases h5 : c = P
  · rw [if_pos h5] at h; exact absurd h (by decide)
  rw [if_neg h5] at h
  by_cases h6 : c = U
  · rw [if_pos h6] at h; exact absurd h (by decide)
  rw [if_neg h6] at h
  by_cases h7 : c = R
  · rw [if_pos h7] at h; exact absurd h (by decide)
  rw [if_neg h7] at h
  by_cases h8 : c = E
  · rw [if_pos h8] at h; exact absurd h (by decide)
  rw [if_neg h4, if_neg h5, if_neg h6, if_neg h7, if_neg h8]
end
/-- a digit's number -/
def hdi (c : UInt8) : Int := match hdv c with
  | some v => v
  | none => -1
theorem hdi_some {c : UInt8} {v : Nat} (h : hdv c = some v) : hdi c = v := by unfold hdi; rw [h]
theorem hdi_none {c : UInt8} (h : hdv c = none) : hdi c = -1 := by unfold hdi; rw [h]
section
variable (F P R E U : UInt8)
theorem tell_short {x : List UInt8} (h1 : x ≠ [70]) (h2 : x ≠ [83]) (h3 : x ≠ [84]) (h4 : x ≠ [82]) (h5 : x ≠ [69]) (h : x.length < 3 ∨ x.length % 2 = 0 ∨ x.head? ≠ some 88) : tell F P R E U x = none := by
  have hs : x ≠ [88, 48, 66] ∧ x ≠ [88, 48, 68] ∧ x ≠ [88, 49, 67] := by
    refine ⟨?_, ?_, ?_⟩ <;> rintro rfl <;> simp at h
  unfold tell inv
  rw [if_neg hs.1, if_neg hs.2.1, if_neg hs.2.2, if_neg h1, if_neg h2, if_neg h3, if_neg h4, if_neg h5]
  show hexT x = none
  cases x with
  | nil => rfl
  | cons c l =>
    show (if c = 88 ∧ l ≠ [] then unhex l else none) = none
    by_cases hc : c = 88 ∧ l ≠ []
    · rw [if_pos hc]
      cases hu : unhex l with
      | none => rfl
      | some t =>
        have h6 := unhex_len hu
        have h7 := List.length_pos_iff.2 hc.2
        rcases h with h | h | h
        · simp at h; omega
        · simp at h; omega
        · exact absurd (by rw [hc.1]; rfl) h
    · rw [if_neg hc]
end
end Sp
namespace Es
open Ap Mp Sg
set_option maxHeartbeats 4000000
theorem rright_calls (F P R E U : UInt8) (w : World) : Calls Tryd.prog 14 #[dv F P R E U] w fun e w' => e = .returned (.bool (rtB F P R E U)) ∧ Below w.heap.size w w' :=
  Rf.rright_calls _ _ _ _ _ w
theorem digit_calls (c : UInt8) (w : World) : Calls Tryd.prog 37 #[.int .u8 (c.toNat : Int)] w fun e w' => e = .returned (.int .i64 (Sp.hdi c)) ∧ w' = w := by
  have hc := c.toNat_lt
  cases hv : Sp.hdv c with
  | some v =>
    rw [Sp.hdi_some hv]
    rcases Sp.hdv_cases hv with ⟨h1, h2, h3⟩ | ⟨h1, h2, h3⟩
    · have e1 : 48 ≤ (c.toNat : Int) := by omega
      have e2 : (c.toNat : Int) ≤ 57 := by omega
      have e3 : (v : Int) = (c.toNat : Int) - 48 := by omega
      rw [e3]
      have hw : IntKind.i64.wrap ((c.toNat : Int) - 48) = (c.toNat : Int) - 48 := IntWalk.i64_in _ (by omega)
      clear hv h1 h2 h3 e3
      go_enter Tryd.func37, Tryd.ntmps37
      go_wp2
      go_ret
      exact ⟨rfl, rfl⟩
    · have e1 : 48 ≤ (c.toNat : Int) := by omega
      have e2 : ¬ (c.toNat : Int) ≤ 57 := by omega
      have e4 : 65 ≤ (c.toNat : Int) := by omega
      have e5 : (c.toNat : Int) ≤ 70 := by omega
      have e3 : (v : Int) = (c.toNat : Int) - 55 := by omega
      rw [e3]
      have hw : IntKind.i64.wrap ((c.toNat : Int) - 55) = (c.toNat : Int) - 55 := IntWalk.i64_in _ (by omega)
      clear hv h1 h2 h3 e3
      go_enter Tryd.func37, Tryd.ntmps37
      go_wp2
      go_ret
      exact ⟨rfl, rfl⟩
  | none =>
    rw [Sp.hdi_none hv]
    have hn : ¬ (48 ≤ c.toNat ∧ c.toNat ≤ 57) ∧ ¬ (65 ≤ c.toNat ∧ c.toNat ≤ 70) := by
      unfold Sp.hdv at hv
      refine ⟨fun h => ?_, fun h => ?_⟩
      · rw [if_pos h] at hv; cases hv
      · rw [if_neg (by omega), if_pos h] at hv; cases hv
    clear hv
    by_cases e1 : 48 ≤ (c.toNat : Int)
    · have e2 : ¬ (c.toNat : Int) ≤ 57 := by omega
      by_cases e4 : 65 ≤ (c.toNat : Int)
      · have e5 : ¬ (c.toNat : Int) ≤ 70 := by omega
        clear hn
        go_enter Tryd.func37, Tryd.ntmps37
        go_wp2
        go_ret
        exact ⟨rfl, rfl⟩
      · clear hn
        go_enter Tryd.func37, Tryd.ntmps37
        go_wp2
        go_ret
        exact ⟨rfl, rfl⟩
    · have e4 : ¬ 65 ≤ (c.toNat : Int) := by omega
      clear hn
      go_enter Tryd.func37, Tryd.ntmps37
      go_wp2
      go_ret
      exact ⟨rfl, rfl⟩
theorem beq_byte (c v : UInt8) : ((c.toNat : Int) == (v.toNat : Int)) = decide (c = v) := by
  by_cases hv : c = v
  · rw [hv]; simp
  · rw [decide_eq_false hv, beq_eq_false_iff_ne]; intro e; exact hv (UInt8.toNat_inj.1 (by omega))
theorem letter_calls (c F P R E U : UInt8) (w : World) : Calls Tryd.prog 28 #[.int .u8 (c.toNat : Int), dv F P R E U] w fun e w' => e = .returned (.int .u8 ((Sp.letterOf F P R E U c).toNat : Int)) ∧ Below w.heap.size w w' := by
  have huD := Tryd.underlying23
  have hB0 : Below w.heap.size w (w.alloc (.cells #[.int .u8 (F.toNat : Int), .int .u8 (P.toNat : Int), .int .u8 (R.toNat : Int), .int .u8 (E.toNat : Int), .int .u8 (U.toNat : Int)] 23)) := (Below.refl _ _).alloc (Nat.le_refl _) _
  have hc0 := (Dl.Five.new (F.toNat : Int) (P.toNat : Int) (R.toNat : Int) (E.toNat : Int) (U.toNat : Int) w).cells
  have q1 := beq_byte c F
  have q2 := beq_byte c P
  have q3 := beq_byte c U
  have q4 := beq_byte c R
  have q5 := beq_byte c E
  unfold Sp.letterOf
  by_cases h1 : c = F
  · rw [decide_eq_true h1] at q1
    rw [if_pos h1]
    clear q2 q3 q4 q5 h1
    go_enter Tryd.func28, Tryd.ntmps28
    go_wp2_with fail
    go_ret
    exact ⟨rfl, hB0⟩
  rw [decide_eq_false h1] at q1
  rw [if_neg h1]
  by_cases h2 : c = P
  · rw [decide_eq_true h2] at q2
    rw [if_pos h2]
    clear q3 q4 q5 h1 h2
    go_enter Tryd.func28, Tryd.ntmps28
    go_wp2_with fail
    go_ret
    exact ⟨rfl, hB0⟩
  rw [decide_eq_false h2] at q2
  rw [if_neg h2]
  by_cases h3 : c = U
  · rw [decide_eq_true h3] at q3
    rw [if_pos h3]
    clear q4 q5 h1 h2 h3
    go_enter Tryd.func28, Tryd.ntmps28
    go_wp2_with fail
    go_ret
    exact ⟨rfl, hB0⟩
  rw [decide_eq_false h3] at q3
  rw [if_neg h3]
  by_cases h4 : c = R
  · rw [decide_eq_true h4] at q4
    rw [if_pos h4]
    clear q5 h1 h2 h3 h4
    go_enter Tryd.func28, Tryd.ntmps28
    go_wp2_with fail
    go_ret
    exact ⟨rfl, hB0⟩
  rw [decide_eq_false h4] at q4
  rw [if_neg h4]
  by_cases h5 : c = E
  · rw [decide_eq_true h5] at q5
    rw [if_pos h5]
    clear h1 h2 h3 h4 h5
    go_enter Tryd.func28, Tryd.ntmps28
    go_wp2_with fail
    go_ret
    exact ⟨rfl, hB0⟩
  rw [decide_eq_false h5] at q5
  rw [if_neg h5]
  clear h1 h2 h3 h4 h5
  go_enter Tryd.func28, Tryd.ntmps28
  go_wp2_with fail
  go_ret
  exact ⟨rfl, hB0⟩
end Es
end Go.Proofs.YtkiloebfjooogaaDoor
