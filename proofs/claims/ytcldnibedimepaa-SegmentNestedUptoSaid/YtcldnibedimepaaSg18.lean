/-
  A part of the proof of this seat's laws: what is told by a segment that was made.
-/
import Derived.Test.YtcldnibedimepaaSg13
import Derived.Test.YtcldnibedimepaaSg17
import Derived.Test.YtcldnibedimepaaSg6
import Derived.Test.YtcldnibedimepaaQr
namespace Go.Proofs.Ytcldnibedimepaa
set_option linter.unusedVariables false
set_option linter.unusedSimpArgs false
namespace Sp
/-- a letter of a name -/
def let_ (c : UInt8) : UInt8 := UInt8.ofNat (65 + c.toNat % 26)
theorem let_nat (c : UInt8) : (let_ c).toNat = 65 + c.toNat % 26 := by
  unfold let_
  rw [UInt8.toNat_ofNat']
  have := Nat.mod_lt c.toNat (show 0 < 26 by decide)
  omega
theorem let_ne (c : UInt8) : let_ c ≠ 124 := fun h => by
  have h1 := let_nat c
  rw [h] at h1
  have h2 : (124 : UInt8).toNat = 124 := rfl
  have := Nat.mod_lt c.toNat (show 0 < 26 by decide)
  omega
/-- the name of three letters -/
def name3 (a b c : UInt8) : List UInt8 := if [let_ a, let_ b, let_ c] = msh then [77, 83, 65] else [let_ a, let_ b, let_ c]
theorem name3_ok (a b c : UInt8) : (name3 a b c).length = 3 ∧ name3 a b c ≠ msh ∧ (124 : UInt8) ∉ name3 a b c := by
  unfold name3
  split
  · exact ⟨rfl, by decide, by decide⟩
  · rename_i h
    refine ⟨rfl, h, ?_⟩
    simp only [List.mem_cons, List.not_mem_nil, or_false, not_or]
    exact ⟨fun e => let_ne a e.symm, fun e => let_ne b e.symm, fun e => let_ne c e.symm⟩
theorem cut_tail (c : UInt8) : ∀ (x : List UInt8) (l : List (List UInt8)), c ∉ x → (∀ y ∈ l, c ∉ y) → cutL c (x ++ Lib.joinTail [c] l) = x :: l
  | x, [], hx, _ => by
    rw [show Lib.joinTail [c] [] = [] from rfl, List.append_nil, cutL_none hx]
  | x, y :: l, hx, hl => by
    have e : Lib.joinTail [c] (y :: l) = c :: (y ++ Lib.joinTail [c] l) := by simp [Lib.joinTail]
    rw [e, cutL_mid, cutL_none hx, cut_tail c y l (hl y (by simp)) (fun z hz => hl z (by simp [hz]))]; rfl
/-- what a segment tells of a name and fields -/
def Tells (nm : List UInt8) (l : List (List UInt8)) : Prop := (make 124 nm l).take 3 = nm ∧ fields (make 124 nm l) 124 = l
theorem tells_name {nm : List UInt8} {l : List (List UInt8)} (h3 : nm.length = 3) (hm : nm ≠ msh) (hf : (124 : UInt8) ∉ nm) (hl : ∀ y ∈ l, (124 : UInt8) ∉ y) : Tells nm l := by
  have e : make 124 nm l = nm ++ Lib.joinTail [124] l := by unfold make; rw [if_neg hm]
  have t3 : (make 124 nm l).take 3 = nm := by rw [e, List.take_append_of_le_length (by omega), List.take_of_length_le (by omega)]
  refine ⟨t3, ?_⟩
  unfold fields
  rw [t3, if_pos hm, e, cut_tail 124 nm l hf hl]; rfl
/-- the signs as fields -/
abbrev two : List (List UInt8) := [[124], [94, 126, 92, 38]]
theorem tells_head {l : List (List UInt8)} (hl : ∀ y ∈ l, (124 : UInt8) ∉ y) : Tells msh (two ++ l) := by
  have e : make 124 msh (two ++ l) = msh ++ [124] ++ ([94, 126, 92, 38] ++ Lib.joinTail [124] l) := by
    unfold make; rw [if_pos rfl]; simp
  have t3 : (make 124 msh (two ++ l)).take 3 = msh := by rw [e]; rfl
  have t4 : (make 124 msh (two ++ l)).take 4 = msh ++ [124] := by rw [e]; rfl
  have d4 : (make 124 msh (two ++ l)).drop 4 = [94, 126, 92, 38] ++ Lib.joinTail [124] l := by rw [e]; rfl
  refine ⟨t3, ?_⟩
  unfold fields
  rw [t3, if_neg (not_not_intro rfl), if_pos t4, d4, cut_tail 124 _ l (by decide) hl]; rfl
end Sp
end Go.Proofs.Ytcldnibedimepaa
