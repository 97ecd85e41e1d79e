/-
  A part of the proof of this seat's laws: components joined to repetitions, plainly.
-/
import Derived.Test.YtcldnibedimepaaSg18
import Derived.Test.YtcldnibedimepaaSg9
namespace Go.Proofs.Ytcldnibedimepaa
set_option linter.unusedVariables false
set_option linter.unusedSimpArgs false
namespace Sp
/-- a repetition of components -/
abbrev rep (L : List (List UInt8)) : List UInt8 := Lib.join L [94]
/-- a field of repetitions -/
def nest (own : List (List (List UInt8))) : List UInt8 := Lib.join (own.map rep) [126]
/-- texts that have neither sign, in lists that are not empty -/
def Fine (own : List (List (List UInt8))) : Prop := ∀ L ∈ own, L ≠ [] ∧ ∀ x ∈ L, (126 : UInt8) ∉ x ∧ (94 : UInt8) ∉ x
theorem cut_join_one {c : UInt8} {L : List (List UInt8)} (h0 : L ≠ []) (h : ∀ x ∈ L, c ∉ x) : cutL c (Lib.join L [c]) = L := by
  cases L with
  | nil => exact (h0 rfl).elim
  | cons x l => rw [Lib.join_cons]; exact cut_tail c x l (h x (by simp)) (fun y hy => h y (by simp [hy]))
theorem not_mem_tail {c s : UInt8} (hs : c ≠ s) : ∀ {l : List (List UInt8)}, (∀ x ∈ l, c ∉ x) → c ∉ Lib.joinTail [s] l
  | [], _ => by simp [Lib.joinTail]
  | x :: l, h => by
    have ih := not_mem_tail hs (l := l) (fun y hy => h y (by simp [hy]))
    have e : Lib.joinTail [s] (x :: l) = s :: (x ++ Lib.joinTail [s] l) := by simp [Lib.joinTail]
    rw [e]
    simp only [List.mem_cons, List.mem_append, not_or]
    exact ⟨hs, h x (by simp), ih⟩
theorem not_mem_join {c s : UInt8} (hs : c ≠ s) {L : List (List UInt8)} (h : ∀ x ∈ L, c ∉ x) : c ∉ Lib.join L [s] := by
  cases L with
  | nil => simp [Lib.join]
  | cons x l =>
    rw [Lib.join_cons, List.mem_append, not_or]
    exact ⟨h x (by simp), not_mem_tail hs (fun y hy => h y (by simp [hy]))⟩
theorem cut_nest {own : List (List (List UInt8))} (h0 : own ≠ []) (h : Fine own) : cutL 126 (nest own) = own.map rep := by
  refine cut_join_one (by simpa using h0) ?_
  intro x hx
  obtain ⟨L, hL, rfl⟩ := List.mem_map.1 hx
  exact not_mem_join (by decide) (fun y hy => ((h L hL).2 y hy).1)
theorem parts_nest {own : List (List (List UInt8))} (h0 : own ≠ []) (h : Fine own) {i : Nat} {L : List (List UInt8)} (hi : own[i]? = some L) : parts (nest own) ((i : Int) + 1) 94 126 = L := by
  have hil := (List.getElem?_eq_some_iff.1 hi).1
  have hLm := List.mem_of_getElem? hi
  unfold parts
  rw [cut_nest h0 h, List.length_map, if_pos ⟨by omega, by omega⟩]
  have hp := pick_at (l := own.map rep) (j := i) (by simpa using hil)
  rw [List.getElem?_map, hi] at hp
  rw [← Option.some.inj hp]
  exact cut_join_one (h L hLm).1 (fun x hx => ((h L hLm).2 x hx).2)
/-- how the field grows: a text more -/
theorem rep_snoc (L : List (List UInt8)) (x : List UInt8) (h : L ≠ []) : rep (L ++ [x]) = rep L ++ [94] ++ x := by
  cases L with
  | nil => exact (h rfl).elim
  | cons y l => rw [rep, List.cons_append, Lib.join_cons, rep, Lib.join_cons, tail_snoc]; simp
theorem rep_one (x : List UInt8) : rep [x] = x := by rw [rep, Lib.join_cons]; simp [Lib.joinTail]
theorem nest_snoc (own : List (List (List UInt8))) (L : List (List UInt8)) (h : own ≠ []) : nest (own ++ [L]) = nest own ++ [126] ++ rep L := by
  cases own with
  | nil => exact (h rfl).elim
  | cons y l => rw [nest, List.map_append, List.map_cons, List.cons_append, Lib.join_cons, List.map_cons, List.map_nil, tail_snoc, nest, List.map_cons, Lib.join_cons]; simp
theorem nest_one (L : List (List UInt8)) : nest [L] = rep L := by rw [nest, List.map_cons, List.map_nil, Lib.join_cons]; simp [Lib.joinTail]
end Sp
end Go.Proofs.Ytcldnibedimepaa
