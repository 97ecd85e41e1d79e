/-
  A part of the proof of this seat's laws: texts between signs, plainly.
-/
import Derived.Lib.Bytealg
import Derived.Lib.IndexLaws
import Derived.Lib.Strings
namespace Go.Proofs.YtpchfmeaplhodaaDoor
set_option linter.unusedVariables false
set_option linter.unusedSimpArgs false
namespace Sp
/-- the texts between a byte -/
def cutL (c : UInt8) : List UInt8 → List (List UInt8)
  | [] => [[]]
  | x :: l => if x = c then [] :: cutL c l else (x :: (cutL c l).headD []) :: (cutL c l).tail
/-- a list of bytes as a string -/
def bs (l : List UInt8) : ByteArray := ⟨l.toArray⟩
theorem bs_data (s : ByteArray) : bs s.data.toList = s := by unfold bs; simp
theorem bs_list (l : List UInt8) : (bs l).data.toList = l := by unfold bs; simp
theorem bs_size (l : List UInt8) : (bs l).size = l.length := by unfold bs; simp [ByteArray.size]
theorem bs_toList (l : List UInt8) : (bs l).toList = l := by rw [ByteArray.toList_eq, bs_list]
theorem bs_inj {l m : List UInt8} (h : bs l = bs m) : l = m := by rw [← bs_list l, h, bs_list]
theorem bs_extract (l : List UInt8) (a b : Nat) : (bs l).extract a b = bs ((l.drop a).take (b - a)) := by
  rw [← bs_data ((bs l).extract a b)]
  congr 1
  rw [ByteArray.data_extract]
  simp [bs, List.extract_eq_take_drop]
theorem bs_append (l m : List UInt8) : bs l ++ bs m = bs (l ++ m) := by
  rw [← bs_data (bs l ++ bs m), ByteArray.data_append, Array.toList_append, bs_list, bs_list]
theorem cutL_nil (c : UInt8) : cutL c [] = [[]] := rfl
theorem cutL_eq {c x : UInt8} (l : List UInt8) (h : x = c) : cutL c (x :: l) = [] :: cutL c l := by rw [cutL, if_pos h]
theorem cutL_other {c x : UInt8} (l : List UInt8) (h : x ≠ c) : cutL c (x :: l) = (x :: (cutL c l).headD []) :: (cutL c l).tail := by rw [cutL, if_neg h]
theorem cutL_ne (c : UInt8) (l : List UInt8) : cutL c l ≠ [] := by
  cases l with
  | nil => simp [cutL]
  | cons x l => rw [cutL]; split <;> simp
theorem cutL_pos (c : UInt8) (l : List UInt8) : 0 < (cutL c l).length := List.length_pos_iff.2 (cutL_ne c l)
theorem cutL_miss (c : UInt8) : ∀ (l : List UInt8), Lib.indexByte l c = -1 → cutL c l = [l]
  | [], _ => rfl
  | x :: l, h => by
    unfold Lib.indexByte at h
    by_cases hx : x = c
    · simp [hx] at h
    · rw [if_neg (by simpa using hx)] at h
      have h1 := Lib.indexByte_ge l c
      by_cases h2 : Lib.indexByte l c = -1
      · rw [cutL_other l hx, cutL_miss c l h2]; rfl
      · rw [if_neg (by simpa using h2)] at h
        omega
theorem cutL_hit (c : UInt8) : ∀ (l : List UInt8) (i : Nat), Lib.indexByte l c = i → cutL c l = l.take i :: cutL c (l.drop (i + 1))
  | [], i, h => by simp [Lib.indexByte] at h
  | x :: l, i, h => by
    unfold Lib.indexByte at h
    by_cases hx : x = c
    · rw [if_pos (by simpa using hx)] at h
      obtain rfl : i = 0 := by omega
      rw [cutL_eq l hx]; simp
    · rw [if_neg (by simpa using hx)] at h
      by_cases h2 : Lib.indexByte l c = -1
      · rw [if_pos (by simpa using h2)] at h; omega
      · rw [if_neg (by simpa using h2)] at h
        obtain ⟨j, rfl⟩ : ∃ j, i = j + 1 := ⟨i - 1, by have := Lib.indexByte_ge l c; omega⟩
        rw [cutL_other l hx, cutL_hit c l j (by omega)]
        simp
/-- no sign, one text -/
theorem cutL_none {c : UInt8} : ∀ {l : List UInt8}, c ∉ l → cutL c l = [l]
  | [], _ => rfl
  | x :: l, h => by
    rw [List.mem_cons, not_or] at h
    rw [cutL_other l (fun e => h.1 e.symm), cutL_none h.2]; rfl
/-- each text has none -/
theorem cutL_free (c : UInt8) : ∀ (l : List UInt8), ∀ t ∈ cutL c l, c ∉ t
  | [], t, ht => by simp [cutL] at ht; simp [ht]
  | x :: l, t, ht => by
    by_cases hx : x = c
    · rw [cutL_eq l hx] at ht
      rcases List.mem_cons.1 ht with rfl | ht
      · simp
      · exact cutL_free c l t ht
    · rw [cutL_other l hx] at ht
      rcases List.mem_cons.1 ht with rfl | ht
      · intro hc
        rcases List.mem_cons.1 hc with hc | hc
        · exact hx hc.symm
        · have h0 := cutL_ne c l
          cases h : cutL c l with
          | nil => exact h0 h
          | cons a b =>
            rw [h] at hc
            exact cutL_free c l a (by rw [h]; simp) (by simpa using hc)
      · exact cutL_free c l t (List.mem_of_mem_tail ht)
theorem cutL_length (c : UInt8) : ∀ (l : List UInt8), (cutL c l).length = l.count c + 1
  | [] => rfl
  | x :: l => by
    have h := cutL_length c l
    by_cases hx : x = c
    · rw [cutL_eq l hx]; simp [h, hx]
    · rw [cutL_other l hx]
      have hp := cutL_pos c l
      simp only [List.length_cons, List.length_tail]
      rw [List.count_cons_of_ne hx]
      omega
theorem cutL_mid (c : UInt8) (b : List UInt8) : ∀ a : List UInt8, cutL c (a ++ c :: b) = cutL c a ++ cutL c b
  | [] => by rw [List.nil_append, cutL_eq b rfl]; rfl
  | x :: a => by
    have ih := cutL_mid c b a
    by_cases hx : x = c
    · rw [List.cons_append, cutL_eq _ hx, cutL_eq _ hx, ih]; rfl
    · rw [List.cons_append, cutL_other _ hx, cutL_other _ hx, ih]
      have h0 := cutL_ne c a
      cases h : cutL c a with
      | nil => exact (h0 h).elim
      | cons y l => simp
end Sp
end Go.Proofs.YtpchfmeaplhodaaDoor
