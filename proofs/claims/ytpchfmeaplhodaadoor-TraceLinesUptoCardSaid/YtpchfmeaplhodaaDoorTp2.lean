/-
  A part of the proof of this seat's laws: numbers' texts, plainly.
-/
import Derived.Test.YtpchfmeaplhodaaDoorTp1
import Derived.Lib.AtoiTie
import Derived.Lib.AtoiAllCases
import Derived.Lib.ItoaLen
import Derived.Lib.ItoaMem
import Derived.Lib.Strings
namespace Go.Proofs.YtpchfmeaplhodaaDoor
set_option linter.unusedVariables false
set_option linter.unusedSimpArgs false
namespace Sp
open Lib
theorem decFrom_snoc (b : UInt8) : ∀ (l : List UInt8) (acc : Nat), decFrom acc (l ++ [b]) = (decFrom acc l).bind fun n => (digitVal b).map fun d => n * 10 + d
  | [], acc => by
    simp only [List.nil_append, decFrom, Option.bind_some]
    cases digitVal b <;> rfl
  | a :: l, acc => by
    simp only [List.cons_append, decFrom]
    cases digitVal a with
    | none => rfl
    | some d => exact decFrom_snoc b l _
theorem digitVal_dig (d : Nat) (h : d < 10) : digitVal (UInt8.ofNat (48 + d)) = some d := by
  have key : ∀ n : Fin 10, digitVal (UInt8.ofNat (48 + n.val)) = some n.val := by decide +kernel
  exact key ⟨d, h⟩
theorem digitVal_inv {b : UInt8} {d : Nat} (h : digitVal b = some d) : d < 10 ∧ b = UInt8.ofNat (48 + d) := by
  obtain ⟨h1, h2, h3⟩ := digitVal_eq h
  refine ⟨by omega, ?_⟩
  rw [h3, show 48 + (b.toNat - 48) = b.toNat by omega]
  simp
theorem decDigits_ne (u : Nat) : decDigits u ≠ [] := by
  intro h
  have h1 := decDigits_length u
  rw [h] at h1
  have := nDigits_pos u
  simp at h1; omega
theorem decDigits_big {u : Nat} (h : ¬ u < 10) : decDigits u = decDigits (u / 10) ++ [UInt8.ofNat (48 + u % 10)] := by
  rw [decDigits, dif_neg h]
theorem decFrom_decDigits (u : Nat) : decFrom 0 (decDigits u) = some u := by
  induction u using Nat.strongRecOn with
  | _ u ih =>
    by_cases h : u < 10
    · rw [decDigits_one h]
      show (match digitVal (UInt8.ofNat (48 + u)) with | some d => decFrom (0 * 10 + d) [] | none => none) = _
      rw [digitVal_dig u h]
      show some (0 * 10 + u) = _
      congr 1; omega
    · rw [decDigits_big h, decFrom_snoc, ih (u / 10) (by omega), Option.bind_some, digitVal_dig _ (by omega)]
      simp; omega
theorem head_decDigits {u : Nat} (hu : 1 ≤ u) : (decDigits u).head? ≠ some 48 := by
  induction u using Nat.strongRecOn with
  | _ u ih =>
    by_cases h : u < 10
    · rw [decDigits_one h]
      have key : ∀ n : Fin 10, 1 ≤ n.val → ([UInt8.ofNat (48 + n.val)] : List UInt8).head? ≠ some 48 := by decide +kernel
      exact key ⟨u, h⟩ hu
    · rw [decDigits_big h]
      have h1 := ih (u / 10) (by omega) (by omega)
      cases hd : decDigits (u / 10) with
      | nil => exact absurd hd (decDigits_ne _)
      | cons a l => rw [hd] at h1; simpa using h1
theorem head45_decDigits (u : Nat) : (decDigits u).head? ≠ some 45 := by
  induction u using Nat.strongRecOn with
  | _ u ih =>
    by_cases h : u < 10
    · rw [decDigits_one h]
      have key : ∀ n : Fin 10, ([UInt8.ofNat (48 + n.val)] : List UInt8).head? ≠ some 45 := by decide +kernel
      exact key ⟨u, h⟩
    · rw [decDigits_big h]
      have h1 := ih (u / 10) (by omega)
      cases hd : decDigits (u / 10) with
      | nil => exact absurd hd (decDigits_ne _)
      | cons a l => rw [hd] at h1; simpa using h1
theorem head43_decDigits (u : Nat) : (decDigits u).head? ≠ some 43 := by
  induction u using Nat.strongRecOn with
  | _ u ih =>
    by_cases h : u < 10
    · rw [decDigits_one h]
      have key : ∀ n : Fin 10, ([UInt8.ofNat (48 + n.val)] : List UInt8).head? ≠ some 43 := by decide +kernel
      exact key ⟨u, h⟩
    · rw [decDigits_big h]
      have h1 := ih (u / 10) (by omega)
      cases hd : decDigits (u / 10) with
      | nil => exact absurd hd (decDigits_ne _)
      | cons a l => rw [hd] at h1; simpa using h1
theorem nDigits_le : ∀ (k u : Nat), 1 ≤ k → u < 10 ^ k → nDigits u ≤ k
  | 1, u, _, h => by rw [nDigits_small (by simpa using h)]; exact Nat.le_refl _
  | k + 2, u, _, h => by
    by_cases hu : u < 10
    · rw [nDigits_small hu]; omega
    · rw [nDigits_big hu]
      have := nDigits_le (k + 1) (u / 10) (by omega) (by rw [Nat.pow_succ] at h; omega)
      omega
theorem lt_of_nDigits {u : Nat} (h : nDigits u ≤ 18) : u < 1000000000000000000 :=
  Nat.lt_of_lt_of_le (lt_pow_nDigits u) (by
    have := Nat.pow_le_pow_right (n := 10) (by decide) h
    exact Nat.le_trans this (by decide))
theorem decDigits_of : ∀ (n : Nat) (t : List UInt8) (m : Nat), t.length ≤ n → t ≠ [] → decFrom 0 t = some m → (t.head? = some 48 → t.length = 1) → decDigits m = t := by
  intro n
  induction n with
  | zero => intro t m hl hne; exact absurd (List.eq_nil_of_length_eq_zero (by omega)) hne
  | succ n ih =>
    intro t m hl hne hd hz
    obtain ⟨l, b, rfl⟩ : ∃ l b, t = l ++ [b] := ⟨t.dropLast, t.getLast hne, (List.dropLast_concat_getLast hne).symm⟩
    rw [decFrom_snoc] at hd
    by_cases hl0 : l = []
    · subst hl0
      simp only [decFrom, Option.bind_some] at hd
      cases hb : digitVal b with
      | none => rw [hb] at hd; cases hd
      | some d =>
        rw [hb] at hd
        obtain ⟨h1, h2⟩ := digitVal_inv hb
        simp at hd
        subst hd
        rw [decDigits_one h1, h2]; rfl
    · have hlp := List.length_pos_iff.2 hl0
      have hh : l.head? ≠ some 48 := by
        intro e
        have : (l ++ [b]).head? = some 48 := by
          cases l with
          | nil => exact absurd rfl hl0
          | cons a l => simpa using e
        have := hz this
        rw [List.length_append, List.length_singleton] at this
        omega
      cases hm : decFrom 0 l with
      | none => rw [hm] at hd; cases hd
      | some m' =>
        rw [hm, Option.bind_some] at hd
        cases hb : digitVal b with
        | none => rw [hb] at hd; cases hd
        | some d =>
          rw [hb] at hd
          obtain ⟨h1, h2⟩ := digitVal_inv hb
          simp at hd
          rw [List.length_append, List.length_singleton] at hl
          have h3 := ih l m' (by omega) hl0 hm (fun e => absurd e hh)
          have h4 : 1 ≤ m' := by
            rcases Nat.eq_zero_or_pos m' with e | e
            · subst e
              rw [decDigits_one (by decide)] at h3
              rw [← h3] at hh
              exact absurd (by decide) hh
            · exact e
          rw [← hd, decDigits_big (by omega), show (m' * 10 + d) / 10 = m' by omega, show (m' * 10 + d) % 10 = d by omega, h3, h2]
/-- a number of a text: what strconv says, of just that text -/
def numT (s : List UInt8) : Option Int := match atoiAll s with
  | .ok n => if itoa n = s ∧ (trimPrefix s [45]).length ≤ 18 then some n else none
  | _ => none
def small (n : Int) : Prop := -1000000000000000000 < n ∧ n < 1000000000000000000
theorem itoa_cases (n : Int) : (0 ≤ n ∧ itoa n = decDigits n.natAbs) ∨ (n < 0 ∧ 1 ≤ n.natAbs ∧ itoa n = 45 :: decDigits n.natAbs) := by
  by_cases h : n < 0
  · exact .inr ⟨h, by omega, by unfold itoa; rw [if_pos h]⟩
  · exact .inl ⟨by omega, by unfold itoa; rw [if_neg h, show n.toNat = n.natAbs by omega]⟩
theorem trim_itoa (n : Int) : trimPrefix (itoa n) [45] = decDigits n.natAbs := by
  unfold trimPrefix hasPrefix
  rcases itoa_cases n with ⟨h, e⟩ | ⟨h, h1, e⟩
  · rw [e]
    have h45 := head45_decDigits n.natAbs
    cases hd : decDigits n.natAbs with
    | nil => exact absurd hd (decDigits_ne _)
    | cons a l =>
      rw [hd] at h45
      have : ¬ (45 : UInt8) = a := fun h => h45 (by rw [h]; rfl)
      simp [List.isPrefixOf, this]
  · rw [e]; simp [List.isPrefixOf]
theorem atoi_itoa {n : Int} (h : small n) : atoiAll (itoa n) = .ok n := by
  obtain ⟨h1, h2⟩ := h
  have hn : nDigits n.natAbs ≤ 18 := nDigits_le 18 _ (by decide) (by have : (10 : Nat) ^ 18 = 1000000000000000000 := by decide
                                                                     omega)
  have hl := decDigits_length n.natAbs
  have hdn : decNat (decDigits n.natAbs) = some n.natAbs := by
    unfold decNat
    have := decDigits_ne n.natAbs
    cases hd : decDigits n.natAbs with
    | nil => exact absurd hd this
    | cons a l => rw [← hd, decFrom_decDigits]; simp [hd]
  rcases itoa_cases n with ⟨h, e⟩ | ⟨h, h1, e⟩
  · rw [e]
    have h45 := head45_decDigits n.natAbs
    have h43 := head43_decDigits n.natAbs
    cases hd : decDigits n.natAbs with
    | nil => exact absurd hd (decDigits_ne _)
    | cons a l =>
      rw [hd] at h45 h43 hl hdn
      rw [atoiAll_plain a l (fun e => h43 (by rw [show a = 43 from UInt8.toNat_inj.1 e]; rfl)) (fun e => h45 (by rw [show a = 45 from UInt8.toNat_inj.1 e]; rfl)), signless_short (by omega), hdn]
      show NumEnd.ok ((n.natAbs : Nat) : Int) = _
      congr 1; omega
  · rw [e, atoiAll_minus, signed_short (by omega), hdn]
    show NumEnd.ok (-((n.natAbs : Nat) : Int)) = _
    congr 1; omega
theorem numT_itoa {n : Int} (h : small n) : numT (itoa n) = some n := by
  unfold numT
  rw [atoi_itoa h]
  have hn : nDigits n.natAbs ≤ 18 := nDigits_le 18 _ (by decide) (by have : (10 : Nat) ^ 18 = 1000000000000000000 := by decide
                                                                     obtain ⟨h1, h2⟩ := h
                                                                     omega)
  rw [← decDigits_length, ← trim_itoa] at hn
  simp only [true_and]
  rw [if_pos hn]
theorem numT_some {s : List UInt8} {n : Int} (h : numT s = some n) : s = itoa n ∧ small n := by
  unfold numT at h
  split at h
  · rename_i m hm
    split at h
    · rename_i hc
      cases h
      refine ⟨hc.1.symm, ?_⟩
      have h2 := hc.2
      rw [← hc.1, trim_itoa, decDigits_length] at h2
      have := lt_of_nDigits h2
      unfold small
      omega
    · cases h
  · cases h
/-- a number of a text, as the document's text reads it -/
def numR (s : List UInt8) : Option Int :=
  let t := if s.head? = some 45 then s.tail else s
  if t = [] ∨ 18 < t.length ∨ (t.head? = some 48 ∧ s ≠ [48]) then none else (decFrom 0 t).map fun (m : Nat) => if s.head? = some 45 then -(m : Int) else (m : Int)
theorem numR_itoa {n : Int} (h : small n) : numR (itoa n) = some n := by
  have hn : nDigits n.natAbs ≤ 18 := nDigits_le 18 _ (by decide) (by have : (10 : Nat) ^ 18 = 1000000000000000000 := by decide
                                                                     obtain ⟨h1, h2⟩ := h
                                                                     omega)
  have hl := decDigits_length n.natAbs
  rcases itoa_cases n with ⟨h, e⟩ | ⟨h, h1, e⟩
  · rw [e]
    unfold numR
    simp only [if_neg (head45_decDigits n.natAbs)]
    rw [if_neg, decFrom_decDigits]
    · simp; omega
    · rintro (h0 | h0 | ⟨h0, h1⟩)
      · exact decDigits_ne _ h0
      · omega
      · rcases Nat.eq_zero_or_pos n.natAbs with e2 | e2
        · rw [e2, decDigits_one (by decide)] at h1; exact h1 rfl
        · exact head_decDigits e2 h0
  · rw [e]
    unfold numR
    simp only [List.head?_cons, if_true, List.tail_cons]
    rw [if_neg, decFrom_decDigits]
    · simp; omega
    · rintro (h0 | h0 | ⟨h0, h2⟩)
      · exact decDigits_ne _ h0
      · omega
      · exact head_decDigits h1 h0
theorem numR_some {s : List UInt8} {n : Int} (h : numR s = some n) : s = itoa n ∧ small n := by
  unfold numR at h
  by_cases h45 : s.head? = some 45
  · simp only [if_pos h45] at h
    obtain ⟨t, rfl⟩ : ∃ t, s = 45 :: t := by
      cases s with
      | nil => cases h45
      | cons a t => exact ⟨t, by rw [Option.some.inj h45]⟩
    rw [List.tail_cons] at h
    split at h
    · cases h
    · rename_i hc
      rw [not_or, not_or] at hc
      obtain ⟨c1, c2, c3⟩ := hc
      cases hm : decFrom 0 t with
      | none => rw [hm] at h; cases h
      | some m =>
        rw [hm] at h
        simp at h
        have hh : t.head? ≠ some 48 := fun e => c3 ⟨e, by simp⟩
        have hd := decDigits_of t.length t m (Nat.le_refl _) c1 hm (fun e => absurd e hh)
        have h1 : 1 ≤ m := by
          rcases Nat.eq_zero_or_pos m with e | e
          · subst e
            rw [decDigits_one (by decide)] at hd
            rw [← hd] at hh
            exact absurd (by decide) hh
          · exact e
        have hl := decDigits_length m
        rw [hd] at hl
        have := lt_of_nDigits (u := m) (by omega)
        subst h
        rw [itoa_neg m h1, hd]
        exact ⟨rfl, by unfold small; omega⟩
  · simp only [if_neg h45] at h
    split at h
    · cases h
    · rename_i hc
      rw [not_or, not_or] at hc
      obtain ⟨c1, c2, c3⟩ := hc
      cases hm : decFrom 0 s with
      | none => rw [hm] at h; cases h
      | some m =>
        rw [hm] at h
        simp at h
        have hd := decDigits_of s.length s m (Nat.le_refl _) c1 hm (fun e => by
          by_cases h48 : s = [48]
          · rw [h48]; rfl
          · exact absurd ⟨e, h48⟩ c3)
        have hl := decDigits_length m
        rw [hd] at hl
        have := lt_of_nDigits (u := m) (by omega)
        subst h
        rw [itoa_nonneg m, hd]
        exact ⟨rfl, by unfold small; omega⟩
theorem numR_eq (s : List UInt8) : numR s = numT s := by
  cases ht : numT s with
  | some n =>
    obtain ⟨e, h⟩ := numT_some ht
    rw [e]; exact numR_itoa h
  | none =>
    cases hr : numR s with
    | none => rfl
    | some n =>
      obtain ⟨e, h⟩ := numR_some hr
      rw [e, numT_itoa h] at ht
      cases ht
theorem numT_long {s : List UInt8} (h : 19 < s.length) : numT s = none := by
  cases ht : numT s with
  | none => rfl
  | some n =>
    obtain ⟨e, hs⟩ := numT_some ht
    have hn : nDigits n.natAbs ≤ 18 := nDigits_le 18 _ (by decide) (by have : (10 : Nat) ^ 18 = 1000000000000000000 := by decide
                                                                       obtain ⟨h1, h2⟩ := hs
                                                                       omega)
    have hl := decDigits_length n.natAbs
    rcases itoa_cases n with ⟨_, e2⟩ | ⟨_, _, e2⟩
    · rw [e, e2] at h; omega
    · rw [e, e2, List.length_cons] at h; omega
end Sp
end Go.Proofs.YtpchfmeaplhodaaDoor
