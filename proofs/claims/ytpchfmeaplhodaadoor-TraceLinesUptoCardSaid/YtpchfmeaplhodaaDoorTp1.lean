/-
  A part of the proof of this seat's laws: bytes as digits, plainly.
-/
import Derived.Test.YtpchfmeaplhodaaDoorG1
namespace Go.Proofs.YtpchfmeaplhodaaDoor
set_option linter.unusedVariables false
set_option linter.unusedSimpArgs false
namespace Sp
/-- the digits -/
abbrev ldigs : List UInt8 := [48, 49, 50, 51, 52, 53, 54, 55, 56, 57, 97, 98, 99, 100, 101, 102]
def hl (c : UInt8) : List UInt8 := [ldigs.getD (c.toNat / 16) 0, ldigs.getD (c.toNat % 16) 0]
def hexs (b : List UInt8) : List UInt8 := b.flatMap hl
/-- the text of bytes -/
def hexT (b : List UInt8) : List UInt8 := if b = [] then [45] else hexs b
theorem hexs_snoc (b : List UInt8) (c : UInt8) : hexs (b ++ [c]) = hexs b ++ hl c := by simp [hexs]
theorem hexs_cons (b : List UInt8) (c : UInt8) : hexs (c :: b) = hl c ++ hexs b := by simp [hexs]
theorem hexs_len (b : List UInt8) : (hexs b).length = 2 * b.length := by
  induction b with
  | nil => rfl
  | cons c b ih => rw [hexs_cons, List.length_append, ih]; simp [hl]; omega
/-- a digit -/
def ldv (c : UInt8) : Option Nat := if 48 ≤ c.toNat ∧ c.toNat ≤ 57 then some (c.toNat - 48) else if 97 ≤ c.toNat ∧ c.toNat ≤ 102 then some (c.toNat - 87) else none
theorem ldv_cases {c : UInt8} {v : Nat} (h : ldv c = some v) : (48 ≤ c.toNat ∧ c.toNat ≤ 57 ∧ v = c.toNat - 48) ∨ (97 ≤ c.toNat ∧ c.toNat ≤ 102 ∧ v = c.toNat - 87) := by
  unfold ldv at h
  split at h
  · cases h; exact .inl ⟨by omega, by omega, rfl⟩
  · split at h
    · cases h; exact .inr ⟨by omega, by omega, rfl⟩
    · cases h
theorem ldv_none {c : UInt8} (h : ldv c = none) : ¬ (48 ≤ c.toNat ∧ c.toNat ≤ 57) ∧ ¬ (97 ≤ c.toNat ∧ c.toNat ≤ 102) := by
  unfold ldv at h
  refine ⟨fun e => ?_, fun e => ?_⟩
  · rw [if_pos e] at h; cases h
  · rw [if_neg (by omega), if_pos e] at h; cases h
theorem ldv_le {c : UInt8} {v : Nat} (h : ldv c = some v) : v ≤ 15 := by
  rcases ldv_cases h with ⟨_, _, _⟩ | ⟨_, _, _⟩ <;> omega
/-- where a digit stands among the digits -/
theorem ldv_index (c : UInt8) : Lib.indexByte ldigs c = match ldv c with
    | some v => (v : Int)
    | none => -1 := by
  have key : ∀ n : Fin 256, Lib.indexByte ldigs (UInt8.ofNat n.val) = match ldv (UInt8.ofNat n.val) with
    | some v => (v : Int)
    | none => -1 := by decide +kernel
  have := key ⟨c.toNat, c.toNat_lt⟩
  simpa using this
def unl : List UInt8 → Option (List UInt8)
  | [] => some []
  | [_] => none
  | a :: b :: l => match ldv a, ldv b, unl l with
    | some x, some y, some t => some (UInt8.ofNat (16 * x + y) :: t)
    | _, _, _ => none
theorem unl_two {c d : UInt8} {va vb : Nat} (l : List UInt8) (hc : ldv c = some va) (hd : ldv d = some vb) : unl (c :: d :: l) = (unl l).map fun t => UInt8.ofNat (16 * va + vb) :: t := by
  rw [unl, hc, hd]
  cases unl l <;> rfl
theorem unl_bad1 {c : UInt8} (d : UInt8) (l : List UInt8) (hc : ldv c = none) : unl (c :: d :: l) = none := by rw [unl, hc]
theorem unl_bad2 {d : UInt8} (c : UInt8) (l : List UInt8) (hd : ldv d = none) : unl (c :: d :: l) = none := by
  rw [unl, hd]
  cases ldv c <;> rfl
theorem unl_len : ∀ {h t : List UInt8}, unl h = some t → h.length = 2 * t.length
  | [], t, e => by simp [unl] at e; subst e; rfl
  | [_], t, e => by simp [unl] at e
  | a :: b :: l, t, e => by
    unfold unl at e
    split at e
    · rename_i x y r h1 h2 h3
      cases e
      have := unl_len h3
      simp only [List.length_cons]; omega
    · cases e
theorem hl_tell (c : UInt8) : ldv (ldigs.getD (c.toNat / 16) 0) = some (c.toNat / 16) ∧ ldv (ldigs.getD (c.toNat % 16) 0) = some (c.toNat % 16) := by
  have key : ∀ n : Fin 256, ldv (ldigs.getD (n.val / 16) 0) = some (n.val / 16) ∧ ldv (ldigs.getD (n.val % 16) 0) = some (n.val % 16) := by decide +kernel
  exact key ⟨c.toNat, c.toNat_lt⟩
theorem unl_app (c : UInt8) (l : List UInt8) : unl (hl c ++ l) = (unl l).map fun t => c :: t := by
  obtain ⟨h1, h2⟩ := hl_tell c
  show unl (ldigs.getD (c.toNat / 16) 0 :: ldigs.getD (c.toNat % 16) 0 :: l) = _
  rw [unl_two l h1 h2, Nat.div_add_mod]
  simp
theorem unl_hexs : ∀ b : List UInt8, unl (hexs b) = some b
  | [] => rfl
  | c :: b => by rw [hexs_cons, unl_app, unl_hexs b]; rfl
/-- a text's bytes -/
def bytesT (s : List UInt8) : Option (List UInt8) := if s = [45] then some [] else if s = [] then none else unl s
theorem bytesT_hexT (b : List UInt8) : bytesT (hexT b) = some b := by
  unfold hexT
  by_cases h : b = []
  · subst h; rfl
  · rw [if_neg h]
    have hl := hexs_len b
    have hp := List.length_pos_iff.2 h
    unfold bytesT
    rw [if_neg (fun e => by rw [e] at hl; simp at hl; omega), if_neg (fun e => by rw [e] at hl; simp at hl; omega), unl_hexs]
/-- what tells bytes is their text -/
theorem unl_inv : ∀ (s t : List UInt8), unl s = some t → s = hexs t
  | [], t, h => by simp [unl] at h; subst h; rfl
  | [_], t, h => by simp [unl] at h
  | a :: b :: l, t, h => by
    unfold unl at h
    split at h
    · rename_i x y r h1 h2 h3
      have e := (Option.some.inj h).symm
      subst e
      rw [hexs_cons, ← unl_inv l r h3]
      have key : ∀ n m : Fin 16, hl (UInt8.ofNat (16 * n.val + m.val)) = [ldigs.getD n.val 0, ldigs.getD m.val 0] := by decide +kernel
      have k2 : ∀ n : Fin 256, ∀ v, ldv (UInt8.ofNat n.val) = some v → ldigs.getD v 0 = UInt8.ofNat n.val := by
        have k3 : ∀ n : Fin 256, (match ldv (UInt8.ofNat n.val) with | some v => ldigs.getD v 0 == UInt8.ofNat n.val | none => true) = true := by decide +kernel
        intro n v hv
        have := k3 n
        rw [hv] at this
        exact beq_iff_eq.1 this
      have ha := k2 ⟨a.toNat, a.toNat_lt⟩ x (by simpa using h1)
      have hb := k2 ⟨b.toNat, b.toNat_lt⟩ y (by simpa using h2)
      have l1 := ldv_le h1
      have l2 := ldv_le h2
      have hk := key ⟨x, by omega⟩ ⟨y, by omega⟩
      simp only at hk
      rw [hk, ha, hb]
      simp
    · cases h
end Sp
end Go.Proofs.YtpchfmeaplhodaaDoor
