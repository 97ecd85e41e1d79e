/-
  A part of the proof of this seat's laws: pairs of digits told as bytes, plainly.
-/
import Derived.Test.YtkiloebfjooogaaDoorAl7
namespace Go.Proofs.YtkiloebfjooogaaDoor
set_option linter.unusedVariables false
set_option linter.unusedSimpArgs false
namespace Sp
/-- a byte's digits -/
def hexp (c : UInt8) : List UInt8 := [digs.getD (c.toNat / 16) 0, digs.getD (c.toNat % 16) 0]
def hexs (b : List UInt8) : List UInt8 := b.flatMap hexp
def each (b : List UInt8) : List UInt8 := b.flatMap fun c => [92, 88] ++ hexp c ++ [92]
theorem hexs_snoc (b : List UInt8) (c : UInt8) : hexs (b ++ [c]) = hexs b ++ hexp c := by simp [hexs]
theorem each_snoc (b : List UInt8) (c : UInt8) : each (b ++ [c]) = each b ++ ([92, 88] ++ hexp c ++ [92]) := by simp [each]
theorem hexs_cons (b : List UInt8) (c : UInt8) : hexs (c :: b) = hexp c ++ hexs b := by simp [hexs]
theorem each_cons (b : List UInt8) (c : UInt8) : each (c :: b) = [92, 88] ++ hexp c ++ [92] ++ each b := by simp [each]
theorem hexs_len (b : List UInt8) : (hexs b).length = 2 * b.length := by
  induction b with
  | nil => rfl
  | cons c b ih => rw [hexs_cons, List.length_append, ih]; simp [hexp]; omega
theorem each_len (b : List UInt8) : (each b).length = 5 * b.length := by
  induction b with
  | nil => rfl
  | cons c b ih => rw [each_cons, List.length_append, ih]; simp [hexp]; omega
theorem hexp_tell (c : UInt8) : hdv (digs.getD (c.toNat / 16) 0) = some (c.toNat / 16) ∧ hdv (digs.getD (c.toNat % 16) 0) = some (c.toNat % 16) := by
  have key : ∀ n : Fin 256, hdv (digs.getD (n.val / 16) 0) = some (n.val / 16) ∧ hdv (digs.getD (n.val % 16) 0) = some (n.val % 16) := by decide +kernel
  exact key ⟨c.toNat, c.toNat_lt⟩
theorem hexp_free (c : UInt8) : (92 : UInt8) ∉ hexp c := by
  have key : ∀ n : Fin 256, ((92 : UInt8) != digs.getD (n.val / 16) 0 && (92 : UInt8) != digs.getD (n.val % 16) 0) = true := by decide +kernel
  have := key ⟨c.toNat, c.toNat_lt⟩
  simp only [Bool.and_eq_true, bne_iff_ne, ne_eq] at this
  unfold hexp
  simp only [List.mem_cons, List.not_mem_nil, or_false, not_or]
  exact this
theorem hexs_free : ∀ b : List UInt8, (92 : UInt8) ∉ hexs b
  | [] => by simp [hexs]
  | c :: b => by
    rw [hexs_cons, List.mem_append, not_or]
    exact ⟨hexp_free c, hexs_free b⟩
theorem unhex_app (c : UInt8) (l : List UInt8) : unhex (hexp c ++ l) = (unhex l).map fun t => c :: t := by
  obtain ⟨h1, h2⟩ := hexp_tell c
  show unhex (digs.getD (c.toNat / 16) 0 :: digs.getD (c.toNat % 16) 0 :: l) = _
  rw [unhex, h1, h2]
  cases unhex l with
  | none => rfl
  | some t =>
    show some (UInt8.ofNat (16 * (c.toNat / 16) + c.toNat % 16) :: t) = some (c :: t)
    rw [Nat.div_add_mod]
    simp
theorem unhex_hexs : ∀ b : List UInt8, unhex (hexs b) = some b
  | [] => rfl
  | c :: b => by rw [hexs_cons, unhex_app, unhex_hexs b]; rfl
theorem unhex_odd : ∀ b : List UInt8, unhex (hexs b ++ [48]) = none
  | [] => rfl
  | c :: b => by rw [hexs_cons, List.append_assoc, unhex_app, unhex_odd b]; rfl
section
variable (F P R E U : UInt8)
theorem tell_x {h : List UInt8} (h0 : h ≠ []) : tell F P R E U (88 :: h) = unhex h := by
  have hx : hexT (88 :: h) = unhex h := by
    show (if (88 : UInt8) = 88 ∧ h ≠ [] then unhex h else none) = _
    rw [if_pos ⟨rfl, h0⟩]
  unfold tell inv
  by_cases h1 : (88 :: h) = [88, 48, 66]
  · have : h = [48, 66] := by simpa using h1
    subst this; rfl
  rw [if_neg h1]
  by_cases h2 : (88 :: h) = [88, 48, 68]
  · have : h = [48, 68] := by simpa using h2
    subst this; rfl
  rw [if_neg h2]
  by_cases h3 : (88 :: h) = [88, 49, 67]
  · have : h = [49, 67] := by simpa using h3
    subst this; rfl
  rw [if_neg h3, if_neg (by simp), if_neg (by simp), if_neg (by simp), if_neg (by simp), if_neg (by simp)]
  exact hx
theorem tell_x_none : tell F P R E U [88] = none := by
  unfold tell inv
  rw [if_neg (by decide), if_neg (by decide), if_neg (by decide), if_neg (by decide), if_neg (by decide), if_neg (by decide), if_neg (by decide), if_neg (by decide)]
  rfl
end
abbrev tellP : List UInt8 → Option (List UInt8) := tell 124 94 126 92 38
theorem clean_free : ∀ {s : List UInt8}, clean 124 94 126 92 38 s = true → (92 : UInt8) ∉ s := by
  intro s h hm
  unfold clean at h
  rw [List.all_eq_true] at h
  have := h 92 hm
  exact absurd this (by decide +kernel)
section
variable {ah b : List UInt8} (ha : (92 : UInt8) ∉ ah)
include ha
theorem dec_all (hb : b ≠ []) : Es.decP (ah ++ [92, 88] ++ hexs b ++ [92]) = .ok (ah ++ b) := by
  have hh : hexs b ≠ [] := fun e => by
    have := congrArg List.length e
    rw [hexs_len] at this
    have := List.length_pos_iff.2 hb
    simp at *; omega
  have e : ah ++ [92, 88] ++ hexs b ++ [92] = ah ++ 92 :: ((88 :: hexs b) ++ 92 :: []) := by simp
  have hf : (92 : UInt8) ∉ (88 :: hexs b) := by
    rw [List.mem_cons, not_or]; exact ⟨by decide, hexs_free b⟩
  show decF tellP false (cutL 92 _) [] 0 = _
  rw [e, cutL_mid, cutL_none ha, cutL_mid, cutL_none hf]
  show decF tellP false [ah, 88 :: hexs b, []] [] 0 = _
  rw [decF_text, decF_some ((tell_x _ _ _ _ _ hh).trans (unhex_hexs b)) (by simp), decF_text, decF_end]
  simp
omit ha in
theorem dec_eachs : ∀ (b : List UInt8) (out : List UInt8) (a : Nat) (x : List UInt8), (92 : UInt8) ∉ x → decF tellP false (cutL 92 (x ++ each b)) out a = .ok (out ++ x ++ b)
  | [], out, a, x, hx => by
    show decF tellP false (cutL 92 (x ++ [])) out a = _
    rw [List.append_nil, cutL_none hx, decF_text, decF_end]; simp
  | c :: b, out, a, x, hx => by
    have hf : (92 : UInt8) ∉ (88 :: hexp c) := by
      rw [List.mem_cons, not_or]; exact ⟨by decide, hexp_free c⟩
    have e : x ++ each (c :: b) = x ++ 92 :: ((88 :: hexp c) ++ 92 :: ([] ++ each b)) := by rw [each_cons]; simp
    have ih := dec_eachs b (out ++ x ++ [c]) (a + x.length + (88 :: hexp c).length + 2) [] (by simp)
    have h0 := cutL_ne 92 ([] ++ each b)
    rw [e, cutL_mid, cutL_none hx, cutL_mid, cutL_none hf]
    show decF tellP false (x :: (88 :: hexp c) :: cutL 92 ([] ++ each b)) out a = _
    have hu : unhex (hexp c) = some [c] := by
      have := unhex_app c []
      rw [List.append_nil] at this
      rw [this]; rfl
    rw [decF_text, decF_some (t := [c]) ((tell_x _ _ _ _ _ (by simp [hexp])).trans hu) h0, ih]
    simp
theorem dec_each : Es.decP (ah ++ each b) = .ok (ah ++ b) := by
  have := dec_eachs b [] 0 ah ha
  show decF tellP false (cutL 92 (ah ++ each b)) [] 0 = _
  simpa using this
theorem dec_odd : Es.decP (ah ++ [92, 88] ++ hexs b ++ [48, 92]) = .error ah.length := by
  have e : ah ++ [92, 88] ++ hexs b ++ [48, 92] = ah ++ 92 :: ((88 :: (hexs b ++ [48])) ++ 92 :: []) := by simp
  have hf : (92 : UInt8) ∉ (88 :: (hexs b ++ [48])) := by
    rw [List.mem_cons, not_or, List.mem_append, not_or]; exact ⟨by decide, hexs_free b, by decide⟩
  show decF tellP false (cutL 92 _) [] 0 = _
  rw [e, cutL_mid, cutL_none ha, cutL_mid, cutL_none hf]
  show decF tellP false (ah :: (88 :: (hexs b ++ [48])) :: [[]]) [] 0 = _
  rw [decF_text, decF_none ((tell_x _ _ _ _ _ (by simp)).trans (unhex_odd b))]
  simp
theorem dec_empty : Es.decP (ah ++ [92, 88, 92]) = .error ah.length := by
  have e : ah ++ [92, 88, 92] = ah ++ 92 :: ([88] ++ 92 :: []) := by simp
  show decF tellP false (cutL 92 _) [] 0 = _
  rw [e, cutL_mid, cutL_none ha, cutL_mid, cutL_none (by decide)]
  show decF tellP false (ah :: [88] :: [[]]) [] 0 = _
  rw [decF_text, decF_none (tell_x_none _ _ _ _ _)]
  simp
theorem dec_open : Es.decP (ah ++ [92, 88] ++ hexs b) = .error ah.length := by
  have e : ah ++ [92, 88] ++ hexs b = ah ++ 92 :: (88 :: hexs b) := by simp
  have hf : (92 : UInt8) ∉ (88 :: hexs b) := by
    rw [List.mem_cons, not_or]; exact ⟨by decide, hexs_free b⟩
  show decF tellP false (cutL 92 _) [] 0 = _
  rw [e, cutL_mid, cutL_none ha, cutL_none hf]
  show decF tellP false [ah, 88 :: hexs b] [] 0 = _
  rw [decF_text, decF_last]
  simp
end
end Sp
end Go.Proofs.YtkiloebfjooogaaDoor
