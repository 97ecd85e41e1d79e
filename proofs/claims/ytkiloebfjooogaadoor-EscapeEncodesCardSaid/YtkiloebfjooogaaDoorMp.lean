/-
  A part of the proof of this seat's laws: a map from bytes to texts that the call makes.
-/
import Derived.Test.YtkiloebfjooogaaDoorG1
import Derived.Maps.Own
import Derived.Maps.OwnOps
import Derived.Maps.OwnSet
import Derived.Maps.RangeWalk
import Derived.Maps.Views
import Derived.Maps.StringElems
import Derived.Maps.Keyed
namespace Go.Proofs.YtkiloebfjooogaaDoor
set_option linter.unusedVariables false
set_option linter.unusedSimpArgs false
open Go.RowKit Go.Shelf
namespace Sp
/-- what is told of a byte -/
def look (l : List (UInt8 × List UInt8)) (c : UInt8) : Option (List UInt8) := (l.find? fun p => p.1 == c).map (·.2)
theorem look_snoc_other {l : List (UInt8 × List UInt8)} {c y : UInt8} {x : List UInt8} (h : y ≠ c) : look (l ++ [(c, x)]) y = look l y := by
  unfold look
  rw [List.find?_append]
  have e : ((c, x).1 == y) = false := by rw [beq_eq_false_iff_ne]; exact fun e => h e.symm
  cases hf : l.find? (fun p => p.1 == y) <;> simp [hf, Ne.symm h]
theorem look_snoc_same {l : List (UInt8 × List UInt8)} {c : UInt8} {x : List UInt8} (h : look l c = none) : look (l ++ [(c, x)]) c = some x := by
  unfold look at *
  rw [List.find?_append]
  cases hf : l.find? (fun p => p.1 == c) with
  | none => simp
  | some p => rw [hf] at h; cases h
theorem look_snoc_old {l : List (UInt8 × List UInt8)} {c : UInt8} {x y : List UInt8} (h : look l c = some y) : look (l ++ [(c, x)]) = look l := by
  funext z
  by_cases hz : z = c
  · subst hz
    unfold look at *
    rw [List.find?_append]
    cases hf : l.find? (fun p => p.1 == z) with
    | none => rw [hf] at h; cases h
    | some p => simp
  · exact look_snoc_other hz
end Sp
namespace Mp
/-- a byte as a key -/
abbrev kb (c : UInt8) : Lit := .int .u8 (c.toNat : Int)
abbrev el (s : List UInt8) : DataW Unit := .lit (.string s)
theorem kb_wf (c : UInt8) : (kb c).wf = true := by
  have := c.toNat_lt
  show (decide (IntKind.u8.min ≤ (c.toNat : Int)) && decide ((c.toNat : Int) ≤ IntKind.u8.max)) = true
  rw [Bool.and_eq_true, decide_eq_true_eq, decide_eq_true_eq]
  show (0 : Int) ≤ _ ∧ _ ≤ (255 : Int)
  omega
theorem kb_inj {a b : UInt8} (h : kb a = kb b) : a = b := by
  simp only [kb, Lit.int.injEq, true_and] at h
  exact UInt8.toNat_inj.1 (by omega)
theorem law : Maps.Keyed Tryd.prog 5 := Maps.int_keyed Tryd.underlying5
theorem key (c : UInt8) : keyOf Tryd.prog 5 (.int .u8 (c.toNat : Int)) = some (kb c) := Maps.keyOf_int_mk Tryd.underlying5 (kb_wf c)
set_option maxRecDepth 100000 in
theorem zeroE (w : World) : (zeroValue 9).run Tryd.prog w = .ok (.string ⟨#[]⟩) w := by kernel_rfl
noncomputable abbrev R : Value → Option (DataW Unit × List MemPlace) := plainElem Tryd.prog 9
theorem R_mk {s : ByteArray} (h : s.size ≤ maxLen) : R (.string s) = some (el s.data.toList, []) := plainElem_string Tryd.underlying9 h
theorem R_inv {v : Value} {z : DataW Unit × List MemPlace} (h : R v = some z) : ∃ s : ByteArray, v = .string s ∧ z = (el s.data.toList, []) := by
  obtain ⟨s, h1, h2, _⟩ := plainElem_string_inv Tryd.underlying9 h
  exact ⟨s, h1, h2⟩
/-- a byte more -/
def updF (f : UInt8 → Option (List UInt8)) (c : UInt8) (s : List UInt8) : UInt8 → Option (List UInt8) := fun y => if y = c then some s else f y
theorem updF_same (f : UInt8 → Option (List UInt8)) (c : UInt8) (s : List UInt8) : updF f c s c = some s := if_pos rfl
theorem updF_other (f : UInt8 → Option (List UInt8)) {c y : UInt8} (s : List UInt8) (h : y ≠ c) : updF f c s y = f y := if_neg h
/-- block b is a map of at most n entries that tells l -/
def Tells (w : World) (b n : Nat) (f : UInt8 → Option (List UInt8)) : Prop :=
  ∃ D, w.ownsMap Tryd.prog 5 R b n D ∧ (∀ c, Maps.has D (kb c) = (f c).isSome) ∧ ∀ c x, f c = some x → ∀ z, D.atKey (kb c) z = el x
theorem Tells.kept {w w' : World} {b n : Nat} {f : UInt8 → Option (List UInt8)} (h : Tells w b n f) (hb : Below w.heap.size w w') : Tells w' b n f := by
  obtain ⟨D, h1, h2⟩ := h
  obtain ⟨es, clock, he, r⟩ := h1
  exact ⟨D, ⟨es, clock, (hb.block b (Array.getElem?_eq_some_iff.1 he).1).trans he, r⟩, h2⟩
theorem Tells.lt {w : World} {b n : Nat} {f : UInt8 → Option (List UInt8)} (h : Tells w b n f) : b < w.heap.size := by
  obtain ⟨D, h1, h2⟩ := h
  exact h1.lt
theorem Tells.made (w : World) : Tells (w.alloc (.map #[] 0)) w.heap.size 0 (fun _ => none) :=
  ⟨.map [], World.ownsMap_made _ _ _ _, fun c => rfl, fun c x h => by cases h⟩
section
variable (w : World) {ops : Array Oper} {rest : List Oper} {o : Oper} {a : Act} {Q : Exit → Act → World → Prop}
/-- 'v, ok := m[c]' -/
theorem wp_look (hg : o.guard = none) (m x : Operand) (hop : o.op = Op.lookup 41 m x true) (b n : Nat) (f : UInt8 → Option (List UInt8)) (hm : a.eval m = .map (some b)) (hown : Tells w b n f)
    (c : UInt8) (hx : a.eval x = .int .u8 (c.toNat : Int)) (hK : wpList Tryd.prog ops Q rest (a.put o.dst (.tuple #[.string (Sp.bs ((f c).getD [])), .bool (f c).isSome])) w) :
    wpList Tryd.prog ops Q (o :: rest) a w := by
  obtain ⟨D, h1, h2, h3⟩ := hown
  refine wpList_lookup_own_ok w hg m x 41 hop 5 9 law Tryd.underlying41 R (zeroE w) (el []) [] (R_mk (Nat.zero_le _)) b n D hm h1 _ (kb c) hx (key c) ?_
  intro v ps hv
  obtain ⟨s, rfl, hs⟩ := R_inv hv
  simp only [Prod.mk.injEq] at hs
  have e : s = Sp.bs ((f c).getD []) := by
    suffices e0 : s.data.toList = (f c).getD [] by rw [← e0, Sp.bs_data]
    cases hf : f c with
    | none =>
      have hh := h2 c
      rw [hf] at hh
      rw [Maps.atKey_of_not_has hh] at hs
      have := hs.1
      simp only [el, DataW.lit.injEq, Lit.string.injEq] at this
      exact this.symm
    | some y =>
      rw [h3 c y hf] at hs
      have := hs.1
      simp only [el, DataW.lit.injEq, Lit.string.injEq] at this
      exact this.symm
  rw [e, h2 c]
  exact hK
theorem upd {b n : Nat} {f : UInt8 → Option (List UInt8)} (hown : Tells w b n f) (hn : n < maxLen) (c : UInt8) (s : List UInt8) (hs : s.length ≤ 100) :
    ∃ w', (Instr.mapUpdate 41 (.map (some b)) (.int .u8 (c.toNat : Int)) (.string (Sp.bs s))).run Tryd.prog w = .ok () w' ∧ Tells w' b (n + 1) (updF f c s) ∧ w.grownBy w' (some b) := by
  obtain ⟨D, h1, h2, h3⟩ := hown
  obtain ⟨w', hrun, r1, r2⟩ := h1.update law Tryd.underlying41 hn (key c) (R_mk (s := Sp.bs s) (by rw [Sp.bs_size]; unfold maxLen; omega))
  have hI : Maps.IsMap D := h1.isMap
  have hk : WideAt.IsKeyLit (kb c) := law.key (key c)
  refine ⟨w', hrun, ⟨_, r1, fun y => ?_, fun y x hy z => ?_⟩, r2⟩
  · by_cases hy : y = c
    · subst hy; rw [updF_same]; exact Maps.has_put_same hI hk _
    · rw [updF_other _ _ hy, Maps.has_put_other (fun e => hy (kb_inj e))]; exact h2 y
  · by_cases hyc : y = c
    · subst hyc
      rw [updF_same] at hy
      cases hy
      rw [Maps.atKey_put_same hI hk, Sp.bs_list]
    · rw [updF_other _ _ hyc] at hy
      rw [Maps.atKey_put_other (fun e => hyc (kb_inj e))]
      exact h3 y x hy z
/-- 'm[c] = s' -/
theorem wp_upd (hg : o.guard = none) (m x v : Operand) (hop : o.op = Op.mapUpdate 41 m x v ∨ o.op = Op.insert 41 m x v) (b n : Nat) (f : UInt8 → Option (List UInt8)) (hm : a.eval m = .map (some b)) (hown : Tells w b n f) (hn : n < maxLen)
    (c : UInt8) (hx : a.eval x = .int .u8 (c.toNat : Int)) (s : List UInt8) (hv : a.eval v = .string (Sp.bs s)) (hs : s.length ≤ 100)
    (hK : ∀ w', Tells w' b (n + 1) (updF f c s) → w.grownBy w' (some b) → wpList Tryd.prog ops Q rest (a.put o.dst undef) w') :
    wpList Tryd.prog ops Q (o :: rest) a w := by
  refine wpList_plain hg fun K' hK' => ?_
  obtain ⟨w', hrun, r1, r2⟩ := upd w hown hn c s hs
  unfold Oper.wp
  rcases hop with hop | hop
  · simp [execOp, hop, hm, hx, hv, hrun, Result.andThen]
    exact hK' _ _ (hK w' r1 r2)
  · simp [execOp, hop, hm, hx, hv, hrun, Result.andThen]
    exact hK' _ _ (hK w' r1 r2)
end
end Mp
end Go.Proofs.YtkiloebfjooogaaDoor
