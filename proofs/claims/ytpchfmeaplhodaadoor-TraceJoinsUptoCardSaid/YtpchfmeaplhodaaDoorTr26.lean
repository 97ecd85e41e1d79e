/-
  A part of the proof of this seat's laws: steps appended to steps.
-/
import Derived.Test.YtpchfmeaplhodaaDoorTr12
import Derived.Test.YtpchfmeaplhodaaDoorAp
import Derived.Test.YtpchfmeaplhodaaDoorTr15
namespace Go.Proofs.YtpchfmeaplhodaaDoor
set_option linter.unusedVariables false
set_option linter.unusedSimpArgs false
open Go.RowKit Go.Shelf
namespace Tr
open Ap Sg
theorem owns_cap {w : World} {base : Nat} {e : TypeId} {size : Nat} {A : Option Addr} {n c : Nat} {xs : List Value} (h : w.ownsRow base e size (.slice A n c) n xs) : n ≤ c := by
  rcases h.2 with ⟨e, rfl⟩ | ⟨g, cap, cur, e, -, -, hc, -⟩
  · exact Nat.zero_le _
  · obtain ⟨rfl, -, rfl⟩ : A = some ⟨g, 0, none⟩ ∧ n = n ∧ c = cap := by simpa using e
    exact hc
theorem wpList_append_any {P : Program} (w : World) {ops : Array Oper} {rest : List Oper} {o : Oper} {a : Act} {Q : Exit → Act → World → Prop} (hwd : Region.wanted o (yielded ops a.tmps) = true) (s x : Operand) (t : TypeId)
    (ho : o.op = .call { callee := .builtin .append, args := #[s, x], argTypes := #[t, t] })
    (base : Nat) (e : TypeId) (i : TypeInfo) (z : Value) (size bytes : Nat) (ht : P.underlying t = some (.slice e)) (hi : P.info? e = some i) (hz : i.zero = some z)
    (hsize : i.size = size) (hby : i.bytes = bytes) (hzs : z.cells.size = size) (hsz : 0 < size)
    (A : Option Addr) (n c : Nat) (xs : List Value) (hs : a.eval s = .slice A n c) (hown : w.ownsRow base e size (.slice A n c) n xs)
    (X : Option Addr) (m cx : Nat) (news : List Value) (hx : a.eval x = .slice X m cx) (hl : news.length = m * size) (hX : m = 0 ∨ ∃ ad, X = some ad ∧ ∀ j u, news[j]? = some u → w.cell? (ad.add j) = some u) (h1 : ∀ u ∈ news, u.oneCell' = true)
    (h63 : n + m ≤ maxLen) (hbytes : (n + m) * bytes ≤ 140737488355328) (hbase : base ≤ w.heap.size)
    (h : ∀ A' c' w', w'.ownsRow base e size (.slice A' (n + m) c') (n + m) (xs ++ news) → w.grownBy w' (Value.slice A n c).ownBlock → wpList P ops Q rest (a.put o.dst (.slice A' (n + m) c')) w') : wpList P ops Q (o :: rest) a w := by
  by_cases h0 : m = 0
  · subst h0
    obtain rfl := List.eq_nil_of_length_eq_zero (by simpa using hl)
    refine wpList_step fun K hK' => ?_
    rw [if_pos hwd]
    have hrun := run_append_zero (P := P) w t o.type e i ht hi A X n c cx (owns_cap hown)
    unfold Oper.wp
    simp [execOp, ho, resolve, invoke, builtin, hs, hx, hrun, Result.andThen]
    exact hK' _ _ (h A c w (by simpa using hown) ⟨rfl, rfl, rfl, Nat.le_refl _, fun _ _ _ => rfl⟩)
  · obtain ⟨ad, rfl, hc⟩ := hX.resolve_left h0
    refine wpList_step fun K hK' => ?_
    rw [if_pos hwd]
    exact wp_append_lies w s x t ho base e i z size bytes ht hi hz hsize hby hzs hsz (.slice A n c) n xs hs hown ad m cx news hx hl hc h1 (by omega) h63 hbytes hbase _ rfl fun g cap w' h2 h3 _ _ => hK' _ _ (h _ _ w' h2 h3)
theorem StepsV.one_cell {w : World} {K : Nat → Prop} : ∀ {l : List Sp.Stp} {vs : List Value}, StepsV w K l vs → ∀ u ∈ vs, u.oneCell' = true
  | [], vs, h, u, hu => by cases h; cases hu
  | s :: l, vs, h, u, hu => by
    obtain ⟨A, n, c, A', n', c', vs', rfl, -, -, h'⟩ := h
    rcases List.mem_append.1 hu with hu | hu
    · exact stV_one s A n c A' n' c' u hu
    · exact StepsV.one_cell h' u hu
theorem StepsV.high {w w' : World} {base : Nat} (hb : Below base w w') (hw : w.heap.size ≤ base) {l : List Sp.Stp} {vs : List Value} (h : StepsV w (fun _ => True) l vs) : StepsV w' (fun _ => True) l vs :=
  ((h.mono (K' := fun b => b < base) (fun b hlt _ => by omega)).keep ⟨hb.size, fun b _ hk => hb.block b hk⟩).mono (fun _ _ _ => trivial)
theorem sts_of_owns {w : World} {base : Nat} {A : Option Addr} {n c : Nat} {l : List Sp.Stp} {vs : List Value} (h : w.ownsRow base 42 6 (.slice A n c) n vs) (hv : StepsV w (fun _ => True) l vs) (hl : l.length = n) : Sts w A n c l := by
  refine ⟨owns_cap h, hl, vs, hv, ?_⟩
  by_cases h0 : n = 0
  · exact .inl h0
  · obtain ⟨g, cap, e, -, hlt⟩ := h.form (by omega)
    obtain ⟨rfl, -, rfl⟩ : A = some ⟨g, 0, none⟩ ∧ n = n ∧ c = cap := by simpa using e
    refine .inr ⟨g, 0, rfl, hlt, fun j u hj => ?_⟩
    have := h.cells (g := g) rfl j u hj
    rw [Addr.add_lit] at this
    exact this
/-- a slice's values, for an append of it -/
theorem Sts.news {w : World} {A : Option Addr} {n c : Nat} {l : List Sp.Stp} (h : Sts w A n c l) : ∃ vs, StepsV w (fun _ => True) l vs ∧ vs.length = n * 6 ∧ ∀ w', Below w.heap.size w w' → (n = 0 ∨ ∃ ad, A = some ad ∧ ∀ j u, vs[j]? = some u → w'.cell? (ad.add j) = some u) := by
  obtain ⟨vs, hv, hc⟩ := h.cells
  have hl := hv.len
  rw [h.len] at hl
  refine ⟨vs, hv, hl, fun w' hb => ?_⟩
  rcases hc with h0 | ⟨b, o, rfl, hlt, hc⟩
  · exact .inl h0
  · refine .inr ⟨_, rfl, fun j u hj => ?_⟩
    rw [Addr.add_lit]
    exact (hb.cell (p := ⟨b, o + j, none⟩) hlt).trans (hc j u hj)
end Tr
end Go.Proofs.YtpchfmeaplhodaaDoor
