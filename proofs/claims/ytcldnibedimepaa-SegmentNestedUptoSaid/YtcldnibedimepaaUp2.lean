/-
  A part of the proof of this seat's laws: lists of texts that came in.
-/
import Derived.Deep.Slices
import Derived.Test.YtcldnibedimepaaUp
namespace Go.Proofs.Ytcldnibedimepaa
set_option linter.unusedVariables false
set_option linter.unusedSimpArgs false
open Go.Joins Go.ChangeShapes Go.WideShapes Go.RowKit Go.Deep
namespace Sg
/-- a slice of slices of texts -/
structure Ls (w : World) (A : Option Addr) (n c : Nat) (ls : List (List (List UInt8))) : Prop where
  cap : n ≤ c
  len : ls.length = n
  cells : n = 0 ∨ ∃ b o, A = some ⟨b, o, none⟩ ∧ b < w.heap.size ∧ ∀ j L, ls[j]? = some L → ∃ a m k, w.cell? ⟨b, o + j, none⟩ = some (.slice a m k) ∧ Tx w a m k L
theorem Ls.below {w w' : World} {A : Option Addr} {n c : Nat} {ls : List (List (List UInt8))} (h : Ls w A n c ls) (hb : Below w.heap.size w w') : Ls w' A n c ls := by
  refine ⟨h.cap, h.len, ?_⟩
  rcases h.cells with h0 | ⟨b, o, hA, hl, hc⟩
  · exact .inl h0
  · refine .inr ⟨b, o, hA, Nat.lt_of_lt_of_le hl hb.size, fun j L hj => ?_⟩
    obtain ⟨a, m, k, h1, h2⟩ := hc j L hj
    exact ⟨a, m, k, (hb.cell (p := ⟨b, o + j, none⟩) hl).trans h1, h2.below hb⟩
end Sg
namespace Sp
/-- letters, texts and lists -/
def tot2 (ls : List (List (List UInt8))) : Nat := (ls.map fun L => tot L + 1).sum
theorem tot2_cons (L : List (List UInt8)) (l : List (List (List UInt8))) : tot2 (L :: l) = tot L + 1 + tot2 l := by simp [tot2]
end Sp
namespace Up
section
variable {H : Type} {enc : TypeId × Value → H} {P : Program} {w : World} {base : Nat} {spare : Nat → Bool} {held : Bool}
theorem open_texts_le {v : Value} {fuel : Nat} {x : DataW H × List MemPlace} {t e : TypeId} (hu : P.underlying t = some (.slice e)) (he : P.underlying e = some .string) (hc : P.cellsOf e = 1)
    (hf : DataW.trod enc P w base spare held fuel t [v] = some x) : ∃ a len cap xs, v = .slice a len cap ∧ Sg.Tx w a len cap xs ∧ Sp.tot xs + 1 ≤ Rows.uptoBulk x.1 := by
  rcases open_strings hu he hc hf with ⟨hcs, rfl⟩ | ⟨a, len, cap, ss, hcs, -, hl, -, hz, rfl, hcell, -⟩
  · simp at hcs
    subst hcs
    exact ⟨none, 0, 0, [], rfl, ⟨Nat.le_refl _, rfl, .inl rfl⟩, by simp [Sp.tot, Rows.uptoBulk]⟩
  · simp at hcs
    subst hcs
    have h1 : len ≤ ss.length := by rw [hz]; split <;> omega
    refine ⟨some a, len, cap, (ss.take len).map (·.data.toList), rfl, ⟨hl, by simp; omega, ?_⟩, ?_⟩
    · by_cases h0 : len = 0
      · exact .inl h0
      · right
        obtain ⟨b, o, sp⟩ := a
        have hc0 := hcell 0 (by omega)
        have hsp : sp = none := by simpa [Addr.add] using World.cell?_spot hc0
        subst hsp
        refine ⟨b, o, rfl, World.block_lt_of_cell? _ _ hc0, fun j y hj => ?_⟩
        rw [List.getElem?_map, List.getElem?_take] at hj
        split at hj
        · have hjs : j < ss.length := by omega
          rw [List.getElem?_eq_getElem hjs] at hj
          simp only [Option.map_some, Option.some.injEq] at hj
          have := hcell j hjs
          rw [Addr.add_lit, List.getD_eq_getElem?_getD, List.getElem?_eq_getElem hjs] at this
          rw [this, ← hj, Sp.bs_data]
          rfl
        · simp at hj
    · show _ ≤ Rows.uptoBulk (.slice (strs (ss.take len)) (strs (ss.drop len)))
      rw [Rows.uptoBulk, tot_strs]
      omega
theorem bulk_range (D : Nat → DataW H) (L : Nat → List (List UInt8)) : ∀ (n : Nat), (∀ i, i < n → Sp.tot (L i) + 1 ≤ Rows.uptoBulk (D i)) → Sp.tot2 ((List.range n).map L) ≤ Rows.uptoBulkAll ((List.range n).map D)
  | 0, _ => by simp [Sp.tot2, Rows.uptoBulkAll]
  | n + 1, h => by
    have ih := bulk_range D L n (fun i hi => h i (by omega))
    have happ : ∀ (a b : List (DataW H)), Rows.uptoBulkAll (a ++ b) = Rows.uptoBulkAll a + Rows.uptoBulkAll b := by
      intro a b
      induction a with
      | nil => simp [Rows.uptoBulkAll]
      | cons x l ih => rw [List.cons_append, Rows.uptoBulkAll, ih, Rows.uptoBulkAll]; omega
    have h1 := h n (by omega)
    rw [List.range_succ, List.map_append, List.map_append, happ]
    have e1 : Sp.tot2 ((List.range n).map L ++ [L n]) = Sp.tot2 ((List.range n).map L) + (Sp.tot (L n) + 1) := by simp [Sp.tot2]
    have e2 : Rows.uptoBulkAll [D n] = Rows.uptoBulk (D n) := by simp [Rows.uptoBulkAll]
    simp only [List.map_cons, List.map_nil]
    rw [e1, e2]
    omega
theorem open_lists {A : Option Addr} {len cap : Nat} {d : DataW H} {ps : List MemPlace} {t e e2 : TypeId} (hu : P.underlying t = some (.slice e)) (hu2 : P.underlying e = some (.slice e2)) (he : P.underlying e2 = some .string) (hc : P.cellsOf e = 1) (hc2 : P.cellsOf e2 = 1)
    (h : DataW.Trod enc P w base spare held t (.slice A len cap) d ps) (hb : Rows.uptoBulk d ≤ 1048576) : ∃ ls, Sg.Ls w A len cap ls ∧ Sp.tot2 ls ≤ 1048576 := by
  obtain ⟨fuel, hf⟩ := h
  rcases open_slice1 hu hc hf with ⟨hcs, -⟩ | ⟨a, len', cap', m, n, V, D, Pl, hcs, -, hl, -, hm, hx, hcell⟩
  · simp [Value.cells] at hcs
    obtain ⟨rfl, rfl, rfl⟩ := hcs
    exact ⟨[], ⟨Nat.le_refl _, rfl, .inl rfl⟩, by simp [Sp.tot2]⟩
  · simp [Value.cells] at hcs
    obtain ⟨rfl, rfl, rfl⟩ := hcs
    have hml : len ≤ m := by rw [hm]; split <;> omega
    have hopen : ∀ i, ∃ L : List (List UInt8), i < len → ∃ aa n' c', V i = .slice aa n' c' ∧ Sg.Tx w aa n' c' L ∧ Sp.tot L + 1 ≤ Rows.uptoBulk (D i) := by
      intro i
      by_cases hi : i < len
      · obtain ⟨aa, n', c', L, h1, h2, h3⟩ := open_texts_le hu2 he hc2 (hcell i (by omega)).2
        exact ⟨L, fun _ => ⟨aa, n', c', h1, h2, h3⟩⟩
      · exact ⟨[], fun h => absurd h hi⟩
    obtain ⟨L, hL⟩ := Classical.skolem.1 hopen
    have hd' := (Prod.mk.inj hx).1
    have hsum := bulk_range D L len (fun i hi => by obtain ⟨_, _, _, _, _, h3⟩ := hL i hi; exact h3)
    rw [hd', Rows.uptoBulk] at hb
    refine ⟨(List.range len).map L, ⟨hl, by simp, ?_⟩, by omega⟩
    by_cases h0 : len = 0
    · exact .inl h0
    · right
      obtain ⟨b, o, sp⟩ := a
      have hc0 := (hcell 0 (by omega)).1
      have hsp : sp = none := by simpa [Addr.add] using World.cell?_spot hc0
      subst hsp
      refine ⟨b, o, rfl, World.block_lt_of_cell? _ _ hc0, fun j M hj => ?_⟩
      have hjl : j < len := by
        have := (List.getElem?_eq_some_iff.1 hj).1
        simpa using this
      rw [List.getElem?_map, List.getElem?_range hjl] at hj
      simp only [Option.map_some, Option.some.injEq] at hj
      obtain ⟨aa, n', c', h1, h2, -⟩ := hL j hjl
      have := (hcell j (by omega)).1
      rw [Addr.add_lit, h1] at this
      exact ⟨aa, n', c', this, hj ▸ h2⟩
end
end Up
end Go.Proofs.Ytcldnibedimepaa
