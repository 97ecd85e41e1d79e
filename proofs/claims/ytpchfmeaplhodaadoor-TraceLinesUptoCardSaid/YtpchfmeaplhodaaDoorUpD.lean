/-
  A part of the proof of this seat's laws: what a reading of bounded bulk holds.
-/
import Derived.SliceStrings
import Derived.Laws.IdiomArrays
import Derived.Test.YtpchfmeaplhodaaDoorRows
import Derived.Test.YtpchfmeaplhodaaDoorIn
import Derived.Test.YtpchfmeaplhodaaDoorG1
namespace Go.Proofs.YtpchfmeaplhodaaDoor
set_option linter.unusedVariables false
set_option linter.unusedSimpArgs false
open Go.Joins Go.ChangeShapes Go.WideShapes Go.RowKit Go.Deep
namespace Up
theorem one_of {H : Type} {d : DataW H} {l : List (DataW H)} (h : d ∈ l) : Rows.uptoBulk d ≤ Rows.uptoBulkAll l := by
  induction l with
  | nil => cases h
  | cons x r ih =>
    rw [Rows.uptoBulkAll]
    rcases List.mem_cons.1 h with rfl | h
    · omega
    · have := ih h; omega
theorem small {H : Type} {l : List (DataW H)} (hk : Rows.uptoSmall H l = true) {d : DataW H} (h : d ∈ l) : Rows.uptoBulk d ≤ 1048576 := by
  have h1 : Rows.uptoBulkAll l ≤ 1048576 := of_decide_eq_true hk
  have h2 := one_of h
  omega
theorem pos {H : Type} (d : DataW H) : 0 < Rows.uptoBulk d := by
  cases d with
  | lit l => cases l <;> simp [Rows.uptoBulk]
  | _ => simp [Rows.uptoBulk]
theorem many {H : Type} (l : List (DataW H)) : l.length ≤ Rows.uptoBulkAll l := by
  induction l with
  | nil => simp
  | cons x r ih => have := pos x; rw [Rows.uptoBulkAll, List.length_cons]; omega
theorem letters {H : Type} (s : ByteArray) (h : Rows.uptoBulk (DataW.lit (H := H) (.string s.data.toList)) ≤ 1048576) : s.size ≤ 1048576 := by
  rw [Rows.uptoBulk, Array.length_toList] at h
  have : s.data.size = s.size := rfl
  omega
section
variable {H : Type} {enc : TypeId × Value → H} {P : Program} {w : World} {base : Nat} {spare : Nat → Bool} {held : Bool}
theorem bytes_len {a : Option Addr} {len cap : Nat} {d : DataW H} {ps : List MemPlace} {t e : TypeId} (hu : P.underlying t = some (.slice e)) (he : P.underlying e = some (.int .u8)) (hc : P.cellsOf e = 1)
    (h : DataW.Trod enc P w base spare held t (.slice a len cap) d ps) (hb : Rows.uptoBulk d ≤ 1048576) : len ≤ 1048576 := by
  obtain ⟨fuel, hf⟩ := h
  rcases open_ints hu he hc hf with ⟨hcs, -⟩ | ⟨x, l, c, zs, hcs, -, hl, -, hz, hx, -, -⟩
  · simp [Value.cells] at hcs
    omega
  · simp [Value.cells] at hcs
    obtain ⟨-, rfl, rfl⟩ := hcs
    have hd' := (Prod.mk.inj hx).1
    rw [hd', Rows.uptoBulk] at hb
    have h1 : len ≤ zs.length := by rw [hz]; split <;> omega
    have h2 := many (lits (H := H) .u8 (zs.take len))
    have h3 : (lits (H := H) .u8 (zs.take len)).length = len := by simp [lits]; omega
    omega
theorem tot_strs (l : List ByteArray) : Rows.uptoBulkAll (strs (H := H) l) = Sp.tot (l.map (·.data.toList)) := by
  induction l with
  | nil => rfl
  | cons x l ih =>
    rw [List.map_cons, Sp.tot_cons, ← ih]
    rw [show strs (H := H) (x :: l) = .lit (.string x.data.toList) :: strs l from rfl, Rows.uptoBulkAll, Rows.uptoBulk]
theorem open_texts {a : Option Addr} {len cap : Nat} {d : DataW H} {ps : List MemPlace} {t e : TypeId} (hu : P.underlying t = some (.slice e)) (he : P.underlying e = some .string) (hc : P.cellsOf e = 1)
    (h : DataW.Trod enc P w base spare held t (.slice a len cap) d ps) (hb : Rows.uptoBulk d ≤ 1048576) : ∃ xs, Sg.Tx w a len cap xs ∧ Sp.tot xs ≤ 1048576 := by
  obtain ⟨fuel, hf⟩ := h
  rcases open_strings hu he hc hf with ⟨hcs, -⟩ | ⟨x, l, c, ss, hcs, -, hl, -, hz, hx, hcell, -⟩
  · simp [Value.cells] at hcs
    obtain ⟨rfl, rfl, rfl⟩ := hcs
    exact ⟨[], ⟨Nat.le_refl _, rfl, .inl rfl⟩, by simp [Sp.tot]⟩
  · simp [Value.cells] at hcs
    obtain ⟨rfl, rfl, rfl⟩ := hcs
    have hd' := (Prod.mk.inj hx).1
    rw [hd', Rows.uptoBulk, tot_strs] at hb
    have h1 : len ≤ ss.length := by rw [hz]; split <;> omega
    refine ⟨(ss.take len).map (·.data.toList), ⟨hl, by simp; omega, ?_⟩, by omega⟩
    by_cases h0 : len = 0
    · exact .inl h0
    · right
      obtain ⟨b, o, sp⟩ := x
      have hc0 := hcell 0 (by omega)
      have hsp : sp = none := by simpa [Addr.add] using World.cell?_spot hc0
      subst hsp
      refine ⟨b, o, rfl, World.block_lt_of_cell? _ _ hc0, fun j y hj => ?_⟩
      rw [List.getElem?_map, List.getElem?_take] at hj
      split at hj
      · have hjs : j < ss.length := by omega
        rw [List.getElem?_eq_getElem hjs] at hj
        simp only [Option.map_some, Option.some.injEq] at hj
        have := hcell j hjs
        rw [Addr.add_lit, List.getD_eq_getElem?_getD, List.getElem?_eq_getElem hjs] at this
        rw [this, ← hj, Sp.bs_data]
        rfl
      · simp at hj
/-- three bytes by value -/
theorem open_three {r : Reach} {b0 : Nat} {t e : TypeId} {v : Value} {d : DataW H} {p : List MemPlace} (hs : P.underlying t = some (.array 3 e)) (hC : P.cellsOf t = 3) (he : P.underlying e = some (.int .u8)) (hE : P.cellsOf e = 1)
    (hv : Value.okWide P w r b0 t v) (h : DataW.Trod enc P w base spare held t v d p) :
    ∃ a b c : Int, v = .agg #[.int .u8 a, .int .u8 b, .int .u8 c] ∧ Sp.isByte a ∧ Sp.isByte b ∧ Sp.isByte c := by
  simp only [Value.okWide, hs] at hv
  obtain ⟨cs, rfl, hsz, -⟩ := hv
  obtain ⟨l⟩ := cs
  match l, hsz.trans hC with
  | [c0, c1, c2], _ =>
    obtain ⟨fuel, hf⟩ := h
    obtain ⟨y0, y1, y2, n, -, h0, h1, h2⟩ := trod_array3 hs hE hf
    obtain ⟨a, e0, -, wa⟩ := DataW.trod_int he h0
    obtain ⟨b, e1, -, wb⟩ := DataW.trod_int he h1
    obtain ⟨c, e2, -, wc⟩ := DataW.trod_int he h2
    simp at e0 e1 e2
    subst e0 e1 e2
    exact ⟨a, b, c, rfl, Opn.isByte_of_wf wa, Opn.isByte_of_wf wb, Opn.isByte_of_wf wc⟩
end
end Up
end Go.Proofs.YtpchfmeaplhodaaDoor
