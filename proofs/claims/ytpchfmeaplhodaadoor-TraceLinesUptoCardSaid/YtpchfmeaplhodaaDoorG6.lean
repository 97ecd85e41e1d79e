/-
  A part of the proof of this seat's laws: bytes that came in.
-/
import Derived.Test.YtpchfmeaplhodaaDoorG1
import Derived.Test.YtpchfmeaplhodaaDoorIn
namespace Go.Proofs.YtpchfmeaplhodaaDoor
set_option linter.unusedVariables false
set_option linter.unusedSimpArgs false
open Go.RowKit Go.Shelf
namespace Sg
open Ap
/-- bytes that came in -/
structure By (w : World) (A : Option Addr) (n c : Nat) (s : List UInt8) : Prop where
  cap : n ≤ c
  len : s.length = n
  cells : n = 0 ∨ ∃ b o, A = some ⟨b, o, none⟩ ∧ b < w.heap.size ∧ ∀ j y, s[j]? = some y → w.cell? ⟨b, o + j, none⟩ = some (.int .u8 (y.toNat : Int))
theorem By.below {w w' : World} {A : Option Addr} {n c : Nat} {s : List UInt8} (h : By w A n c s) (hb : Below w.heap.size w w') : By w' A n c s := by
  refine ⟨h.cap, h.len, ?_⟩
  rcases h.cells with h0 | ⟨b, o, hA, hl, hc⟩
  · exact .inl h0
  · exact .inr ⟨b, o, hA, Nat.lt_of_lt_of_le hl hb.size, fun j x hj => (hb.cell (p := ⟨b, o + j, none⟩) hl).trans (hc j x hj)⟩
theorem By.of {w : World} {A : Option Addr} {n c : Nat} {xs : List Int} (h : Opn.Bytes w A n c xs) : ∃ s, By w A n c s := by
  refine ⟨xs.map fun x => UInt8.ofNat x.toNat, h.cap, by simpa using h.len, ?_⟩
  rcases h.cells with h0 | ⟨b, o, rfl, hc⟩
  · exact .inl h0
  · by_cases h0 : n = 0
    · exact .inl h0
    · have hl := h.len
      refine .inr ⟨b, o, rfl, World.block_lt_of_cell? _ _ (hc 0 (by omega)), fun j y hj => ?_⟩
      have hj' : j < xs.length := by
        have := (List.getElem?_eq_some_iff.1 hj).1
        simpa using this
      have hby := h.byte j (by omega)
      rw [List.getElem?_map, List.getElem?_eq_getElem hj'] at hj
      simp only [Option.map_some, Option.some.injEq] at hj
      have e : xs.getD j 0 = xs[j] := by rw [List.getD_eq_getElem?_getD, List.getElem?_eq_getElem hj']; rfl
      rw [hc j (by omega), ← hj]
      rw [e] at hby ⊢
      obtain ⟨h1, h2⟩ := hby
      congr 2
      simp [UInt8.toNat_ofNat]
      omega
theorem By.conv {w : World} {A : Option Addr} {n c : Nat} {s : List UInt8} (h : By w A n c s) : (convert 22 9 (.slice A n c)).run Tryd.prog w = .ok (.string (Sp.bs s)) w := by
  have hl := h.len
  subst hl
  rcases h.cells with h0 | ⟨b, o, rfl, hb, hc⟩
  · have : s = [] := List.eq_nil_of_length_eq_zero h0
    subst this
    cases A with
    | none => exact run_convert_bytes_nil w 22 5 Tryd.underlying22 Tryd.underlying5 0 c 9 Tryd.underlying9
    | some a => exact run_convert_bytes_back w 22 9 5 a c [] Tryd.underlying22 Tryd.underlying5 Tryd.underlying9 (fun j hj => by simp at hj)
  · refine run_convert_bytes_back w 22 9 5 ⟨b, o, none⟩ c s Tryd.underlying22 Tryd.underlying5 Tryd.underlying9 (fun j hj => ?_)
    rw [Addr.add_lit, hc j _ (List.getElem?_eq_getElem hj)]
end Sg
end Go.Proofs.YtpchfmeaplhodaaDoor
