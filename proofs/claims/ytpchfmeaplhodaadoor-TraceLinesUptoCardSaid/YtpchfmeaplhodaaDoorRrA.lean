/-
  A part of the proof of this seat's laws: the event of a text, the reference's.
-/
import Derived.Test.YtpchfmeaplhodaaDoorTr11
import Derived.Test.YtpchfmeaplhodaaDoorTpM
import Derived.Test.YtpchfmeaplhodaaDoorG2
namespace Go.Proofs.YtpchfmeaplhodaaDoor
set_option linter.unusedVariables false
set_option linter.unusedSimpArgs false
open Go.RowKit Go.Shelf
namespace Tr
open Ap Sg
set_option maxHeartbeats 2000000
/-- the bytes of a text, whatever it is -/
theorem bytes_any {w : World} {s : List UInt8} {e : Ending} {w' : World} (h : BytesRet w s e w') : ∃ A n c, e = .returned (.tuple #[.slice A n c, .bool (Sp.bytesT s).isSome]) ∧ (∀ t, Sp.bytesT s = some t → By w' A n c t ∧ ∀ g o, A = some ⟨g, o, none⟩ → w.heap.size ≤ g) ∧ Below w.heap.size w w' := by
  cases hb : Sp.bytesT s with
  | none => exact ⟨none, 0, 0, h.1 hb, (fun t ht => by cases ht), h.2.2⟩
  | some t =>
    obtain ⟨A, n, c, he, hby, hA⟩ := h.2.1 t hb
    exact ⟨A, n, c, he, (fun t' ht => by cases ht; exact ⟨hby, hA⟩), h.2.2⟩
theorem num_any {w : World} {s : List UInt8} {e : Ending} {w' : World} (h : NumRet w s e w') : e = .returned (.tuple #[.int .i64 ((Sp.numT s).getD 0), .bool (Sp.numT s).isSome]) ∧ Below w.heap.size w w' := by
  cases hb : Sp.numT s with
  | none => exact ⟨h.1 hb, h.2.2⟩
  | some t => exact ⟨h.2.1 t hb, h.2.2⟩
theorem cut_words {s : List UInt8} (hs : s.length ≤ 50000) {x : List UInt8} (h : x ∈ Sp.cutL 32 s) : x.length ≤ 50000 := Nat.le_trans (Sp.cutL_le 32 s x h) hs
theorem mine_words {w : World} {base : Nat} {A : Option Addr} {n c : Nat} {ws : List (List UInt8)} (h : Mine w base A n c (Sp.vals ws)) (hn : 0 < n) : ∃ g, A = some ⟨g, 0, none⟩ ∧ base ≤ g ∧ Wd w g 0 ws := by
  obtain ⟨g, hA, hg, hlt, hc⟩ := h.cell hn
  exact ⟨g, hA, hg, hlt, fun j x hj => hc j _ (by rw [List.getElem?_map, hj]; rfl)⟩
end Tr
end Go.Proofs.YtpchfmeaplhodaaDoor
