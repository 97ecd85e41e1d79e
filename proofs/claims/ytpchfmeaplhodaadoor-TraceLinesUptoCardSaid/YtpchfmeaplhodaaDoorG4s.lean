/-
  A part of the proof of this seat's laws: texts cut.
-/
import Derived.Test.YtpchfmeaplhodaaDoorG1
namespace Go.Proofs.YtpchfmeaplhodaaDoor
set_option linter.unusedVariables false
set_option linter.unusedSimpArgs false
open Go.RowKit Go.Shelf
namespace Sp
theorem index_sign (c : UInt8) : ∀ l : List UInt8, Lib.index l [c] = Lib.indexByte l c
  | [] => by simp [Lib.index, Lib.indexByte]
  | x :: l => by
    have ih := index_sign c l
    by_cases h : x = c
    · subst h; simp [Lib.index, Lib.indexByte, List.isPrefixOf]
    · have h' : ¬ c = x := fun e => h e.symm
      simp [Lib.index, Lib.indexByte, List.isPrefixOf, h, h', ih]
theorem count_sign (c : UInt8) (l : List UInt8) : Lib.countB (bs l) (bs [c]) = l.count c := by
  show Lib.count (bs l).data.toList (bs [c]).data.toList = _
  rw [bs_list, bs_list, Lib.count_one]
theorem splitB_cut (c : UInt8) : ∀ (n : Nat) (l : List UInt8), l.length ≤ n → ∀ k, k = l.count c → Lib.splitB (bs [c]) 0 k (bs l) = (cutL c l).map bs := by
  intro n
  induction n with
  | zero =>
    intro l hl k hk
    obtain rfl := List.eq_nil_of_length_eq_zero (Nat.le_zero.1 hl)
    subst hk
    rfl
  | succ n ih =>
    intro l hl k hk
    have hix : Lib.indexB (bs l) (bs [c]) = Lib.indexByte l c := by
      show Lib.index (bs l).data.toList (bs [c]).data.toList = _
      rw [bs_list, bs_list, index_sign]
    by_cases hm : Lib.indexByte l c = -1
    · rw [Lib.splitB_miss _ _ _ _ (hix.trans hm), cutL_miss c l hm]; rfl
    · have hge := Lib.indexByte_ge l c
      obtain ⟨i, hi⟩ : ∃ i : Nat, Lib.indexByte l c = i := ⟨(Lib.indexByte l c).toNat, by omega⟩
      have hcut := cutL_hit c l i hi
      have hlen := cutL_length c l
      rw [hcut, List.length_cons, cutL_length] at hlen
      obtain ⟨k', rfl⟩ : ∃ k', k = k' + 1 := ⟨k - 1, by omega⟩
      rw [Lib.splitB_hit _ _ _ _ i (hix.trans hi), hcut, List.map_cons, bs_extract, bs_extract]
      have e1 : (bs [c]).size = 1 := bs_size _
      have e2 : (bs l).size = l.length := bs_size _
      have e3 : (l.drop (i + 1)).take (l.length - (i + 1)) = l.drop (i + 1) := List.take_of_length_le (by simp)
      rw [e1, e2, e3]
      have hd : (l.drop (i + 1)).length ≤ n := by
        have hl1 : l.length ≠ 0 := by
          intro h0
          obtain rfl := List.eq_nil_of_length_eq_zero h0
          simp [Lib.indexByte] at hi
        rw [List.length_drop]; omega
      rw [ih (l.drop (i + 1)) hd k' (by omega)]
      simp
end Sp
namespace Sg
open Ap
/-- the library's own variable holds some number -/
def Ml (w : World) : Prop := ∃ m, w.cell? ⟨1, 0, none⟩ = some (.int .i64 m)
theorem Ml.lt {w : World} (h : Ml w) : 1 < w.heap.size := by
  obtain ⟨m, hm⟩ := h
  by_cases hl : 1 < w.heap.size
  · exact hl
  · have : w.heap[1]? = none := Array.getElem?_eq_none (by omega)
    simp [World.cell?, this] at hm
theorem Ml.below {w w' : World} (h : Ml w) (hb : Below w.heap.size w w') : Ml w' := by
  have hl := h.lt
  obtain ⟨m, hm⟩ := h
  exact ⟨m, (hb.cell (p := ⟨1, 0, none⟩) hl).trans hm⟩
theorem tx_new (w : World) (xs : List (List UInt8)) : Tx (w.alloc (.cells (xs.map Sp.bs |>.map Value.string).toArray 9)) (some ⟨w.heap.size, 0, none⟩) xs.length xs.length xs :=
  ⟨Nat.le_refl _, rfl, .inr ⟨w.heap.size, 0, rfl, by simp, fun j x hj => by
    have h := World.cell?_alloc_mark w (xs.map Sp.bs |>.map Value.string).toArray 9 (0, 0) j
    rw [Nat.zero_add]
    refine h.trans ?_
    simp [hj]⟩⟩
/-- a slice of texts in a block of its own -/
def TxB (w : World) (g : Nat) (xs : List (List UInt8)) : Prop := w.heap[g]? = some (.cells (xs.map Sp.bs |>.map Value.string).toArray 9 (0, 0))
theorem TxB.tx {w : World} {g : Nat} {xs : List (List UInt8)} (h : TxB w g xs) : Tx w (some ⟨g, 0, none⟩) xs.length xs.length xs :=
  ⟨Nat.le_refl _, rfl, .inr ⟨g, 0, rfl, (Array.getElem?_eq_some_iff.1 h).1, fun j x hj => by
    unfold TxB at h
    rw [Nat.zero_add]
    simp [World.cell?, h, hj]⟩⟩
theorem TxB.below {w w' : World} {g : Nat} {xs : List (List UInt8)} (h : TxB w g xs) (hb : Below w.heap.size w w') : TxB w' g xs := (hb.block g (Array.getElem?_eq_some_iff.1 h).1).trans h
theorem txB_new (w : World) (xs : List (List UInt8)) : TxB (w.alloc (.cells (xs.map Sp.bs |>.map Value.string).toArray 9)) w.heap.size xs := by
  show (w.heap.push _)[w.heap.size]? = _
  simp
set_option maxHeartbeats 2000000
theorem splitB_calls (s : List UInt8) (c : UInt8) (hs : s.length ≤ 1000000) (w : World) (hm : Ml w) :
    Calls Tryd.prog 34 #[.string (Sp.bs s), .string (Sp.bs [c])] w fun e w' =>
      e = .returned (.slice (some ⟨w.heap.size, 0, none⟩) (Sp.cutL c s).length (Sp.cutL c s).length) ∧ TxB w' w.heap.size (Sp.cutL c s) ∧ Below w.heap.size w w' := by
  obtain ⟨m, hm⟩ := hm
  have h := Tryd.strings_Split (Sp.bs s) (Sp.bs [c]) m w (by rw [Sp.bs_size]; omega) hm (by rw [Sp.bs_size]; simp)
  rw [Sp.count_sign, Sp.splitB_cut c _ s (Nat.le_refl _) _ rfl, ← Sp.cutL_length] at h
  refine h.mono ?_
  rintro e w' ⟨rfl, rfl⟩
  exact ⟨rfl, txB_new w _, (Below.refl _ _).alloc (Nat.le_refl _) _⟩
theorem split_calls (s : List UInt8) (c : UInt8) (hs : s.length ≤ 1000000) (w : World) (hm : Ml w) :
    Calls Tryd.prog 34 #[.string (Sp.bs s), .string (Sp.bs [c])] w fun e w' =>
      ∃ A C, e = .returned (.slice A (Sp.cutL c s).length C) ∧ Tx w' A (Sp.cutL c s).length C (Sp.cutL c s) ∧ Below w.heap.size w w' := by
  obtain ⟨m, hm⟩ := hm
  have h := Tryd.strings_Split (Sp.bs s) (Sp.bs [c]) m w (by rw [Sp.bs_size]; omega) hm (by rw [Sp.bs_size]; simp)
  rw [Sp.count_sign, Sp.splitB_cut c _ s (Nat.le_refl _) _ rfl, ← Sp.cutL_length] at h
  refine h.mono ?_
  rintro e w' ⟨rfl, rfl⟩
  exact ⟨_, _, rfl, tx_new w _, (Below.refl _ _).alloc (Nat.le_refl _) _⟩
end Sg
end Go.Proofs.YtpchfmeaplhodaaDoor
