/-
  A part of the proof of this seat's laws: texts in slices.
-/
import Derived.Test.YtpchfmeaplhodaaDoorSp8
import Derived.Test.YtpchfmeaplhodaaDoorQr
import Derived.Test.YtpchfmeaplhodaaDoorAp
import Derived.Test.YtpchfmeaplhodaaDoorShelf
import Derived.Below
import Derived.Lib.Hide
import Derived.IntWalk
import Derived.RegionTactic
import Derived.ChangeAlike
import Derived.Deep.RegionHeld3
import Derived.Deep.DeepCutAuto
import Derived.Lib.BufSteps
import Derived.Deep.Quiet
import Derived.Lib.Join
import Derived.Lib.SplitLaws
namespace Go.Proofs.YtpchfmeaplhodaaDoor
set_option linter.unusedVariables false
set_option linter.unusedSimpArgs false
open Go.RowKit Go.Shelf
namespace Sp
theorem cutL_snoc (c x : UInt8) (hx : x ≠ c) : ∀ (a : List UInt8) (init : List (List UInt8)) (last : List UInt8), cutL c a = init ++ [last] → cutL c (a ++ [x]) = init ++ [last ++ [x]]
  | [], init, last, h => by
    cases init with
    | nil => simp [cutL] at h; subst h; rw [List.nil_append, cutL_other _ hx]; simp [cutL]
    | cons a b => simp [cutL] at h
  | y :: a, init, last, h => by
    by_cases hy : y = c
    · rw [cutL_eq _ hy] at h
      rw [List.cons_append, cutL_eq _ hy]
      cases init with
      | nil =>
        have h1 := cutL_pos c a
        have h2 := congrArg List.length h
        simp only [List.nil_append, List.length_cons, List.length_nil] at h2
        omega
      | cons z init =>
        simp only [List.cons_append, List.cons.injEq] at h
        rw [cutL_snoc c x hx a init last h.2, ← h.1]; rfl
    · rw [cutL_other _ hy] at h
      rw [List.cons_append, cutL_other _ hy]
      cases hc : cutL c a with
      | nil => exact (cutL_ne c a hc).elim
      | cons hd tl =>
        rw [hc] at h
        cases init with
        | nil =>
          simp at h
          have h3 := cutL_snoc c x hx a [] hd (by rw [hc, h.2]; rfl)
          rw [h3]; simp [← h.1]
        | cons z init =>
          simp only [List.headD_cons, List.tail_cons, List.cons_append, List.cons.injEq] at h
          have h3 := cutL_snoc c x hx a (hd :: init) last (by rw [hc, h.2]; rfl)
          rw [h3]; simp [← h.1]
theorem cutL_last (c : UInt8) (a : List UInt8) : ∃ init last, cutL c a = init ++ [last] :=
  ⟨(cutL c a).dropLast, (cutL c a).getLast (cutL_ne c a), (List.dropLast_concat_getLast _).symm⟩
/-- texts as values -/
abbrev vals (l : List (List UInt8)) : List Value := l.map fun x => .string (bs x)
end Sp
namespace Sp
/-- letters and texts of a list -/
def tot (l : List (List UInt8)) : Nat := (l.map fun x => x.length + 1).sum
theorem tot_nil : tot [] = 0 := rfl
theorem tot_cons (x : List UInt8) (l : List (List UInt8)) : tot (x :: l) = x.length + 1 + tot l := by simp [tot]
theorem tot_append (a b : List (List UInt8)) : tot (a ++ b) = tot a + tot b := by simp [tot]
theorem tot_take (l : List (List UInt8)) (k : Nat) (x : List UInt8) (h : l[k]? = some x) : tot (l.take (k + 1)) = tot (l.take k) + (x.length + 1) := by
  rw [List.take_add_one, h, tot_append]; simp [tot]
theorem tot_take_le (l : List (List UInt8)) (k : Nat) : tot (l.take k) ≤ tot l := by
  conv => rhs; rw [← List.take_append_drop k l, tot_append]
  omega
theorem tot_len (l : List (List UInt8)) : l.length ≤ tot l := by
  induction l with
  | nil => simp
  | cons x l ih => rw [tot_cons, List.length_cons]; omega
end Sp
namespace Sg
open Ap
theorem below_drewN {B : Nat} {a w : World} (h : Below B a w) (n : Nat) : Below B a (w.drewN n) := ⟨h.os, h.tape, h.output, h.size, h.block⟩
/-- one byte as a string -/
theorem run_sign (w : World) (c : UInt8) : (convert 22 9 (.slice (some ⟨w.heap.size, 0, none⟩) 1 1)).run Tryd.prog (w.alloc (.cells #[.int .u8 (c.toNat : Int)] 5)) = .ok (.string ⟨#[c]⟩) (w.alloc (.cells #[.int .u8 (c.toNat : Int)] 5)) := by
  have h := run_convert_bytes_back (P := Tryd.prog) (w.alloc (.cells #[.int .u8 (c.toNat : Int)] 5)) 22 9 5 ⟨w.heap.size, 0, none⟩ 1 [c] Tryd.underlying22 Tryd.underlying5 Tryd.underlying9 (fun j hj => by
    obtain rfl : j = 0 := by simpa using hj
    rw [Addr.add_lit]
    exact World.cell?_alloc_mark w #[.int .u8 (c.toNat : Int)] 5 (0, 0) 0)
  exact h
/-- the one cell of a new block -/
theorem one_cell (W : World) (x : Value) (t : TypeId) (H : Nat) (hH : W.heap.size = H) : ∀ j u, [x][j]? = some u → (W.alloc (.cells #[x] t)).cell? ((⟨H, 0, none⟩ : Addr).add j) = some u := by
  intro j u hj
  subst hH
  cases j with
  | zero =>
    simp only [List.getElem?_cons_zero, Option.some.injEq] at hj
    subst hj
    exact World.cell?_alloc_mark W #[x] t (0, 0) 0
  | succ j => simp at hj
theorem infoS : (Tryd.prog.info? 9).map (fun i => (i.zero, i.size, i.bytes)) = some (some (.string ⟨#[]⟩), 1, 16) := by kernel_rfl
theorem Mine.last {w : World} {base : Nat} {A : Option Addr} {n c : Nat} {xs : List Value} {y : Value} (h : Mine w base A n c (xs ++ [y])) :
    ∃ g, A = some ⟨g, 0, none⟩ ∧ base ≤ g ∧ g < w.heap.size ∧ n = xs.length + 1 ∧ w.cell? ⟨g, xs.length, none⟩ = some y ∧ w.frozen? ⟨g, xs.length, none⟩ = false ∧
      ∀ z, Mine (w.setCell ⟨g, xs.length, none⟩ z) base A n c (xs ++ [z]) := by
  have hl := h.len
  simp only [List.length_append, List.length_cons, List.length_nil] at hl
  rcases h.at_ with ⟨rfl, rfl⟩ | ⟨g, cur, t, lo, hi, rfl, hg, hh, hs, hf, ht⟩
  · have := h.cap; omega
  · have hcap := h.cap
    have hlt : xs.length < cur.size := by omega
    have h1 : cur[xs.length]? = some y := by
      have e := congrArg (fun l => l[xs.length]?) ht
      simp only [List.getElem?_take] at e
      rw [if_pos (by omega)] at e
      simpa using e
    refine ⟨g, rfl, hg, (Array.getElem?_eq_some_iff.1 hh).1, by omega, ?_, ?_, fun z => ?_⟩
    · simp only [World.cell?, hh]; simpa using h1
    · simp only [World.frozen?, hh]
      simp
      omega
    · refine ⟨by simp; omega, hcap, h.max, .inr ⟨g, cur.setIfInBounds xs.length z, t, lo, hi, rfl, hg, heap_set hh _ _, by simpa using hs, hf, ?_⟩⟩
      rw [Array.toList_setIfInBounds, List.take_set, ht, List.set_append_right _ _ (Nat.le_refl _)]
      simp
/-- a slice of texts -/
structure Tx (w : World) (A : Option Addr) (n c : Nat) (xs : List (List UInt8)) : Prop where
  cap : n ≤ c
  len : xs.length = n
  cells : n = 0 ∨ ∃ b o, A = some ⟨b, o, none⟩ ∧ b < w.heap.size ∧ ∀ j x, xs[j]? = some x → w.cell? ⟨b, o + j, none⟩ = some (.string (Sp.bs x))
theorem Tx.below {w w' : World} {A : Option Addr} {n c : Nat} {xs : List (List UInt8)} (h : Tx w A n c xs) (hb : Below w.heap.size w w') : Tx w' A n c xs := by
  refine ⟨h.cap, h.len, ?_⟩
  rcases h.cells with h0 | ⟨b, o, hA, hl, hc⟩
  · exact .inl h0
  · exact .inr ⟨b, o, hA, Nat.lt_of_lt_of_le hl hb.size, fun j x hj => (hb.cell (p := ⟨b, o + j, none⟩) hl).trans (hc j x hj)⟩
theorem Tx.drewN {w : World} {A : Option Addr} {n c : Nat} {xs : List (List UInt8)} (h : Tx w A n c xs) (k : Nat) : Tx (w.drewN k) A n c xs := h.below (below_drewN (Below.refl _ _) k)
theorem Tx.of {w : World} {base : Nat} {A : Option Addr} {n c : Nat} {xs : List (List UInt8)} (h : Mine w base A n c (Sp.vals xs)) : Tx w A n c xs := by
  have hl : xs.length = n := by have := h.len; simpa using this
  refine ⟨h.cap, hl, ?_⟩
  by_cases h0 : n = 0
  · exact .inl h0
  · obtain ⟨g, hA, hg, hlt, hc⟩ := h.cell (by omega)
    exact .inr ⟨g, 0, hA, hlt, fun j x hj => hc j _ (by rw [List.getElem?_map, hj]; rfl)⟩
/-- a letter of a text -/
theorem bs_at {s : List UInt8} {k : Nat} {x : UInt8} (hx : s[k]? = some x) : ∀ h, (Sp.bs s)[k]'h = x := by
  intro h
  have hlt := (List.getElem?_eq_some_iff.1 hx).1
  have e : (Sp.bs s)[k]'h = (Sp.bs s).data.toList[k]'(by rw [Sp.bs_list]; exact hlt) := rfl
  rw [e]
  simp only [Sp.bs_list]
  have := List.getElem?_eq_getElem hlt
  rw [hx] at this
  exact (Option.some.inj this).symm
end Sg
end Go.Proofs.YtpchfmeaplhodaaDoor
