/-
  A part of the proof of this seat's laws: lists of texts of the call's own.
-/
import Derived.Lib.FrozenHead2
import Derived.Test.YtcldnibedimepaaSg19
import Derived.Test.YtcldnibedimepaaUp2
namespace Go.Proofs.Ytcldnibedimepaa
set_option linter.unusedVariables false
set_option linter.unusedSimpArgs false
open Go.RowKit Go.Shelf
namespace Sp
/-- letters and texts of all lists -/
def tot1 (ls : List (List (List UInt8))) : Nat := (ls.map tot).sum
theorem tot1_take (ls : List (List (List UInt8))) (k : Nat) (L : List (List UInt8)) (h : ls[k]? = some L) : tot1 (ls.take (k + 1)) = tot1 (ls.take k) + tot L := by
  unfold tot1
  rw [List.take_add_one, h]; simp
theorem tot1_le (ls : List (List (List UInt8))) : tot1 ls ≤ tot2 ls := by
  induction ls with
  | nil => exact Nat.le_refl _
  | cons L l ih => rw [tot2_cons]; simp only [tot1, List.map_cons, List.sum_cons] at *; omega
theorem tot1_take_le (ls : List (List (List UInt8))) (k : Nat) : tot1 (ls.take k) ≤ tot1 ls := by
  have h : tot1 ls = tot1 (ls.take k) + tot1 (ls.drop k) := by
    unfold tot1
    rw [← List.sum_append, ← List.map_append, List.take_append_drop]
  omega
/-- neither sign -/
def free2 (x : List UInt8) : Bool := !x.contains 126 && !x.contains 94
def fineL (L : List (List UInt8)) : List (List UInt8) := L.filter free2
def fine (ls : List (List (List UInt8))) : List (List (List UInt8)) := (ls.map fineL).filter fun L => !L.isEmpty
theorem fineL_take {L : List (List UInt8)} {k : Nat} {x : List UInt8} (h : L[k]? = some x) : fineL (L.take (k + 1)) = fineL (L.take k) ++ (if free2 x then [x] else []) := by
  unfold fineL
  rw [List.take_add_one, h, List.filter_append]
  congr 1
  cases hc : free2 x <;> simp [hc]
theorem fine_take {ls : List (List (List UInt8))} {k : Nat} {L : List (List UInt8)} (h : ls[k]? = some L) : fine (ls.take (k + 1)) = fine (ls.take k) ++ (if fineL L = [] then [] else [fineL L]) := by
  unfold fine
  rw [List.take_add_one, h, List.map_append, List.filter_append]
  congr 1
  by_cases hc : fineL L = [] <;> simp [hc]
theorem fine_fine (ls : List (List (List UInt8))) : Fine (fine ls) := by
  intro L hL
  obtain ⟨h1, h2⟩ := List.mem_filter.1 hL
  obtain ⟨M, -, rfl⟩ := List.mem_map.1 h1
  refine ⟨by simpa using h2, fun x hx => ?_⟩
  have := (List.mem_filter.1 hx).2
  unfold free2 at this
  simp only [Bool.and_eq_true, Bool.not_eq_true', List.contains_eq_mem, decide_eq_false_iff_not] at this
  exact this
theorem free2_snoc (l : List UInt8) (y : UInt8) : free2 (l ++ [y]) = (free2 l && (y != 126) && (y != 94)) := by
  unfold free2
  rw [contains_snoc, contains_snoc]
  simp only [bne]
  cases l.contains 126 <;> cases l.contains 94 <;> cases (y == 126) <;> cases (y == 94) <;> rfl
theorem fineL_tot (L : List (List UInt8)) : tot (fineL L) ≤ tot L := by
  induction L with
  | nil => exact Nat.le_refl _
  | cons x l ih =>
    rw [tot_cons]
    unfold fineL at *
    rw [List.filter_cons]
    split
    · rw [tot_cons]; omega
    · omega
theorem fine_tot (ls : List (List (List UInt8))) : tot1 (fine ls) ≤ tot1 ls := by
  induction ls with
  | nil => exact Nat.le_refl _
  | cons L l ih =>
    have h1 := fineL_tot L
    unfold fine at *
    simp only [tot1, List.map_cons, List.sum_cons] at *
    rw [List.filter_cons]
    split
    · simp only [List.map_cons, List.sum_cons]; omega
    · omega
theorem fine_len (ls : List (List (List UInt8))) : (fine ls).length ≤ ls.length := by
  unfold fine
  exact Nat.le_trans (List.length_filter_le _ _) (by simp)
theorem nest_len (own : List (List (List UInt8))) : (nest own).length ≤ 2 * tot1 own + own.length := by
  unfold nest
  cases own with
  | nil => simp [Lib.join]
  | cons L l =>
    have hrep : ∀ L : List (List UInt8), (rep L).length ≤ tot L := by
      intro L
      cases L with
      | nil => simp [Lib.join]
      | cons x r => rw [join_len, tot_cons]; omega
    rw [List.map_cons, join_len]
    have h1 := hrep L
    have h2 : tot (l.map rep) ≤ tot1 l + l.length := by
      induction l with
      | nil => exact Nat.le_refl _
      | cons M r ih =>
        have := hrep M
        rw [List.map_cons, tot_cons]
        simp only [tot1, List.map_cons, List.sum_cons, List.length_cons] at *
        omega
    simp only [tot1, List.map_cons, List.sum_cons, List.length_cons] at *
    omega
theorem rep_len (L : List (List UInt8)) : (rep L).length ≤ tot L := by
  cases L with
  | nil => simp [Lib.join]
  | cons x r => rw [join_len, tot_cons]; omega
/-- the field as it is joined: k lists, and q texts of the next -/
def jn (own : List (List (List UInt8))) (k q : Nat) : List UInt8 := nest (own.take k) ++ (if k = 0 then [] else [126]) ++ rep ((own.getD k []).take q)
theorem jn_zero (own : List (List (List UInt8))) (k : Nat) : jn own k 0 = if k = 0 then nest (own.take k) else nest (own.take k) ++ [126] := by
  unfold jn
  split <;> simp [rep, Lib.join]
theorem getD_of {own : List (List (List UInt8))} {k : Nat} {L : List (List UInt8)} (h : own[k]? = some L) : own.getD k [] = L := by
  rw [List.getD_eq_getElem?_getD, h]; rfl
theorem jn_first (own : List (List (List UInt8))) (k : Nat) (L : List (List UInt8)) (x : List UInt8) (h : own[k]? = some L) (hx : L[0]? = some x) : jn own k (0 + 1) = jn own k 0 ++ x := by
  unfold jn
  rw [getD_of h, List.take_add_one, hx]
  have e0 : L.take 0 = [] := rfl
  rw [e0]
  show _ ++ rep [x] = _ ++ rep [] ++ x
  rw [rep_one]
  simp [rep, Lib.join]
theorem jn_step (own : List (List (List UInt8))) (k : Nat) (L : List (List UInt8)) (q : Nat) (x : List UInt8) (h : own[k]? = some L) (hq : 0 < q) (hx : L[q]? = some x) : jn own k (q + 1) = jn own k q ++ [94] ++ x := by
  have hl := (List.getElem?_eq_some_iff.1 hx).1
  unfold jn
  rw [getD_of h, List.take_add_one, hx, Option.toList_some, rep_snoc _ _ (fun e => by
    have := congrArg List.length e
    rw [List.length_take, List.length_nil] at this
    omega)]
  simp
theorem jn_end (own : List (List (List UInt8))) (k : Nat) (L : List (List UInt8)) (h : own[k]? = some L) : jn own k L.length = nest (own.take (k + 1)) := by
  have hl := (List.getElem?_eq_some_iff.1 h).1
  unfold jn
  rw [getD_of h, List.take_length, List.take_add_one, h, Option.toList_some]
  by_cases h0 : k = 0
  · subst h0
    rw [if_pos rfl, List.take_zero, List.nil_append, nest_one]
    simp [nest, Lib.join]
  · rw [if_neg h0, nest_snoc _ _ (fun e => by
      have := congrArg List.length e
      rw [List.length_take, List.length_nil] at this
      omega)]
theorem jn_len (own : List (List (List UInt8))) (k q : Nat) (L : List (List UInt8)) (h : own[k]? = some L) : (jn own k q).length ≤ 2 * tot1 own + own.length + 1 := by
  have hl := (List.getElem?_eq_some_iff.1 h).1
  have h1 := nest_len (own.take k)
  have h2 := tot1_take own k L h
  have h3 := tot1_take_le own (k + 1)
  have h4 := rep_len (L.take q)
  have h5 := tot_take_le L q
  have h6 : (own.take k).length ≤ own.length := by rw [List.length_take]; omega
  unfold jn
  rw [getD_of h, List.length_append, List.length_append]
  split <;> simp only [List.length_nil, List.length_singleton] <;> omega
end Sp
namespace Sg
/-- lists of texts of the call's own: a row of slices, each a row of texts -/
def Ow (w : World) (base : Nat) (v : Value) (own : List (List (List UInt8))) : Prop :=
  ∃ vs : List Value, w.ownsRowF base 31 1 v own.length vs ∧ vs.length = own.length ∧ ∀ (j : Nat) (L : List (List UInt8)), own[j]? = some L → ∃ u : Value, vs[j]? = some u ∧ u.oneCell' = true ∧ w.ownsRowF base 9 1 u L.length (Sp.vals L)
theorem Ow.nil (w : World) (base : Nat) : Ow w base (.slice none 0 0) [] := ⟨[], World.ownsRowF_nil _ _ _ _, rfl, fun j L hj => by simp at hj⟩
theorem Ow.below {w w' : World} {base : Nat} {v : Value} {own : List (List (List UInt8))} (h : Ow w base v own) (hb : Below w.heap.size w w') : Ow w' base v own := by
  obtain ⟨vs, h1, h2, h3⟩ := h
  exact ⟨vs, own_below h1 hb, h2, fun j L hj => by
    obtain ⟨u, hu, ho, hr⟩ := h3 j L hj
    exact ⟨u, hu, ho, own_below hr hb⟩⟩
/-- a row of another element type is not the row that grows -/
theorem own_apart {w : World} {base base' : Nat} {e T : TypeId} {v u : Value} {n m : Nat} {xs ys : List Value} (h : w.ownsRowF base e 1 v n xs) (k : w.ownsRowF base' T 1 u m ys) (hTe : T ≠ e) : u.ownBlock = none ∨ u.ownBlock ≠ v.ownBlock := by
  rcases k.2 with ⟨rfl, -⟩ | ⟨g, cap, cur, fz, rfl, hb, hg, r⟩
  · exact .inl rfl
  · exact .inr fun e' => Lib.ownBlock_neF h hg hTe e'.symm
theorem Ow.grown {w w' : World} {base : Nat} {v v' u : Value} {own : List (List (List UInt8))} {L : List (List UInt8)} {vs : List Value} (h1 : w.ownsRowF base 31 1 v own.length vs) (h2 : vs.length = own.length)
    (h3 : ∀ (j : Nat) (L : List (List UInt8)), own[j]? = some L → ∃ u : Value, vs[j]? = some u ∧ u.oneCell' = true ∧ w.ownsRowF base 9 1 u L.length (Sp.vals L)) (hu : u.oneCell' = true) (hr : w.ownsRowF base 9 1 u L.length (Sp.vals L))
    (hn : w'.ownsRowF base 31 1 v' (own.length + 1) (vs ++ [u])) (hg : w.grownBy w' v.ownBlock) : Ow w' base v' (own ++ [L]) := by
  have hTe : 9 ≠ 31 := by decide
  refine ⟨vs ++ [u], by rw [List.length_append, List.length_singleton]; exact hn, by simp [h2], fun j M hj => ?_⟩
  by_cases hjl : j < own.length
  · rw [List.getElem?_append_left hjl] at hj
    obtain ⟨u', hu', ho, hr'⟩ := h3 j M hj
    exact ⟨u', by rw [List.getElem?_append_left (by omega)]; exact hu', ho, hr'.kept hg (own_apart h1 hr' hTe)⟩
  · have hj2 := (List.getElem?_eq_some_iff.1 hj).1
    have e : j = own.length := by simp at hj2; omega
    subst e
    rw [List.getElem?_append_right (Nat.le_refl _)] at hj
    simp at hj
    subst hj
    exact ⟨u, by rw [← h2]; simp, hu, hr.kept hg (own_apart h1 hr hTe)⟩
/-- a row of texts, to be read -/
theorem Tx.own {w : World} {base : Nat} {A : Option Addr} {n c : Nat} {L : List (List UInt8)} (h : w.ownsRowF base 9 1 (.slice A n c) n (Sp.vals L)) : Tx w A n c L := by
  have hl : L.length = n := by have := h.1; simpa using this
  by_cases h0 : n = 0
  · refine ⟨?_, hl, .inl h0⟩
    omega
  · obtain ⟨g, cap, e, hb, hg, hnc, hc⟩ := own_form h (by omega)
    cases e
    exact ⟨hnc, hl, .inr ⟨g, 0, rfl, hg, fun j x hj => by
      rw [Nat.zero_add]
      exact hc j _ (by rw [List.getElem?_map, hj]; rfl)⟩⟩
/-- lists of texts of the call's own, to be read -/
theorem Ow.ls {w : World} {base : Nat} {A : Option Addr} {n c : Nat} {own : List (List (List UInt8))} (h : Ow w base (.slice A n c) own) (hn : own.length = n) : Ls w A n c own := by
  subst hn
  obtain ⟨vs, h1, h2, h3⟩ := h
  by_cases h0 : own.length = 0
  · exact ⟨by omega, rfl, .inl h0⟩
  · obtain ⟨g, cap, e, hb, hg, hnc, hc⟩ := own_form h1 (by omega)
    cases e
    refine ⟨hnc, rfl, .inr ⟨g, 0, rfl, hg, fun j L hj => ?_⟩⟩
    obtain ⟨u, hu, -, hr⟩ := h3 j L hj
    obtain ⟨a, k, rfl⟩ := own_slice hr
    refine ⟨a, L.length, k, ?_, Tx.own hr⟩
    rw [Nat.zero_add]
    exact hc j _ hu
theorem infoSS : (Try.prog.info? 31).map (fun i => (i.zero, i.size, i.bytes)) = some (some (.slice none 0 0), 1, 24) := by kernel_rfl
theorem slice_one {w : World} {base : Nat} {e : TypeId} {v : Value} {n : Nat} {xs : List Value} (h : w.ownsRowF base e 1 v n xs) : v.oneCell' = true := by
  obtain ⟨A, c, rfl⟩ := own_slice h
  rfl
end Sg
end Go.Proofs.Ytcldnibedimepaa
