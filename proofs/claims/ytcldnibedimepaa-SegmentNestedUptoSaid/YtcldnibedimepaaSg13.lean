/-
  A part of the proof of this seat's laws: messages and their segments, plainly; bytes that came in.
-/
import Derived.Test.YtcldnibedimepaaSg12
import Derived.Test.YtcldnibedimepaaIn
namespace Go.Proofs.Ytcldnibedimepaa
set_option linter.unusedVariables false
set_option linter.unusedSimpArgs false
open Go.RowKit Go.Shelf
namespace Sp
/-- those without a byte -/
def clean (c : UInt8) (l : List (List UInt8)) : List (List UInt8) := l.filter fun x => !x.contains c
theorem contains_snoc (l : List UInt8) (y c : UInt8) : (l ++ [y]).contains c = (l.contains c || y == c) := by
  simp only [List.contains_eq_mem, List.mem_append, List.mem_singleton]
  by_cases h1 : c ∈ l
  · simp [h1]
  · by_cases h2 : c = y
    · subst h2; simp
    · have h3 : (y == c) = false := by rw [beq_eq_false_iff_ne]; exact fun e => h2 e.symm
      rw [h3]; simp [h1, h2]
theorem clean_take (c : UInt8) (l : List (List UInt8)) (k : Nat) (x : List UInt8) (h : l[k]? = some x) : clean c (l.take (k + 1)) = clean c (l.take k) ++ (if x.contains c then [] else [x]) := by
  unfold clean
  rw [List.take_add_one, h, List.filter_append]
  congr 1
  cases hc : x.contains c <;> simp [hc] <;> simpa using hc
theorem clean_free {c : UInt8} {l : List (List UInt8)} : ∀ x ∈ clean c l, c ∉ x := by
  intro x hx
  have := (List.mem_filter.1 hx).2
  simpa using this
theorem tot_clean (c : UInt8) (l : List (List UInt8)) : tot (clean c l) ≤ tot l := by
  induction l with
  | nil => exact Nat.le_refl _
  | cons x l ih =>
    rw [tot_cons]
    unfold clean at *
    rw [List.filter_cons]
    split
    · rw [tot_cons]; omega
    · omega
theorem cut_join : ∀ l : List (List UInt8), (∀ x ∈ l, (13 : UInt8) ∉ x) → cutL 13 (joinT l) = l ++ [[]]
  | [], _ => rfl
  | x :: l, h => by
    have e : joinT (x :: l) = x ++ 13 :: joinT l := by simp [joinT]
    rw [e, cutL_mid, cutL_none (h x (by simp)), cut_join l (fun y hy => h y (by simp [hy]))]; rfl
theorem split_join (l : List (List UInt8)) (h : ∀ x ∈ l, (13 : UInt8) ∉ x) : split (joinT l) = l := by
  rw [split_of (cut_join l h), if_pos rfl]
theorem cut_flat : ∀ (s : List UInt8) (init : List (List UInt8)) (last : List UInt8), cutL 13 s = init ++ [last] → joinT init ++ last = s
  | [], init, last, h => by
    cases init with
    | nil => simp [cutL] at h; simp [joinT, h]
    | cons a b => simp [cutL] at h
  | x :: s, init, last, h => by
    by_cases hx : x = 13
    · rw [cutL_eq _ hx] at h
      cases init with
      | nil =>
        have h1 := cutL_pos 13 s
        have h2 := congrArg List.length h
        simp only [List.nil_append, List.length_cons, List.length_nil] at h2
        omega
      | cons z init =>
        simp only [List.cons_append, List.cons.injEq] at h
        have := cut_flat s init last h.2
        rw [← this, ← h.1, hx]; simp [joinT]
    · rw [cutL_other _ hx] at h
      cases hc : cutL 13 s with
      | nil => exact (cutL_ne 13 s hc).elim
      | cons hd tl =>
        rw [hc] at h
        cases init with
        | nil =>
          simp at h
          have := cut_flat s [] hd (by rw [hc, h.2]; rfl)
          rw [← h.1, ← this]; simp [joinT]
        | cons z init =>
          simp only [List.headD_cons, List.tail_cons, List.cons_append, List.cons.injEq] at h
          have := cut_flat s (hd :: init) last (by rw [hc, h.2]; rfl)
          rw [← h.1, ← this]; simp [joinT]
theorem join_end (l : List (List UInt8)) : joinT l = [] ∨ (joinT l).getLast? = some 13 := by
  rcases List.eq_nil_or_concat l with rfl | ⟨a, b, rfl⟩
  · exact .inl rfl
  · right
    simp [joinT]
/-- what a message's segments are joined as -/
theorem back (s : List UInt8) : ((s = [] ∨ s.getLast? = some 13) ∧ joinT (split s) = s) ∨ (s ≠ [] ∧ s.getLast? ≠ some 13 ∧ joinT (split s) = s ++ [13]) := by
  obtain ⟨init, last, h⟩ := cutL_last 13 s
  have hf := cut_flat s init last h
  rw [split_of h]
  by_cases hl : last = []
  · subst hl
    rw [if_pos rfl]
    rw [List.append_nil] at hf
    left
    rw [hf]
    refine ⟨?_, rfl⟩
    rw [← hf]
    exact join_end init
  · rw [if_neg hl]
    right
    have hfree := cutL_free 13 s last (by rw [h]; simp)
    refine ⟨?_, ?_, ?_⟩
    · rw [← hf]; simp [hl]
    · intro e
      rw [← hf, List.getLast?_append, List.getLast?_eq_some_getLast hl] at e
      simp only [Option.some_or, Option.some.injEq] at e
      exact hfree (e ▸ List.getLast_mem hl)
    · have e : joinT (init ++ [last]) = joinT init ++ last ++ [13] := by simp [joinT]
      rw [e, hf]
end Sp
namespace Sg
open Ap
theorem same_one (A B : Option Addr) (n c d : Nat) (xs : List (List UInt8)) (w : World) (hx : Tx w A n c xs) (hy : Tx w B n d xs) (hs : n ≤ 4194304) :
    Calls Try.prog 22 #[.slice A n c, .slice B n d] w fun e w' => e = .returned (.bool true) ∧ Below w.heap.size w w' := by
  refine (same_calls A B n n c d xs xs w hx hy hs).mono ?_
  rintro e w' ⟨rfl, k, rfl⟩
  exact ⟨by simp, below_drewN (Below.refl _ _) _⟩
/-- bytes that came in -/
structure By (w : World) (A : Option Addr) (n c : Nat) (s : List UInt8) : Prop where
  cap : n ≤ c
  len : s.length = n
  cells : n = 0 ∨ ∃ b o, A = some ⟨b, o, none⟩ ∧ b < w.heap.size ∧ ∀ j y, s[j]? = some y → w.cell? ⟨b, o + j, none⟩ = some (.int .u8 (y.toNat : Int))
theorem By.below {w w' : World} {A : Option Addr} {n c : Nat} {s : List UInt8} (h : By w A n c s) (hb : Below w.heap.size w w') : By w' A n c s := by
  refine ⟨h.cap, h.len, ?_⟩
  rcases h.cells with h0 | ⟨b, o, hA, hl, hc⟩
  · exact .inl h0
  · exact .inr ⟨b, o, hA, Nat.lt_of_lt_of_le hl hb.size, fun j x hj => (hb.cell (p := ⟨b, o + j, none⟩) hl).trans (hc j x hj)⟩
theorem By.of {w : World} {A : Option Addr} {n c : Nat} {xs : List Int} (h : Opn.Bytes w A n c xs) : ∃ s, By w A n c s := by
  refine ⟨xs.map fun x => UInt8.ofNat x.toNat, h.cap, by simpa using h.len, ?_⟩
  rcases h.cells with h0 | ⟨b, o, rfl, hc⟩
  · exact .inl h0
  · by_cases h0 : n = 0
    · exact .inl h0
    · have hl := h.len
      refine .inr ⟨b, o, rfl, World.block_lt_of_cell? _ _ (hc 0 (by omega)), fun j y hj => ?_⟩
      have hj' : j < xs.length := by
        have := (List.getElem?_eq_some_iff.1 hj).1
        simpa using this
      have hby := h.byte j (by omega)
      rw [List.getElem?_map, List.getElem?_eq_getElem hj'] at hj
      simp only [Option.map_some, Option.some.injEq] at hj
      have e : xs.getD j 0 = xs[j] := by rw [List.getD_eq_getElem?_getD, List.getElem?_eq_getElem hj']; rfl
      rw [hc j (by omega), ← hj]
      rw [e] at hby ⊢
      obtain ⟨h1, h2⟩ := hby
      congr 2
      simp [UInt8.toNat_ofNat]
      omega
theorem By.conv {w : World} {A : Option Addr} {n c : Nat} {s : List UInt8} (h : By w A n c s) : (convert 39 9 (.slice A n c)).run Try.prog w = .ok (.string (Sp.bs s)) w := by
  have hl := h.len
  subst hl
  rcases h.cells with h0 | ⟨b, o, rfl, hb, hc⟩
  · have : s = [] := List.eq_nil_of_length_eq_zero h0
    subst this
    cases A with
    | none => exact run_convert_bytes_nil w 39 5 Try.underlying39 Try.underlying5 0 c 9 Try.underlying9
    | some a => exact run_convert_bytes_back w 39 9 5 a c [] Try.underlying39 Try.underlying5 Try.underlying9 (fun j hj => by simp at hj)
  · refine run_convert_bytes_back w 39 9 5 ⟨b, o, none⟩ c s Try.underlying39 Try.underlying5 Try.underlying9 (fun j hj => ?_)
    rw [Addr.add_lit, hc j _ (List.getElem?_eq_getElem hj)]
theorem own_slice {W : World} {base : Nat} {e : TypeId} {v : Value} {n : Nat} {xs : List Value} (h : W.ownsRowF base e 1 v n xs) : ∃ A c, v = .slice A n c := by
  rcases h.2 with ⟨rfl, rfl⟩ | ⟨g, cap, cur, fz, rfl, r⟩
  · exact ⟨_, _, rfl⟩
  · exact ⟨_, _, rfl⟩
theorem own_text_at {B n : Nat} {v : Value} {l : List UInt8} {W0 w w' : World} (h : Lib.OwnBuf B 5 v n (vb l) W0 w) (hb : Below w.heap.size w w') : (convert 39 9 v).run Try.prog w' = .ok (.string (Sp.bs l)) w' :=
  own_text ⟨own_below h.1 hb, h.2.1.trans (hb.mono h.2.2), Nat.le_trans h.2.2 hb.size⟩
end Sg
end Go.Proofs.Ytcldnibedimepaa
