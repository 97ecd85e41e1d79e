/-
  A part of the proof of this seat's laws: append onto a slice of the call's own.
-/
import Derived.ArgAppend
import Derived.Below
import Derived.WalkKit
import Derived.OwnWalk
import Derived.Laws.IdiomStrings
import Derived.Laws.OwnMore
namespace Go.Proofs.YtpchfmeaplhodaaDoor
set_option linter.unusedVariables false
set_option linter.unusedSimpArgs false
open Go.RowKit
namespace Ap
/-- a slice of one-cell elements at the head of a block from base on, its cells free to be written up to the capacity; or nil -/
structure Mine (w : World) (base : Nat) (A : Option Addr) (n c : Nat) (xs : List Value) : Prop where
  len : xs.length = n
  cap : n ≤ c
  max : c ≤ maxLen
  at_ : (A = none ∧ c = 0) ∨ ∃ g cur t lo hi, A = some ⟨g, 0, none⟩ ∧ base ≤ g ∧ w.heap[g]? = some (.cells cur t (lo, hi)) ∧ cur.size = c ∧ (c ≤ lo ∨ hi ≤ lo) ∧ cur.toList.take n = xs

theorem Mine.below {w w' : World} {base : Nat} {A : Option Addr} {n c : Nat} {xs : List Value} (h : Mine w base A n c xs) (hb : Below w.heap.size w w') : Mine w' base A n c xs := by
  refine ⟨h.len, h.cap, h.max, ?_⟩
  rcases h.at_ with h0 | ⟨g, cur, t, lo, hi, hA, hg, hh, r⟩
  · exact .inl h0
  · exact .inr ⟨g, cur, t, lo, hi, hA, hg, by rw [hb.block g (Array.getElem?_eq_some_iff.1 hh).1]; exact hh, r⟩
theorem Mine.mono {w : World} {base base' : Nat} {A : Option Addr} {n c : Nat} {xs : List Value} (h : Mine w base A n c xs) (hb : base' ≤ base) : Mine w base' A n c xs := by
  refine ⟨h.len, h.cap, h.max, ?_⟩
  rcases h.at_ with h0 | ⟨g, cur, t, lo, hi, hA, hg, r⟩
  · exact .inl h0
  · exact .inr ⟨g, cur, t, lo, hi, hA, by omega, r⟩
theorem Mine.nil (w : World) (base : Nat) : Mine w base none 0 0 [] := ⟨rfl, Nat.le_refl _, Nat.zero_le _, .inl ⟨rfl, rfl⟩⟩
/-- its cells -/
theorem Mine.cell {w : World} {base : Nat} {A : Option Addr} {n c : Nat} {xs : List Value} (h : Mine w base A n c xs) (hn : 0 < n) :
    ∃ g, A = some ⟨g, 0, none⟩ ∧ base ≤ g ∧ g < w.heap.size ∧ ∀ j u, xs[j]? = some u → w.cell? ⟨g, 0 + j, none⟩ = some u := by
  rcases h.at_ with ⟨rfl, rfl⟩ | ⟨g, cur, t, lo, hi, rfl, hg, hh, hs, hf, ht⟩
  · have := h.cap; omega
  · refine ⟨g, rfl, hg, (Array.getElem?_eq_some_iff.1 hh).1, fun j u hj => ?_⟩
    rw [Nat.zero_add]
    have hj2 : j < n := by
      have := (List.getElem?_eq_some_iff.1 hj).1
      have := h.len
      omega
    rw [← ht, List.getElem?_take, if_pos hj2] at hj
    simp only [World.cell?, hh]
    simpa using hj
theorem mine_of_owns {w : World} {base e : Nat} {v : Value} {n : Nat} {xs : List Value} (h : w.ownsRow base e 1 v n xs) : ∃ A c, v = .slice A n c ∧ Mine w base A n c xs := by
  obtain ⟨hl, h⟩ := h
  rcases h with ⟨rfl, rfl⟩ | ⟨g, cap, cur, rfl, hg, hh, hn, hm, hs, ht⟩
  · exact ⟨none, 0, rfl, by simpa using hl, Nat.le_refl _, Nat.zero_le _, .inl ⟨rfl, rfl⟩⟩
  · exact ⟨_, _, rfl, by simpa using hl, hn, hm, .inr ⟨g, cur, e, 0, 0, rfl, hg, hh, by simpa using hs, .inr (Nat.le_refl _), by simpa using ht⟩⟩

section
variable {P : Program}
theorem run_append_zero (w : World) (t ty e : TypeId) (i : TypeInfo) (ht : P.underlying t = some (.slice e)) (hi : P.info? e = some i) (A X : Option Addr) (n c cx : Nat) (hnc : n ≤ c) :
    (Builtin.append_ #[t, t] ty #[.slice A n c, .slice X 0 cx]).run P w = .ok (.slice A n c) w := by
  cases A <;> cases X <;> simp [Builtin.append_, run_underlying ht, sizeOf, typeInfo, hi, Builtin.lenOf, hnc, Builtin.firstCells, storeCells, loadCells, loadCellsFrom]
end
theorem heap_set {g : Nat} {cs : Array Value} {t : TypeId} {fr : Nat × Nat} {w : World} (h : w.heap[g]? = some (.cells cs t fr)) (i : Nat) (v : Value) :
    (w.setCell ⟨g, i, none⟩ v).heap[g]? = some (.cells (cs.setIfInBounds i v) t fr) := by
  simp [World.setCell, Array.getElem?_modify, h]
theorem setCells_heap {g : Nat} {t : TypeId} {fr : Nat × Nat} : ∀ (vs : List Value) (o : Nat) (w : World) (cur : Array Value), w.heap[g]? = some (.cells cur t fr) → o + vs.length ≤ cur.size →
    ∃ cur', (w.setCells g o vs).heap[g]? = some (.cells cur' t fr) ∧ cur'.size = cur.size ∧ cur'.toList.take (o + vs.length) = cur.toList.take o ++ vs
  | [], o, w, cur, h, _ => ⟨cur, h, rfl, by simp⟩
  | v :: r, o, w, cur, h, hs => by
    simp only [List.length_cons] at hs
    obtain ⟨cur', h1, h2, h3⟩ := setCells_heap r (o + 1) (w.setCell ⟨g, o, none⟩ v) (cur.setIfInBounds o v) (heap_set h o v) (by simp; omega)
    refine ⟨cur', h1, by simpa using h2, ?_⟩
    rw [show o + (v :: r).length = o + 1 + r.length from by simp; omega, h3]
    have e : (cur.setIfInBounds o v).toList.take (o + 1) = cur.toList.take o ++ [v] := by
      rw [Array.toList_setIfInBounds, List.take_set]
      have hl : o < cur.toList.length := by simp; omega
      rw [List.take_succ_eq_append_getElem hl, List.set_append]
      have hm : min o cur.size = o := by simp at hl; omega
      simp [hm]
    rw [e]; simp
theorem below_setCells {B g : Nat} (hg : B ≤ g) : ∀ (vs : List Value) (o : Nat) {a w : World}, Below B a w → Below B a (w.setCells g o vs)
  | [], _, _, _, h => h
  | v :: r, o, _, _, h => below_setCells hg r (o + 1) (h.setCell (p := ⟨g, o, none⟩) hg v)
section
variable {P : Program}
/-- append of one slice's elements onto a slice of the call's own: some value that holds both, and nothing older is turned -/
theorem wpList_append_mine (w : World) {ops : Array Oper} {rest : List Oper} {o : Oper} {a : Act} {Q : Exit → Act → World → Prop}
    (hg : o.guard = none) (s x : Operand) (t : TypeId) (hop : o.op = Op.call { callee := Callee.builtin Builtin.append, args := #[s, x], argTypes := #[t, t] })
    (e : TypeId) (i : TypeInfo) (z : Value) (bytes : Nat) (h1 : P.underlying t = some (.slice e)) (h2 : P.info? e = some i) (h3 : i.zero = some z) (h4 : i.size = 1) (h5 : i.bytes = bytes) (h6 : z.cells.size = 1)
    (base : Nat) (A : Option Addr) (n c : Nat) (xs : List Value) (hs : a.eval s = .slice A n c) (hm : Mine w base A n c xs)
    (X : Option Addr) (m cx : Nat) (news : List Value) (hx : a.eval x = .slice X m cx) (hn : news.length = m) (hX : m = 0 ∨ ∃ ad, X = some ad ∧ ∀ j u, news[j]? = some u → w.cell? (ad.add j) = some u) (h1c : ∀ u ∈ news, u.oneCell' = true)
    (b1 : n + m ≤ maxLen) (b2 : (n + m) * bytes ≤ 140737488355328) (hbase : base ≤ w.heap.size)
    (hK : ∀ A' c' w', Mine w' base A' (n + m) c' (xs ++ news) → Below base w w' → wpList P ops Q rest (a.put o.dst (.slice A' (n + m) c')) w') : wpList P ops Q (o :: rest) a w := by
  by_cases h0 : m = 0
  · subst h0
    obtain rfl := List.eq_nil_of_length_eq_zero hn
    refine wpList_plain hg fun K hK' => ?_
    have hrun := run_append_zero w t o.type e i h1 h2 A X n c cx hm.cap
    unfold Oper.wp
    simp [execOp, hop, resolve, invoke, builtin, hs, hx, hrun, Result.andThen]
    exact hK' _ _ (hK A c w (by simpa using hm) (Below.refl _ _))
  · obtain ⟨ad, rfl, hc⟩ := hX.resolve_left h0
    rcases hm.at_ with ⟨rfl, rfl⟩ | ⟨g, cur, tt, lo, hi, rfl, hgb, hh, hsz, hfr, htk⟩
    · have hn0 : n = 0 := by have := hm.cap; omega
      subst hn0
      have hxs : xs = [] := List.eq_nil_of_length_eq_zero hm.len
      subst hxs
      refine wpList_append_grows w hg s x t hop e i z 1 bytes h1 h2 h3 h4 h5 h6 (by omega) none 0 0 [] hs (fun _ => ⟨rfl, rfl⟩) rfl (fun b hb => by cases hb) ad m cx news hx (by omega) hc h1c (by omega) b1 b2 ?_
      intro v' w' hown hgrow
      obtain ⟨A', c', rfl, hmine⟩ := mine_of_owns hown
      exact hK A' c' w' (hmine.mono hbase) ((Below.refl _ _).grown hgrow hbase (fun k hk => by cases hk))
    · have hcell : ∀ j u, xs[j]? = some u → w.cell? ⟨g, 0 + j, none⟩ = some u := by
        intro j u hj
        have hj2 : j < n := by
          have := (List.getElem?_eq_some_iff.1 hj).1
          have := hm.len
          omega
        rw [Nat.zero_add]
        rw [← htk, List.getElem?_take, if_pos hj2] at hj
        simp only [World.cell?, hh]
        simpa using hj
      refine wpList_append_arg w hg s x t hop e i z 1 bytes h1 h2 h3 h4 h5 h6 (by omega) g 0 n c xs hs (by have := hm.len; omega) hcell ad m cx news hx (by omega) hc h1c ?_ b1 b2 ?_ ?_
      · intro hroom j hj
        constructor
        · simp only [World.cell?, hh]
          have : n + j < cur.size := by omega
          simp [this]
        · simp only [World.frozen?, hh]
          have : 0 + n * 1 + j < c := by omega
          simp
          omega
      · intro hroom
        obtain ⟨cur', g1, g2, g3⟩ := setCells_heap news (0 + n * 1) w cur hh (by omega)
        refine hK _ _ _ ⟨by simp [hm.len, hn], hroom, hm.max, .inr ⟨g, cur', tt, lo, hi, rfl, hgb, g1, by omega, hfr, ?_⟩⟩ (below_setCells hgb news _ (Below.refl _ _))
        have e1 : 0 + n * 1 = n := by omega
        rw [e1, hn] at g3
        rw [g3, htk]
      · intro hgrows v' w' hown hgrow
        obtain ⟨A', c', rfl, hmine⟩ := mine_of_owns hown
        exact hK A' c' w' (hmine.mono hbase) ((Below.refl _ _).grown hgrow hbase (fun k hk => by cases hk))
/-- a new block, written out -/
theorem mine_lit (w : World) (base : Nat) (cs : Array Value) (e : TypeId) (hb : base ≤ w.heap.size) (hm : cs.size ≤ maxLen) : Mine (w.alloc (.cells cs e)) base (some ⟨w.heap.size, 0, none⟩) cs.size cs.size cs.toList :=
  ⟨by simp, Nat.le_refl _, hm, .inr ⟨w.heap.size, cs, e, 0, 0, rfl, hb, by show (w.heap.push _)[w.heap.size]? = _; simp, rfl, .inr (Nat.le_refl _), List.take_of_length_le (by simp)⟩⟩
/-- the bytes of a string, in a new block -/
theorem mine_bytes (w : World) (base : Nat) (e : TypeId) (s : ByteArray) (c : Nat) (hsc : s.size ≤ c) (hc : c ≤ maxLen) (hb : base ≤ w.heap.size) :
    Mine (w.alloc (.cells (bytesRow s c) e ((bytesRow s c).size, (bytesRow s c).size + 1))) base (some ⟨w.heap.size, 0, none⟩) s.size c (s.data.toList.map fun b => Value.int .u8 b.toNat) := by
  have hsize : (bytesRow s c).size = c := by
    unfold bytesRow
    have : s.data.size = s.size := rfl
    simp
    omega
  refine ⟨by simp, hsc, hc, .inr ⟨w.heap.size, bytesRow s c, e, (bytesRow s c).size, (bytesRow s c).size + 1, rfl, hb, by show (w.heap.push _)[w.heap.size]? = _; simp, hsize, .inl (by omega), ?_⟩⟩
  unfold bytesRow
  simp only [Array.toList_append, Array.toList_map]
  rw [List.take_left']
  simp
end
end Ap
end Go.Proofs.YtpchfmeaplhodaaDoor
