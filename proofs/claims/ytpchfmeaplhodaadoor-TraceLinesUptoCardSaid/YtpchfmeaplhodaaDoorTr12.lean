/-
  A part of the proof of this seat's laws: steps in memory.
-/
import Derived.Test.YtpchfmeaplhodaaDoorTpM
import Derived.Test.YtpchfmeaplhodaaDoorTr2
import Derived.Deep.AppendLies
namespace Go.Proofs.YtpchfmeaplhodaaDoor
set_option linter.unusedVariables false
set_option linter.unusedSimpArgs false
open Go.RowKit Go.Shelf
namespace Tr
open Ap Sg
/-- blocks of which K holds are kept -/
structure Kp (K : Nat → Prop) (w w' : World) : Prop where
  size : w.heap.size ≤ w'.heap.size
  block : ∀ b, b < w.heap.size → K b → w'.heap[b]? = w.heap[b]?
theorem Kp.of {K : Nat → Prop} {w w' : World} (h : Below w.heap.size w w') : Kp K w w' := ⟨h.size, fun b hb _ => h.block b hb⟩
theorem Kp.put {K : Nat → Prop} (w : World) (p : Addr) (v : Value) (h : ¬ K p.block) : Kp K w (w.setCell p v) :=
  ⟨by simp [World.setCell], fun b hb hk => Below.heap_setCell _ _ _ _ (fun e => h (e ▸ hk))⟩
theorem Kp.trans {K : Nat → Prop} {a b c : World} (h : Kp K a b) (h' : Kp K b c) : Kp K a c :=
  ⟨Nat.le_trans h.size h'.size, fun i hi hk => (h'.block i (Nat.lt_of_lt_of_le hi h.size) hk).trans (h.block i hi hk)⟩
theorem Kp.grown {K : Nat → Prop} {w w' : World} {row : Option Nat} (h : w.grownBy w' row) (hr : ∀ b, K b → row ≠ some b) : Kp K w w' :=
  ⟨h.size, fun b hb hk => h.block b hb (fun e => hr b hk e.symm)⟩
theorem grown_of {w w' : World} (h : Below w.heap.size w w') : w.grownBy w' none := ⟨h.os, h.tape, h.output, h.size, fun k hk _ => h.block k hk⟩
/-- bytes in a block of which K holds -/
structure Bk (w : World) (K : Nat → Prop) (A : Option Addr) (n c : Nat) (s : List UInt8) : Prop where
  by_ : By w A n c s
  in_ : n = 0 ∨ ∃ b o, A = some ⟨b, o, none⟩ ∧ K b
theorem Bk.keep {w w' : World} {K : Nat → Prop} {A : Option Addr} {n c : Nat} {s : List UInt8} (h : Bk w K A n c s) (hk : Kp K w w') : Bk w' K A n c s := by
  refine ⟨⟨h.by_.cap, h.by_.len, ?_⟩, h.in_⟩
  rcases h.by_.cells with h0 | ⟨b, o, rfl, hb, hc⟩
  · exact .inl h0
  · rcases h.in_ with h0 | ⟨b', o', e, hK⟩
    · exact .inl h0
    · obtain ⟨rfl, rfl⟩ : b = b' ∧ o = o' := by simpa using e
      exact .inr ⟨b, o, rfl, Nat.lt_of_lt_of_le hb hk.size, fun j y hj => (World.cell?_of_block (a := ⟨b, o + j, none⟩) (hk.block b hb hK)).trans (hc j y hj)⟩
theorem Bk.mono {w : World} {K K' : Nat → Prop} {A : Option Addr} {n c : Nat} {s : List UInt8} (h : Bk w K A n c s) (hm : ∀ b, b < w.heap.size → K b → K' b) : Bk w K' A n c s := by
  refine ⟨h.by_, ?_⟩
  rcases h.by_.cells with h0 | ⟨b, o, rfl, hb, hc⟩
  · exact .inl h0
  · rcases h.in_ with h0 | ⟨b', o', e, hK⟩
    · exact .inl h0
    · obtain ⟨rfl, rfl⟩ : b = b' ∧ o = o' := by simpa using e
      exact .inr ⟨b, o, rfl, hm b hb hK⟩
theorem Bk.of {w : World} {A : Option Addr} {n c : Nat} {s : List UInt8} (h : By w A n c s) : Bk w (fun _ => True) A n c s := by
  refine ⟨h, ?_⟩
  rcases h.cells with h0 | ⟨b, o, rfl, hb, hc⟩
  · exact .inl h0
  · exact .inr ⟨b, o, rfl, trivial⟩
/-- bytes in a new block -/
theorem Bk.new {w : World} {K : Nat → Prop} {B : Nat} {A : Option Addr} {n c : Nat} {s : List UInt8} (h : By w A n c s) (hA : ∀ g o, A = some ⟨g, o, none⟩ → B ≤ g) (hK : ∀ g, B ≤ g → K g) : Bk w K A n c s := by
  refine ⟨h, ?_⟩
  rcases h.cells with h0 | ⟨b, o, rfl, hb, hc⟩
  · exact .inl h0
  · exact .inr ⟨b, o, rfl, hK b (hA b o rfl)⟩
theorem Bk.nil (w : World) (K : Nat → Prop) : Bk w K none 0 0 [] := ⟨By.nil w, .inl rfl⟩
/-- outputs' values -/
def OutsV (w : World) (K : Nat → Prop) : List Sp.Out → List Value → Prop
  | [], vs => vs = []
  | x :: l, vs => ∃ A n c vs', vs = .bool x.back :: .slice A n c :: vs' ∧ Bk w K A n c x.data ∧ OutsV w K l vs'
theorem OutsV.len {w : World} {K : Nat → Prop} : ∀ {l : List Sp.Out} {vs : List Value}, OutsV w K l vs → vs.length = l.length * 2
  | [], vs, h => by cases h; rfl
  | x :: l, vs, h => by
    obtain ⟨A, n, c, vs', rfl, -, h'⟩ := h
    have := OutsV.len h'
    simp only [List.length_cons]; omega
theorem OutsV.keep {w w' : World} {K : Nat → Prop} (hk : Kp K w w') : ∀ {l : List Sp.Out} {vs : List Value}, OutsV w K l vs → OutsV w' K l vs
  | [], vs, h => h
  | x :: l, vs, h => by
    obtain ⟨A, n, c, vs', rfl, hb, h'⟩ := h
    exact ⟨A, n, c, vs', rfl, hb.keep hk, OutsV.keep hk h'⟩
theorem OutsV.mono {w : World} {K K' : Nat → Prop} (hm : ∀ b, b < w.heap.size → K b → K' b) : ∀ {l : List Sp.Out} {vs : List Value}, OutsV w K l vs → OutsV w K' l vs
  | [], vs, h => h
  | x :: l, vs, h => by
    obtain ⟨A, n, c, vs', rfl, hb, h'⟩ := h
    exact ⟨A, n, c, vs', rfl, hb.mono hm, OutsV.mono hm h'⟩
theorem OutsV.snoc {w : World} {K : Nat → Prop} {x : Sp.Out} {A : Option Addr} {n c : Nat} (hb : Bk w K A n c x.data) : ∀ {l : List Sp.Out} {vs : List Value}, OutsV w K l vs → OutsV w K (l ++ [x]) (vs ++ [.bool x.back, .slice A n c])
  | [], vs, h => by cases h; exact ⟨A, n, c, [], rfl, hb, rfl⟩
  | y :: l, vs, h => by
    obtain ⟨A', n', c', vs', rfl, hb', h'⟩ := h
    exact ⟨A', n', c', _, rfl, hb', OutsV.snoc hb h'⟩
theorem OutsV.get {w : World} {K : Nat → Prop} : ∀ {l : List Sp.Out} {vs : List Value} {j : Nat} {x : Sp.Out}, OutsV w K l vs → l[j]? = some x → ∃ A n c, vs[j * 2]? = some (.bool x.back) ∧ vs[j * 2 + 1]? = some (.slice A n c) ∧ Bk w K A n c x.data
  | [], vs, j, x, h, hj => by simp at hj
  | y :: l, vs, 0, x, h, hj => by
    obtain ⟨A, n, c, vs', rfl, hb, h'⟩ := h
    simp only [List.getElem?_cons_zero, Option.some.injEq] at hj
    subst hj
    exact ⟨A, n, c, rfl, rfl, hb⟩
  | y :: l, vs, j + 1, x, h, hj => by
    obtain ⟨A, n, c, vs', rfl, hb, h'⟩ := h
    rw [List.getElem?_cons_succ] at hj
    obtain ⟨A', n', c', e1, e2, hb'⟩ := OutsV.get h' hj
    refine ⟨A', n', c', ?_, ?_, hb'⟩
    · rw [show (j + 1) * 2 = j * 2 + 1 + 1 by omega, List.getElem?_cons_succ, List.getElem?_cons_succ]; exact e1
    · rw [show (j + 1) * 2 + 1 = j * 2 + 1 + 1 + 1 by omega, List.getElem?_cons_succ, List.getElem?_cons_succ]; exact e2
/-- a slice of outputs -/
structure Ou (w : World) (K : Nat → Prop) (A : Option Addr) (n c : Nat) (l : List Sp.Out) : Prop where
  cap : n ≤ c
  len : l.length = n
  cells : ∃ vs, OutsV w K l vs ∧ (n = 0 ∨ ∃ b o, A = some ⟨b, o, none⟩ ∧ b < w.heap.size ∧ K b ∧ ∀ j u, vs[j]? = some u → w.cell? ⟨b, o + j, none⟩ = some u)
theorem Ou.keep {w w' : World} {K : Nat → Prop} {A : Option Addr} {n c : Nat} {l : List Sp.Out} (h : Ou w K A n c l) (hk : Kp K w w') : Ou w' K A n c l := by
  obtain ⟨vs, hv, hc⟩ := h.cells
  refine ⟨h.cap, h.len, vs, hv.keep hk, ?_⟩
  rcases hc with h0 | ⟨b, o, hA, hb, hK, hc⟩
  · exact .inl h0
  · exact .inr ⟨b, o, hA, Nat.lt_of_lt_of_le hb hk.size, hK, fun j u hj => (World.cell?_of_block (a := ⟨b, o + j, none⟩) (hk.block b hb hK)).trans (hc j u hj)⟩
theorem Ou.mono {w : World} {K K' : Nat → Prop} {A : Option Addr} {n c : Nat} {l : List Sp.Out} (h : Ou w K A n c l) (hm : ∀ b, b < w.heap.size → K b → K' b) : Ou w K' A n c l := by
  obtain ⟨vs, hv, hc⟩ := h.cells
  refine ⟨h.cap, h.len, vs, hv.mono hm, ?_⟩
  rcases hc with h0 | ⟨b, o, hA, hb, hK, hc⟩
  · exact .inl h0
  · exact .inr ⟨b, o, hA, hb, hm b hb hK, hc⟩
theorem Ou.nil (w : World) (K : Nat → Prop) : Ou w K none 0 0 [] := ⟨Nat.le_refl _, rfl, [], rfl, .inl rfl⟩
theorem Ou.get {w : World} {K : Nat → Prop} {A : Option Addr} {n c : Nat} {l : List Sp.Out} (h : Ou w K A n c l) {j : Nat} {x : Sp.Out} (hj : l[j]? = some x) :
    ∃ b o A' n' c', A = some ⟨b, o, none⟩ ∧ b < w.heap.size ∧ w.cell? ⟨b, o + j * 2, none⟩ = some (.bool x.back) ∧ w.cell? ⟨b, o + j * 2 + 1, none⟩ = some (.slice A' n' c') ∧ Bk w K A' n' c' x.data := by
  obtain ⟨vs, hv, hc⟩ := h.cells
  have hn := h.len
  have hjl := (List.getElem?_eq_some_iff.1 hj).1
  obtain ⟨b, o, hA, hb, hK, hc⟩ := hc.resolve_left (by omega)
  obtain ⟨A', n', c', e1, e2, hB⟩ := hv.get hj
  exact ⟨b, o, A', n', c', hA, hb, hc _ _ e1, by rw [Nat.add_assoc]; exact hc _ _ e2, hB⟩
/-- a step's values -/
def stV (s : Sp.Stp) (A : Option Addr) (n c : Nat) (A' : Option Addr) (n' c' : Nat) : List Value := [.int .i64 s.ev.kind, .int .i64 s.ev.n, .int .i64 s.ev.keep, .slice A n c, .slice A' n' c', .bool s.gone]
def StepsV (w : World) (K : Nat → Prop) : List Sp.Stp → List Value → Prop
  | [], vs => vs = []
  | s :: l, vs => ∃ A n c A' n' c' vs', vs = stV s A n c A' n' c' ++ vs' ∧ Bk w K A n c s.ev.data ∧ Ou w K A' n' c' s.outs ∧ StepsV w K l vs'
theorem StepsV.len {w : World} {K : Nat → Prop} : ∀ {l : List Sp.Stp} {vs : List Value}, StepsV w K l vs → vs.length = l.length * 6
  | [], vs, h => by cases h; rfl
  | x :: l, vs, h => by
    obtain ⟨A, n, c, A', n', c', vs', rfl, -, -, h'⟩ := h
    have := StepsV.len h'
    simp only [List.length_append, List.length_cons, stV, List.length_nil]; omega
theorem StepsV.keep {w w' : World} {K : Nat → Prop} (hk : Kp K w w') : ∀ {l : List Sp.Stp} {vs : List Value}, StepsV w K l vs → StepsV w' K l vs
  | [], vs, h => h
  | x :: l, vs, h => by
    obtain ⟨A, n, c, A', n', c', vs', rfl, hb, ho, h'⟩ := h
    exact ⟨A, n, c, A', n', c', vs', rfl, hb.keep hk, ho.keep hk, StepsV.keep hk h'⟩
theorem StepsV.mono {w : World} {K K' : Nat → Prop} (hm : ∀ b, b < w.heap.size → K b → K' b) : ∀ {l : List Sp.Stp} {vs : List Value}, StepsV w K l vs → StepsV w K' l vs
  | [], vs, h => h
  | x :: l, vs, h => by
    obtain ⟨A, n, c, A', n', c', vs', rfl, hb, ho, h'⟩ := h
    exact ⟨A, n, c, A', n', c', vs', rfl, hb.mono hm, ho.mono hm, StepsV.mono hm h'⟩
theorem StepsV.app {w : World} {K : Nat → Prop} {r : List Sp.Stp} {us : List Value} (hr : StepsV w K r us) : ∀ {l : List Sp.Stp} {vs : List Value}, StepsV w K l vs → StepsV w K (l ++ r) (vs ++ us)
  | [], vs, h => by cases h; exact hr
  | y :: l, vs, h => by
    obtain ⟨A, n, c, A', n', c', vs', rfl, hb, ho, h'⟩ := h
    exact ⟨A, n, c, A', n', c', _, by rw [List.append_assoc], hb, ho, StepsV.app hr h'⟩
theorem StepsV.one {w : World} {K : Nat → Prop} {s : Sp.Stp} {A : Option Addr} {n c : Nat} {A' : Option Addr} {n' c' : Nat} (hb : Bk w K A n c s.ev.data) (ho : Ou w K A' n' c' s.outs) : StepsV w K [s] (stV s A n c A' n' c') :=
  ⟨A, n, c, A', n', c', [], (List.append_nil _).symm, hb, ho, rfl⟩
theorem StepsV.get {w : World} {K : Nat → Prop} : ∀ {l : List Sp.Stp} {vs : List Value} {j : Nat} {x : Sp.Stp}, StepsV w K l vs → l[j]? = some x →
    ∃ A n c A' n' c', (∀ i u, (stV x A n c A' n' c')[i]? = some u → vs[j * 6 + i]? = some u) ∧ Bk w K A n c x.ev.data ∧ Ou w K A' n' c' x.outs
  | [], vs, j, x, h, hj => by simp at hj
  | y :: l, vs, 0, x, h, hj => by
    obtain ⟨A, n, c, A', n', c', vs', rfl, hb, ho, h'⟩ := h
    simp only [List.getElem?_cons_zero, Option.some.injEq] at hj
    subst hj
    refine ⟨A, n, c, A', n', c', fun i u hi => ?_, hb, ho⟩
    rw [Nat.zero_mul, Nat.zero_add, List.getElem?_append_left (List.getElem?_eq_some_iff.1 hi).1]
    exact hi
  | y :: l, vs, j + 1, x, h, hj => by
    obtain ⟨A, n, c, A', n', c', vs', rfl, hb, ho, h'⟩ := h
    rw [List.getElem?_cons_succ] at hj
    obtain ⟨A1, n1, c1, A2, n2, c2, e, hb', ho'⟩ := StepsV.get h' hj
    refine ⟨A1, n1, c1, A2, n2, c2, fun i u hi => ?_, hb', ho'⟩
    have hl6 : (stV y A n c A' n' c').length = 6 := rfl
    rw [List.getElem?_append_right (by omega), hl6, show (j + 1) * 6 + i - 6 = j * 6 + i by omega]
    exact e i u hi
/-- a slice of steps -/
structure Sts (w : World) (A : Option Addr) (n c : Nat) (l : List Sp.Stp) : Prop where
  cap : n ≤ c
  len : l.length = n
  cells : ∃ vs, StepsV w (fun _ => True) l vs ∧ (n = 0 ∨ ∃ b o, A = some ⟨b, o, none⟩ ∧ b < w.heap.size ∧ ∀ j u, vs[j]? = some u → w.cell? ⟨b, o + j, none⟩ = some u)
theorem Sts.below {w w' : World} {A : Option Addr} {n c : Nat} {l : List Sp.Stp} (h : Sts w A n c l) (hb : Below w.heap.size w w') : Sts w' A n c l := by
  obtain ⟨vs, hv, hc⟩ := h.cells
  refine ⟨h.cap, h.len, vs, hv.keep (Kp.of hb), ?_⟩
  rcases hc with h0 | ⟨b, o, hA, hlt, hc⟩
  · exact .inl h0
  · exact .inr ⟨b, o, hA, Nat.lt_of_lt_of_le hlt hb.size, fun j u hj => (hb.cell (p := ⟨b, o + j, none⟩) hlt).trans (hc j u hj)⟩
theorem Sts.nil (w : World) : Sts w none 0 0 [] := ⟨Nat.le_refl _, rfl, [], rfl, .inl rfl⟩
theorem Sts.get {w : World} {A : Option Addr} {n c : Nat} {l : List Sp.Stp} (h : Sts w A n c l) {j : Nat} {x : Sp.Stp} (hj : l[j]? = some x) :
    ∃ b o A1 n1 c1 A2 n2 c2, A = some ⟨b, o, none⟩ ∧ b < w.heap.size ∧ (∀ i u, (stV x A1 n1 c1 A2 n2 c2)[i]? = some u → w.cell? ⟨b, o + j * 6 + i, none⟩ = some u) ∧ By w A1 n1 c1 x.ev.data ∧ Ou w (fun _ => True) A2 n2 c2 x.outs := by
  obtain ⟨vs, hv, hc⟩ := h.cells
  have hn := h.len
  have hjl := (List.getElem?_eq_some_iff.1 hj).1
  obtain ⟨b, o, hA, hb, hc⟩ := hc.resolve_left (by omega)
  obtain ⟨A1, n1, c1, A2, n2, c2, e, hB, hO⟩ := hv.get hj
  exact ⟨b, o, A1, n1, c1, A2, n2, c2, hA, hb, fun i u hi => by rw [Nat.add_assoc]; exact hc _ _ (e i u hi), hB.by_, hO⟩
/-- the call's own steps, the last laid open -/
structure OsL (w : World) (base G n c : Nat) (init : List Sp.Stp) (s : Sp.Stp) (Ad : Option Addr) (nd cd : Nat) (Ao : Option Addr) (no co : Nat) : Prop where
  num : n = init.length + 1
  row : ∃ vi, w.ownsRow base 42 6 (.slice (some ⟨G, 0, none⟩) n c) n (vi ++ stV s Ad nd cd Ao no co) ∧ StepsV w (fun b => base ≤ b ∧ b ≠ G ∧ (Value.slice Ao no co).ownBlock ≠ some b) init vi
  data : Bk w (fun b => base ≤ b ∧ b ≠ G ∧ (Value.slice Ao no co).ownBlock ≠ some b) Ad nd cd s.ev.data
  outs : ∃ us, w.ownsRow base 56 2 (.slice Ao no co) no us ∧ OutsV w (fun b => base ≤ b ∧ b ≠ G ∧ (Value.slice Ao no co).ownBlock ≠ some b) s.outs us
  ne : (Value.slice Ao no co).ownBlock ≠ some G
/-- the call's own steps -/
def Os (w : World) (base : Nat) (A : Option Addr) (n c : Nat) (l : List Sp.Stp) : Prop :=
  (l = [] ∧ A = none ∧ n = 0 ∧ c = 0) ∨ ∃ init s G Ad nd cd Ao no co, l = init ++ [s] ∧ A = some ⟨G, 0, none⟩ ∧ OsL w base G n c init s Ad nd cd Ao no co
theorem Os.nil (w : World) (base : Nat) : Os w base none 0 0 [] := .inl ⟨rfl, rfl, rfl, rfl⟩
theorem OsL.below {w w' : World} {base G n c : Nat} {init : List Sp.Stp} {s : Sp.Stp} {Ad : Option Addr} {nd cd : Nat} {Ao : Option Addr} {no co : Nat} (h : OsL w base G n c init s Ad nd cd Ao no co) (hb : Below w.heap.size w w') : OsL w' base G n c init s Ad nd cd Ao no co := by
  obtain ⟨vi, hr, hv⟩ := h.row
  obtain ⟨us, ho, hu⟩ := h.outs
  have hg := grown_of hb
  exact ⟨h.num, ⟨vi, hr.kept hg (.inr (by simp [Value.ownBlock])), hv.keep (Kp.of hb)⟩, h.data.keep (Kp.of hb), ⟨us, ho.kept hg (by cases hx : (Value.slice Ao no co).ownBlock <;> simp), hu.keep (Kp.of hb)⟩, h.ne⟩
theorem Os.below {w w' : World} {base : Nat} {A : Option Addr} {n c : Nat} {l : List Sp.Stp} (h : Os w base A n c l) (hb : Below w.heap.size w w') : Os w' base A n c l := by
  rcases h with h | ⟨init, s, G, Ad, nd, cd, Ao, no, co, rfl, rfl, h⟩
  · exact .inl h
  · exact .inr ⟨init, s, G, Ad, nd, cd, Ao, no, co, rfl, rfl, h.below hb⟩
theorem Os.len {w : World} {base : Nat} {A : Option Addr} {n c : Nat} {l : List Sp.Stp} (h : Os w base A n c l) : n = l.length := by
  rcases h with ⟨rfl, rfl, rfl, rfl⟩ | ⟨init, s, G, Ad, nd, cd, Ao, no, co, rfl, rfl, h⟩
  · rfl
  · rw [h.num]; simp
theorem OsL.lt {w : World} {base G n c : Nat} {init : List Sp.Stp} {s : Sp.Stp} {Ad : Option Addr} {nd cd : Nat} {Ao : Option Addr} {no co : Nat} (h : OsL w base G n c init s Ad nd cd Ao no co) : base ≤ G ∧ G < w.heap.size := by
  obtain ⟨vi, hr, hv⟩ := h.row
  exact hr.lt G rfl
/-- the last step's cells -/
theorem OsL.cell {w : World} {base G n c : Nat} {init : List Sp.Stp} {s : Sp.Stp} {Ad : Option Addr} {nd cd : Nat} {Ao : Option Addr} {no co : Nat} (h : OsL w base G n c init s Ad nd cd Ao no co) (i : Nat) (u : Value) (hi : (stV s Ad nd cd Ao no co)[i]? = some u) :
    w.cell? ⟨G, init.length * 6 + i, none⟩ = some u := by
  obtain ⟨vi, hr, hv⟩ := h.row
  have hl := hv.len
  have h6 : i < 6 := (List.getElem?_eq_some_iff.1 hi).1
  have hn := h.num
  rw [hr.cellAt _ (by omega), List.getElem?_append_right (by omega), hl, show init.length * 6 + i - init.length * 6 = i by omega]
  exact hi
theorem OsL.frozen {w : World} {base G n c : Nat} {init : List Sp.Stp} {s : Sp.Stp} {Ad : Option Addr} {nd cd : Nat} {Ao : Option Addr} {no co : Nat} (h : OsL w base G n c init s Ad nd cd Ao no co) (i : Nat) : w.frozen? ⟨G, i, none⟩ = false := by
  obtain ⟨vi, hr, hv⟩ := h.row
  exact hr.frozenAt i
/-- the power went -/
theorem OsL.crash {w : World} {base G n c : Nat} {init : List Sp.Stp} {s : Sp.Stp} {Ad : Option Addr} {nd cd : Nat} {Ao : Option Addr} {no co : Nat} (h : OsL w base G n c init s Ad nd cd Ao no co) :
    OsL (w.setCell ⟨G, init.length * 6 + 5, none⟩ (.bool true)) base G n c init ⟨s.ev, s.outs, true⟩ Ad nd cd Ao no co := by
  obtain ⟨vi, hr, hv⟩ := h.row
  obtain ⟨us, ho, hu⟩ := h.outs
  have hk : Kp (fun b => base ≤ b ∧ b ≠ G ∧ (Value.slice Ao no co).ownBlock ≠ some b) w (w.setCell ⟨G, init.length * 6 + 5, none⟩ (.bool true)) := Kp.put w _ _ (fun e => e.2.1 rfl)
  have hs := hr.stored (init.length * 6 + 5) (.bool true)
  refine ⟨h.num, ⟨vi, ?_, hv.keep hk⟩, h.data.keep hk, ⟨us, ho.kept hs.2 (.inr h.ne), hu.keep hk⟩, h.ne⟩
  have e : (vi ++ stV s Ad nd cd Ao no co).set (init.length * 6 + 5) (.bool true) = vi ++ stV ⟨s.ev, s.outs, true⟩ Ad nd cd Ao no co := by
    rw [List.set_append_right _ _ (by rw [hv.len]; omega), hv.len, show init.length * 6 + 5 - init.length * 6 = 5 by omega]; rfl
  rw [← e]
  exact hs.1
/-- the last step's outputs as what is read -/
theorem OsL.ou {w : World} {base G n c : Nat} {init : List Sp.Stp} {s : Sp.Stp} {Ad : Option Addr} {nd cd : Nat} {Ao : Option Addr} {no co : Nat} (h : OsL w base G n c init s Ad nd cd Ao no co) (K : Nat → Prop) (h1 : ∀ b, b < w.heap.size → base ≤ b → b ≠ G → K b) : Ou w K Ao no co s.outs := by
  obtain ⟨us, ho, hu⟩ := h.outs
  have hl := ho.1
  have hl2 := hu.len
  have hne := h.ne
  refine ⟨?_, by omega, us, hu.mono (fun b hb hk => h1 b hb hk.1 hk.2.1), ?_⟩
  · rcases ho.2 with ⟨e, rfl⟩ | ⟨g, cap, cur, e, -, -, hc, -⟩
    · omega
    · obtain ⟨rfl, -, rfl⟩ : Ao = some ⟨g, 0, none⟩ ∧ no = no ∧ co = cap := by simpa using e
      exact hc
  · by_cases h0 : no = 0
    · exact .inl h0
    · obtain ⟨g, cap, e, hbg, hlt⟩ := ho.form (by omega)
      obtain ⟨rfl, -, rfl⟩ : Ao = some ⟨g, 0, none⟩ ∧ no = no ∧ co = cap := by simpa using e
      refine .inr ⟨g, 0, rfl, hlt, h1 g hlt hbg (fun e => hne (by rw [e]; rfl)), fun j u hj => ?_⟩
      have := ho.cells (g := g) rfl j u hj
      rw [Addr.add_lit] at this
      exact this
theorem Os.sts {w : World} {base : Nat} {A : Option Addr} {n c : Nat} {l : List Sp.Stp} (h : Os w base A n c l) : Sts w A n c l := by
  rcases h with ⟨rfl, rfl, rfl, rfl⟩ | ⟨init, s, G, Ad, nd, cd, Ao, no, co, rfl, rfl, h⟩
  · exact Sts.nil w
  · obtain ⟨vi, hr, hv⟩ := h.row
    have hcn : n ≤ c := by
      rcases hr.2 with ⟨e, -⟩ | ⟨g, cap, cur, e, -, -, hc, -⟩
      · cases e
      · obtain ⟨-, -, rfl⟩ : G = g ∧ n = n ∧ c = cap := by simpa using e
        exact hc
    refine ⟨hcn, by rw [h.num]; simp, _, StepsV.app (StepsV.one (h.data.mono (fun _ _ _ => trivial)) (h.ou _ (fun _ _ _ _ => trivial))) (hv.mono (fun _ _ _ => trivial)), .inr ⟨G, 0, rfl, h.lt.2, fun j u hj => ?_⟩⟩
    have := hr.cells (g := G) rfl j u hj
    rw [Addr.add_lit] at this
    exact this
/-- a step more -/
theorem Os.push {w : World} {base : Nat} {A : Option Addr} {n c : Nat} {l : List Sp.Stp} (h : Os w base A n c l) : ∃ xs, w.ownsRow base 42 6 (.slice A n c) n xs ∧
    ∀ (w2 w' : World) (g cap : Nat) (ev : Sp.Evt) (Ad : Option Addr) (nd cd : Nat), Below w.heap.size w w2 → Bk w (fun b => base ≤ b ∧ (Value.slice A n c).ownBlock ≠ some b) Ad nd cd ev.data →
      w2.grownBy w' (Value.slice A n c).ownBlock → w'.ownsRow base 42 6 (.slice (some ⟨g, 0, none⟩) (n + 1) cap) (n + 1) (xs ++ stV ⟨ev, [], false⟩ Ad nd cd none 0 0) → ((Value.slice A n c).ownBlock = some g ∨ g = w2.heap.size) →
      Os w' base (some ⟨g, 0, none⟩) (n + 1) cap (l ++ [⟨ev, [], false⟩]) := by
  rcases h with ⟨rfl, rfl, rfl, rfl⟩ | ⟨init, s, G, Ad0, nd0, cd0, Ao, no, co, rfl, rfl, h⟩
  · refine ⟨[], World.ownsRow_nil _ _ _ _, fun w2 w' g cap ev Ad nd cd hb hd hg hr hw => ?_⟩
    have hgs : g = w2.heap.size := by rcases hw with hw | hw; · cases hw
                                      · exact hw
    have hsz := hb.size
    have e2 : Bk w' (fun b => base ≤ b ∧ b ≠ g ∧ (Value.slice none 0 0).ownBlock ≠ some b) Ad nd cd ev.data :=
      ((hd.mono (K' := fun b => base ≤ b ∧ b ≠ g) (fun b hlt hk => ⟨hk.1, by omega⟩)).keep ((Kp.of hb).trans (Kp.grown hg (fun b _ e => by cases e)))).mono (fun b _ hk => ⟨hk.1, hk.2, by simp [Value.ownBlock]⟩)
    exact .inr ⟨[], _, g, Ad, nd, cd, none, 0, 0, rfl, rfl, ⟨rfl, ⟨[], hr, rfl⟩, e2, ⟨[], World.ownsRow_nil _ _ _ _, rfl⟩, by simp [Value.ownBlock]⟩⟩
  · obtain ⟨vi, hr0, hv⟩ := h.row
    refine ⟨_, hr0, fun w2 w' g cap ev Ad nd cd hb hd hg hr hw => ?_⟩
    have hG := h.lt
    have hsz := hb.size
    have hgb : ∀ b, b < w.heap.size → b ≠ G → b ≠ g := by
      intro b hlt hne
      rcases hw with hw | hw
      · obtain rfl : G = g := by simpa [Value.ownBlock] using hw
        exact hne
      · omega
    have hkp : ∀ K : Nat → Prop, (∀ b, K b → b ≠ G) → Kp K w w' := fun K hK => (Kp.of hb).trans (Kp.grown hg (fun b hk e => hK b hk (by simpa [Value.ownBlock] using e.symm)))
    have e1 : StepsV w' (fun b => base ≤ b ∧ b ≠ g ∧ (Value.slice none 0 0).ownBlock ≠ some b) (init ++ [s]) (vi ++ stV s Ad0 nd0 cd0 Ao no co) := by
      have m : ∀ b, b < w.heap.size → base ≤ b → b ≠ G → (base ≤ b ∧ b ≠ G ∧ b ≠ g) := fun b hlt hb0 hne => ⟨hb0, hne, hgb b hlt hne⟩
      have a1 : StepsV w (fun b => base ≤ b ∧ b ≠ G ∧ b ≠ g) (init ++ [s]) (vi ++ stV s Ad0 nd0 cd0 Ao no co) :=
        StepsV.app (StepsV.one (h.data.mono (fun b hlt hk => m b hlt hk.1 hk.2.1)) (h.ou _ (fun b hlt hk hk' => m b hlt hk hk'))) (hv.mono (fun b hlt hk => m b hlt hk.1 hk.2.1))
      exact (a1.keep (hkp _ (fun b hk => hk.2.1))).mono (fun b _ hk => ⟨hk.1, hk.2.2, by simp [Value.ownBlock]⟩)
    have e2 : Bk w' (fun b => base ≤ b ∧ b ≠ g ∧ (Value.slice none 0 0).ownBlock ≠ some b) Ad nd cd ev.data := by
      have a1 : Bk w (fun b => base ≤ b ∧ b ≠ G ∧ b ≠ g) Ad nd cd ev.data := hd.mono (fun b hlt hk => by
        have : b ≠ G := fun e => hk.2 (by rw [e]; rfl)
        exact ⟨hk.1, this, hgb b hlt this⟩)
      exact (a1.keep (hkp _ (fun b hk => hk.2.1))).mono (fun b _ hk => ⟨hk.1, hk.2.2, by simp [Value.ownBlock]⟩)
    refine .inr ⟨init ++ [s], _, g, Ad, nd, cd, none, 0, 0, rfl, rfl, ⟨by rw [h.num]; simp, ⟨_, hr, e1⟩, e2, ⟨[], World.ownsRow_nil _ _ _ _, rfl⟩, by simp [Value.ownBlock]⟩⟩
/-- an output more for the last step -/
theorem OsL.out {w : World} {base G n c : Nat} {init : List Sp.Stp} {s : Sp.Stp} {Ad : Option Addr} {nd cd : Nat} {Ao : Option Addr} {no co : Nat} (h : OsL w base G n c init s Ad nd cd Ao no co) : ∃ us, w.ownsRow base 56 2 (.slice Ao no co) no us ∧ us.length = s.outs.length * 2 ∧
    ∀ (w2 w' : World) (r cap : Nat) (x : Sp.Out) (A' : Option Addr) (n' c' : Nat), Below w.heap.size w w2 → Bk w (fun b => base ≤ b ∧ b ≠ G ∧ (Value.slice Ao no co).ownBlock ≠ some b) A' n' c' x.data →
      w2.grownBy w' (Value.slice Ao no co).ownBlock → w'.ownsRow base 56 2 (.slice (some ⟨r, 0, none⟩) (no + 1) cap) (no + 1) (us ++ [.bool x.back, .slice A' n' c']) → ((Value.slice Ao no co).ownBlock = some r ∨ r = w2.heap.size) →
      (∀ i, w'.frozen? ⟨G, i, none⟩ = false) ∧ w'.cell? ⟨G, init.length * 6 + 4, none⟩ = some (.slice Ao no co) ∧
      OsL (w'.setCell ⟨G, init.length * 6 + 4, none⟩ (.slice (some ⟨r, 0, none⟩) (no + 1) cap)) base G n c init ⟨s.ev, s.outs ++ [x], s.gone⟩ Ad nd cd (some ⟨r, 0, none⟩) (no + 1) cap := by
  obtain ⟨vi, hr0, hv⟩ := h.row
  obtain ⟨us, ho, hu⟩ := h.outs
  have hul := hu.len
  refine ⟨us, ho, hul, fun w2 w' r cap x A' n' c' hb hd hg hr hw => ?_⟩
  have hG := h.lt
  have hsz := hb.size
  have hne := h.ne
  have hrG : r ≠ G := by
    rcases hw with hw | hw
    · intro e; exact hne (by rw [hw, e])
    · omega
  have hrb : ∀ b, b < w.heap.size → (Value.slice Ao no co).ownBlock ≠ some b → b ≠ r := by
    intro b hlt hk e
    rcases hw with hw | hw
    · exact hk (by rw [hw, e])
    · omega
  have hr1 : w'.ownsRow base 42 6 (.slice (some ⟨G, 0, none⟩) n c) n (vi ++ stV s Ad nd cd Ao no co) := (hr0.kept (grown_of hb) (.inr (by simp [Value.ownBlock]))).kept hg (.inr (fun e => hne (by rw [← e]; rfl)))
  have hs := hr1.stored (init.length * 6 + 4) (.slice (some ⟨r, 0, none⟩) (no + 1) cap)
  have hm : ∀ b, b < w.heap.size → (base ≤ b ∧ b ≠ G ∧ (Value.slice Ao no co).ownBlock ≠ some b) → ((base ≤ b ∧ b ≠ G ∧ (Value.slice Ao no co).ownBlock ≠ some b) ∧ b ≠ r) := fun b hlt hk => ⟨hk, hrb b hlt hk.2.2⟩
  have hkp : Kp (fun b => (base ≤ b ∧ b ≠ G ∧ (Value.slice Ao no co).ownBlock ≠ some b) ∧ b ≠ r) w (w'.setCell ⟨G, init.length * 6 + 4, none⟩ (.slice (some ⟨r, 0, none⟩) (no + 1) cap)) :=
    ((Kp.of hb).trans (Kp.grown hg (fun b hk => hk.1.2.2))).trans (Kp.put w' _ _ (fun hk => hk.1.2.1 rfl))
  have hlast : ∀ b, ((base ≤ b ∧ b ≠ G ∧ (Value.slice Ao no co).ownBlock ≠ some b) ∧ b ≠ r) → (base ≤ b ∧ b ≠ G ∧ (Value.slice (some ⟨r, 0, none⟩) (no + 1) cap).ownBlock ≠ some b) := fun b hk => ⟨hk.1.1, hk.1.2.1, fun e => hk.2 (by simpa [Value.ownBlock] using e.symm)⟩
  refine ⟨fun i => hr1.frozenAt i, ?_, h.num, ⟨vi, ?_, ((hv.mono hm).keep hkp).mono (fun b _ hk => hlast b hk)⟩, ((h.data.mono hm).keep hkp).mono (fun b _ hk => hlast b hk), ⟨_, hr.kept hs.2 (.inr (by simpa [Value.ownBlock] using hrG)), OutsV.snoc (((hd.mono hm).keep hkp).mono (fun b _ hk => hlast b hk)) (((hu.mono hm).keep hkp).mono (fun b _ hk => hlast b hk))⟩, by simpa [Value.ownBlock] using hrG⟩
  · rw [hr1.cellAt _ (by have := h.num; omega), List.getElem?_append_right (by rw [hv.len]; omega), hv.len, show init.length * 6 + 4 - init.length * 6 = 4 by omega]; rfl
  · have e : (vi ++ stV s Ad nd cd Ao no co).set (init.length * 6 + 4) (.slice (some ⟨r, 0, none⟩) (no + 1) cap) = vi ++ stV ⟨s.ev, s.outs ++ [x], s.gone⟩ Ad nd cd (some ⟨r, 0, none⟩) (no + 1) cap := by
      rw [List.set_append_right _ _ (by rw [hv.len]; omega), hv.len, show init.length * 6 + 4 - init.length * 6 = 4 by omega]; rfl
    rw [← e]
    exact hs.1
/-- a store below the base -/
theorem OsL.low {w : World} {base G n c : Nat} {init : List Sp.Stp} {s : Sp.Stp} {Ad : Option Addr} {nd cd : Nat} {Ao : Option Addr} {no co : Nat} (h : OsL w base G n c init s Ad nd cd Ao no co) (p : Addr) (hp : p.block < base) (v : Value) : OsL (w.setCell p v) base G n c init s Ad nd cd Ao no co := by
  obtain ⟨vi, hr, hv⟩ := h.row
  obtain ⟨us, ho, hu⟩ := h.outs
  have hk : Kp (fun b => base ≤ b ∧ b ≠ G ∧ (Value.slice Ao no co).ownBlock ≠ some b) w (w.setCell p v) := Kp.put w _ _ (fun e => by omega)
  have hg : w.grownBy (w.setCell p v) (some p.block) := ⟨rfl, rfl, rfl, by simp [World.setCell], fun k hk hn => Below.heap_setCell _ _ _ _ (fun e => hn (by rw [e]))⟩
  have hG := h.lt
  refine ⟨h.num, ⟨vi, hr.kept hg (.inr (fun e => ?_)), hv.keep hk⟩, h.data.keep hk, ⟨us, ho.kept hg (.inr (fun e => ?_)), hu.keep hk⟩, h.ne⟩
  · have : G = p.block := by simpa [Value.ownBlock] using e
    omega
  · have := (ho.lt _ e).1
    omega
theorem Os.low {w : World} {base : Nat} {A : Option Addr} {n c : Nat} {l : List Sp.Stp} (h : Os w base A n c l) (p : Addr) (hp : p.block < base) (v : Value) : Os (w.setCell p v) base A n c l := by
  rcases h with h | ⟨init, s, G, Ad, nd, cd, Ao, no, co, rfl, rfl, h⟩
  · exact .inl h
  · exact .inr ⟨init, s, G, Ad, nd, cd, Ao, no, co, rfl, rfl, h.low p hp v⟩
theorem Os.own {w : World} {base : Nat} {A : Option Addr} {n c : Nat} {l : List Sp.Stp} (h : Os w base A n c l) : ∀ g, (Value.slice A n c).ownBlock = some g → base ≤ g ∧ g < w.heap.size := by
  intro g e
  rcases h with ⟨-, rfl, -⟩ | ⟨init, s, G, Ad, nd, cd, Ao, no, co, -, rfl, h⟩
  · cases e
  · obtain rfl : G = g := by simpa [Value.ownBlock] using e
    exact h.lt
theorem stV_one (s : Sp.Stp) (A : Option Addr) (n c : Nat) (A' : Option Addr) (n' c' : Nat) : ∀ u ∈ stV s A n c A' n' c', u.oneCell' = true := by
  intro u hu
  simp only [stV, List.mem_cons, List.not_mem_nil, or_false] at hu
  rcases hu with rfl | rfl | rfl | rfl | rfl | rfl <;> rfl
end Tr
end Go.Proofs.YtpchfmeaplhodaaDoor
