/-
  A part of the proof of this seat's laws: events and steps that came in.
-/
import Derived.Test.YtpchfmeaplhodaaDoorUpD
import Derived.Test.YtpchfmeaplhodaaDoorG6
import Derived.Test.YtpchfmeaplhodaaDoorTr12
import Derived.Deep.Slices
import Derived.ChangeOld
namespace Go.Proofs.YtpchfmeaplhodaaDoor
set_option linter.unusedVariables false
set_option linter.unusedSimpArgs false
open Go.Joins Go.ChangeShapes Go.WideShapes Go.RowKit Go.Deep
namespace Opn
open Sg Tr
theorem wf64 {x : Int} (h : (Lit.int .i64 x).wf = true) : Sp.i64 x := bounds_i64 h
section
variable {H : Type} {enc : TypeId × Value → H} {w : World} {base : Nat} {spare : Nat → Bool} {held : Bool}
set_option maxRecDepth 100000 in
/-- an event by value -/
theorem open_ev {r : Reach} {b0 : Nat} {v : Value} {d : DataW H} {p : List MemPlace} (hv : Value.okWide Tryd.prog w r b0 29 v) (h : DataW.Trod enc Tryd.prog w base spare held 29 v d p) :
    ∃ (k n kp : Int) (A : Option Addr) (len c : Nat), v = .agg #[.int .i64 k, .int .i64 n, .int .i64 kp, .slice A len c] ∧ Sp.i64 n ∧ Sp.i64 kp ∧ (len ≤ 1000 → ∃ xs, Bytes w A len c xs) := by
  obtain ⟨v0, v1, v2, v3, y0, y1, y2, y3, m, rfl, -, -, h0, h1, h2, h3⟩ := open_agg4 Tryd.underlying29 (by kernel_rfl) (by kernel_rfl) hv h
  obtain ⟨k, e0, -, w0⟩ := DataW.trod_int Tryd.underlying3 h0
  obtain ⟨n, e1, -, w1⟩ := DataW.trod_int Tryd.underlying3 h1
  obtain ⟨kp, e2, -, w2⟩ := DataW.trod_int Tryd.underlying3 h2
  obtain ⟨A, len, c, e3⟩ := slice_form Tryd.underlying22 h3
  simp at e0 e1 e2 e3
  subst e0 e1 e2 e3
  exact ⟨k, n, kp, A, len, c, rfl, wf64 w1, wf64 w2, fun hl => open_bytes Tryd.underlying22 Tryd.underlying5 (by kernel_rfl) h3 (by omega)⟩
/-- bytes whose reading is small -/
theorem by_of {fuel : Nat} {a : Option Addr} {n c : Nat} {x : DataW H × List MemPlace} (h : DataW.trod enc Tryd.prog w base spare held fuel 22 [.slice a n c] = some x) (hb : Rows.uptoBulk x.1 ≤ 1048576) :
    ∃ s, By w a n c s ∧ s.length + 1 ≤ Rows.uptoBulk x.1 := by
  have hn : n + 1 ≤ Rows.uptoBulk x.1 := by
    rcases open_ints Tryd.underlying22 Tryd.underlying5 (by kernel_rfl) h with ⟨hcs, rfl⟩ | ⟨y, l, cc, zs, hcs, -, hl, -, hz, rfl, -, -⟩
    · simp at hcs
      obtain ⟨-, rfl, -⟩ := hcs
      simp [Rows.uptoBulk]
    · simp at hcs
      obtain ⟨-, rfl, -⟩ := hcs
      have h1 : n ≤ zs.length := by rw [hz]; split <;> omega
      have h2 := Up.many (lits (H := H) .u8 (zs.take n))
      have h3 : (lits (H := H) .u8 (zs.take n)).length = n := by simp [lits]; omega
      rw [Rows.uptoBulk]
      omega
  obtain ⟨xs, hx⟩ := open_bytes Tryd.underlying22 Tryd.underlying5 (by kernel_rfl) h (by omega)
  obtain ⟨s, hs⟩ := By.of hx
  exact ⟨s, hs, by rw [hs.len]; exact hn⟩
theorem two_of {α : Type} : ∀ {l : List α}, l.length = 2 → ∃ a b, l = [a, b]
  | [a, b], _ => ⟨a, b, rfl⟩
theorem three_of {α : Type} : ∀ {l : List α}, l.length = 3 → ∃ a b c, l = [a, b, c]
  | [a, b, c], _ => ⟨a, b, c, rfl⟩
theorem quad_of {α : Type} : ∀ {l : List α}, l.length = 4 → ∃ a b c d, l = [a, b, c, d]
  | [a, b, c, d], _ => ⟨a, b, c, d, rfl⟩
theorem six_of {α : Type} : ∀ {l : List α}, l.length = 6 → ∃ a b c d e f, l = [a, b, c, d, e, f]
  | [a, b, c, d, e, f], _ => ⟨a, b, c, d, e, f, rfl⟩
theorem n1 : Tryd.prog.cellsOf 3 = 1 := by kernel_rfl
theorem nb : Tryd.prog.cellsOf 4 = 1 := by kernel_rfl
theorem ns : Tryd.prog.cellsOf 22 = 1 := by kernel_rfl
theorem no_ : Tryd.prog.cellsOf 40 = 1 := by kernel_rfl
theorem ne_ : Tryd.prog.cellsOf 29 = 4 := by kernel_rfl
theorem n2 : Tryd.prog.cellsOf 56 = 2 := by kernel_rfl
theorem n6 : Tryd.prog.cellsOf 42 = 6 := by kernel_rfl
/-- an output's cells -/
theorem out_of {fuel : Nat} {cs : List Value} {x : DataW H × List MemPlace} (h : DataW.trod enc Tryd.prog w base spare held fuel 56 cs = some x) (hb : Rows.uptoBulk x.1 ≤ 1048576) :
    ∃ (o : Sp.Out) (A : Option Addr) (n c : Nat), cs = [.bool o.back, .slice A n c] ∧ By w A n c o.data ∧ Sp.owt o ≤ Rows.uptoBulk x.1 := by
  obtain ⟨xs, m, rfl, rfl, hl, hxl, hall⟩ := DataW.trod_struct Tryd.underlying56 h
  obtain ⟨c0, c1, rfl⟩ := two_of (hl.trans n2)
  obtain ⟨x0, x1, rfl⟩ := two_of (hxl.trans rfl)
  have k0 := hall 0 { name := "Back", type := 4, offset := 0, embedded := false, tag := "", pkgPath := "", byteOffset := 0 } rfl
  have k1 := hall 1 { name := "Data", type := 22, offset := 1, embedded := false, tag := "", pkgPath := "", byteOffset := 8 } rfl
  simp only [nb, ns, List.drop_zero, List.take_succ_cons, List.take_zero, List.drop_succ_cons, List.getElem?_cons_zero, List.getElem?_cons_succ] at k0 k1
  obtain ⟨bk, e0, rfl⟩ := DataW.trod_bool Tryd.underlying4 k0
  obtain ⟨A, n, c, e1⟩ := slice_form Tryd.underlying22 k1
  simp only [List.cons.injEq, and_true] at e0 e1
  subst e0 e1
  simp only [List.map_cons, List.map_nil, Rows.uptoBulk, Rows.uptoBulkAll] at hb ⊢
  obtain ⟨s, hs, hsl⟩ := by_of k1 (by omega)
  exact ⟨⟨bk, s⟩, A, n, c, rfl, hs, by unfold Sp.owt; simp only; omega⟩
theorem bulk_range {l : Nat} (D : Nat → DataW H) : Rows.uptoBulkAll ((List.range l).map D) = ((List.range l).map fun i => Rows.uptoBulk (D i)).sum := by
  have key : ∀ r : List Nat, Rows.uptoBulkAll (r.map D) = (r.map fun i => Rows.uptoBulk (D i)).sum := by
    intro r
    induction r with
    | nil => simp [Rows.uptoBulkAll]
    | cons a r ih => rw [List.map_cons, List.map_cons, Rows.uptoBulkAll, List.sum_cons, ih]
  exact key _
theorem sum_le {B : Nat → Nat} : ∀ {n i : Nat}, i < n → B i ≤ ((List.range n).map B).sum
  | 0, i, h => by omega
  | n + 1, i, h => by
    rw [List.range_succ, List.map_append, List.sum_append]
    simp only [List.map_cons, List.map_nil, List.sum_cons, List.sum_nil]
    by_cases e : i = n
    · subst e; omega
    · have := sum_le (B := B) (n := n) (i := i) (by omega)
      omega
/-- outputs, one by one -/
theorem outs_build {b o : Nat} {B : Nat → Nat} : ∀ (n : Nat), (∀ i, i < n → ∃ (x : Sp.Out) (A : Option Addr) (m c : Nat), w.cell? ⟨b, o + i * 2, none⟩ = some (.bool x.back) ∧ w.cell? ⟨b, o + i * 2 + 1, none⟩ = some (.slice A m c) ∧ By w A m c x.data ∧ Sp.owt x ≤ B i) →
    ∃ (l : List Sp.Out) (vs : List Value), l.length = n ∧ OutsV w (fun _ => True) l vs ∧ (∀ j u, vs[j]? = some u → w.cell? ⟨b, o + j, none⟩ = some u) ∧ Sp.owts l ≤ ((List.range n).map B).sum
  | 0, _ => ⟨[], [], rfl, rfl, fun j u h => by simp at h, by simp [Sp.owts]⟩
  | n + 1, h => by
    obtain ⟨l, vs, hl, hv, hc, hw⟩ := outs_build n (fun i hi => h i (by omega))
    obtain ⟨x, A, m, c, c0, c1, hby, hx⟩ := h n (by omega)
    have hvl := hv.len
    refine ⟨l ++ [x], vs ++ [.bool x.back, .slice A m c], by simp [hl], OutsV.snoc (Bk.of hby) hv, fun j u hj => ?_, ?_⟩
    · rw [List.getElem?_append] at hj
      split at hj
      · exact hc j u hj
      · have hj2 : j - vs.length < 2 := by
          have := (List.getElem?_eq_some_iff.1 hj).1
          simpa using this
        have hj3 : j = n * 2 ∨ j = n * 2 + 1 := by omega
        rcases hj3 with rfl | rfl
        · rw [show n * 2 - vs.length = 0 by omega] at hj
          simp at hj; subst hj; exact c0
        · rw [show n * 2 + 1 - vs.length = 1 by omega] at hj
          simp at hj; subst hj; rw [← Nat.add_assoc]; exact c1
    · rw [Sp.owts_app, List.range_succ, List.map_append, List.sum_append]
      have : Sp.owts [x] = Sp.owt x := by simp [Sp.owts]
      simp only [List.map_cons, List.map_nil, List.sum_cons, List.sum_nil]
      omega
/-- a slice of outputs -/
theorem ou_of {fuel : Nat} {a : Option Addr} {n c : Nat} {x : DataW H × List MemPlace} (h : DataW.trod enc Tryd.prog w base spare held fuel 40 [.slice a n c] = some x) (hb : Rows.uptoBulk x.1 ≤ 1048576) :
    ∃ l, Ou w (fun _ => True) a n c l ∧ Sp.owts l + 1 ≤ Rows.uptoBulk x.1 := by
  rcases open_slice Tryd.underlying40 h with ⟨hcs, rfl⟩ | ⟨y, len, cap, m, f, D, Pl, hcs, -, hl, -, hm, rfl, hel⟩
  · simp at hcs
    obtain ⟨rfl, rfl, rfl⟩ := hcs
    exact ⟨[], Ou.nil _ _, by simp [Sp.owts, Rows.uptoBulk]⟩
  · simp at hcs
    obtain ⟨rfl, rfl, rfl⟩ := hcs
    rw [Rows.uptoBulk, bulk_range] at hb
    rw [Rows.uptoBulk, bulk_range]
    have hnm : n ≤ m := by rw [hm]; split <;> omega
    by_cases h0 : n = 0
    · subst h0
      exact ⟨[], ⟨hl, rfl, [], rfl, .inl rfl⟩, by simp [Sp.owts]⟩
    · have each : ∀ i, i < n → ∃ (q : Sp.Out) (A : Option Addr) (m' c' : Nat), w.cell? (y.add (i * 2)) = some (.bool q.back) ∧ w.cell? ((y.add (i * 2)).add 1) = some (.slice A m' c') ∧ By w A m' c' q.data ∧ Sp.owt q ≤ Rows.uptoBulk (D i) := by
        intro i hi
        obtain ⟨cs', hc, ht⟩ := hel i (by omega)
        rw [n2] at hc
        obtain ⟨-, hcl, hcc⟩ := World.cells?_some hc
        have hbi : Rows.uptoBulk (D i) ≤ 1048576 := by
          have := sum_le (B := fun i => Rows.uptoBulk (D i)) hi
          omega
        obtain ⟨q, A, m', c', rfl, hby, hq⟩ := out_of ht hbi
        have k0 := hcc 0 (by decide)
        have k1 := hcc 1 (by decide)
        rw [Addr.add_zero'] at k0
        exact ⟨q, A, m', c', k0, k1, hby, hq⟩
      obtain ⟨q0, A0, m0, c0, z0, -⟩ := each 0 (by omega)
      obtain ⟨b, o, sp⟩ := y
      have hsp : sp = none := by simpa [Addr.add] using World.cell?_spot z0
      subst hsp
      have hbl : b < w.heap.size := by
        have := World.block_lt_of_cell? _ _ z0
        simpa [Addr.add] using this
      obtain ⟨l, vs, hll, hv, hc, hw⟩ := outs_build (w := w) (b := b) (o := o) (B := fun i => Rows.uptoBulk (D i)) n (fun i hi => by
        obtain ⟨q, A, m', c', k0, k1, hby, hq⟩ := each i hi
        rw [Addr.add_lit] at k0 k1
        rw [Addr.add_lit] at k1
        exact ⟨q, A, m', c', k0, k1, hby, hq⟩)
      exact ⟨l, ⟨hl, hll, vs, hv, .inr ⟨b, o, rfl, hbl, trivial, hc⟩⟩, by omega⟩
/-- a step's cells -/
theorem stp_of {fuel : Nat} {cs : List Value} {x : DataW H × List MemPlace} (h : DataW.trod enc Tryd.prog w base spare held fuel 42 cs = some x) (hb : Rows.uptoBulk x.1 ≤ 1048576) :
    ∃ (s : Sp.Stp) (A : Option Addr) (n c : Nat) (A' : Option Addr) (n' c' : Nat), cs = stV s A n c A' n' c' ∧ By w A n c s.ev.data ∧ Ou w (fun _ => True) A' n' c' s.outs ∧ Sp.nums s ∧ Sp.swt s ≤ Rows.uptoBulk x.1 := by
  obtain ⟨xs, m, rfl, rfl, hl, hxl, hall⟩ := DataW.trod_struct Tryd.underlying42 h
  obtain ⟨c0, c1, c2, c3, c4, c5, rfl⟩ := six_of (hl.trans n6)
  obtain ⟨x0, x1, x2, rfl⟩ := three_of (hxl.trans rfl)
  have k0 := hall 0 { name := "Event", type := 29, offset := 0, embedded := false, tag := "", pkgPath := "", byteOffset := 0 } rfl
  have k1 := hall 1 { name := "Outputs", type := 40, offset := 4, embedded := false, tag := "", pkgPath := "", byteOffset := 48 } rfl
  have k2 := hall 2 { name := "Crashed", type := 4, offset := 5, embedded := false, tag := "", pkgPath := "", byteOffset := 72 } rfl
  simp only [ne_, no_, nb, List.drop_zero, List.take_succ_cons, List.take_zero, List.drop_succ_cons, List.getElem?_cons_zero, List.getElem?_cons_succ] at k0 k1 k2
  obtain ⟨gn, e2, rfl⟩ := DataW.trod_bool Tryd.underlying4 k2
  obtain ⟨A', n', c', e1⟩ := slice_form Tryd.underlying40 k1
  simp only [List.cons.injEq, and_true] at e1 e2
  subst e1 e2
  obtain ⟨ys, f, rfl, rfl, hl2, hyl, hall2⟩ := DataW.trod_struct Tryd.underlying29 k0
  obtain ⟨y0, y1, y2, y3, rfl⟩ := quad_of (hyl.trans rfl)
  have j0 := hall2 0 { name := "Kind", type := 3, offset := 0, embedded := false, tag := "", pkgPath := "", byteOffset := 0 } rfl
  have j1 := hall2 1 { name := "N", type := 3, offset := 1, embedded := false, tag := "", pkgPath := "", byteOffset := 8 } rfl
  have j2 := hall2 2 { name := "Keep", type := 3, offset := 2, embedded := false, tag := "", pkgPath := "", byteOffset := 16 } rfl
  have j3 := hall2 3 { name := "Data", type := 22, offset := 3, embedded := false, tag := "", pkgPath := "", byteOffset := 24 } rfl
  simp only [n1, ns, List.drop_zero, List.take_succ_cons, List.take_zero, List.drop_succ_cons, List.getElem?_cons_zero, List.getElem?_cons_succ] at j0 j1 j2 j3
  obtain ⟨k, f0, rfl, w0⟩ := DataW.trod_int Tryd.underlying3 j0
  obtain ⟨n, f1, rfl, w1⟩ := DataW.trod_int Tryd.underlying3 j1
  obtain ⟨kp, f2, rfl, w2⟩ := DataW.trod_int Tryd.underlying3 j2
  obtain ⟨A, nd, cd, f3⟩ := slice_form Tryd.underlying22 j3
  simp only [List.cons.injEq, and_true] at f0 f1 f2 f3
  subst f0 f1 f2 f3
  simp only [List.map_cons, List.map_nil, Rows.uptoBulk, Rows.uptoBulkAll] at hb ⊢
  obtain ⟨s, hs, hsl⟩ := by_of j3 (by omega)
  obtain ⟨l, ho, hol⟩ := ou_of k1 (by omega)
  exact ⟨⟨⟨k, n, kp, s⟩, l, gn⟩, A, nd, cd, A', n', c', rfl, hs, ho, ⟨wf64 w1, wf64 w2⟩, by unfold Sp.swt; simp only; omega⟩
/-- steps, one by one -/
theorem steps_build {b o : Nat} {B : Nat → Nat} : ∀ (n : Nat), (∀ i, i < n → ∃ (s : Sp.Stp) (A : Option Addr) (m c : Nat) (A' : Option Addr) (m' c' : Nat), (∀ j u, (stV s A m c A' m' c')[j]? = some u → w.cell? ⟨b, o + i * 6 + j, none⟩ = some u) ∧ By w A m c s.ev.data ∧ Ou w (fun _ => True) A' m' c' s.outs ∧ Sp.nums s ∧ Sp.swt s ≤ B i) →
    ∃ (l : List Sp.Stp) (vs : List Value), l.length = n ∧ StepsV w (fun _ => True) l vs ∧ (∀ j u, vs[j]? = some u → w.cell? ⟨b, o + j, none⟩ = some u) ∧ (∀ s ∈ l, Sp.nums s) ∧ Sp.wts l ≤ ((List.range n).map B).sum
  | 0, _ => ⟨[], [], rfl, rfl, fun j u h => by simp at h, fun s h => (by cases h), by simp [Sp.wts]⟩
  | n + 1, h => by
    obtain ⟨l, vs, hl, hv, hc, hnn, hw⟩ := steps_build n (fun i hi => h i (by omega))
    obtain ⟨s, A, m, c, A', m', c', hcc, hby, hou, hns, hx⟩ := h n (by omega)
    have hvl := hv.len
    refine ⟨l ++ [s], vs ++ stV s A m c A' m' c', by simp [hl], StepsV.app (StepsV.one (Bk.of hby) hou) hv, fun j u hj => ?_, fun y hy => ?_, ?_⟩
    · rw [List.getElem?_append] at hj
      split at hj
      · exact hc j u hj
      · have := hcc (j - vs.length) u hj
        rw [show o + n * 6 + (j - vs.length) = o + j by omega] at this
        exact this
    · rcases List.mem_append.1 hy with hy | hy
      · exact hnn y hy
      · simp only [List.mem_singleton] at hy; subst hy; exact hns
    · rw [Sp.wts_app, List.range_succ, List.map_append, List.sum_append]
      have : Sp.wts [s] = Sp.swt s := by simp [Sp.wts]
      simp only [List.map_cons, List.map_nil, List.sum_cons, List.sum_nil]
      omega
/-- a slice of steps -/
theorem open_steps {a : Option Addr} {n c : Nat} {d : DataW H} {p : List MemPlace} (h : DataW.Trod enc Tryd.prog w base spare held 43 (.slice a n c) d p) (hb : Rows.uptoBulk d ≤ 1048576) :
    ∃ l, Sts w a n c l ∧ (∀ s ∈ l, Sp.nums s) ∧ Sp.wts l ≤ 1048576 := by
  obtain ⟨fuel, hf⟩ := h
  rcases open_slice Tryd.underlying43 hf with ⟨hcs, -⟩ | ⟨y, len, cap, m, f, D, Pl, hcs, -, hl, -, hm, hx, hel⟩
  · simp [Value.cells] at hcs
    obtain ⟨rfl, rfl, rfl⟩ := hcs
    exact ⟨[], Sts.nil _, (fun s h => by cases h), by simp [Sp.wts]⟩
  · simp [Value.cells] at hcs
    obtain ⟨rfl, rfl, rfl⟩ := hcs
    have hd := (Prod.mk.inj hx).1
    subst hd
    rw [Rows.uptoBulk, bulk_range] at hb
    have hnm : n ≤ m := by rw [hm]; split <;> omega
    by_cases h0 : n = 0
    · subst h0
      exact ⟨[], ⟨hl, rfl, [], rfl, .inl rfl⟩, (fun s h => by cases h), by simp [Sp.wts]⟩
    · have each : ∀ i, i < n → ∃ (s : Sp.Stp) (A : Option Addr) (m' c' : Nat) (A' : Option Addr) (m'' c'' : Nat), (∀ j u, (stV s A m' c' A' m'' c'')[j]? = some u → w.cell? ((y.add (i * 6)).add j) = some u) ∧ By w A m' c' s.ev.data ∧ Ou w (fun _ => True) A' m'' c'' s.outs ∧ Sp.nums s ∧ Sp.swt s ≤ Rows.uptoBulk (D i) := by
        intro i hi
        obtain ⟨cs', hc, ht⟩ := hel i (by omega)
        rw [n6] at hc
        obtain ⟨-, hcl, hcc⟩ := World.cells?_some hc
        have hbi : Rows.uptoBulk (D i) ≤ 1048576 := by
          have := sum_le (B := fun i => Rows.uptoBulk (D i)) hi
          omega
        obtain ⟨s, A, m', c', A', m'', c'', rfl, hby, hou, hns, hq⟩ := stp_of ht hbi
        refine ⟨s, A, m', c', A', m'', c'', fun j u hj => ?_, hby, hou, hns, hq⟩
        rw [hcc j (by have := (List.getElem?_eq_some_iff.1 hj).1; rw [← hcl]; exact this)]
        exact hj
      obtain ⟨s0, A0, m0, c0, A0', m0', c0', z0, -⟩ := each 0 (by omega)
      have z0 := z0 0 _ rfl
      obtain ⟨b, o, sp⟩ := y
      have hsp : sp = none := by simpa [Addr.add] using World.cell?_spot z0
      subst hsp
      have hbl : b < w.heap.size := by
        have := World.block_lt_of_cell? _ _ z0
        simpa [Addr.add] using this
      obtain ⟨l, vs, hll, hv, hc, hnn, hw⟩ := steps_build (w := w) (b := b) (o := o) (B := fun i => Rows.uptoBulk (D i)) n (fun i hi => by
        obtain ⟨s, A, m', c', A', m'', c'', k, hby, hou, hns, hq⟩ := each i hi
        refine ⟨s, A, m', c', A', m'', c'', fun j u hj => ?_, hby, hou, hns, hq⟩
        have := k j u hj
        rw [Addr.add_lit, Addr.add_lit] at this
        exact this)
      exact ⟨l, ⟨hl, hll, vs, hv, .inr ⟨b, o, rfl, hbl, hc⟩⟩, hnn, by omega⟩
end
end Opn
end Go.Proofs.YtpchfmeaplhodaaDoor
