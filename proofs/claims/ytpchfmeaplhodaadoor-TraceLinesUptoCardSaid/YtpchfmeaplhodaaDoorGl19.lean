/-
  A part of the proof of this seat's laws: what the listed package-level variables hold.
-/
import Derived.Test.YtpchfmeaplhodaaDoorRows
import Derived.Test.YtpchfmeaplhodaaDoorTr7
import Derived.Lib.LaidTab
import Derived.LaidLaws
import Derived.OpenShut
import Derived.Stop.LaidErr
import Derived.Shelf.Vars
namespace Go.Proofs.YtpchfmeaplhodaaDoor
set_option linter.unusedVariables false
set_option linter.unusedSimpArgs false
open Go.RowKit Go.Shelf
namespace Tr
open Ap Sg
/-- one listed variable's reading -/
theorem reads_head {P : Program} {w : World} {n : String} {d : DataW Unit} {r : List (String × DataW Unit)} (h : laidMet P ((n, d) :: r) w) :
    ∃ g t cs fuel p, P.globalNamed n = some g ∧ (P.globals[g]?).map (·.type) = some t ∧ w.var? P n = some cs ∧ DataW.trod (fun _ => ()) P w 0 (fun _ => true) false fuel t cs.toList = some (d, p) := by
  obtain ⟨ps, ⟨g, t, cs, fuel, p, q, h1, h2, h3, h4, -, -⟩, -⟩ := h
  exact ⟨g, t, cs, fuel, p, h1, h2, h3, h4⟩
theorem ev_of {P : Program} {w : World} {n nm : String} {d : DataW Unit} {r : List (String × DataW Unit)} {g : Nat} {ti : TypeId} {ms : Array (String × TypeId)} (h : laidMet P ((n, .iface nm d) :: r) w)
    (hg : P.globalNamed n = some g) (ht : (P.globals[g]?).map (·.type) = some ti) (hi : P.underlying ti = some (.interface ms)) : ∃ ev, w.cell? ⟨g, 0, none⟩ = some ev ∧ (ev = .nilIface ∨ ∃ te pe, ev = .iface te pe) := by
  obtain ⟨g', t', cs, fuel, p, h1, h2, h3, h4⟩ := reads_head h
  obtain rfl := Option.some.inj (hg.symm.trans h1)
  obtain rfl := Option.some.inj (ht.symm.trans h2)
  obtain ⟨-, u, v, e, -, -⟩ := iface_of_trod hi h4
  have hc := World.var?_cell hg h3 0
  refine ⟨.iface u v, ?_, .inr ⟨u, v, rfl⟩⟩
  rw [hc]
  have : cs = #[.iface u v] := by
    apply Array.toList_inj.1; simpa using e
  rw [this]; rfl
theorem four_of {α : Type} : ∀ {l : List α}, l.length = 4 → ∃ a b c d, l = [a, b, c, d]
  | [a, b, c, d], _ => ⟨a, b, c, d, rfl⟩
theorem nine_of {α : Type} : ∀ {l : List α}, l.length = 9 → ∃ a b c d e f g h i, l = [a, b, c, d, e, f, g, h, i]
  | [a, b, c, d, e, f, g, h, i], _ => ⟨a, b, c, d, e, f, g, h, i, rfl⟩
/-- a kind's cells -/
theorem kind_cells {w : World} {fuel : Nat} {l : List Value} {s : List UInt8} {b0 b1 b2 : Bool} {p : List MemPlace}
    (h : DataW.trod (fun _ => ()) Tryd.prog w 0 (fun _ => true) false fuel 68 l = some (.agg [.lit (.string s), .lit (.bool b0), .lit (.bool b1), .lit (.bool b2)], p)) :
    l = [.string ⟨s.toArray⟩, .bool b0, .bool b1, .bool b2] := by
  obtain ⟨xs, m, rfl, hx, hl, hxl, hall⟩ := DataW.trod_struct Tryd.underlying68 h
  have hl4 : l.length = 4 := hl.trans (by kernel_rfl)
  have hx1 : xs.map (·.1) = [.lit (.string s), .lit (.bool b0), .lit (.bool b1), .lit (.bool b2)] := by
    have := congrArg Prod.fst hx
    simpa using this.symm
  have hxl4 : xs.length = 4 := hxl.trans rfl
  clear hxl hl hx
  obtain ⟨c0, c1, c2, c3, rfl⟩ := four_of hl4
  obtain ⟨x0, x1, x2, x3, rfl⟩ := four_of hxl4
  · skip
    have k0 := hall 0 { name := "words", type := 9, offset := 0, embedded := false, tag := "", pkgPath := "lamplighter/trace", byteOffset := 0 } rfl
    have k1 := hall 1 { name := "data", type := 4, offset := 1, embedded := false, tag := "", pkgPath := "lamplighter/trace", byteOffset := 16 } rfl
    have k2 := hall 2 { name := "count", type := 4, offset := 2, embedded := false, tag := "", pkgPath := "lamplighter/trace", byteOffset := 17 } rfl
    have k3 := hall 3 { name := "keep", type := 4, offset := 3, embedded := false, tag := "", pkgPath := "lamplighter/trace", byteOffset := 18 } rfl
    simp only [List.map_cons, List.map_nil, List.cons.injEq, and_true] at hx1
    obtain ⟨e0, e1, e2, e3⟩ := hx1
    have n0 : Tryd.prog.cellsOf 9 = 1 := by kernel_rfl
    have n1 : Tryd.prog.cellsOf 4 = 1 := by kernel_rfl
    simp only [n0, n1, List.drop_zero, List.take_succ_cons, List.take_zero, List.drop_succ_cons, List.getElem?_cons_zero, List.getElem?_cons_succ] at k0 k1 k2 k3
    obtain ⟨s', f0, g0, -⟩ := DataW.trod_string Tryd.underlying9 k0
    obtain ⟨d1, f1, g1⟩ := DataW.trod_bool Tryd.underlying4 k1
    obtain ⟨d2, f2, g2⟩ := DataW.trod_bool Tryd.underlying4 k2
    obtain ⟨d3, f3, g3⟩ := DataW.trod_bool Tryd.underlying4 k3
    subst g0 g1 g2 g3
    simp only [DataW.lit.injEq, Lit.string.injEq, Lit.bool.injEq] at e0 e1 e2 e3
    subst e0 e1 e2 e3
    simp only [List.cons.injEq, and_true] at f0 f1 f2 f3
    subst f0 f1 f2 f3
    simp
theorem take_drop4 (l : List Value) (k : Nat) : l.drop (k * 4) = (l.drop (k * 4)).take 4 ++ l.drop ((k + 1) * 4) := by
  rw [show (k + 1) * 4 = k * 4 + 4 by omega, ← List.drop_drop, List.take_append_drop]
theorem kinds_of {w : World} {r : List (String × DataW Unit)} (h : laidMet Tryd.prog (("lamplighter/trace.kinds", Rows.laid_lamplighter_trace_kinds) :: r) w) : Kn w := by
  obtain ⟨g', t', cs, fuel, p, h1, h2, h3, h4⟩ := reads_head h
  have hg : Tryd.prog.globalNamed "lamplighter/trace.kinds" = some 0 := by kernel_rfl
  have ht : (Tryd.prog.globals[0]?).map (·.type) = some 69 := by kernel_rfl
  obtain rfl := Option.some.inj (hg.symm.trans h1)
  obtain rfl := Option.some.inj (ht.symm.trans h2)
  obtain ⟨xs, m, rfl, hx, hl, hxl, hall⟩ := DataW.trod_array Tryd.underlying69 h4
  have n4 : Tryd.prog.cellsOf 68 = 4 := by kernel_rfl
  have n36 : cs.toList.length = 36 := hl.trans (by kernel_rfl)
  rw [n4] at hall
  have hx1 := (congrArg Prod.fst hx).symm
  simp only [Rows.laid_lamplighter_trace_kinds, DataW.agg.injEq] at hx1
  clear hx h4
  obtain ⟨x0, x1, x2, x3, x4, x5, x6, x7, x8, rfl⟩ := nine_of hxl
  · skip
    simp only [List.map_cons, List.map_nil, List.cons.injEq, and_true] at hx1
    obtain ⟨e0, e1, e2, e3, e4, e5, e6, e7, e8⟩ := hx1
    have k0 := hall 0 (by decide)
    have k1 := hall 1 (by decide)
    have k2 := hall 2 (by decide)
    have k3 := hall 3 (by decide)
    have k4 := hall 4 (by decide)
    have k5 := hall 5 (by decide)
    have k6 := hall 6 (by decide)
    have k7 := hall 7 (by decide)
    have k8 := hall 8 (by decide)
    have f0 := kind_cells (k0.trans (show _ = some (_, x0.2) by rw [← e0]; rfl))
    have f1 := kind_cells (k1.trans (show _ = some (_, x1.2) by rw [← e1]; rfl))
    have f2 := kind_cells (k2.trans (show _ = some (_, x2.2) by rw [← e2]; rfl))
    have f3 := kind_cells (k3.trans (show _ = some (_, x3.2) by rw [← e3]; rfl))
    have f4 := kind_cells (k4.trans (show _ = some (_, x4.2) by rw [← e4]; rfl))
    have f5 := kind_cells (k5.trans (show _ = some (_, x5.2) by rw [← e5]; rfl))
    have f6 := kind_cells (k6.trans (show _ = some (_, x6.2) by rw [← e6]; rfl))
    have f7 := kind_cells (k7.trans (show _ = some (_, x7.2) by rw [← e7]; rfl))
    have f8 := kind_cells (k8.trans (show _ = some (_, x8.2) by rw [← e8]; rfl))
    have hz : cs.toList.drop (9 * 4) = [] := List.drop_eq_nil_of_le (by omega)
    have hcs : cs.toList = KC.toList := by
      have h0 : cs.toList = cs.toList.drop (0 * 4) := by simp
      rw [h0, take_drop4 _ 0, take_drop4 _ 1, take_drop4 _ 2, take_drop4 _ 3, take_drop4 _ 4, take_drop4 _ 5, take_drop4 _ 6, take_drop4 _ 7, take_drop4 _ 8, f0, f1, f2, f3, f4, f5, f6, f7, f8, hz]
      rfl
    have hcs2 : cs = KC := Array.toList_inj.1 hcs
    subst hcs2
    unfold World.var? at h3
    rw [hg] at h3
    simp only [Option.bind_some] at h3
    cases hh : w.heap[0]? with
    | none => rw [hh] at h3; cases h3
    | some o =>
      rw [hh] at h3
      cases o with
      | cells c T fr =>
        simp only [Option.some.injEq] at h3
        subst h3
        exact ⟨T, fr, hh⟩
      | _ => simp at h3
/-- the row's condition gives all -/
theorem gl_of {w : World} (hL : laidMet Tryd.prog [("math/bits.deBruijn32tab", Rows.laid_math_bits_deBruijn32tab), ("math/bits.deBruijn64tab", Rows.laid_math_bits_deBruijn64tab), ("internal/strconv.uint64pow10", Rows.laid_internal_strconv_uint64pow10), ("unicode/utf8.acceptRanges", Rows.laid_unicode_utf8_acceptRanges), ("strconv.ErrRange", Rows.laid_strconv_ErrRange), ("strconv.ErrSyntax", Rows.laid_strconv_ErrSyntax), ("lamplighter/trace.kinds", Rows.laid_lamplighter_trace_kinds), ("unicode/utf8.first", Rows.laid_unicode_utf8_first)] w) (hsh : w.ShapedOpen Tryd.prog) : Gl w := by
  have hml : Sg.Ml w := Go.Proofs.cell_of_shapedOpen_int (zero := #[.int .i64 0]) (t := 3) hsh (of_decide_eq_true (by kernel_rfl)) (by kernel_rfl) rfl (by kernel_rfl) (by kernel_rfl) Tryd.underlying3
  have h2 := hL.tail.tail
  have e2 : (Rows.laid_internal_strconv_uint64pow10 : DataW Unit) = Lib.tabData .u64 Lib.pow10Tab := by kernel_rfl
  rw [e2] at h2
  have ht := Lib.tabIs_of_head (g := 2) (t := 112) (e := 102) (n := 20) (by kernel_rfl) (by kernel_rfl) Tryd.underlying112 Tryd.underlying102 (by kernel_rfl) (by kernel_rfl) h2
  have h4 := h2.tail.tail
  have h5 := h4.tail
  exact ⟨hml, ⟨ht, ev_of (ti := 61) h5 (by kernel_rfl) (by kernel_rfl) Tryd.underlying61, ev_of (ti := 61) h4 (by kernel_rfl) (by kernel_rfl) Tryd.underlying61⟩, kinds_of h5.tail⟩
end Tr
end Go.Proofs.YtpchfmeaplhodaaDoor
