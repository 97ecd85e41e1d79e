/-
  A part of the proof of this seat's laws: an output of a text, both sides.
-/
import Derived.Test.YtpchfmeaplhodaaDoorTpM
import Derived.Test.YtpchfmeaplhodaaDoorTr12
import Derived.Test.YtpchfmeaplhodaaDoorRrA
namespace Go.Proofs.YtpchfmeaplhodaaDoor
set_option linter.unusedVariables false
set_option linter.unusedSimpArgs false
open Go.RowKit Go.Shelf
namespace Tr
open Ap Sg
set_option maxHeartbeats 2000000
theorem scut_calls (s : List UInt8) (c : UInt8) (a b : List UInt8) (f : Bool) (hc : Lib.cut s [c] = (a, b, f)) (hs : s.length ≤ 1000000) (w : World) (hm : Ml w) :
    Calls Tryd.prog 40 #[.string (Sp.bs s), .string (Sp.bs [c])] w fun e w' => e = .returned (.tuple #[.string (Sp.bs a), .string (Sp.bs b), .bool f]) ∧ Below w.heap.size w w' := by
  obtain ⟨m, hm⟩ := hm
  have h := Tryd.strings_Cut (Sp.bs s) (Sp.bs [c]) m w (by rw [Sp.bs_size]; omega) hm
  rw [Sp.bs_list, Sp.bs_list, hc] at h
  refine h.mono ?_
  rintro e w' ⟨rfl, n, rfl⟩
  exact ⟨rfl, below_drewN (Below.refl _ _) n⟩
theorem Blk.two {W : World} {b : Nat} {a0 a1 : Value} {T : TypeId} (h : Blk W b #[a0, a1] T) (x0 x1 : Value) :
    Blk ((W.setCell ⟨b, 0, none⟩ x0).setCell ⟨b, 1, none⟩ x1) b #[x0, x1] T ∧ Kt b W ((W.setCell ⟨b, 0, none⟩ x0).setCell ⟨b, 1, none⟩ x1) :=
  ⟨(h.set 0 x0).set 1 x1, (Kt.put b 0 W x0).trans (Kt.put b 1 _ x1)⟩
theorem Blk.cells2 {w : World} {b : Nat} {a0 a1 : Value} {T : TypeId} (h : Blk w b #[a0, a1] T) : w.cell? ⟨b, 0, none⟩ = some a0 ∧ w.cell? ⟨b, 1, none⟩ = some a1 := ⟨h.cell 0 _ rfl, h.cell 1 _ rfl⟩
/-- an output by value -/
abbrev ouA (bk : Bool) (A : Option Addr) (n c : Nat) : Value := .agg #[.bool bk, .slice A n c]
abbrev ouC (bk : Bool) (A : Option Addr) (n c : Nat) : Array Value := #[.bool bk, .slice A n c]
theorem out_load {V : World} {b : Nat} {bk : Bool} {A : Option Addr} {n c : Nat} (h : Blk V b (ouC bk A n c) 56) : (loadVar 56 ⟨b, 0, none⟩).run Tryd.prog V = .ok (ouA bk A n c) V :=
  run_loadVar_row V b _ _ _ _ _ h Tryd.underlying56 rfl (by kernel_rfl)
/-- what the output of a text is told as -/
def OutRet (w : World) (s : List UInt8) (e : Ending) (w' : World) : Prop :=
  ∃ bk A n c, e = .returned (.tuple #[ouA bk A n c, .bool (Sp.outS s).isSome]) ∧ (∀ o, Sp.outS s = some o → bk = o.back ∧ By w' A n c o.data ∧ ∀ g o', A = some ⟨g, o', none⟩ → w.heap.size ≤ g) ∧ Below w.heap.size w w'
theorem OutRet.no {w w' : World} {s : List UInt8} {bk : Bool} {A : Option Addr} {n c : Nat} (h : Sp.outS s = none) (hb : Below w.heap.size w w') : OutRet w s (.returned (.tuple #[ouA bk A n c, .bool false])) w' :=
  ⟨bk, A, n, c, by rw [h]; rfl, (fun o e => by rw [h] at e; cases e), hb⟩
theorem OutRet.yes {w w' : World} {s t : List UInt8} {bk : Bool} {A : Option Addr} {n c : Nat} (h : Sp.outS s = some ⟨bk, t⟩) (hd : By w' A n c t) (hA : ∀ g o', A = some ⟨g, o', none⟩ → w.heap.size ≤ g) (hb : Below w.heap.size w w') : OutRet w s (.returned (.tuple #[ouA bk A n c, .bool true])) w' :=
  ⟨bk, A, n, c, by rw [h]; rfl, (fun o e => by rw [h] at e; cases e; exact ⟨rfl, hd, hA⟩), hb⟩
set_option maxRecDepth 100000 in
theorem output_bad (s a b : List UInt8) (f : Bool) (hs : s.length ≤ 50000) (hbl : b.length ≤ 50000) (w : World) (hm : Ml w) (hc : Lib.cut s [32] = (a, b, f)) (hb : Sp.bytesT b = none) (ho : Sp.outS s = none) :
    Calls Tryd.prog 54 #[.string (Sp.bs s)] w fun e w' => OutRet w s e w' := by
  have huO := Tryd.underlying56
  have hz := Sp.bs_size s
  have hb0 : Below w.heap.size w (w.alloc (.cells #[.bool false, .slice none 0 0] 56)) := (Below.refl _ _).alloc (Nat.le_refl _) _
  have HF0 := Lib.hid (Blk.new w (ouC false none 0 0) 56)
  have HB0 := Lib.hid hb0
  have HCut := Lib.hid (scut_calls s 32 a b f hc (by omega) (w.alloc (.cells #[.bool false, .slice none 0 0] 56)) (hm.below hb0))
  have HBy := Lib.hid (bytes_calls b (by omega))
  have hza := Sp.bs_size a
  have p0 := str_eqc a [98, 97, 99, 107]
  have p1 := str_eqc a [111, 110]
  generalize decide (a = [98, 97, 99, 107]) = bk at p0
  clear p1
  have HO := Lib.hid ho
  have HB := Lib.hid hb
  clear hm hb0 hc ho hb
  go_enter Tryd.func54, Tryd.ntmps54
  go_wp2_with fail
  refine HCut.out.mono ?_
  rintro e w1 ⟨rfl, b1⟩
  have B1 := Lib.hid (step HB0.out b1)
  have G1 := Lib.hid (HF0.out.below b1)
  have S1 := Lib.hid b1.size
  clear b1
  go_wp2_with fail
  refine (HBy.out _).mono ?_
  rintro e w3 hbr
  obtain ⟨A3, n3, c3, rfl, hd3, b3⟩ := bytes_any hbr
  have hbb : (Sp.bytesT b).isSome = false := by rw [HB.out]; rfl
  rw [hbb]
  have HB1 := Lib.hid (step B1.out b3)
  have F1 := G1.out.below b3
  have fz0 := F1.frozen 0
  have fz1 := F1.frozen 1
  have fc := F1.cells2
  have HF1 := Lib.hid F1
  clear hbr hd3 b3 hbb F1
  go_wp2_with fail
  have q := Blk.two HF1.out (.bool bk) (.slice A3 n3 c3)
  refine bodyPost_ret (results_cell_tmp rfl _ _ _ _ _ rfl (out_load q.1)) rfl ?_
  exact OutRet.no HO.out (HB1.out.trans (q.2.low (B := w.heap.size) (by have := HB1.out.size; omega) (Nat.le_refl _)))
set_option maxRecDepth 100000 in
theorem output_back (s a b : List UInt8) (f : Bool) (hs : s.length ≤ 50000) (hbl : b.length ≤ 50000) (w : World) (hm : Ml w) (hc : Lib.cut s [32] = (a, b, f)) (t : List UInt8) (hb : Sp.bytesT b = some t) (ha : a = [98, 97, 99, 107]) (ho : Sp.outS s = some ⟨true, t⟩) :
    Calls Tryd.prog 54 #[.string (Sp.bs s)] w fun e w' => OutRet w s e w' := by
  have huO := Tryd.underlying56
  have hz := Sp.bs_size s
  have hb0 : Below w.heap.size w (w.alloc (.cells #[.bool false, .slice none 0 0] 56)) := (Below.refl _ _).alloc (Nat.le_refl _) _
  have HF0 := Lib.hid (Blk.new w (ouC false none 0 0) 56)
  have HB0 := Lib.hid hb0
  have HCut := Lib.hid (scut_calls s 32 a b f hc (by omega) (w.alloc (.cells #[.bool false, .slice none 0 0] 56)) (hm.below hb0))
  have HBy := Lib.hid (bytes_calls b (by omega))
  have hza := Sp.bs_size a
  have p0 := str_eqc a [98, 97, 99, 107]
  have p1 := str_eqc a [111, 110]
  rw [decide_eq_true ha] at p0
  clear p1 ha
  have HO := Lib.hid ho
  have HB := Lib.hid hb
  clear hm hb0 hc ho hb
  go_enter Tryd.func54, Tryd.ntmps54
  go_wp2_with fail
  refine HCut.out.mono ?_
  rintro e w1 ⟨rfl, b1⟩
  have B1 := Lib.hid (step HB0.out b1)
  have G1 := Lib.hid (HF0.out.below b1)
  have S1 := Lib.hid b1.size
  clear b1
  go_wp2_with fail
  refine (HBy.out _).mono ?_
  rintro e w3 hbr
  obtain ⟨A3, n3, c3, rfl, hd3, b3⟩ := bytes_any hbr
  have hbb : (Sp.bytesT b).isSome = true := by rw [HB.out]; rfl
  rw [hbb]
  have HB1 := Lib.hid (step B1.out b3)
  have F1 := G1.out.below b3
  have HD : Hid (By w3 A3 n3 c3 t ∧ ∀ g o, A3 = some ⟨g, o, none⟩ → (w.alloc (.cells #[.bool false, .slice none 0 0] 56)).heap.size ≤ g) := ⟨(hd3 t HB.out).1, fun g o e => Nat.le_trans S1.out ((hd3 t HB.out).2 g o e)⟩
  have fz0 := F1.frozen 0
  have fz1 := F1.frozen 1
  have fc := F1.cells2
  have HF1 := Lib.hid F1
  clear hbr hd3 b3 hbb F1
  go_wp2_with fail
  have q := Blk.two HF1.out (.bool true) (.slice A3 n3 c3)
  refine bodyPost_ret (results_cell_tmp rfl _ _ _ _ _ rfl (out_load q.1)) rfl ?_
  exact OutRet.yes HO.out (By.kt HD.out.1 q.2 (fun g o e => by have := HD.out.2 g o e; have := HB0.out.size; rw [World.size_alloc] at *; omega)) (fun g o e => by have := HD.out.2 g o e; have := HB0.out.size; omega) (HB1.out.trans (q.2.low (B := w.heap.size) (by have := HB1.out.size; omega) (Nat.le_refl _)))
set_option maxRecDepth 100000 in
theorem output_on (s a b : List UInt8) (f : Bool) (hs : s.length ≤ 50000) (hbl : b.length ≤ 50000) (w : World) (hm : Ml w) (hc : Lib.cut s [32] = (a, b, f)) (t : List UInt8) (hb : Sp.bytesT b = some t) (ha : a = [111, 110]) (ho : Sp.outS s = some ⟨false, t⟩) :
    Calls Tryd.prog 54 #[.string (Sp.bs s)] w fun e w' => OutRet w s e w' := by
  have huO := Tryd.underlying56
  have hz := Sp.bs_size s
  have hb0 : Below w.heap.size w (w.alloc (.cells #[.bool false, .slice none 0 0] 56)) := (Below.refl _ _).alloc (Nat.le_refl _) _
  have HF0 := Lib.hid (Blk.new w (ouC false none 0 0) 56)
  have HB0 := Lib.hid hb0
  have HCut := Lib.hid (scut_calls s 32 a b f hc (by omega) (w.alloc (.cells #[.bool false, .slice none 0 0] 56)) (hm.below hb0))
  have HBy := Lib.hid (bytes_calls b (by omega))
  have hza := Sp.bs_size a
  have p0 := str_eqc a [98, 97, 99, 107]
  have p1 := str_eqc a [111, 110]
  rw [decide_eq_true ha] at p1
  rw [decide_eq_false (by rw [ha]; decide)] at p0
  clear ha
  have HO := Lib.hid ho
  have HB := Lib.hid hb
  clear hm hb0 hc ho hb
  go_enter Tryd.func54, Tryd.ntmps54
  go_wp2_with fail
  refine HCut.out.mono ?_
  rintro e w1 ⟨rfl, b1⟩
  have B1 := Lib.hid (step HB0.out b1)
  have G1 := Lib.hid (HF0.out.below b1)
  have S1 := Lib.hid b1.size
  clear b1
  go_wp2_with fail
  refine (HBy.out _).mono ?_
  rintro e w3 hbr
  obtain ⟨A3, n3, c3, rfl, hd3, b3⟩ := bytes_any hbr
  have hbb : (Sp.bytesT b).isSome = true := by rw [HB.out]; rfl
  rw [hbb]
  have HB1 := Lib.hid (step B1.out b3)
  have F1 := G1.out.below b3
  have HD : Hid (By w3 A3 n3 c3 t ∧ ∀ g o, A3 = some ⟨g, o, none⟩ → (w.alloc (.cells #[.bool false, .slice none 0 0] 56)).heap.size ≤ g) := ⟨(hd3 t HB.out).1, fun g o e => Nat.le_trans S1.out ((hd3 t HB.out).2 g o e)⟩
  have fz0 := F1.frozen 0
  have fz1 := F1.frozen 1
  have fc := F1.cells2
  have HF1 := Lib.hid F1
  clear hbr hd3 b3 hbb F1
  go_wp2_with fail
  have q := Blk.two HF1.out (.bool false) (.slice A3 n3 c3)
  refine bodyPost_ret (results_cell_tmp rfl _ _ _ _ _ rfl (out_load q.1)) rfl ?_
  exact OutRet.yes HO.out (By.kt HD.out.1 q.2 (fun g o e => by have := HD.out.2 g o e; have := HB0.out.size; rw [World.size_alloc] at *; omega)) (fun g o e => by have := HD.out.2 g o e; have := HB0.out.size; omega) (HB1.out.trans (q.2.low (B := w.heap.size) (by have := HB1.out.size; omega) (Nat.le_refl _)))
set_option maxRecDepth 100000 in
theorem output_other (s a b : List UInt8) (f : Bool) (hs : s.length ≤ 50000) (hbl : b.length ≤ 50000) (w : World) (hm : Ml w) (hc : Lib.cut s [32] = (a, b, f)) (t : List UInt8) (hb : Sp.bytesT b = some t) (n0 : a ≠ [98, 97, 99, 107]) (n1 : a ≠ [111, 110]) (ho : Sp.outS s = none) :
    Calls Tryd.prog 54 #[.string (Sp.bs s)] w fun e w' => OutRet w s e w' := by
  have huO := Tryd.underlying56
  have hz := Sp.bs_size s
  have hb0 : Below w.heap.size w (w.alloc (.cells #[.bool false, .slice none 0 0] 56)) := (Below.refl _ _).alloc (Nat.le_refl _) _
  have HF0 := Lib.hid (Blk.new w (ouC false none 0 0) 56)
  have HB0 := Lib.hid hb0
  have HCut := Lib.hid (scut_calls s 32 a b f hc (by omega) (w.alloc (.cells #[.bool false, .slice none 0 0] 56)) (hm.below hb0))
  have HBy := Lib.hid (bytes_calls b (by omega))
  have hza := Sp.bs_size a
  have p0 := str_eqc a [98, 97, 99, 107]
  have p1 := str_eqc a [111, 110]
  rw [decide_eq_false n0] at p0
  rw [decide_eq_false n1] at p1
  clear n0 n1
  have HO := Lib.hid ho
  have HB := Lib.hid hb
  clear hm hb0 hc ho hb
  go_enter Tryd.func54, Tryd.ntmps54
  go_wp2_with fail
  refine HCut.out.mono ?_
  rintro e w1 ⟨rfl, b1⟩
  have B1 := Lib.hid (step HB0.out b1)
  have G1 := Lib.hid (HF0.out.below b1)
  have S1 := Lib.hid b1.size
  clear b1
  go_wp2_with fail
  refine (HBy.out _).mono ?_
  rintro e w3 hbr
  obtain ⟨A3, n3, c3, rfl, hd3, b3⟩ := bytes_any hbr
  have hbb : (Sp.bytesT b).isSome = true := by rw [HB.out]; rfl
  rw [hbb]
  have HB1 := Lib.hid (step B1.out b3)
  have F1 := G1.out.below b3
  have HD : Hid (By w3 A3 n3 c3 t ∧ ∀ g o, A3 = some ⟨g, o, none⟩ → (w.alloc (.cells #[.bool false, .slice none 0 0] 56)).heap.size ≤ g) := ⟨(hd3 t HB.out).1, fun g o e => Nat.le_trans S1.out ((hd3 t HB.out).2 g o e)⟩
  have fz0 := F1.frozen 0
  have fz1 := F1.frozen 1
  have fc := F1.cells2
  have HF1 := Lib.hid F1
  clear hbr hd3 b3 hbb F1
  go_wp2_with fail
  have q := Blk.two HF1.out (.bool false) (.slice A3 n3 c3)
  refine bodyPost_ret (results_cell_tmp rfl _ _ _ _ _ rfl (out_load q.1)) rfl ?_
  exact OutRet.no HO.out (HB1.out.trans (q.2.low (B := w.heap.size) (by have := HB1.out.size; omega) (Nat.le_refl _)))
theorem output_calls (s : List UInt8) (hs : s.length ≤ 50000) (w : World) (hm : Ml w) :
    Calls Tryd.prog 54 #[.string (Sp.bs s)] w fun e w' => OutRet w s e w' := by
  rcases Sp.cut_cases 32 s with ⟨hc, hL, -⟩ | ⟨a, b, hc, hL, hsp, -⟩
  · exact output_bad s s [] false hs (by simp) w hm hc (by rfl) (Sp.outS_one hL)
  · have hbl : b.length ≤ 50000 := by
      have := congrArg List.length hsp
      rw [List.length_append, List.length_cons] at this
      omega
    cases hb : Sp.bytesT b with
    | none => exact output_bad s a b true hs hbl w hm hc hb (Sp.outS_bad hL hb)
    | some t =>
      have ho := Sp.outS_two hL hb
      by_cases h0 : a = [98, 97, 99, 107]
      · exact output_back s a b true hs hbl w hm hc t hb h0 (by rw [ho, if_pos h0])
      · by_cases h1 : a = [111, 110]
        · exact output_on s a b true hs hbl w hm hc t hb h1 (by rw [ho, if_neg h0, if_pos h1])
        · exact output_other s a b true hs hbl w hm hc t hb h0 h1 (by rw [ho, if_neg h0, if_neg h1])
end Tr
end Go.Proofs.YtpchfmeaplhodaaDoor
