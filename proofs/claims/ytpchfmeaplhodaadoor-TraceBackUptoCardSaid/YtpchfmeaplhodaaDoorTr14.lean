/-
  A part of the proof of this seat's laws: an output of a text, the reference's.
-/
import Derived.Test.YtpchfmeaplhodaaDoorTr13
namespace Go.Proofs.YtpchfmeaplhodaaDoor
set_option linter.unusedVariables false
set_option linter.unusedSimpArgs false
open Go.RowKit Go.Shelf
namespace Tr
open Ap Sg
set_option maxHeartbeats 2000000
set_option maxRecDepth 100000 in
theorem routput_len (s : List UInt8) (hs : s.length ≤ 50000) (w : World) (ws : List (List UInt8)) (n : Nat) (hws : Sp.cutL 32 s = ws) (hn : ws.length = n) (h2 : n ≠ 2) (h5 : n ≤ 1000000) :
    Calls Tryd.prog 42 #[.string (Sp.bs s)] w fun e w' => OutRet w s e w' := by
  have ho : Sp.outS s = none := by
    unfold Sp.outS
    rw [hws]
    match ws, hn with
    | [], _ => rfl
    | [_], _ => rfl
    | [_, _], hn => exact absurd hn.symm h2
    | _ :: _ :: _ :: _, _ => rfl
  have HO := Lib.hid ho
  have g1 : ((n : Int) != 2) = true := by rw [bne_iff_ne]; omega
  have huO := Tryd.underlying56
  have hz := Sp.bs_size s
  have hb0 : Below w.heap.size w (w.alloc (.cells #[.bool false, .slice none 0 0] 56)) := (Below.refl _ _).alloc (Nat.le_refl _) _
  have HF0 := Lib.hid (Blk.new w (ouC false none 0 0) 56)
  have HB0 := Lib.hid hb0
  have hcut := refCut_calls s 32 (by omega) (w.alloc (.cells #[.bool false, .slice none 0 0] 56))
  rw [hws] at hcut
  rw [hn] at hcut
  have HCut := Lib.hid hcut
  clear hcut hb0 ho hws hn h2
  go_enter Tryd.func42, Tryd.ntmps42
  go_wp2_with fail
  refine HCut.out.mono ?_
  rintro e w1 ⟨A, C, rfl, hm, b1⟩
  have HB1 := Lib.hid (step HB0.out b1)
  have F1 := HF0.out.below b1
  have fz0 := F1.frozen 0
  have fz1 := F1.frozen 1
  have fc := F1.cells2
  have HF1 := Lib.hid F1
  have S1 := Lib.hid b1.size
  clear b1 F1
  clear hm
  go_wp2_with fail
  have q := Blk.two HF1.out (.bool false) (.slice none 0 0)
  refine bodyPost_ret (results_cell_tmp rfl _ _ _ _ _ rfl (out_load q.1)) rfl ?_
  exact OutRet.no HO.out (HB1.out.trans (q.2.low (B := w.heap.size) (by have := HB1.out.size; omega) (Nat.le_refl _)))
set_option maxRecDepth 100000 in
theorem routput_other (s : List UInt8) (hs : s.length ≤ 50000) (w : World) (a b : List UInt8) (hws : Sp.cutL 32 s = [a, b]) (n0 : a ≠ [98, 97, 99, 107]) (n1 : a ≠ [111, 110]) :
    Calls Tryd.prog 42 #[.string (Sp.bs s)] w fun e w' => OutRet w s e w' := by
  have ho : Sp.outS s = none := by
    unfold Sp.outS
    rw [hws]
    simp [n0, n1]
  have HO := Lib.hid ho
  have p0 := str_eqc a [98, 97, 99, 107]
  have p1 := str_eqc a [111, 110]
  rw [decide_eq_false n0] at p0
  rw [decide_eq_false n1] at p1
  have huO := Tryd.underlying56
  have hz := Sp.bs_size s
  have hb0 : Below w.heap.size w (w.alloc (.cells #[.bool false, .slice none 0 0] 56)) := (Below.refl _ _).alloc (Nat.le_refl _) _
  have HF0 := Lib.hid (Blk.new w (ouC false none 0 0) 56)
  have HB0 := Lib.hid hb0
  have hcut := refCut_calls s 32 (by omega) (w.alloc (.cells #[.bool false, .slice none 0 0] 56))
  rw [hws] at hcut
  have HCut : Hid (Calls Tryd.prog 36 #[.string (Sp.bs s), .int .u8 ((32 : UInt8).toNat : Int)] (w.alloc (.cells #[.bool false, .slice none 0 0] 56)) fun e w' => ∃ A C, e = .returned (.slice A 2 C) ∧ Mine w' (w.alloc (.cells #[.bool false, .slice none 0 0] 56)).heap.size A 2 C (Sp.vals [a, b]) ∧ Below (w.alloc (.cells #[.bool false, .slice none 0 0] 56)).heap.size (w.alloc (.cells #[.bool false, .slice none 0 0] 56)) w') := Lib.hid hcut
  clear hcut hb0 ho hws n0 n1
  go_enter Tryd.func42, Tryd.ntmps42
  go_wp2_with fail
  refine HCut.out.mono ?_
  rintro e w1 ⟨A, C, rfl, hm, b1⟩
  have HB1 := Lib.hid (step HB0.out b1)
  have F1 := HF0.out.below b1
  have fz0 := F1.frozen 0
  have fz1 := F1.frozen 1
  have fc := F1.cells2
  have HF1 := Lib.hid F1
  have S1 := Lib.hid b1.size
  clear b1 F1
  obtain ⟨g, rfl, hg0, hwd⟩ := mine_words hm (by decide)
  have x0 : World.cell? _ ⟨g, 0, none⟩ = some (.string (Sp.bs a)) := hwd.at_ 0 a rfl
  have x1 : World.cell? _ ⟨g, 1, none⟩ = some (.string (Sp.bs b)) := hwd.at_ 1 b rfl
  have HWd := Lib.hid hwd
  have hgl := hwd.lt
  clear hwd hm
  go_wp2_with fail
  have q := Blk.two HF1.out (.bool false) (.slice none 0 0)
  refine bodyPost_ret (results_cell_tmp rfl _ _ _ _ _ rfl (out_load q.1)) rfl ?_
  exact OutRet.no HO.out (HB1.out.trans (q.2.low (B := w.heap.size) (by have := HB1.out.size; omega) (Nat.le_refl _)))
set_option maxRecDepth 100000 in
theorem routput_back (s : List UInt8) (hs : s.length ≤ 50000) (w : World) (a b : List UInt8) (hws : Sp.cutL 32 s = [a, b]) (ha : a = [98, 97, 99, 107]) :
    Calls Tryd.prog 42 #[.string (Sp.bs s)] w fun e w' => OutRet w s e w' := by
  have ho : Sp.outS s = (Sp.bytesT b).map fun d => ⟨true, d⟩ := by
    unfold Sp.outS
    rw [hws]
    simp [ha]
  have HO := Lib.hid ho
  have HBy := Lib.hid (rbytes_calls b (by have := cut_words hs (show b ∈ Sp.cutL 32 s by rw [hws]; simp); omega))
  have p0 := str_eqc a [98, 97, 99, 107]
  have p1 := str_eqc a [111, 110]
  rw [decide_eq_true ha] at p0
  clear p1
  have huO := Tryd.underlying56
  have hz := Sp.bs_size s
  have hb0 : Below w.heap.size w (w.alloc (.cells #[.bool false, .slice none 0 0] 56)) := (Below.refl _ _).alloc (Nat.le_refl _) _
  have HF0 := Lib.hid (Blk.new w (ouC false none 0 0) 56)
  have HB0 := Lib.hid hb0
  have hcut := refCut_calls s 32 (by omega) (w.alloc (.cells #[.bool false, .slice none 0 0] 56))
  rw [hws] at hcut
  have HCut : Hid (Calls Tryd.prog 36 #[.string (Sp.bs s), .int .u8 ((32 : UInt8).toNat : Int)] (w.alloc (.cells #[.bool false, .slice none 0 0] 56)) fun e w' => ∃ A C, e = .returned (.slice A 2 C) ∧ Mine w' (w.alloc (.cells #[.bool false, .slice none 0 0] 56)).heap.size A 2 C (Sp.vals [a, b]) ∧ Below (w.alloc (.cells #[.bool false, .slice none 0 0] 56)).heap.size (w.alloc (.cells #[.bool false, .slice none 0 0] 56)) w') := Lib.hid hcut
  clear hcut hb0 ho hws ha
  go_enter Tryd.func42, Tryd.ntmps42
  go_wp2_with fail
  refine HCut.out.mono ?_
  rintro e w1 ⟨A, C, rfl, hm, b1⟩
  have B1 := Lib.hid (step HB0.out b1)
  have F1 := HF0.out.below b1
  have G1 := Lib.hid F1
  have S1 := Lib.hid b1.size
  clear b1 F1
  obtain ⟨g, rfl, hg0, hwd⟩ := mine_words hm (by decide)
  have x0 : World.cell? _ ⟨g, 0, none⟩ = some (.string (Sp.bs a)) := hwd.at_ 0 a rfl
  have x1 : World.cell? _ ⟨g, 1, none⟩ = some (.string (Sp.bs b)) := hwd.at_ 1 b rfl
  have HWd := Lib.hid hwd
  have hgl := hwd.lt
  clear hwd hm
  go_wp2_with fail
  refine (HBy.out _).mono ?_
  rintro e w3 hbr
  obtain ⟨A3, n3, c3, rfl, hd3, b3⟩ := bytes_any hbr
  have HB1 := Lib.hid (step B1.out b3)
  have F1 := G1.out.below b3
  have hwd := HWd.out.below b3
  have y0 : World.cell? _ ⟨g, 0, none⟩ = some (.string (Sp.bs a)) := hwd.at_ 0 a rfl
  have HD : Hid (∀ t, Sp.bytesT b = some t → By w3 A3 n3 c3 t ∧ ∀ g o, A3 = some ⟨g, o, none⟩ → (w.alloc (.cells #[.bool false, .slice none 0 0] 56)).heap.size ≤ g) := fun t ht => ⟨(hd3 t ht).1, fun g o e => Nat.le_trans S1.out ((hd3 t ht).2 g o e)⟩
  have fz0 := F1.frozen 0
  have fz1 := F1.frozen 1
  have fc := F1.cells2
  have HF1 := Lib.hid F1
  clear hbr hd3 b3 F1 hwd
  go_wp2_with fail
  have q := Blk.two HF1.out (.bool true) (.slice A3 n3 c3)
  refine bodyPost_ret (results_cell_tmp rfl _ _ _ _ _ rfl (out_load q.1)) rfl ?_
  cases hb : Sp.bytesT b with
  | none => exact OutRet.no (by rw [HO.out, hb]; rfl) (HB1.out.trans (q.2.low (B := w.heap.size) (by have := HB1.out.size; omega) (Nat.le_refl _)))
  | some t => exact OutRet.yes (by rw [HO.out, hb]; rfl) (By.kt (HD.out t hb).1 q.2 (fun g o e => by have := (HD.out t hb).2 g o e; have := HB0.out.size; rw [World.size_alloc] at *; omega)) (fun g o e => by have := (HD.out t hb).2 g o e; have := HB0.out.size; omega) (HB1.out.trans (q.2.low (B := w.heap.size) (by have := HB1.out.size; omega) (Nat.le_refl _)))
set_option maxRecDepth 100000 in
theorem routput_on (s : List UInt8) (hs : s.length ≤ 50000) (w : World) (a b : List UInt8) (hws : Sp.cutL 32 s = [a, b]) (ha : a = [111, 110]) :
    Calls Tryd.prog 42 #[.string (Sp.bs s)] w fun e w' => OutRet w s e w' := by
  have ho : Sp.outS s = (Sp.bytesT b).map fun d => ⟨false, d⟩ := by
    unfold Sp.outS
    rw [hws]
    simp [ha]
  have HO := Lib.hid ho
  have HBy := Lib.hid (rbytes_calls b (by have := cut_words hs (show b ∈ Sp.cutL 32 s by rw [hws]; simp); omega))
  have p0 := str_eqc a [98, 97, 99, 107]
  have p1 := str_eqc a [111, 110]
  rw [decide_eq_true ha] at p1
  rw [decide_eq_false (by rw [ha]; decide)] at p0
  have huO := Tryd.underlying56
  have hz := Sp.bs_size s
  have hb0 : Below w.heap.size w (w.alloc (.cells #[.bool false, .slice none 0 0] 56)) := (Below.refl _ _).alloc (Nat.le_refl _) _
  have HF0 := Lib.hid (Blk.new w (ouC false none 0 0) 56)
  have HB0 := Lib.hid hb0
  have hcut := refCut_calls s 32 (by omega) (w.alloc (.cells #[.bool false, .slice none 0 0] 56))
  rw [hws] at hcut
  have HCut : Hid (Calls Tryd.prog 36 #[.string (Sp.bs s), .int .u8 ((32 : UInt8).toNat : Int)] (w.alloc (.cells #[.bool false, .slice none 0 0] 56)) fun e w' => ∃ A C, e = .returned (.slice A 2 C) ∧ Mine w' (w.alloc (.cells #[.bool false, .slice none 0 0] 56)).heap.size A 2 C (Sp.vals [a, b]) ∧ Below (w.alloc (.cells #[.bool false, .slice none 0 0] 56)).heap.size (w.alloc (.cells #[.bool false, .slice none 0 0] 56)) w') := Lib.hid hcut
  clear hcut hb0 ho hws ha
  go_enter Tryd.func42, Tryd.ntmps42
  go_wp2_with fail
  refine HCut.out.mono ?_
  rintro e w1 ⟨A, C, rfl, hm, b1⟩
  have B1 := Lib.hid (step HB0.out b1)
  have F1 := HF0.out.below b1
  have G1 := Lib.hid F1
  have S1 := Lib.hid b1.size
  clear b1 F1
  obtain ⟨g, rfl, hg0, hwd⟩ := mine_words hm (by decide)
  have x0 : World.cell? _ ⟨g, 0, none⟩ = some (.string (Sp.bs a)) := hwd.at_ 0 a rfl
  have x1 : World.cell? _ ⟨g, 1, none⟩ = some (.string (Sp.bs b)) := hwd.at_ 1 b rfl
  have HWd := Lib.hid hwd
  have hgl := hwd.lt
  clear hwd hm
  go_wp2_with fail
  refine (HBy.out _).mono ?_
  rintro e w3 hbr
  obtain ⟨A3, n3, c3, rfl, hd3, b3⟩ := bytes_any hbr
  have HB1 := Lib.hid (step B1.out b3)
  have F1 := G1.out.below b3
  have hwd := HWd.out.below b3
  have y0 : World.cell? _ ⟨g, 0, none⟩ = some (.string (Sp.bs a)) := hwd.at_ 0 a rfl
  have HD : Hid (∀ t, Sp.bytesT b = some t → By w3 A3 n3 c3 t ∧ ∀ g o, A3 = some ⟨g, o, none⟩ → (w.alloc (.cells #[.bool false, .slice none 0 0] 56)).heap.size ≤ g) := fun t ht => ⟨(hd3 t ht).1, fun g o e => Nat.le_trans S1.out ((hd3 t ht).2 g o e)⟩
  have fz0 := F1.frozen 0
  have fz1 := F1.frozen 1
  have fc := F1.cells2
  have HF1 := Lib.hid F1
  clear hbr hd3 b3 F1 hwd
  go_wp2_with fail
  have q := Blk.two HF1.out (.bool false) (.slice A3 n3 c3)
  refine bodyPost_ret (results_cell_tmp rfl _ _ _ _ _ rfl (out_load q.1)) rfl ?_
  cases hb : Sp.bytesT b with
  | none => exact OutRet.no (by rw [HO.out, hb]; rfl) (HB1.out.trans (q.2.low (B := w.heap.size) (by have := HB1.out.size; omega) (Nat.le_refl _)))
  | some t => exact OutRet.yes (by rw [HO.out, hb]; rfl) (By.kt (HD.out t hb).1 q.2 (fun g o e => by have := (HD.out t hb).2 g o e; have := HB0.out.size; rw [World.size_alloc] at *; omega)) (fun g o e => by have := (HD.out t hb).2 g o e; have := HB0.out.size; omega) (HB1.out.trans (q.2.low (B := w.heap.size) (by have := HB1.out.size; omega) (Nat.le_refl _)))
theorem routput_calls (s : List UInt8) (hs : s.length ≤ 50000) (w : World) :
    Calls Tryd.prog 42 #[.string (Sp.bs s)] w fun e w' => OutRet w s e w' := by
  have hln : (Sp.cutL 32 s).length ≤ 1000000 := by
    have := Sp.cutL_length 32 s
    have := List.count_le_length (a := (32 : UInt8)) (l := s)
    omega
  by_cases h2 : (Sp.cutL 32 s).length = 2
  · match hws : Sp.cutL 32 s, h2 with
    | [a, b], _ =>
      by_cases h0 : a = [98, 97, 99, 107]
      · exact routput_back s hs w a b hws h0
      · by_cases h1 : a = [111, 110]
        · exact routput_on s hs w a b hws h1
        · exact routput_other s hs w a b hws h0 h1
  · exact routput_len s hs w _ _ rfl rfl h2 hln
end Tr
end Go.Proofs.YtpchfmeaplhodaaDoor
