/-
  A part of the proof of this seat's laws: the event of a text, the reference's.
-/
import Derived.Test.YtpchfmeaplhodaaDoorRrA
namespace Go.Proofs.YtpchfmeaplhodaaDoor
set_option linter.unusedVariables false
set_option linter.unusedSimpArgs false
open Go.RowKit Go.Shelf
namespace Tr
open Ap Sg
set_option maxHeartbeats 2000000
set_option maxRecDepth 100000 in
theorem rread_drop_in (s : List UInt8) (hs : s.length ≤ 50000) (w : World) (hcase : s = [100, 114, 111, 112, 32, 105, 110]) :
    Calls Tryd.prog 18 #[.string (Sp.bs s)] w fun e w' => ReadRet w s e w' := by
  have hr : Sp.readS s = some ⟨2, 0, 0, []⟩ := by rw [hcase]; exact Sp.read_of (by rfl) Sp.small_zero Sp.small_zero
  have huE := Tryd.underlying29
  have hz := Sp.bs_size s
  have hb0 : Below w.heap.size w (w.alloc (.cells #[.int .i64 0, .int .i64 0, .int .i64 0, .slice none 0 0] 29)) := (Below.refl _ _).alloc (Nat.le_refl _) _
  have hs0 : (w.alloc (.cells #[.int .i64 0, .int .i64 0, .int .i64 0, .slice none 0 0] 29)).heap.size = w.heap.size + 1 := World.size_alloc _ _
  have f0 := Blk.new w (evC 0 0 0 none 0 0) 29
  have hcut := refCut_calls s 32 (by omega) (w.alloc (.cells #[.int .i64 0, .int .i64 0, .int .i64 0, .slice none 0 0] 29))
  have HCut := Lib.hid hcut
  have HB0 := Lib.hid hb0
  have HF0 := Lib.hid f0
  have HS0 := Lib.hid hs0
  clear hcut hb0 f0 hs0
  have q1 := str_eqc s [100, 114, 111, 112, 32, 105, 110]
  have q2 := str_eqc s [100, 114, 111, 112, 32, 111, 117, 116]
  rw [decide_eq_true hcase] at q1
  clear q2
  have HR := Lib.hid hr
  clear hr hcase
  go_enter Tryd.func18, Tryd.ntmps18
  go_wp2_with fail
  refine HCut.out.mono ?_
  rintro e w1 ⟨A, C, rfl, hm, hb1⟩
  have B1 := step HB0.out hb1
  have F1 := HF0.out.below hb1
  have u0 := F1.frozen 0
  have u1 := F1.frozen 1
  have u2 := F1.frozen 2
  have u3 := F1.frozen 3
  have z0 := F1.cells4
  have hbn : Below w1.heap.size w1 (w1.alloc (.cells #[.int .i64 0, .int .i64 0, .int .i64 0, .slice none 0 0] 29)) := (Below.refl _ _).alloc (Nat.le_refl _) _
  have F2 := F1.below hbn
  have v0 := F2.frozen 0
  have v1 := F2.frozen 1
  have v2 := F2.frozen 2
  have v3 := F2.frozen 3
  have z1 := F2.cells4
  have HF1 := Lib.hid F1
  have HF2 := Lib.hid F2
  have HB1 := Lib.hid B1
  have HB2 := Lib.hid (step B1 hbn)
  have hlt1 : w.heap.size < w1.heap.size := F1.lt
  clear B1 F1 F2 hbn hb1
  go_wp2_with fail
  have q := Blk.four HF1.out (.int .i64 2) (.int .i64 0) (.int .i64 0) (.slice none 0 0)
  refine bodyPost_ret (results_cell_tmp rfl _ _ _ _ _ rfl (ev_load (q.1.below ((Below.refl _ _).alloc (Nat.le_refl _) _)))) rfl ?_
  exact ReadRet.yes HR.out rfl (By.nil _) (fun g o e => by cases e) (HB1.out.trans ((q.2.low (B := w.heap.size) (by omega) (Nat.le_refl _)).alloc (by have := q.2.size; omega) _))
set_option maxRecDepth 100000 in
theorem rread_drop_out (s : List UInt8) (hs : s.length ≤ 50000) (w : World) (hcase : s = [100, 114, 111, 112, 32, 111, 117, 116]) :
    Calls Tryd.prog 18 #[.string (Sp.bs s)] w fun e w' => ReadRet w s e w' := by
  have hr : Sp.readS s = some ⟨3, 0, 0, []⟩ := by rw [hcase]; exact Sp.read_of (by rfl) Sp.small_zero Sp.small_zero
  have huE := Tryd.underlying29
  have hz := Sp.bs_size s
  have hb0 : Below w.heap.size w (w.alloc (.cells #[.int .i64 0, .int .i64 0, .int .i64 0, .slice none 0 0] 29)) := (Below.refl _ _).alloc (Nat.le_refl _) _
  have hs0 : (w.alloc (.cells #[.int .i64 0, .int .i64 0, .int .i64 0, .slice none 0 0] 29)).heap.size = w.heap.size + 1 := World.size_alloc _ _
  have f0 := Blk.new w (evC 0 0 0 none 0 0) 29
  have hcut := refCut_calls s 32 (by omega) (w.alloc (.cells #[.int .i64 0, .int .i64 0, .int .i64 0, .slice none 0 0] 29))
  have HCut := Lib.hid hcut
  have HB0 := Lib.hid hb0
  have HF0 := Lib.hid f0
  have HS0 := Lib.hid hs0
  clear hcut hb0 f0 hs0
  have q1 := str_eqc s [100, 114, 111, 112, 32, 105, 110]
  have q2 := str_eqc s [100, 114, 111, 112, 32, 111, 117, 116]
  rw [decide_eq_true hcase] at q2
  rw [decide_eq_false (by rw [hcase]; decide)] at q1
  have HR := Lib.hid hr
  clear hr hcase
  go_enter Tryd.func18, Tryd.ntmps18
  go_wp2_with fail
  refine HCut.out.mono ?_
  rintro e w1 ⟨A, C, rfl, hm, hb1⟩
  have B1 := step HB0.out hb1
  have F1 := HF0.out.below hb1
  have u0 := F1.frozen 0
  have u1 := F1.frozen 1
  have u2 := F1.frozen 2
  have u3 := F1.frozen 3
  have z0 := F1.cells4
  have hbn : Below w1.heap.size w1 (w1.alloc (.cells #[.int .i64 0, .int .i64 0, .int .i64 0, .slice none 0 0] 29)) := (Below.refl _ _).alloc (Nat.le_refl _) _
  have F2 := F1.below hbn
  have v0 := F2.frozen 0
  have v1 := F2.frozen 1
  have v2 := F2.frozen 2
  have v3 := F2.frozen 3
  have z1 := F2.cells4
  have HF1 := Lib.hid F1
  have HF2 := Lib.hid F2
  have HB1 := Lib.hid B1
  have HB2 := Lib.hid (step B1 hbn)
  have hlt1 : w.heap.size < w1.heap.size := F1.lt
  clear B1 F1 F2 hbn hb1
  go_wp2_with fail
  have q := Blk.four HF1.out (.int .i64 3) (.int .i64 0) (.int .i64 0) (.slice none 0 0)
  refine bodyPost_ret (results_cell_tmp rfl _ _ _ _ _ rfl (ev_load (q.1.below ((Below.refl _ _).alloc (Nat.le_refl _) _)))) rfl ?_
  exact ReadRet.yes HR.out rfl (By.nil _) (fun g o e => by cases e) (HB1.out.trans ((q.2.low (B := w.heap.size) (by omega) (Nat.le_refl _)).alloc (by have := q.2.size; omega) _))
end Tr
end Go.Proofs.YtpchfmeaplhodaaDoor
namespace Go.Proofs.YtpchfmeaplhodaaDoor
set_option linter.unusedVariables false
set_option linter.unusedSimpArgs false
open Go.RowKit Go.Shelf
namespace Tr
open Ap Sg
set_option maxHeartbeats 2000000
set_option maxRecDepth 100000 in
theorem rread_one (s : List UInt8) (hs : s.length ≤ 50000) (w : World) (h1 : s ≠ [100, 114, 111, 112, 32, 105, 110]) (h2 : s ≠ [100, 114, 111, 112, 32, 111, 117, 116]) (a : List UInt8) (hws : Sp.cutL 32 s = [a]) :
    Calls Tryd.prog 18 #[.string (Sp.bs s)] w fun e w' => ReadRet w s e w' := by
  have hr : Sp.readS s = none := by rw [Sp.readS_eq, hws]; rfl
  have HR := Lib.hid hr
  clear hr
  have huE := Tryd.underlying29
  have hz := Sp.bs_size s
  have q1 := str_eqc s [100, 114, 111, 112, 32, 105, 110]
  have q2 := str_eqc s [100, 114, 111, 112, 32, 111, 117, 116]
  rw [decide_eq_false h1] at q1
  rw [decide_eq_false h2] at q2
  have hb0 : Below w.heap.size w (w.alloc (.cells #[.int .i64 0, .int .i64 0, .int .i64 0, .slice none 0 0] 29)) := (Below.refl _ _).alloc (Nat.le_refl _) _
  have f0 := Blk.new w (evC 0 0 0 none 0 0) 29
  have hcut := refCut_calls s 32 (by omega) (w.alloc (.cells #[.int .i64 0, .int .i64 0, .int .i64 0, .slice none 0 0] 29))
  rw [hws] at hcut
  have HCut : Hid (Calls Tryd.prog 36 #[.string (Sp.bs s), .int .u8 ((32 : UInt8).toNat : Int)] (w.alloc (.cells #[.int .i64 0, .int .i64 0, .int .i64 0, .slice none 0 0] 29)) fun e w' => ∃ A C, e = .returned (.slice A 1 C) ∧ Mine w' (w.alloc (.cells #[.int .i64 0, .int .i64 0, .int .i64 0, .slice none 0 0] 29)).heap.size A 1 C (Sp.vals [a]) ∧ Below (w.alloc (.cells #[.int .i64 0, .int .i64 0, .int .i64 0, .slice none 0 0] 29)).heap.size (w.alloc (.cells #[.int .i64 0, .int .i64 0, .int .i64 0, .slice none 0 0] 29)) w') := Lib.hid hcut
  have HB0 := Lib.hid hb0
  have HF0 := Lib.hid f0
  clear hcut hb0 f0 h1 h2 hws
  go_enter Tryd.func18, Tryd.ntmps18
  go_wp2_with fail
  refine HCut.out.mono ?_
  rintro e w1 ⟨A, C, rfl, hm, hb1⟩
  have B1 := step HB0.out hb1
  have F1 := HF0.out.below hb1
  have u0 := F1.frozen 0
  have u1 := F1.frozen 1
  have u2 := F1.frozen 2
  have u3 := F1.frozen 3
  have z0 := F1.cells4
  have hbn : Below w1.heap.size w1 (w1.alloc (.cells #[.int .i64 0, .int .i64 0, .int .i64 0, .slice none 0 0] 29)) := (Below.refl _ _).alloc (Nat.le_refl _) _
  have F2 := F1.below hbn
  have v0 := F2.frozen 0
  have v1 := F2.frozen 1
  have v2 := F2.frozen 2
  have v3 := F2.frozen 3
  have z1 := F2.cells4
  have HF1 := Lib.hid F1
  have HF2 := Lib.hid F2
  have HB1 := Lib.hid B1
  have HB2 := Lib.hid (step B1 hbn)
  have hlt1 : w.heap.size < w1.heap.size := F1.lt
  clear B1 F1 F2 hbn hb1
  clear hm
  go_wp2_with fail
  have q := Blk.four HF1.out (.int .i64 0) (.int .i64 0) (.int .i64 0) (.slice none 0 0)
  refine bodyPost_ret (results_cell_tmp rfl _ _ _ _ _ rfl (ev_load (q.1.below ((Below.refl _ _).alloc (Nat.le_refl _) _)))) rfl ?_
  exact ReadRet.no HR.out (HB1.out.trans ((q.2.low (B := w.heap.size) (by omega) (Nat.le_refl _)).alloc (by have := q.2.size; omega) _))
set_option maxRecDepth 100000 in
theorem rread_many (s : List UInt8) (hs : s.length ≤ 50000) (w : World) (h1 : s ≠ [100, 114, 111, 112, 32, 105, 110]) (h2 : s ≠ [100, 114, 111, 112, 32, 111, 117, 116]) (ws : List (List UInt8)) (n : Nat) (hws : Sp.cutL 32 s = ws) (hn : ws.length = n) (h4 : 4 ≤ n) (h5 : n ≤ 1000000) :
    Calls Tryd.prog 18 #[.string (Sp.bs s)] w fun e w' => ReadRet w s e w' := by
  have hr : Sp.readS s = none := by
    rw [Sp.readS_eq, hws]
    match ws, hn with
    | [], hn => simp at hn; omega
    | [_], hn => simp at hn; omega
    | [_, _], hn => simp at hn; omega
    | [_, _, _], hn => simp at hn; omega
    | _ :: _ :: _ :: _ :: _, _ => rfl
  have HR := Lib.hid hr
  clear hr
  have g1 : ¬ (n : Int) < 2 := by omega
  have g2 : (3 : Int) < (n : Int) := by omega
  have huE := Tryd.underlying29
  have hz := Sp.bs_size s
  have q1 := str_eqc s [100, 114, 111, 112, 32, 105, 110]
  have q2 := str_eqc s [100, 114, 111, 112, 32, 111, 117, 116]
  rw [decide_eq_false h1] at q1
  rw [decide_eq_false h2] at q2
  have hb0 : Below w.heap.size w (w.alloc (.cells #[.int .i64 0, .int .i64 0, .int .i64 0, .slice none 0 0] 29)) := (Below.refl _ _).alloc (Nat.le_refl _) _
  have f0 := Blk.new w (evC 0 0 0 none 0 0) 29
  have hcut := refCut_calls s 32 (by omega) (w.alloc (.cells #[.int .i64 0, .int .i64 0, .int .i64 0, .slice none 0 0] 29))
  rw [hws] at hcut
  rw [hn] at hcut
  have HCut := Lib.hid hcut
  have HB0 := Lib.hid hb0
  have HF0 := Lib.hid f0
  clear hcut hb0 f0 h1 h2 hws hn
  go_enter Tryd.func18, Tryd.ntmps18
  go_wp2_with fail
  refine HCut.out.mono ?_
  rintro e w1 ⟨A, C, rfl, hm, hb1⟩
  have B1 := step HB0.out hb1
  have F1 := HF0.out.below hb1
  have u0 := F1.frozen 0
  have u1 := F1.frozen 1
  have u2 := F1.frozen 2
  have u3 := F1.frozen 3
  have z0 := F1.cells4
  have hbn : Below w1.heap.size w1 (w1.alloc (.cells #[.int .i64 0, .int .i64 0, .int .i64 0, .slice none 0 0] 29)) := (Below.refl _ _).alloc (Nat.le_refl _) _
  have F2 := F1.below hbn
  have v0 := F2.frozen 0
  have v1 := F2.frozen 1
  have v2 := F2.frozen 2
  have v3 := F2.frozen 3
  have z1 := F2.cells4
  have HF1 := Lib.hid F1
  have HF2 := Lib.hid F2
  have HB1 := Lib.hid B1
  have HB2 := Lib.hid (step B1 hbn)
  have hlt1 : w.heap.size < w1.heap.size := F1.lt
  clear B1 F1 F2 hbn hb1
  clear hm
  go_wp2_with fail
  have q := Blk.four HF1.out (.int .i64 0) (.int .i64 0) (.int .i64 0) (.slice none 0 0)
  refine bodyPost_ret (results_cell_tmp rfl _ _ _ _ _ rfl (ev_load (q.1.below ((Below.refl _ _).alloc (Nat.le_refl _) _)))) rfl ?_
  exact ReadRet.no HR.out (HB1.out.trans ((q.2.low (B := w.heap.size) (by omega) (Nat.le_refl _)).alloc (by have := q.2.size; omega) _))
set_option maxRecDepth 100000 in
theorem rread_three (s : List UInt8) (hs : s.length ≤ 50000) (w : World) (h1 : s ≠ [100, 114, 111, 112, 32, 105, 110]) (h2 : s ≠ [100, 114, 111, 112, 32, 111, 117, 116]) (a b c : List UInt8) (hws : Sp.cutL 32 s = [a, b, c]) (ha : a ≠ [97, 114, 109]) :
    Calls Tryd.prog 18 #[.string (Sp.bs s)] w fun e w' => ReadRet w s e w' := by
  have hr : Sp.readS s = none := by rw [Sp.readS_eq, hws]; simp [Sp.readW, ha]
  have HR := Lib.hid hr
  have p0 := str_eqc a [97, 114, 109]
  rw [decide_eq_false ha] at p0
  clear hr ha
  have huE := Tryd.underlying29
  have hz := Sp.bs_size s
  have q1 := str_eqc s [100, 114, 111, 112, 32, 105, 110]
  have q2 := str_eqc s [100, 114, 111, 112, 32, 111, 117, 116]
  rw [decide_eq_false h1] at q1
  rw [decide_eq_false h2] at q2
  have hb0 : Below w.heap.size w (w.alloc (.cells #[.int .i64 0, .int .i64 0, .int .i64 0, .slice none 0 0] 29)) := (Below.refl _ _).alloc (Nat.le_refl _) _
  have f0 := Blk.new w (evC 0 0 0 none 0 0) 29
  have hcut := refCut_calls s 32 (by omega) (w.alloc (.cells #[.int .i64 0, .int .i64 0, .int .i64 0, .slice none 0 0] 29))
  rw [hws] at hcut
  have HCut : Hid (Calls Tryd.prog 36 #[.string (Sp.bs s), .int .u8 ((32 : UInt8).toNat : Int)] (w.alloc (.cells #[.int .i64 0, .int .i64 0, .int .i64 0, .slice none 0 0] 29)) fun e w' => ∃ A C, e = .returned (.slice A 3 C) ∧ Mine w' (w.alloc (.cells #[.int .i64 0, .int .i64 0, .int .i64 0, .slice none 0 0] 29)).heap.size A 3 C (Sp.vals [a, b, c]) ∧ Below (w.alloc (.cells #[.int .i64 0, .int .i64 0, .int .i64 0, .slice none 0 0] 29)).heap.size (w.alloc (.cells #[.int .i64 0, .int .i64 0, .int .i64 0, .slice none 0 0] 29)) w') := Lib.hid hcut
  have HB0 := Lib.hid hb0
  have HF0 := Lib.hid f0
  clear hcut hb0 f0 h1 h2 hws
  go_enter Tryd.func18, Tryd.ntmps18
  go_wp2_with fail
  refine HCut.out.mono ?_
  rintro e w1 ⟨A, C, rfl, hm, hb1⟩
  have B1 := step HB0.out hb1
  have F1 := HF0.out.below hb1
  have u0 := F1.frozen 0
  have u1 := F1.frozen 1
  have u2 := F1.frozen 2
  have u3 := F1.frozen 3
  have z0 := F1.cells4
  have hbn : Below w1.heap.size w1 (w1.alloc (.cells #[.int .i64 0, .int .i64 0, .int .i64 0, .slice none 0 0] 29)) := (Below.refl _ _).alloc (Nat.le_refl _) _
  have F2 := F1.below hbn
  have v0 := F2.frozen 0
  have v1 := F2.frozen 1
  have v2 := F2.frozen 2
  have v3 := F2.frozen 3
  have z1 := F2.cells4
  have HF1 := Lib.hid F1
  have HF2 := Lib.hid F2
  have HB1 := Lib.hid B1
  have HB2 := Lib.hid (step B1 hbn)
  have hlt1 : w.heap.size < w1.heap.size := F1.lt
  clear B1 F1 F2 hbn hb1
  obtain ⟨g, rfl, hg0, hwd⟩ := mine_words hm (by decide)
  have hwd2 := hwd.below ((Below.refl w1.heap.size w1).alloc (Nat.le_refl _) (.cells #[.int .i64 0, .int .i64 0, .int .i64 0, .slice none 0 0] 29))
  have x0 : World.cell? _ ⟨g, 0, none⟩ = some (.string (Sp.bs a)) := hwd2.at_ 0 a rfl
  have x1 : World.cell? _ ⟨g, 1, none⟩ = some (.string (Sp.bs b)) := hwd2.at_ 1 b rfl
  have x2 : World.cell? _ ⟨g, 2, none⟩ = some (.string (Sp.bs c)) := hwd2.at_ 2 c rfl
  have HWd := Lib.hid hwd2
  have hgl := hwd.lt
  clear hwd hwd2 hm
  go_wp2_with fail
  have q := Blk.four HF1.out (.int .i64 0) (.int .i64 0) (.int .i64 0) (.slice none 0 0)
  refine bodyPost_ret (results_cell_tmp rfl _ _ _ _ _ rfl (ev_load (q.1.below ((Below.refl _ _).alloc (Nat.le_refl _) _)))) rfl ?_
  exact ReadRet.no HR.out (HB1.out.trans ((q.2.low (B := w.heap.size) (by omega) (Nat.le_refl _)).alloc (by have := q.2.size; omega) _))
set_option maxRecDepth 100000 in
theorem rread_arm2 (s : List UInt8) (hs : s.length ≤ 50000) (w : World) (h1 : s ≠ [100, 114, 111, 112, 32, 105, 110]) (h2 : s ≠ [100, 114, 111, 112, 32, 111, 117, 116]) (a b : List UInt8) (hws : Sp.cutL 32 s = [a, b]) (ha : a = [97, 114, 109]) :
    Calls Tryd.prog 18 #[.string (Sp.bs s)] w fun e w' => ReadRet w s e w' := by
  have hr : Sp.readS s = none := by rw [Sp.readS_eq, hws, ha]; simp [Sp.readW]
  have HR := Lib.hid hr
  have p0 := str_eqc a [97, 114, 109]
  rw [decide_eq_true ha] at p0
  clear hr ha
  have huE := Tryd.underlying29
  have hz := Sp.bs_size s
  have q1 := str_eqc s [100, 114, 111, 112, 32, 105, 110]
  have q2 := str_eqc s [100, 114, 111, 112, 32, 111, 117, 116]
  rw [decide_eq_false h1] at q1
  rw [decide_eq_false h2] at q2
  have hb0 : Below w.heap.size w (w.alloc (.cells #[.int .i64 0, .int .i64 0, .int .i64 0, .slice none 0 0] 29)) := (Below.refl _ _).alloc (Nat.le_refl _) _
  have f0 := Blk.new w (evC 0 0 0 none 0 0) 29
  have hcut := refCut_calls s 32 (by omega) (w.alloc (.cells #[.int .i64 0, .int .i64 0, .int .i64 0, .slice none 0 0] 29))
  rw [hws] at hcut
  have HCut : Hid (Calls Tryd.prog 36 #[.string (Sp.bs s), .int .u8 ((32 : UInt8).toNat : Int)] (w.alloc (.cells #[.int .i64 0, .int .i64 0, .int .i64 0, .slice none 0 0] 29)) fun e w' => ∃ A C, e = .returned (.slice A 2 C) ∧ Mine w' (w.alloc (.cells #[.int .i64 0, .int .i64 0, .int .i64 0, .slice none 0 0] 29)).heap.size A 2 C (Sp.vals [a, b]) ∧ Below (w.alloc (.cells #[.int .i64 0, .int .i64 0, .int .i64 0, .slice none 0 0] 29)).heap.size (w.alloc (.cells #[.int .i64 0, .int .i64 0, .int .i64 0, .slice none 0 0] 29)) w') := Lib.hid hcut
  have HB0 := Lib.hid hb0
  have HF0 := Lib.hid f0
  clear hcut hb0 f0 h1 h2 hws
  go_enter Tryd.func18, Tryd.ntmps18
  go_wp2_with fail
  refine HCut.out.mono ?_
  rintro e w1 ⟨A, C, rfl, hm, hb1⟩
  have B1 := step HB0.out hb1
  have F1 := HF0.out.below hb1
  have u0 := F1.frozen 0
  have u1 := F1.frozen 1
  have u2 := F1.frozen 2
  have u3 := F1.frozen 3
  have z0 := F1.cells4
  have hbn : Below w1.heap.size w1 (w1.alloc (.cells #[.int .i64 0, .int .i64 0, .int .i64 0, .slice none 0 0] 29)) := (Below.refl _ _).alloc (Nat.le_refl _) _
  have F2 := F1.below hbn
  have v0 := F2.frozen 0
  have v1 := F2.frozen 1
  have v2 := F2.frozen 2
  have v3 := F2.frozen 3
  have z1 := F2.cells4
  have HF1 := Lib.hid F1
  have HF2 := Lib.hid F2
  have HB1 := Lib.hid B1
  have HB2 := Lib.hid (step B1 hbn)
  have hlt1 : w.heap.size < w1.heap.size := F1.lt
  clear B1 F1 F2 hbn hb1
  obtain ⟨g, rfl, hg0, hwd⟩ := mine_words hm (by decide)
  have hwd2 := hwd.below ((Below.refl w1.heap.size w1).alloc (Nat.le_refl _) (.cells #[.int .i64 0, .int .i64 0, .int .i64 0, .slice none 0 0] 29))
  have x0 : World.cell? _ ⟨g, 0, none⟩ = some (.string (Sp.bs a)) := hwd2.at_ 0 a rfl
  have x1 : World.cell? _ ⟨g, 1, none⟩ = some (.string (Sp.bs b)) := hwd2.at_ 1 b rfl
  have HWd := Lib.hid hwd2
  have hgl := hwd.lt
  clear hwd hwd2 hm
  go_wp2_with fail
  have q := Blk.four HF1.out (.int .i64 0) (.int .i64 0) (.int .i64 0) (.slice none 0 0)
  refine bodyPost_ret (results_cell_tmp rfl _ _ _ _ _ rfl (ev_load (q.1.below ((Below.refl _ _).alloc (Nat.le_refl _) _)))) rfl ?_
  exact ReadRet.no HR.out (HB1.out.trans ((q.2.low (B := w.heap.size) (by omega) (Nat.le_refl _)).alloc (by have := q.2.size; omega) _))
end Tr
end Go.Proofs.YtpchfmeaplhodaaDoor
namespace Go.Proofs.YtpchfmeaplhodaaDoor
set_option linter.unusedVariables false
set_option linter.unusedSimpArgs false
open Go.RowKit Go.Shelf
namespace Tr
open Ap Sg
set_option maxHeartbeats 2000000
set_option maxRecDepth 100000 in
theorem rread_in_hit (s : List UInt8) (hs : s.length ≤ 50000) (w : World) (h1 : s ≠ [100, 114, 111, 112, 32, 105, 110]) (h2 : s ≠ [100, 114, 111, 112, 32, 111, 117, 116]) (a b : List UInt8) (hws : Sp.cutL 32 s = [a, b]) (ha : a = [105, 110]) (t : List UInt8) (hb : Sp.bytesT b = some t) :
    Calls Tryd.prog 18 #[.string (Sp.bs s)] w fun e w' => ReadRet w s e w' := by
  have hr : Sp.readS s = some ⟨0, 0, 0, t⟩ := by rw [Sp.readS_eq, hws, ha]; simp [Sp.readW, hb]
  have HR := Lib.hid hr
  have HBy := Lib.hid (rbytes_calls b (by have := cut_words hs (show b ∈ Sp.cutL 32 s by rw [hws]; simp); omega))
  have HNu := Lib.hid (rnumber_calls b (by have := cut_words hs (show b ∈ Sp.cutL 32 s by rw [hws]; simp); omega))
  have p0 := str_eqc a [105, 110]
  rw [decide_eq_true ha] at p0
  have p1 := str_eqc a [111, 117, 116]
  rw [decide_eq_false (by rw [ha]; decide)] at p1
  have p2 := str_eqc a [116, 105, 99, 107]
  rw [decide_eq_false (by rw [ha]; decide)] at p2
  have p3 := str_eqc a [114, 111, 111, 109]
  rw [decide_eq_false (by rw [ha]; decide)] at p3
  have p4 := str_eqc a [102, 97, 105, 108, 115, 121, 110, 99]
  rw [decide_eq_false (by rw [ha]; decide)] at p4
  have p5 := str_eqc a [112, 111, 119, 101, 114]
  rw [decide_eq_false (by rw [ha]; decide)] at p5
  have p6 := str_eqc a [97, 114, 109]
  rw [decide_eq_false (by rw [ha]; decide)] at p6
  have HB := Lib.hid hb
  clear hr ha hb
  have huE := Tryd.underlying29
  have hz := Sp.bs_size s
  have q1 := str_eqc s [100, 114, 111, 112, 32, 105, 110]
  have q2 := str_eqc s [100, 114, 111, 112, 32, 111, 117, 116]
  rw [decide_eq_false h1] at q1
  rw [decide_eq_false h2] at q2
  have hb0 : Below w.heap.size w (w.alloc (.cells #[.int .i64 0, .int .i64 0, .int .i64 0, .slice none 0 0] 29)) := (Below.refl _ _).alloc (Nat.le_refl _) _
  have f0 := Blk.new w (evC 0 0 0 none 0 0) 29
  have hcut := refCut_calls s 32 (by omega) (w.alloc (.cells #[.int .i64 0, .int .i64 0, .int .i64 0, .slice none 0 0] 29))
  rw [hws] at hcut
  have HCut : Hid (Calls Tryd.prog 36 #[.string (Sp.bs s), .int .u8 ((32 : UInt8).toNat : Int)] (w.alloc (.cells #[.int .i64 0, .int .i64 0, .int .i64 0, .slice none 0 0] 29)) fun e w' => ∃ A C, e = .returned (.slice A 2 C) ∧ Mine w' (w.alloc (.cells #[.int .i64 0, .int .i64 0, .int .i64 0, .slice none 0 0] 29)).heap.size A 2 C (Sp.vals [a, b]) ∧ Below (w.alloc (.cells #[.int .i64 0, .int .i64 0, .int .i64 0, .slice none 0 0] 29)).heap.size (w.alloc (.cells #[.int .i64 0, .int .i64 0, .int .i64 0, .slice none 0 0] 29)) w') := Lib.hid hcut
  have HB0 := Lib.hid hb0
  have HF0 := Lib.hid f0
  clear hcut hb0 f0 h1 h2 hws
  go_enter Tryd.func18, Tryd.ntmps18
  go_wp2_with fail
  refine HCut.out.mono ?_
  rintro e w1 ⟨A, C, rfl, hm, hb1⟩
  have B1 := step HB0.out hb1
  have F1 := HF0.out.below hb1
  have u0 := F1.frozen 0
  have u1 := F1.frozen 1
  have u2 := F1.frozen 2
  have u3 := F1.frozen 3
  have z0 := F1.cells4
  have hbn : Below w1.heap.size w1 (w1.alloc (.cells #[.int .i64 0, .int .i64 0, .int .i64 0, .slice none 0 0] 29)) := (Below.refl _ _).alloc (Nat.le_refl _) _
  have F2 := F1.below hbn
  have v0 := F2.frozen 0
  have v1 := F2.frozen 1
  have v2 := F2.frozen 2
  have v3 := F2.frozen 3
  have z1 := F2.cells4
  have HF1 := Lib.hid F1
  have HF2 := Lib.hid F2
  have HB1 := Lib.hid B1
  have HB2 := Lib.hid (step B1 hbn)
  have hlt1 : w.heap.size < w1.heap.size := F1.lt
  clear B1 F1 F2 hbn hb1
  obtain ⟨g, rfl, hg0, hwd⟩ := mine_words hm (by decide)
  have hwd2 := hwd.below ((Below.refl w1.heap.size w1).alloc (Nat.le_refl _) (.cells #[.int .i64 0, .int .i64 0, .int .i64 0, .slice none 0 0] 29))
  have x0 : World.cell? _ ⟨g, 0, none⟩ = some (.string (Sp.bs a)) := hwd2.at_ 0 a rfl
  have x1 : World.cell? _ ⟨g, 1, none⟩ = some (.string (Sp.bs b)) := hwd2.at_ 1 b rfl
  have HWd := Lib.hid hwd2
  have hgl := hwd.lt
  clear hwd hwd2 hm
  go_wp2_with fail
  have HN2 := Lib.hid (Blk.new w1 (evC 0 0 0 none 0 0) 29)
  refine (HBy.out _).mono ?_
  rintro e w3 hbr
  obtain ⟨A3, n3, c3, rfl, hd3, b3⟩ := bytes_any hbr
  clear hbr
  have hwd3 := HWd.out.below b3
  have y0 : World.cell? _ ⟨g, 0, none⟩ = some (.string (Sp.bs a)) := hwd3.at_ 0 a rfl
  have y1 : World.cell? _ ⟨g, 1, none⟩ = some (.string (Sp.bs b)) := hwd3.at_ 1 b rfl
  have HD3 := Lib.hid hd3
  have HB3 := Lib.hid (step HB2.out b3)
  have HF3 := Lib.hid (HF2.out.below b3)
  have HN3 := Lib.hid (HN2.out.below b3)
  have HWd3 := Lib.hid hwd3
  have Hs3 := Lib.hid b3.size
  clear hd3 b3 hwd3
  go_wp2_with fail
  refine (HNu.out _).mono ?_
  rintro e w4 hnr
  obtain ⟨rfl, b4⟩ := num_any hnr
  clear hnr
  have hwd4 := HWd3.out.below b4
  have z0 : World.cell? _ ⟨g, 0, none⟩ = some (.string (Sp.bs a)) := hwd4.at_ 0 a rfl
  have z1 : World.cell? _ ⟨g, 1, none⟩ = some (.string (Sp.bs b)) := hwd4.at_ 1 b rfl
  have HD4 := Lib.hid (fun t ht => (And.intro ((HD3.out t ht).1.below b4) (HD3.out t ht).2 : By w4 A3 n3 c3 t ∧ _))
  have HB4 := Lib.hid (step HB3.out b4)
  have F4 := HF3.out.below b4
  have N4 := HN3.out.below b4
  have f0 := F4.frozen 0
  have f1 := F4.frozen 1
  have f2 := F4.frozen 2
  have f3 := F4.frozen 3
  have f4 := F4.cells4
  have m4 := N4.cells4
  have HF4 := Lib.hid F4
  have HWd4 := Lib.hid hwd4
  have Hs4 := Lib.hid b4.size
  clear b4 F4 N4 hwd4
  have hbb : (Sp.bytesT b).isSome = true := by rw [HB.out]; rfl
  rw [hbb]
  clear hbb
  go_wp2_with fail
  (try rw [Exit.noGoto_ret])
  have q := Blk.four HF4.out (.int .i64 0) (.int .i64 0) (.int .i64 0) (.slice A3 n3 c3)
  refine bodyPost_ret (results_cell_tmp rfl _ _ _ _ _ rfl (ev_load q.1)) rfl ?_
  exact ReadRet.yes HR.out rfl (By.kt (HD4.out t HB.out).1 q.2 (fun g o e => by have := (HD4.out t HB.out).2 g o e; have := HB2.out.size; rw [World.size_alloc] at *; omega)) (fun g o e => by have := (HD4.out t HB.out).2 g o e; have := HB2.out.size; omega) (HB4.out.trans (q.2.low (B := w.heap.size) (by have := HB4.out.size; omega) (Nat.le_refl _)))
set_option maxRecDepth 100000 in
theorem rread_in_miss (s : List UInt8) (hs : s.length ≤ 50000) (w : World) (h1 : s ≠ [100, 114, 111, 112, 32, 105, 110]) (h2 : s ≠ [100, 114, 111, 112, 32, 111, 117, 116]) (a b : List UInt8) (hws : Sp.cutL 32 s = [a, b]) (ha : a = [105, 110]) (hb : Sp.bytesT b = none) :
    Calls Tryd.prog 18 #[.string (Sp.bs s)] w fun e w' => ReadRet w s e w' := by
  have hr : Sp.readS s = none := by rw [Sp.readS_eq, hws, ha]; simp [Sp.readW, hb]
  have HR := Lib.hid hr
  have HBy := Lib.hid (rbytes_calls b (by have := cut_words hs (show b ∈ Sp.cutL 32 s by rw [hws]; simp); omega))
  have HNu := Lib.hid (rnumber_calls b (by have := cut_words hs (show b ∈ Sp.cutL 32 s by rw [hws]; simp); omega))
  have p0 := str_eqc a [105, 110]
  rw [decide_eq_true ha] at p0
  have p1 := str_eqc a [111, 117, 116]
  rw [decide_eq_false (by rw [ha]; decide)] at p1
  have p2 := str_eqc a [116, 105, 99, 107]
  rw [decide_eq_false (by rw [ha]; decide)] at p2
  have p3 := str_eqc a [114, 111, 111, 109]
  rw [decide_eq_false (by rw [ha]; decide)] at p3
  have p4 := str_eqc a [102, 97, 105, 108, 115, 121, 110, 99]
  rw [decide_eq_false (by rw [ha]; decide)] at p4
  have p5 := str_eqc a [112, 111, 119, 101, 114]
  rw [decide_eq_false (by rw [ha]; decide)] at p5
  have p6 := str_eqc a [97, 114, 109]
  rw [decide_eq_false (by rw [ha]; decide)] at p6
  have HB := Lib.hid hb
  clear hr ha hb
  have huE := Tryd.underlying29
  have hz := Sp.bs_size s
  have q1 := str_eqc s [100, 114, 111, 112, 32, 105, 110]
  have q2 := str_eqc s [100, 114, 111, 112, 32, 111, 117, 116]
  rw [decide_eq_false h1] at q1
  rw [decide_eq_false h2] at q2
  have hb0 : Below w.heap.size w (w.alloc (.cells #[.int .i64 0, .int .i64 0, .int .i64 0, .slice none 0 0] 29)) := (Below.refl _ _).alloc (Nat.le_refl _) _
  have f0 := Blk.new w (evC 0 0 0 none 0 0) 29
  have hcut := refCut_calls s 32 (by omega) (w.alloc (.cells #[.int .i64 0, .int .i64 0, .int .i64 0, .slice none 0 0] 29))
  rw [hws] at hcut
  have HCut : Hid (Calls Tryd.prog 36 #[.string (Sp.bs s), .int .u8 ((32 : UInt8).toNat : Int)] (w.alloc (.cells #[.int .i64 0, .int .i64 0, .int .i64 0, .slice none 0 0] 29)) fun e w' => ∃ A C, e = .returned (.slice A 2 C) ∧ Mine w' (w.alloc (.cells #[.int .i64 0, .int .i64 0, .int .i64 0, .slice none 0 0] 29)).heap.size A 2 C (Sp.vals [a, b]) ∧ Below (w.alloc (.cells #[.int .i64 0, .int .i64 0, .int .i64 0, .slice none 0 0] 29)).heap.size (w.alloc (.cells #[.int .i64 0, .int .i64 0, .int .i64 0, .slice none 0 0] 29)) w') := Lib.hid hcut
  have HB0 := Lib.hid hb0
  have HF0 := Lib.hid f0
  clear hcut hb0 f0 h1 h2 hws
  go_enter Tryd.func18, Tryd.ntmps18
  go_wp2_with fail
  refine HCut.out.mono ?_
  rintro e w1 ⟨A, C, rfl, hm, hb1⟩
  have B1 := step HB0.out hb1
  have F1 := HF0.out.below hb1
  have u0 := F1.frozen 0
  have u1 := F1.frozen 1
  have u2 := F1.frozen 2
  have u3 := F1.frozen 3
  have z0 := F1.cells4
  have hbn : Below w1.heap.size w1 (w1.alloc (.cells #[.int .i64 0, .int .i64 0, .int .i64 0, .slice none 0 0] 29)) := (Below.refl _ _).alloc (Nat.le_refl _) _
  have F2 := F1.below hbn
  have v0 := F2.frozen 0
  have v1 := F2.frozen 1
  have v2 := F2.frozen 2
  have v3 := F2.frozen 3
  have z1 := F2.cells4
  have HF1 := Lib.hid F1
  have HF2 := Lib.hid F2
  have HB1 := Lib.hid B1
  have HB2 := Lib.hid (step B1 hbn)
  have hlt1 : w.heap.size < w1.heap.size := F1.lt
  clear B1 F1 F2 hbn hb1
  obtain ⟨g, rfl, hg0, hwd⟩ := mine_words hm (by decide)
  have hwd2 := hwd.below ((Below.refl w1.heap.size w1).alloc (Nat.le_refl _) (.cells #[.int .i64 0, .int .i64 0, .int .i64 0, .slice none 0 0] 29))
  have x0 : World.cell? _ ⟨g, 0, none⟩ = some (.string (Sp.bs a)) := hwd2.at_ 0 a rfl
  have x1 : World.cell? _ ⟨g, 1, none⟩ = some (.string (Sp.bs b)) := hwd2.at_ 1 b rfl
  have HWd := Lib.hid hwd2
  have hgl := hwd.lt
  clear hwd hwd2 hm
  go_wp2_with fail
  have HN2 := Lib.hid (Blk.new w1 (evC 0 0 0 none 0 0) 29)
  refine (HBy.out _).mono ?_
  rintro e w3 hbr
  obtain ⟨A3, n3, c3, rfl, hd3, b3⟩ := bytes_any hbr
  clear hbr
  have hwd3 := HWd.out.below b3
  have y0 : World.cell? _ ⟨g, 0, none⟩ = some (.string (Sp.bs a)) := hwd3.at_ 0 a rfl
  have y1 : World.cell? _ ⟨g, 1, none⟩ = some (.string (Sp.bs b)) := hwd3.at_ 1 b rfl
  have HD3 := Lib.hid hd3
  have HB3 := Lib.hid (step HB2.out b3)
  have HF3 := Lib.hid (HF2.out.below b3)
  have HN3 := Lib.hid (HN2.out.below b3)
  have HWd3 := Lib.hid hwd3
  have Hs3 := Lib.hid b3.size
  clear hd3 b3 hwd3
  go_wp2_with fail
  refine (HNu.out _).mono ?_
  rintro e w4 hnr
  obtain ⟨rfl, b4⟩ := num_any hnr
  clear hnr
  have hwd4 := HWd3.out.below b4
  have z0 : World.cell? _ ⟨g, 0, none⟩ = some (.string (Sp.bs a)) := hwd4.at_ 0 a rfl
  have z1 : World.cell? _ ⟨g, 1, none⟩ = some (.string (Sp.bs b)) := hwd4.at_ 1 b rfl
  have HD4 := Lib.hid (fun t ht => (And.intro ((HD3.out t ht).1.below b4) (HD3.out t ht).2 : By w4 A3 n3 c3 t ∧ _))
  have HB4 := Lib.hid (step HB3.out b4)
  have F4 := HF3.out.below b4
  have N4 := HN3.out.below b4
  have f0 := F4.frozen 0
  have f1 := F4.frozen 1
  have f2 := F4.frozen 2
  have f3 := F4.frozen 3
  have f4 := F4.cells4
  have m4 := N4.cells4
  have HF4 := Lib.hid F4
  have HWd4 := Lib.hid hwd4
  have Hs4 := Lib.hid b4.size
  clear b4 F4 N4 hwd4
  have hbb : (Sp.bytesT b).isSome = false := by rw [HB.out]; rfl
  rw [hbb]
  clear hbb
  go_wp2_with fail
  (try rw [Exit.noGoto_ret])
  have q := Blk.four HF4.out (.int .i64 0) (.int .i64 0) (.int .i64 0) (.slice none 0 0)
  refine bodyPost_ret (results_cell_tmp rfl _ _ _ _ _ rfl (ev_load q.1)) rfl ?_
  exact ReadRet.no HR.out (HB4.out.trans (q.2.low (B := w.heap.size) (by have := HB4.out.size; omega) (Nat.le_refl _)))
set_option maxRecDepth 100000 in
theorem rread_out_hit (s : List UInt8) (hs : s.length ≤ 50000) (w : World) (h1 : s ≠ [100, 114, 111, 112, 32, 105, 110]) (h2 : s ≠ [100, 114, 111, 112, 32, 111, 117, 116]) (a b : List UInt8) (hws : Sp.cutL 32 s = [a, b]) (ha : a = [111, 117, 116]) (t : List UInt8) (hb : Sp.bytesT b = some t) :
    Calls Tryd.prog 18 #[.string (Sp.bs s)] w fun e w' => ReadRet w s e w' := by
  have hr : Sp.readS s = some ⟨1, 0, 0, t⟩ := by rw [Sp.readS_eq, hws, ha]; simp [Sp.readW, hb]
  have HR := Lib.hid hr
  have HBy := Lib.hid (rbytes_calls b (by have := cut_words hs (show b ∈ Sp.cutL 32 s by rw [hws]; simp); omega))
  have HNu := Lib.hid (rnumber_calls b (by have := cut_words hs (show b ∈ Sp.cutL 32 s by rw [hws]; simp); omega))
  have p0 := str_eqc a [105, 110]
  rw [decide_eq_false (by rw [ha]; decide)] at p0
  have p1 := str_eqc a [111, 117, 116]
  rw [decide_eq_true ha] at p1
  have p2 := str_eqc a [116, 105, 99, 107]
  rw [decide_eq_false (by rw [ha]; decide)] at p2
  have p3 := str_eqc a [114, 111, 111, 109]
  rw [decide_eq_false (by rw [ha]; decide)] at p3
  have p4 := str_eqc a [102, 97, 105, 108, 115, 121, 110, 99]
  rw [decide_eq_false (by rw [ha]; decide)] at p4
  have p5 := str_eqc a [112, 111, 119, 101, 114]
  rw [decide_eq_false (by rw [ha]; decide)] at p5
  have p6 := str_eqc a [97, 114, 109]
  rw [decide_eq_false (by rw [ha]; decide)] at p6
  have HB := Lib.hid hb
  clear hr ha hb
  have huE := Tryd.underlying29
  have hz := Sp.bs_size s
  have q1 := str_eqc s [100, 114, 111, 112, 32, 105, 110]
  have q2 := str_eqc s [100, 114, 111, 112, 32, 111, 117, 116]
  rw [decide_eq_false h1] at q1
  rw [decide_eq_false h2] at q2
  have hb0 : Below w.heap.size w (w.alloc (.cells #[.int .i64 0, .int .i64 0, .int .i64 0, .slice none 0 0] 29)) := (Below.refl _ _).alloc (Nat.le_refl _) _
  have f0 := Blk.new w (evC 0 0 0 none 0 0) 29
  have hcut := refCut_calls s 32 (by omega) (w.alloc (.cells #[.int .i64 0, .int .i64 0, .int .i64 0, .slice none 0 0] 29))
  rw [hws] at hcut
  have HCut : Hid (Calls Tryd.prog 36 #[.string (Sp.bs s), .int .u8 ((32 : UInt8).toNat : Int)] (w.alloc (.cells #[.int .i64 0, .int .i64 0, .int .i64 0, .slice none 0 0] 29)) fun e w' => ∃ A C, e = .returned (.slice A 2 C) ∧ Mine w' (w.alloc (.cells #[.int .i64 0, .int .i64 0, .int .i64 0, .slice none 0 0] 29)).heap.size A 2 C (Sp.vals [a, b]) ∧ Below (w.alloc (.cells #[.int .i64 0, .int .i64 0, .int .i64 0, .slice none 0 0] 29)).heap.size (w.alloc (.cells #[.int .i64 0, .int .i64 0, .int .i64 0, .slice none 0 0] 29)) w') := Lib.hid hcut
  have HB0 := Lib.hid hb0
  have HF0 := Lib.hid f0
  clear hcut hb0 f0 h1 h2 hws
  go_enter Tryd.func18, Tryd.ntmps18
  go_wp2_with fail
  refine HCut.out.mono ?_
  rintro e w1 ⟨A, C, rfl, hm, hb1⟩
  have B1 := step HB0.out hb1
  have F1 := HF0.out.below hb1
  have u0 := F1.frozen 0
  have u1 := F1.frozen 1
  have u2 := F1.frozen 2
  have u3 := F1.frozen 3
  have z0 := F1.cells4
  have hbn : Below w1.heap.size w1 (w1.alloc (.cells #[.int .i64 0, .int .i64 0, .int .i64 0, .slice none 0 0] 29)) := (Below.refl _ _).alloc (Nat.le_refl _) _
  have F2 := F1.below hbn
  have v0 := F2.frozen 0
  have v1 := F2.frozen 1
  have v2 := F2.frozen 2
  have v3 := F2.frozen 3
  have z1 := F2.cells4
  have HF1 := Lib.hid F1
  have HF2 := Lib.hid F2
  have HB1 := Lib.hid B1
  have HB2 := Lib.hid (step B1 hbn)
  have hlt1 : w.heap.size < w1.heap.size := F1.lt
  clear B1 F1 F2 hbn hb1
  obtain ⟨g, rfl, hg0, hwd⟩ := mine_words hm (by decide)
  have hwd2 := hwd.below ((Below.refl w1.heap.size w1).alloc (Nat.le_refl _) (.cells #[.int .i64 0, .int .i64 0, .int .i64 0, .slice none 0 0] 29))
  have x0 : World.cell? _ ⟨g, 0, none⟩ = some (.string (Sp.bs a)) := hwd2.at_ 0 a rfl
  have x1 : World.cell? _ ⟨g, 1, none⟩ = some (.string (Sp.bs b)) := hwd2.at_ 1 b rfl
  have HWd := Lib.hid hwd2
  have hgl := hwd.lt
  clear hwd hwd2 hm
  go_wp2_with fail
  have HN2 := Lib.hid (Blk.new w1 (evC 0 0 0 none 0 0) 29)
  refine (HBy.out _).mono ?_
  rintro e w3 hbr
  obtain ⟨A3, n3, c3, rfl, hd3, b3⟩ := bytes_any hbr
  clear hbr
  have hwd3 := HWd.out.below b3
  have y0 : World.cell? _ ⟨g, 0, none⟩ = some (.string (Sp.bs a)) := hwd3.at_ 0 a rfl
  have y1 : World.cell? _ ⟨g, 1, none⟩ = some (.string (Sp.bs b)) := hwd3.at_ 1 b rfl
  have HD3 := Lib.hid hd3
  have HB3 := Lib.hid (step HB2.out b3)
  have HF3 := Lib.hid (HF2.out.below b3)
  have HN3 := Lib.hid (HN2.out.below b3)
  have HWd3 := Lib.hid hwd3
  have Hs3 := Lib.hid b3.size
  clear hd3 b3 hwd3
  go_wp2_with fail
  refine (HNu.out _).mono ?_
  rintro e w4 hnr
  obtain ⟨rfl, b4⟩ := num_any hnr
  clear hnr
  have hwd4 := HWd3.out.below b4
  have z0 : World.cell? _ ⟨g, 0, none⟩ = some (.string (Sp.bs a)) := hwd4.at_ 0 a rfl
  have z1 : World.cell? _ ⟨g, 1, none⟩ = some (.string (Sp.bs b)) := hwd4.at_ 1 b rfl
  have HD4 := Lib.hid (fun t ht => (And.intro ((HD3.out t ht).1.below b4) (HD3.out t ht).2 : By w4 A3 n3 c3 t ∧ _))
  have HB4 := Lib.hid (step HB3.out b4)
  have F4 := HF3.out.below b4
  have N4 := HN3.out.below b4
  have f0 := F4.frozen 0
  have f1 := F4.frozen 1
  have f2 := F4.frozen 2
  have f3 := F4.frozen 3
  have f4 := F4.cells4
  have m4 := N4.cells4
  have HF4 := Lib.hid F4
  have HWd4 := Lib.hid hwd4
  have Hs4 := Lib.hid b4.size
  clear b4 F4 N4 hwd4
  have hbb : (Sp.bytesT b).isSome = true := by rw [HB.out]; rfl
  rw [hbb]
  clear hbb
  go_wp2_with fail
  (try rw [Exit.noGoto_ret])
  have q := Blk.four HF4.out (.int .i64 1) (.int .i64 0) (.int .i64 0) (.slice A3 n3 c3)
  refine bodyPost_ret (results_cell_tmp rfl _ _ _ _ _ rfl (ev_load q.1)) rfl ?_
  exact ReadRet.yes HR.out rfl (By.kt (HD4.out t HB.out).1 q.2 (fun g o e => by have := (HD4.out t HB.out).2 g o e; have := HB2.out.size; rw [World.size_alloc] at *; omega)) (fun g o e => by have := (HD4.out t HB.out).2 g o e; have := HB2.out.size; omega) (HB4.out.trans (q.2.low (B := w.heap.size) (by have := HB4.out.size; omega) (Nat.le_refl _)))
set_option maxRecDepth 100000 in
theorem rread_out_miss (s : List UInt8) (hs : s.length ≤ 50000) (w : World) (h1 : s ≠ [100, 114, 111, 112, 32, 105, 110]) (h2 : s ≠ [100, 114, 111, 112, 32, 111, 117, 116]) (a b : List UInt8) (hws : Sp.cutL 32 s = [a, b]) (ha : a = [111, 117, 116]) (hb : Sp.bytesT b = none) :
    Calls Tryd.prog 18 #[.string (Sp.bs s)] w fun e w' => ReadRet w s e w' := by
  have hr : Sp.readS s = none := by rw [Sp.readS_eq, hws, ha]; simp [Sp.readW, hb]
  have HR := Lib.hid hr
  have HBy := Lib.hid (rbytes_calls b (by have := cut_words hs (show b ∈ Sp.cutL 32 s by rw [hws]; simp); omega))
  have HNu := Lib.hid (rnumber_calls b (by have := cut_words hs (show b ∈ Sp.cutL 32 s by rw [hws]; simp); omega))
  have p0 := str_eqc a [105, 110]
  rw [decide_eq_false (by rw [ha]; decide)] at p0
  have p1 := str_eqc a [111, 117, 116]
  rw [decide_eq_true ha] at p1
  have p2 := str_eqc a [116, 105, 99, 107]
  rw [decide_eq_false (by rw [ha]; decide)] at p2
  have p3 := str_eqc a [114, 111, 111, 109]
  rw [decide_eq_false (by rw [ha]; decide)] at p3
  have p4 := str_eqc a [102, 97, 105, 108, 115, 121, 110, 99]
  rw [decide_eq_false (by rw [ha]; decide)] at p4
  have p5 := str_eqc a [112, 111, 119, 101, 114]
  rw [decide_eq_false (by rw [ha]; decide)] at p5
  have p6 := str_eqc a [97, 114, 109]
  rw [decide_eq_false (by rw [ha]; decide)] at p6
  have HB := Lib.hid hb
  clear hr ha hb
  have huE := Tryd.underlying29
  have hz := Sp.bs_size s
  have q1 := str_eqc s [100, 114, 111, 112, 32, 105, 110]
  have q2 := str_eqc s [100, 114, 111, 112, 32, 111, 117, 116]
  rw [decide_eq_false h1] at q1
  rw [decide_eq_false h2] at q2
  have hb0 : Below w.heap.size w (w.alloc (.cells #[.int .i64 0, .int .i64 0, .int .i64 0, .slice none 0 0] 29)) := (Below.refl _ _).alloc (Nat.le_refl _) _
  have f0 := Blk.new w (evC 0 0 0 none 0 0) 29
  have hcut := refCut_calls s 32 (by omega) (w.alloc (.cells #[.int .i64 0, .int .i64 0, .int .i64 0, .slice none 0 0] 29))
  rw [hws] at hcut
  have HCut : Hid (Calls Tryd.prog 36 #[.string (Sp.bs s), .int .u8 ((32 : UInt8).toNat : Int)] (w.alloc (.cells #[.int .i64 0, .int .i64 0, .int .i64 0, .slice none 0 0] 29)) fun e w' => ∃ A C, e = .returned (.slice A 2 C) ∧ Mine w' (w.alloc (.cells #[.int .i64 0, .int .i64 0, .int .i64 0, .slice none 0 0] 29)).heap.size A 2 C (Sp.vals [a, b]) ∧ Below (w.alloc (.cells #[.int .i64 0, .int .i64 0, .int .i64 0, .slice none 0 0] 29)).heap.size (w.alloc (.cells #[.int .i64 0, .int .i64 0, .int .i64 0, .slice none 0 0] 29)) w') := Lib.hid hcut
  have HB0 := Lib.hid hb0
  have HF0 := Lib.hid f0
  clear hcut hb0 f0 h1 h2 hws
  go_enter Tryd.func18, Tryd.ntmps18
  go_wp2_with fail
  refine HCut.out.mono ?_
  rintro e w1 ⟨A, C, rfl, hm, hb1⟩
  have B1 := step HB0.out hb1
  have F1 := HF0.out.below hb1
  have u0 := F1.frozen 0
  have u1 := F1.frozen 1
  have u2 := F1.frozen 2
  have u3 := F1.frozen 3
  have z0 := F1.cells4
  have hbn : Below w1.heap.size w1 (w1.alloc (.cells #[.int .i64 0, .int .i64 0, .int .i64 0, .slice none 0 0] 29)) := (Below.refl _ _).alloc (Nat.le_refl _) _
  have F2 := F1.below hbn
  have v0 := F2.frozen 0
  have v1 := F2.frozen 1
  have v2 := F2.frozen 2
  have v3 := F2.frozen 3
  have z1 := F2.cells4
  have HF1 := Lib.hid F1
  have HF2 := Lib.hid F2
  have HB1 := Lib.hid B1
  have HB2 := Lib.hid (step B1 hbn)
  have hlt1 : w.heap.size < w1.heap.size := F1.lt
  clear B1 F1 F2 hbn hb1
  obtain ⟨g, rfl, hg0, hwd⟩ := mine_words hm (by decide)
  have hwd2 := hwd.below ((Below.refl w1.heap.size w1).alloc (Nat.le_refl _) (.cells #[.int .i64 0, .int .i64 0, .int .i64 0, .slice none 0 0] 29))
  have x0 : World.cell? _ ⟨g, 0, none⟩ = some (.string (Sp.bs a)) := hwd2.at_ 0 a rfl
  have x1 : World.cell? _ ⟨g, 1, none⟩ = some (.string (Sp.bs b)) := hwd2.at_ 1 b rfl
  have HWd := Lib.hid hwd2
  have hgl := hwd.lt
  clear hwd hwd2 hm
  go_wp2_with fail
  have HN2 := Lib.hid (Blk.new w1 (evC 0 0 0 none 0 0) 29)
  refine (HBy.out _).mono ?_
  rintro e w3 hbr
  obtain ⟨A3, n3, c3, rfl, hd3, b3⟩ := bytes_any hbr
  clear hbr
  have hwd3 := HWd.out.below b3
  have y0 : World.cell? _ ⟨g, 0, none⟩ = some (.string (Sp.bs a)) := hwd3.at_ 0 a rfl
  have y1 : World.cell? _ ⟨g, 1, none⟩ = some (.string (Sp.bs b)) := hwd3.at_ 1 b rfl
  have HD3 := Lib.hid hd3
  have HB3 := Lib.hid (step HB2.out b3)
  have HF3 := Lib.hid (HF2.out.below b3)
  have HN3 := Lib.hid (HN2.out.below b3)
  have HWd3 := Lib.hid hwd3
  have Hs3 := Lib.hid b3.size
  clear hd3 b3 hwd3
  go_wp2_with fail
  refine (HNu.out _).mono ?_
  rintro e w4 hnr
  obtain ⟨rfl, b4⟩ := num_any hnr
  clear hnr
  have hwd4 := HWd3.out.below b4
  have z0 : World.cell? _ ⟨g, 0, none⟩ = some (.string (Sp.bs a)) := hwd4.at_ 0 a rfl
  have z1 : World.cell? _ ⟨g, 1, none⟩ = some (.string (Sp.bs b)) := hwd4.at_ 1 b rfl
  have HD4 := Lib.hid (fun t ht => (And.intro ((HD3.out t ht).1.below b4) (HD3.out t ht).2 : By w4 A3 n3 c3 t ∧ _))
  have HB4 := Lib.hid (step HB3.out b4)
  have F4 := HF3.out.below b4
  have N4 := HN3.out.below b4
  have f0 := F4.frozen 0
  have f1 := F4.frozen 1
  have f2 := F4.frozen 2
  have f3 := F4.frozen 3
  have f4 := F4.cells4
  have m4 := N4.cells4
  have HF4 := Lib.hid F4
  have HWd4 := Lib.hid hwd4
  have Hs4 := Lib.hid b4.size
  clear b4 F4 N4 hwd4
  have hbb : (Sp.bytesT b).isSome = false := by rw [HB.out]; rfl
  rw [hbb]
  clear hbb
  go_wp2_with fail
  (try rw [Exit.noGoto_ret])
  have q := Blk.four HF4.out (.int .i64 0) (.int .i64 0) (.int .i64 0) (.slice none 0 0)
  refine bodyPost_ret (results_cell_tmp rfl _ _ _ _ _ rfl (ev_load q.1)) rfl ?_
  exact ReadRet.no HR.out (HB4.out.trans (q.2.low (B := w.heap.size) (by have := HB4.out.size; omega) (Nat.le_refl _)))
set_option maxRecDepth 100000 in
theorem rread_tick_hit (s : List UInt8) (hs : s.length ≤ 50000) (w : World) (h1 : s ≠ [100, 114, 111, 112, 32, 105, 110]) (h2 : s ≠ [100, 114, 111, 112, 32, 111, 117, 116]) (a b : List UInt8) (hws : Sp.cutL 32 s = [a, b]) (ha : a = [116, 105, 99, 107]) (t : Int) (hb : Sp.numT b = some t) :
    Calls Tryd.prog 18 #[.string (Sp.bs s)] w fun e w' => ReadRet w s e w' := by
  have hr : Sp.readS s = some ⟨4, t, 0, []⟩ := by rw [Sp.readS_eq, hws, ha]; simp [Sp.readW, hb]
  have HR := Lib.hid hr
  have HBy := Lib.hid (rbytes_calls b (by have := cut_words hs (show b ∈ Sp.cutL 32 s by rw [hws]; simp); omega))
  have HNu := Lib.hid (rnumber_calls b (by have := cut_words hs (show b ∈ Sp.cutL 32 s by rw [hws]; simp); omega))
  have p0 := str_eqc a [105, 110]
  rw [decide_eq_false (by rw [ha]; decide)] at p0
  have p1 := str_eqc a [111, 117, 116]
  rw [decide_eq_false (by rw [ha]; decide)] at p1
  have p2 := str_eqc a [116, 105, 99, 107]
  rw [decide_eq_true ha] at p2
  have p3 := str_eqc a [114, 111, 111, 109]
  rw [decide_eq_false (by rw [ha]; decide)] at p3
  have p4 := str_eqc a [102, 97, 105, 108, 115, 121, 110, 99]
  rw [decide_eq_false (by rw [ha]; decide)] at p4
  have p5 := str_eqc a [112, 111, 119, 101, 114]
  rw [decide_eq_false (by rw [ha]; decide)] at p5
  have p6 := str_eqc a [97, 114, 109]
  rw [decide_eq_false (by rw [ha]; decide)] at p6
  have HB := Lib.hid hb
  clear hr ha hb
  have huE := Tryd.underlying29
  have hz := Sp.bs_size s
  have q1 := str_eqc s [100, 114, 111, 112, 32, 105, 110]
  have q2 := str_eqc s [100, 114, 111, 112, 32, 111, 117, 116]
  rw [decide_eq_false h1] at q1
  rw [decide_eq_false h2] at q2
  have hb0 : Below w.heap.size w (w.alloc (.cells #[.int .i64 0, .int .i64 0, .int .i64 0, .slice none 0 0] 29)) := (Below.refl _ _).alloc (Nat.le_refl _) _
  have f0 := Blk.new w (evC 0 0 0 none 0 0) 29
  have hcut := refCut_calls s 32 (by omega) (w.alloc (.cells #[.int .i64 0, .int .i64 0, .int .i64 0, .slice none 0 0] 29))
  rw [hws] at hcut
  have HCut : Hid (Calls Tryd.prog 36 #[.string (Sp.bs s), .int .u8 ((32 : UInt8).toNat : Int)] (w.alloc (.cells #[.int .i64 0, .int .i64 0, .int .i64 0, .slice none 0 0] 29)) fun e w' => ∃ A C, e = .returned (.slice A 2 C) ∧ Mine w' (w.alloc (.cells #[.int .i64 0, .int .i64 0, .int .i64 0, .slice none 0 0] 29)).heap.size A 2 C (Sp.vals [a, b]) ∧ Below (w.alloc (.cells #[.int .i64 0, .int .i64 0, .int .i64 0, .slice none 0 0] 29)).heap.size (w.alloc (.cells #[.int .i64 0, .int .i64 0, .int .i64 0, .slice none 0 0] 29)) w') := Lib.hid hcut
  have HB0 := Lib.hid hb0
  have HF0 := Lib.hid f0
  clear hcut hb0 f0 h1 h2 hws
  go_enter Tryd.func18, Tryd.ntmps18
  go_wp2_with fail
  refine HCut.out.mono ?_
  rintro e w1 ⟨A, C, rfl, hm, hb1⟩
  have B1 := step HB0.out hb1
  have F1 := HF0.out.below hb1
  have u0 := F1.frozen 0
  have u1 := F1.frozen 1
  have u2 := F1.frozen 2
  have u3 := F1.frozen 3
  have z0 := F1.cells4
  have hbn : Below w1.heap.size w1 (w1.alloc (.cells #[.int .i64 0, .int .i64 0, .int .i64 0, .slice none 0 0] 29)) := (Below.refl _ _).alloc (Nat.le_refl _) _
  have F2 := F1.below hbn
  have v0 := F2.frozen 0
  have v1 := F2.frozen 1
  have v2 := F2.frozen 2
  have v3 := F2.frozen 3
  have z1 := F2.cells4
  have HF1 := Lib.hid F1
  have HF2 := Lib.hid F2
  have HB1 := Lib.hid B1
  have HB2 := Lib.hid (step B1 hbn)
  have hlt1 : w.heap.size < w1.heap.size := F1.lt
  clear B1 F1 F2 hbn hb1
  obtain ⟨g, rfl, hg0, hwd⟩ := mine_words hm (by decide)
  have hwd2 := hwd.below ((Below.refl w1.heap.size w1).alloc (Nat.le_refl _) (.cells #[.int .i64 0, .int .i64 0, .int .i64 0, .slice none 0 0] 29))
  have x0 : World.cell? _ ⟨g, 0, none⟩ = some (.string (Sp.bs a)) := hwd2.at_ 0 a rfl
  have x1 : World.cell? _ ⟨g, 1, none⟩ = some (.string (Sp.bs b)) := hwd2.at_ 1 b rfl
  have HWd := Lib.hid hwd2
  have hgl := hwd.lt
  clear hwd hwd2 hm
  go_wp2_with fail
  have HN2 := Lib.hid (Blk.new w1 (evC 0 0 0 none 0 0) 29)
  refine (HBy.out _).mono ?_
  rintro e w3 hbr
  obtain ⟨A3, n3, c3, rfl, hd3, b3⟩ := bytes_any hbr
  clear hbr
  have hwd3 := HWd.out.below b3
  have y0 : World.cell? _ ⟨g, 0, none⟩ = some (.string (Sp.bs a)) := hwd3.at_ 0 a rfl
  have y1 : World.cell? _ ⟨g, 1, none⟩ = some (.string (Sp.bs b)) := hwd3.at_ 1 b rfl
  have HD3 := Lib.hid hd3
  have HB3 := Lib.hid (step HB2.out b3)
  have HF3 := Lib.hid (HF2.out.below b3)
  have HN3 := Lib.hid (HN2.out.below b3)
  have HWd3 := Lib.hid hwd3
  have Hs3 := Lib.hid b3.size
  clear hd3 b3 hwd3
  go_wp2_with fail
  refine (HNu.out _).mono ?_
  rintro e w4 hnr
  obtain ⟨rfl, b4⟩ := num_any hnr
  clear hnr
  have hwd4 := HWd3.out.below b4
  have z0 : World.cell? _ ⟨g, 0, none⟩ = some (.string (Sp.bs a)) := hwd4.at_ 0 a rfl
  have z1 : World.cell? _ ⟨g, 1, none⟩ = some (.string (Sp.bs b)) := hwd4.at_ 1 b rfl
  have HD4 := Lib.hid (fun t ht => (And.intro ((HD3.out t ht).1.below b4) (HD3.out t ht).2 : By w4 A3 n3 c3 t ∧ _))
  have HB4 := Lib.hid (step HB3.out b4)
  have F4 := HF3.out.below b4
  have N4 := HN3.out.below b4
  have f0 := F4.frozen 0
  have f1 := F4.frozen 1
  have f2 := F4.frozen 2
  have f3 := F4.frozen 3
  have f4 := F4.cells4
  have m4 := N4.cells4
  have HF4 := Lib.hid F4
  have HWd4 := Lib.hid hwd4
  have Hs4 := Lib.hid b4.size
  clear b4 F4 N4 hwd4
  have hbb : (Sp.numT b).isSome = true := by rw [HB.out]; rfl
  rw [hbb]
  clear hbb
  have hbg : (Sp.numT b).getD 0 = t := by rw [HB.out]; rfl
  rw [hbg]
  clear hbg
  go_wp2_with fail
  (try rw [Exit.noGoto_ret])
  have q := Blk.four HF4.out (.int .i64 4) (.int .i64 t) (.int .i64 0) (.slice none 0 0)
  refine bodyPost_ret (results_cell_tmp rfl _ _ _ _ _ rfl (ev_load q.1)) rfl ?_
  exact ReadRet.yes HR.out rfl (By.nil _) (fun g o e => by cases e) (HB4.out.trans (q.2.low (B := w.heap.size) (by have := HB4.out.size; omega) (Nat.le_refl _)))
set_option maxRecDepth 100000 in
theorem rread_tick_miss (s : List UInt8) (hs : s.length ≤ 50000) (w : World) (h1 : s ≠ [100, 114, 111, 112, 32, 105, 110]) (h2 : s ≠ [100, 114, 111, 112, 32, 111, 117, 116]) (a b : List UInt8) (hws : Sp.cutL 32 s = [a, b]) (ha : a = [116, 105, 99, 107]) (hb : Sp.numT b = none) :
    Calls Tryd.prog 18 #[.string (Sp.bs s)] w fun e w' => ReadRet w s e w' := by
  have hr : Sp.readS s = none := by rw [Sp.readS_eq, hws, ha]; simp [Sp.readW, hb]
  have HR := Lib.hid hr
  have HBy := Lib.hid (rbytes_calls b (by have := cut_words hs (show b ∈ Sp.cutL 32 s by rw [hws]; simp); omega))
  have HNu := Lib.hid (rnumber_calls b (by have := cut_words hs (show b ∈ Sp.cutL 32 s by rw [hws]; simp); omega))
  have p0 := str_eqc a [105, 110]
  rw [decide_eq_false (by rw [ha]; decide)] at p0
  have p1 := str_eqc a [111, 117, 116]
  rw [decide_eq_false (by rw [ha]; decide)] at p1
  have p2 := str_eqc a [116, 105, 99, 107]
  rw [decide_eq_true ha] at p2
  have p3 := str_eqc a [114, 111, 111, 109]
  rw [decide_eq_false (by rw [ha]; decide)] at p3
  have p4 := str_eqc a [102, 97, 105, 108, 115, 121, 110, 99]
  rw [decide_eq_false (by rw [ha]; decide)] at p4
  have p5 := str_eqc a [112, 111, 119, 101, 114]
  rw [decide_eq_false (by rw [ha]; decide)] at p5
  have p6 := str_eqc a [97, 114, 109]
  rw [decide_eq_false (by rw [ha]; decide)] at p6
  have HB := Lib.hid hb
  clear hr ha hb
  have huE := Tryd.underlying29
  have hz := Sp.bs_size s
  have q1 := str_eqc s [100, 114, 111, 112, 32, 105, 110]
  have q2 := str_eqc s [100, 114, 111, 112, 32, 111, 117, 116]
  rw [decide_eq_false h1] at q1
  rw [decide_eq_false h2] at q2
  have hb0 : Below w.heap.size w (w.alloc (.cells #[.int .i64 0, .int .i64 0, .int .i64 0, .slice none 0 0] 29)) := (Below.refl _ _).alloc (Nat.le_refl _) _
  have f0 := Blk.new w (evC 0 0 0 none 0 0) 29
  have hcut := refCut_calls s 32 (by omega) (w.alloc (.cells #[.int .i64 0, .int .i64 0, .int .i64 0, .slice none 0 0] 29))
  rw [hws] at hcut
  have HCut : Hid (Calls Tryd.prog 36 #[.string (Sp.bs s), .int .u8 ((32 : UInt8).toNat : Int)] (w.alloc (.cells #[.int .i64 0, .int .i64 0, .int .i64 0, .slice none 0 0] 29)) fun e w' => ∃ A C, e = .returned (.slice A 2 C) ∧ Mine w' (w.alloc (.cells #[.int .i64 0, .int .i64 0, .int .i64 0, .slice none 0 0] 29)).heap.size A 2 C (Sp.vals [a, b]) ∧ Below (w.alloc (.cells #[.int .i64 0, .int .i64 0, .int .i64 0, .slice none 0 0] 29)).heap.size (w.alloc (.cells #[.int .i64 0, .int .i64 0, .int .i64 0, .slice none 0 0] 29)) w') := Lib.hid hcut
  have HB0 := Lib.hid hb0
  have HF0 := Lib.hid f0
  clear hcut hb0 f0 h1 h2 hws
  go_enter Tryd.func18, Tryd.ntmps18
  go_wp2_with fail
  refine HCut.out.mono ?_
  rintro e w1 ⟨A, C, rfl, hm, hb1⟩
  have B1 := step HB0.out hb1
  have F1 := HF0.out.below hb1
  have u0 := F1.frozen 0
  have u1 := F1.frozen 1
  have u2 := F1.frozen 2
  have u3 := F1.frozen 3
  have z0 := F1.cells4
  have hbn : Below w1.heap.size w1 (w1.alloc (.cells #[.int .i64 0, .int .i64 0, .int .i64 0, .slice none 0 0] 29)) := (Below.refl _ _).alloc (Nat.le_refl _) _
  have F2 := F1.below hbn
  have v0 := F2.frozen 0
  have v1 := F2.frozen 1
  have v2 := F2.frozen 2
  have v3 := F2.frozen 3
  have z1 := F2.cells4
  have HF1 := Lib.hid F1
  have HF2 := Lib.hid F2
  have HB1 := Lib.hid B1
  have HB2 := Lib.hid (step B1 hbn)
  have hlt1 : w.heap.size < w1.heap.size := F1.lt
  clear B1 F1 F2 hbn hb1
  obtain ⟨g, rfl, hg0, hwd⟩ := mine_words hm (by decide)
  have hwd2 := hwd.below ((Below.refl w1.heap.size w1).alloc (Nat.le_refl _) (.cells #[.int .i64 0, .int .i64 0, .int .i64 0, .slice none 0 0] 29))
  have x0 : World.cell? _ ⟨g, 0, none⟩ = some (.string (Sp.bs a)) := hwd2.at_ 0 a rfl
  have x1 : World.cell? _ ⟨g, 1, none⟩ = some (.string (Sp.bs b)) := hwd2.at_ 1 b rfl
  have HWd := Lib.hid hwd2
  have hgl := hwd.lt
  clear hwd hwd2 hm
  go_wp2_with fail
  have HN2 := Lib.hid (Blk.new w1 (evC 0 0 0 none 0 0) 29)
  refine (HBy.out _).mono ?_
  rintro e w3 hbr
  obtain ⟨A3, n3, c3, rfl, hd3, b3⟩ := bytes_any hbr
  clear hbr
  have hwd3 := HWd.out.below b3
  have y0 : World.cell? _ ⟨g, 0, none⟩ = some (.string (Sp.bs a)) := hwd3.at_ 0 a rfl
  have y1 : World.cell? _ ⟨g, 1, none⟩ = some (.string (Sp.bs b)) := hwd3.at_ 1 b rfl
  have HD3 := Lib.hid hd3
  have HB3 := Lib.hid (step HB2.out b3)
  have HF3 := Lib.hid (HF2.out.below b3)
  have HN3 := Lib.hid (HN2.out.below b3)
  have HWd3 := Lib.hid hwd3
  have Hs3 := Lib.hid b3.size
  clear hd3 b3 hwd3
  go_wp2_with fail
  refine (HNu.out _).mono ?_
  rintro e w4 hnr
  obtain ⟨rfl, b4⟩ := num_any hnr
  clear hnr
  have hwd4 := HWd3.out.below b4
  have z0 : World.cell? _ ⟨g, 0, none⟩ = some (.string (Sp.bs a)) := hwd4.at_ 0 a rfl
  have z1 : World.cell? _ ⟨g, 1, none⟩ = some (.string (Sp.bs b)) := hwd4.at_ 1 b rfl
  have HD4 := Lib.hid (fun t ht => (And.intro ((HD3.out t ht).1.below b4) (HD3.out t ht).2 : By w4 A3 n3 c3 t ∧ _))
  have HB4 := Lib.hid (step HB3.out b4)
  have F4 := HF3.out.below b4
  have N4 := HN3.out.below b4
  have f0 := F4.frozen 0
  have f1 := F4.frozen 1
  have f2 := F4.frozen 2
  have f3 := F4.frozen 3
  have f4 := F4.cells4
  have m4 := N4.cells4
  have HF4 := Lib.hid F4
  have HWd4 := Lib.hid hwd4
  have Hs4 := Lib.hid b4.size
  clear b4 F4 N4 hwd4
  have hbb : (Sp.numT b).isSome = false := by rw [HB.out]; rfl
  rw [hbb]
  clear hbb
  go_wp2_with fail
  (try rw [Exit.noGoto_ret])
  have q := Blk.four HF4.out (.int .i64 0) (.int .i64 0) (.int .i64 0) (.slice none 0 0)
  refine bodyPost_ret (results_cell_tmp rfl _ _ _ _ _ rfl (ev_load q.1)) rfl ?_
  exact ReadRet.no HR.out (HB4.out.trans (q.2.low (B := w.heap.size) (by have := HB4.out.size; omega) (Nat.le_refl _)))
set_option maxRecDepth 100000 in
theorem rread_room_hit (s : List UInt8) (hs : s.length ≤ 50000) (w : World) (h1 : s ≠ [100, 114, 111, 112, 32, 105, 110]) (h2 : s ≠ [100, 114, 111, 112, 32, 111, 117, 116]) (a b : List UInt8) (hws : Sp.cutL 32 s = [a, b]) (ha : a = [114, 111, 111, 109]) (t : Int) (hb : Sp.numT b = some t) :
    Calls Tryd.prog 18 #[.string (Sp.bs s)] w fun e w' => ReadRet w s e w' := by
  have hr : Sp.readS s = some ⟨5, t, 0, []⟩ := by rw [Sp.readS_eq, hws, ha]; simp [Sp.readW, hb]
  have HR := Lib.hid hr
  have HBy := Lib.hid (rbytes_calls b (by have := cut_words hs (show b ∈ Sp.cutL 32 s by rw [hws]; simp); omega))
  have HNu := Lib.hid (rnumber_calls b (by have := cut_words hs (show b ∈ Sp.cutL 32 s by rw [hws]; simp); omega))
  have p0 := str_eqc a [105, 110]
  rw [decide_eq_false (by rw [ha]; decide)] at p0
  have p1 := str_eqc a [111, 117, 116]
  rw [decide_eq_false (by rw [ha]; decide)] at p1
  have p2 := str_eqc a [116, 105, 99, 107]
  rw [decide_eq_false (by rw [ha]; decide)] at p2
  have p3 := str_eqc a [114, 111, 111, 109]
  rw [decide_eq_true ha] at p3
  have p4 := str_eqc a [102, 97, 105, 108, 115, 121, 110, 99]
  rw [decide_eq_false (by rw [ha]; decide)] at p4
  have p5 := str_eqc a [112, 111, 119, 101, 114]
  rw [decide_eq_false (by rw [ha]; decide)] at p5
  have p6 := str_eqc a [97, 114, 109]
  rw [decide_eq_false (by rw [ha]; decide)] at p6
  have HB := Lib.hid hb
  clear hr ha hb
  have huE := Tryd.underlying29
  have hz := Sp.bs_size s
  have q1 := str_eqc s [100, 114, 111, 112, 32, 105, 110]
  have q2 := str_eqc s [100, 114, 111, 112, 32, 111, 117, 116]
  rw [decide_eq_false h1] at q1
  rw [decide_eq_false h2] at q2
  have hb0 : Below w.heap.size w (w.alloc (.cells #[.int .i64 0, .int .i64 0, .int .i64 0, .slice none 0 0] 29)) := (Below.refl _ _).alloc (Nat.le_refl _) _
  have f0 := Blk.new w (evC 0 0 0 none 0 0) 29
  have hcut := refCut_calls s 32 (by omega) (w.alloc (.cells #[.int .i64 0, .int .i64 0, .int .i64 0, .slice none 0 0] 29))
  rw [hws] at hcut
  have HCut : Hid (Calls Tryd.prog 36 #[.string (Sp.bs s), .int .u8 ((32 : UInt8).toNat : Int)] (w.alloc (.cells #[.int .i64 0, .int .i64 0, .int .i64 0, .slice none 0 0] 29)) fun e w' => ∃ A C, e = .returned (.slice A 2 C) ∧ Mine w' (w.alloc (.cells #[.int .i64 0, .int .i64 0, .int .i64 0, .slice none 0 0] 29)).heap.size A 2 C (Sp.vals [a, b]) ∧ Below (w.alloc (.cells #[.int .i64 0, .int .i64 0, .int .i64 0, .slice none 0 0] 29)).heap.size (w.alloc (.cells #[.int .i64 0, .int .i64 0, .int .i64 0, .slice none 0 0] 29)) w') := Lib.hid hcut
  have HB0 := Lib.hid hb0
  have HF0 := Lib.hid f0
  clear hcut hb0 f0 h1 h2 hws
  go_enter Tryd.func18, Tryd.ntmps18
  go_wp2_with fail
  refine HCut.out.mono ?_
  rintro e w1 ⟨A, C, rfl, hm, hb1⟩
  have B1 := step HB0.out hb1
  have F1 := HF0.out.below hb1
  have u0 := F1.frozen 0
  have u1 := F1.frozen 1
  have u2 := F1.frozen 2
  have u3 := F1.frozen 3
  have z0 := F1.cells4
  have hbn : Below w1.heap.size w1 (w1.alloc (.cells #[.int .i64 0, .int .i64 0, .int .i64 0, .slice none 0 0] 29)) := (Below.refl _ _).alloc (Nat.le_refl _) _
  have F2 := F1.below hbn
  have v0 := F2.frozen 0
  have v1 := F2.frozen 1
  have v2 := F2.frozen 2
  have v3 := F2.frozen 3
  have z1 := F2.cells4
  have HF1 := Lib.hid F1
  have HF2 := Lib.hid F2
  have HB1 := Lib.hid B1
  have HB2 := Lib.hid (step B1 hbn)
  have hlt1 : w.heap.size < w1.heap.size := F1.lt
  clear B1 F1 F2 hbn hb1
  obtain ⟨g, rfl, hg0, hwd⟩ := mine_words hm (by decide)
  have hwd2 := hwd.below ((Below.refl w1.heap.size w1).alloc (Nat.le_refl _) (.cells #[.int .i64 0, .int .i64 0, .int .i64 0, .slice none 0 0] 29))
  have x0 : World.cell? _ ⟨g, 0, none⟩ = some (.string (Sp.bs a)) := hwd2.at_ 0 a rfl
  have x1 : World.cell? _ ⟨g, 1, none⟩ = some (.string (Sp.bs b)) := hwd2.at_ 1 b rfl
  have HWd := Lib.hid hwd2
  have hgl := hwd.lt
  clear hwd hwd2 hm
  go_wp2_with fail
  have HN2 := Lib.hid (Blk.new w1 (evC 0 0 0 none 0 0) 29)
  refine (HBy.out _).mono ?_
  rintro e w3 hbr
  obtain ⟨A3, n3, c3, rfl, hd3, b3⟩ := bytes_any hbr
  clear hbr
  have hwd3 := HWd.out.below b3
  have y0 : World.cell? _ ⟨g, 0, none⟩ = some (.string (Sp.bs a)) := hwd3.at_ 0 a rfl
  have y1 : World.cell? _ ⟨g, 1, none⟩ = some (.string (Sp.bs b)) := hwd3.at_ 1 b rfl
  have HD3 := Lib.hid hd3
  have HB3 := Lib.hid (step HB2.out b3)
  have HF3 := Lib.hid (HF2.out.below b3)
  have HN3 := Lib.hid (HN2.out.below b3)
  have HWd3 := Lib.hid hwd3
  have Hs3 := Lib.hid b3.size
  clear hd3 b3 hwd3
  go_wp2_with fail
  refine (HNu.out _).mono ?_
  rintro e w4 hnr
  obtain ⟨rfl, b4⟩ := num_any hnr
  clear hnr
  have hwd4 := HWd3.out.below b4
  have z0 : World.cell? _ ⟨g, 0, none⟩ = some (.string (Sp.bs a)) := hwd4.at_ 0 a rfl
  have z1 : World.cell? _ ⟨g, 1, none⟩ = some (.string (Sp.bs b)) := hwd4.at_ 1 b rfl
  have HD4 := Lib.hid (fun t ht => (And.intro ((HD3.out t ht).1.below b4) (HD3.out t ht).2 : By w4 A3 n3 c3 t ∧ _))
  have HB4 := Lib.hid (step HB3.out b4)
  have F4 := HF3.out.below b4
  have N4 := HN3.out.below b4
  have f0 := F4.frozen 0
  have f1 := F4.frozen 1
  have f2 := F4.frozen 2
  have f3 := F4.frozen 3
  have f4 := F4.cells4
  have m4 := N4.cells4
  have HF4 := Lib.hid F4
  have HWd4 := Lib.hid hwd4
  have Hs4 := Lib.hid b4.size
  clear b4 F4 N4 hwd4
  have hbb : (Sp.numT b).isSome = true := by rw [HB.out]; rfl
  rw [hbb]
  clear hbb
  have hbg : (Sp.numT b).getD 0 = t := by rw [HB.out]; rfl
  rw [hbg]
  clear hbg
  go_wp2_with fail
  (try rw [Exit.noGoto_ret])
  have q := Blk.four HF4.out (.int .i64 5) (.int .i64 t) (.int .i64 0) (.slice none 0 0)
  refine bodyPost_ret (results_cell_tmp rfl _ _ _ _ _ rfl (ev_load q.1)) rfl ?_
  exact ReadRet.yes HR.out rfl (By.nil _) (fun g o e => by cases e) (HB4.out.trans (q.2.low (B := w.heap.size) (by have := HB4.out.size; omega) (Nat.le_refl _)))
set_option maxRecDepth 100000 in
theorem rread_room_miss (s : List UInt8) (hs : s.length ≤ 50000) (w : World) (h1 : s ≠ [100, 114, 111, 112, 32, 105, 110]) (h2 : s ≠ [100, 114, 111, 112, 32, 111, 117, 116]) (a b : List UInt8) (hws : Sp.cutL 32 s = [a, b]) (ha : a = [114, 111, 111, 109]) (hb : Sp.numT b = none) :
    Calls Tryd.prog 18 #[.string (Sp.bs s)] w fun e w' => ReadRet w s e w' := by
  have hr : Sp.readS s = none := by rw [Sp.readS_eq, hws, ha]; simp [Sp.readW, hb]
  have HR := Lib.hid hr
  have HBy := Lib.hid (rbytes_calls b (by have := cut_words hs (show b ∈ Sp.cutL 32 s by rw [hws]; simp); omega))
  have HNu := Lib.hid (rnumber_calls b (by have := cut_words hs (show b ∈ Sp.cutL 32 s by rw [hws]; simp); omega))
  have p0 := str_eqc a [105, 110]
  rw [decide_eq_false (by rw [ha]; decide)] at p0
  have p1 := str_eqc a [111, 117, 116]
  rw [decide_eq_false (by rw [ha]; decide)] at p1
  have p2 := str_eqc a [116, 105, 99, 107]
  rw [decide_eq_false (by rw [ha]; decide)] at p2
  have p3 := str_eqc a [114, 111, 111, 109]
  rw [decide_eq_true ha] at p3
  have p4 := str_eqc a [102, 97, 105, 108, 115, 121, 110, 99]
  rw [decide_eq_false (by rw [ha]; decide)] at p4
  have p5 := str_eqc a [112, 111, 119, 101, 114]
  rw [decide_eq_false (by rw [ha]; decide)] at p5
  have p6 := str_eqc a [97, 114, 109]
  rw [decide_eq_false (by rw [ha]; decide)] at p6
  have HB := Lib.hid hb
  clear hr ha hb
  have huE := Tryd.underlying29
  have hz := Sp.bs_size s
  have q1 := str_eqc s [100, 114, 111, 112, 32, 105, 110]
  have q2 := str_eqc s [100, 114, 111, 112, 32, 111, 117, 116]
  rw [decide_eq_false h1] at q1
  rw [decide_eq_false h2] at q2
  have hb0 : Below w.heap.size w (w.alloc (.cells #[.int .i64 0, .int .i64 0, .int .i64 0, .slice none 0 0] 29)) := (Below.refl _ _).alloc (Nat.le_refl _) _
  have f0 := Blk.new w (evC 0 0 0 none 0 0) 29
  have hcut := refCut_calls s 32 (by omega) (w.alloc (.cells #[.int .i64 0, .int .i64 0, .int .i64 0, .slice none 0 0] 29))
  rw [hws] at hcut
  have HCut : Hid (Calls Tryd.prog 36 #[.string (Sp.bs s), .int .u8 ((32 : UInt8).toNat : Int)] (w.alloc (.cells #[.int .i64 0, .int .i64 0, .int .i64 0, .slice none 0 0] 29)) fun e w' => ∃ A C, e = .returned (.slice A 2 C) ∧ Mine w' (w.alloc (.cells #[.int .i64 0, .int .i64 0, .int .i64 0, .slice none 0 0] 29)).heap.size A 2 C (Sp.vals [a, b]) ∧ Below (w.alloc (.cells #[.int .i64 0, .int .i64 0, .int .i64 0, .slice none 0 0] 29)).heap.size (w.alloc (.cells #[.int .i64 0, .int .i64 0, .int .i64 0, .slice none 0 0] 29)) w') := Lib.hid hcut
  have HB0 := Lib.hid hb0
  have HF0 := Lib.hid f0
  clear hcut hb0 f0 h1 h2 hws
  go_enter Tryd.func18, Tryd.ntmps18
  go_wp2_with fail
  refine HCut.out.mono ?_
  rintro e w1 ⟨A, C, rfl, hm, hb1⟩
  have B1 := step HB0.out hb1
  have F1 := HF0.out.below hb1
  have u0 := F1.frozen 0
  have u1 := F1.frozen 1
  have u2 := F1.frozen 2
  have u3 := F1.frozen 3
  have z0 := F1.cells4
  have hbn : Below w1.heap.size w1 (w1.alloc (.cells #[.int .i64 0, .int .i64 0, .int .i64 0, .slice none 0 0] 29)) := (Below.refl _ _).alloc (Nat.le_refl _) _
  have F2 := F1.below hbn
  have v0 := F2.frozen 0
  have v1 := F2.frozen 1
  have v2 := F2.frozen 2
  have v3 := F2.frozen 3
  have z1 := F2.cells4
  have HF1 := Lib.hid F1
  have HF2 := Lib.hid F2
  have HB1 := Lib.hid B1
  have HB2 := Lib.hid (step B1 hbn)
  have hlt1 : w.heap.size < w1.heap.size := F1.lt
  clear B1 F1 F2 hbn hb1
  obtain ⟨g, rfl, hg0, hwd⟩ := mine_words hm (by decide)
  have hwd2 := hwd.below ((Below.refl w1.heap.size w1).alloc (Nat.le_refl _) (.cells #[.int .i64 0, .int .i64 0, .int .i64 0, .slice none 0 0] 29))
  have x0 : World.cell? _ ⟨g, 0, none⟩ = some (.string (Sp.bs a)) := hwd2.at_ 0 a rfl
  have x1 : World.cell? _ ⟨g, 1, none⟩ = some (.string (Sp.bs b)) := hwd2.at_ 1 b rfl
  have HWd := Lib.hid hwd2
  have hgl := hwd.lt
  clear hwd hwd2 hm
  go_wp2_with fail
  have HN2 := Lib.hid (Blk.new w1 (evC 0 0 0 none 0 0) 29)
  refine (HBy.out _).mono ?_
  rintro e w3 hbr
  obtain ⟨A3, n3, c3, rfl, hd3, b3⟩ := bytes_any hbr
  clear hbr
  have hwd3 := HWd.out.below b3
  have y0 : World.cell? _ ⟨g, 0, none⟩ = some (.string (Sp.bs a)) := hwd3.at_ 0 a rfl
  have y1 : World.cell? _ ⟨g, 1, none⟩ = some (.string (Sp.bs b)) := hwd3.at_ 1 b rfl
  have HD3 := Lib.hid hd3
  have HB3 := Lib.hid (step HB2.out b3)
  have HF3 := Lib.hid (HF2.out.below b3)
  have HN3 := Lib.hid (HN2.out.below b3)
  have HWd3 := Lib.hid hwd3
  have Hs3 := Lib.hid b3.size
  clear hd3 b3 hwd3
  go_wp2_with fail
  refine (HNu.out _).mono ?_
  rintro e w4 hnr
  obtain ⟨rfl, b4⟩ := num_any hnr
  clear hnr
  have hwd4 := HWd3.out.below b4
  have z0 : World.cell? _ ⟨g, 0, none⟩ = some (.string (Sp.bs a)) := hwd4.at_ 0 a rfl
  have z1 : World.cell? _ ⟨g, 1, none⟩ = some (.string (Sp.bs b)) := hwd4.at_ 1 b rfl
  have HD4 := Lib.hid (fun t ht => (And.intro ((HD3.out t ht).1.below b4) (HD3.out t ht).2 : By w4 A3 n3 c3 t ∧ _))
  have HB4 := Lib.hid (step HB3.out b4)
  have F4 := HF3.out.below b4
  have N4 := HN3.out.below b4
  have f0 := F4.frozen 0
  have f1 := F4.frozen 1
  have f2 := F4.frozen 2
  have f3 := F4.frozen 3
  have f4 := F4.cells4
  have m4 := N4.cells4
  have HF4 := Lib.hid F4
  have HWd4 := Lib.hid hwd4
  have Hs4 := Lib.hid b4.size
  clear b4 F4 N4 hwd4
  have hbb : (Sp.numT b).isSome = false := by rw [HB.out]; rfl
  rw [hbb]
  clear hbb
  go_wp2_with fail
  (try rw [Exit.noGoto_ret])
  have q := Blk.four HF4.out (.int .i64 0) (.int .i64 0) (.int .i64 0) (.slice none 0 0)
  refine bodyPost_ret (results_cell_tmp rfl _ _ _ _ _ rfl (ev_load q.1)) rfl ?_
  exact ReadRet.no HR.out (HB4.out.trans (q.2.low (B := w.heap.size) (by have := HB4.out.size; omega) (Nat.le_refl _)))
set_option maxRecDepth 100000 in
theorem rread_failsync_hit (s : List UInt8) (hs : s.length ≤ 50000) (w : World) (h1 : s ≠ [100, 114, 111, 112, 32, 105, 110]) (h2 : s ≠ [100, 114, 111, 112, 32, 111, 117, 116]) (a b : List UInt8) (hws : Sp.cutL 32 s = [a, b]) (ha : a = [102, 97, 105, 108, 115, 121, 110, 99]) (t : Int) (hb : Sp.numT b = some t) :
    Calls Tryd.prog 18 #[.string (Sp.bs s)] w fun e w' => ReadRet w s e w' := by
  have hr : Sp.readS s = some ⟨6, t, 0, []⟩ := by rw [Sp.readS_eq, hws, ha]; simp [Sp.readW, hb]
  have HR := Lib.hid hr
  have HBy := Lib.hid (rbytes_calls b (by have := cut_words hs (show b ∈ Sp.cutL 32 s by rw [hws]; simp); omega))
  have HNu := Lib.hid (rnumber_calls b (by have := cut_words hs (show b ∈ Sp.cutL 32 s by rw [hws]; simp); omega))
  have p0 := str_eqc a [105, 110]
  rw [decide_eq_false (by rw [ha]; decide)] at p0
  have p1 := str_eqc a [111, 117, 116]
  rw [decide_eq_false (by rw [ha]; decide)] at p1
  have p2 := str_eqc a [116, 105, 99, 107]
  rw [decide_eq_false (by rw [ha]; decide)] at p2
  have p3 := str_eqc a [114, 111, 111, 109]
  rw [decide_eq_false (by rw [ha]; decide)] at p3
  have p4 := str_eqc a [102, 97, 105, 108, 115, 121, 110, 99]
  rw [decide_eq_true ha] at p4
  have p5 := str_eqc a [112, 111, 119, 101, 114]
  rw [decide_eq_false (by rw [ha]; decide)] at p5
  have p6 := str_eqc a [97, 114, 109]
  rw [decide_eq_false (by rw [ha]; decide)] at p6
  have HB := Lib.hid hb
  clear hr ha hb
  have huE := Tryd.underlying29
  have hz := Sp.bs_size s
  have q1 := str_eqc s [100, 114, 111, 112, 32, 105, 110]
  have q2 := str_eqc s [100, 114, 111, 112, 32, 111, 117, 116]
  rw [decide_eq_false h1] at q1
  rw [decide_eq_false h2] at q2
  have hb0 : Below w.heap.size w (w.alloc (.cells #[.int .i64 0, .int .i64 0, .int .i64 0, .slice none 0 0] 29)) := (Below.refl _ _).alloc (Nat.le_refl _) _
  have f0 := Blk.new w (evC 0 0 0 none 0 0) 29
  have hcut := refCut_calls s 32 (by omega) (w.alloc (.cells #[.int .i64 0, .int .i64 0, .int .i64 0, .slice none 0 0] 29))
  rw [hws] at hcut
  have HCut : Hid (Calls Tryd.prog 36 #[.string (Sp.bs s), .int .u8 ((32 : UInt8).toNat : Int)] (w.alloc (.cells #[.int .i64 0, .int .i64 0, .int .i64 0, .slice none 0 0] 29)) fun e w' => ∃ A C, e = .returned (.slice A 2 C) ∧ Mine w' (w.alloc (.cells #[.int .i64 0, .int .i64 0, .int .i64 0, .slice none 0 0] 29)).heap.size A 2 C (Sp.vals [a, b]) ∧ Below (w.alloc (.cells #[.int .i64 0, .int .i64 0, .int .i64 0, .slice none 0 0] 29)).heap.size (w.alloc (.cells #[.int .i64 0, .int .i64 0, .int .i64 0, .slice none 0 0] 29)) w') := Lib.hid hcut
  have HB0 := Lib.hid hb0
  have HF0 := Lib.hid f0
  clear hcut hb0 f0 h1 h2 hws
  go_enter Tryd.func18, Tryd.ntmps18
  go_wp2_with fail
  refine HCut.out.mono ?_
  rintro e w1 ⟨A, C, rfl, hm, hb1⟩
  have B1 := step HB0.out hb1
  have F1 := HF0.out.below hb1
  have u0 := F1.frozen 0
  have u1 := F1.frozen 1
  have u2 := F1.frozen 2
  have u3 := F1.frozen 3
  have z0 := F1.cells4
  have hbn : Below w1.heap.size w1 (w1.alloc (.cells #[.int .i64 0, .int .i64 0, .int .i64 0, .slice none 0 0] 29)) := (Below.refl _ _).alloc (Nat.le_refl _) _
  have F2 := F1.below hbn
  have v0 := F2.frozen 0
  have v1 := F2.frozen 1
  have v2 := F2.frozen 2
  have v3 := F2.frozen 3
  have z1 := F2.cells4
  have HF1 := Lib.hid F1
  have HF2 := Lib.hid F2
  have HB1 := Lib.hid B1
  have HB2 := Lib.hid (step B1 hbn)
  have hlt1 : w.heap.size < w1.heap.size := F1.lt
  clear B1 F1 F2 hbn hb1
  obtain ⟨g, rfl, hg0, hwd⟩ := mine_words hm (by decide)
  have hwd2 := hwd.below ((Below.refl w1.heap.size w1).alloc (Nat.le_refl _) (.cells #[.int .i64 0, .int .i64 0, .int .i64 0, .slice none 0 0] 29))
  have x0 : World.cell? _ ⟨g, 0, none⟩ = some (.string (Sp.bs a)) := hwd2.at_ 0 a rfl
  have x1 : World.cell? _ ⟨g, 1, none⟩ = some (.string (Sp.bs b)) := hwd2.at_ 1 b rfl
  have HWd := Lib.hid hwd2
  have hgl := hwd.lt
  clear hwd hwd2 hm
  go_wp2_with fail
  have HN2 := Lib.hid (Blk.new w1 (evC 0 0 0 none 0 0) 29)
  refine (HBy.out _).mono ?_
  rintro e w3 hbr
  obtain ⟨A3, n3, c3, rfl, hd3, b3⟩ := bytes_any hbr
  clear hbr
  have hwd3 := HWd.out.below b3
  have y0 : World.cell? _ ⟨g, 0, none⟩ = some (.string (Sp.bs a)) := hwd3.at_ 0 a rfl
  have y1 : World.cell? _ ⟨g, 1, none⟩ = some (.string (Sp.bs b)) := hwd3.at_ 1 b rfl
  have HD3 := Lib.hid hd3
  have HB3 := Lib.hid (step HB2.out b3)
  have HF3 := Lib.hid (HF2.out.below b3)
  have HN3 := Lib.hid (HN2.out.below b3)
  have HWd3 := Lib.hid hwd3
  have Hs3 := Lib.hid b3.size
  clear hd3 b3 hwd3
  go_wp2_with fail
  refine (HNu.out _).mono ?_
  rintro e w4 hnr
  obtain ⟨rfl, b4⟩ := num_any hnr
  clear hnr
  have hwd4 := HWd3.out.below b4
  have z0 : World.cell? _ ⟨g, 0, none⟩ = some (.string (Sp.bs a)) := hwd4.at_ 0 a rfl
  have z1 : World.cell? _ ⟨g, 1, none⟩ = some (.string (Sp.bs b)) := hwd4.at_ 1 b rfl
  have HD4 := Lib.hid (fun t ht => (And.intro ((HD3.out t ht).1.below b4) (HD3.out t ht).2 : By w4 A3 n3 c3 t ∧ _))
  have HB4 := Lib.hid (step HB3.out b4)
  have F4 := HF3.out.below b4
  have N4 := HN3.out.below b4
  have f0 := F4.frozen 0
  have f1 := F4.frozen 1
  have f2 := F4.frozen 2
  have f3 := F4.frozen 3
  have f4 := F4.cells4
  have m4 := N4.cells4
  have HF4 := Lib.hid F4
  have HWd4 := Lib.hid hwd4
  have Hs4 := Lib.hid b4.size
  clear b4 F4 N4 hwd4
  have hbb : (Sp.numT b).isSome = true := by rw [HB.out]; rfl
  rw [hbb]
  clear hbb
  have hbg : (Sp.numT b).getD 0 = t := by rw [HB.out]; rfl
  rw [hbg]
  clear hbg
  go_wp2_with fail
  (try rw [Exit.noGoto_ret])
  have q := Blk.four HF4.out (.int .i64 6) (.int .i64 t) (.int .i64 0) (.slice none 0 0)
  refine bodyPost_ret (results_cell_tmp rfl _ _ _ _ _ rfl (ev_load q.1)) rfl ?_
  exact ReadRet.yes HR.out rfl (By.nil _) (fun g o e => by cases e) (HB4.out.trans (q.2.low (B := w.heap.size) (by have := HB4.out.size; omega) (Nat.le_refl _)))
set_option maxRecDepth 100000 in
theorem rread_failsync_miss (s : List UInt8) (hs : s.length ≤ 50000) (w : World) (h1 : s ≠ [100, 114, 111, 112, 32, 105, 110]) (h2 : s ≠ [100, 114, 111, 112, 32, 111, 117, 116]) (a b : List UInt8) (hws : Sp.cutL 32 s = [a, b]) (ha : a = [102, 97, 105, 108, 115, 121, 110, 99]) (hb : Sp.numT b = none) :
    Calls Tryd.prog 18 #[.string (Sp.bs s)] w fun e w' => ReadRet w s e w' := by
  have hr : Sp.readS s = none := by rw [Sp.readS_eq, hws, ha]; simp [Sp.readW, hb]
  have HR := Lib.hid hr
  have HBy := Lib.hid (rbytes_calls b (by have := cut_words hs (show b ∈ Sp.cutL 32 s by rw [hws]; simp); omega))
  have HNu := Lib.hid (rnumber_calls b (by have := cut_words hs (show b ∈ Sp.cutL 32 s by rw [hws]; simp); omega))
  have p0 := str_eqc a [105, 110]
  rw [decide_eq_false (by rw [ha]; decide)] at p0
  have p1 := str_eqc a [111, 117, 116]
  rw [decide_eq_false (by rw [ha]; decide)] at p1
  have p2 := str_eqc a [116, 105, 99, 107]
  rw [decide_eq_false (by rw [ha]; decide)] at p2
  have p3 := str_eqc a [114, 111, 111, 109]
  rw [decide_eq_false (by rw [ha]; decide)] at p3
  have p4 := str_eqc a [102, 97, 105, 108, 115, 121, 110, 99]
  rw [decide_eq_true ha] at p4
  have p5 := str_eqc a [112, 111, 119, 101, 114]
  rw [decide_eq_false (by rw [ha]; decide)] at p5
  have p6 := str_eqc a [97, 114, 109]
  rw [decide_eq_false (by rw [ha]; decide)] at p6
  have HB := Lib.hid hb
  clear hr ha hb
  have huE := Tryd.underlying29
  have hz := Sp.bs_size s
  have q1 := str_eqc s [100, 114, 111, 112, 32, 105, 110]
  have q2 := str_eqc s [100, 114, 111, 112, 32, 111, 117, 116]
  rw [decide_eq_false h1] at q1
  rw [decide_eq_false h2] at q2
  have hb0 : Below w.heap.size w (w.alloc (.cells #[.int .i64 0, .int .i64 0, .int .i64 0, .slice none 0 0] 29)) := (Below.refl _ _).alloc (Nat.le_refl _) _
  have f0 := Blk.new w (evC 0 0 0 none 0 0) 29
  have hcut := refCut_calls s 32 (by omega) (w.alloc (.cells #[.int .i64 0, .int .i64 0, .int .i64 0, .slice none 0 0] 29))
  rw [hws] at hcut
  have HCut : Hid (Calls Tryd.prog 36 #[.string (Sp.bs s), .int .u8 ((32 : UInt8).toNat : Int)] (w.alloc (.cells #[.int .i64 0, .int .i64 0, .int .i64 0, .slice none 0 0] 29)) fun e w' => ∃ A C, e = .returned (.slice A 2 C) ∧ Mine w' (w.alloc (.cells #[.int .i64 0, .int .i64 0, .int .i64 0, .slice none 0 0] 29)).heap.size A 2 C (Sp.vals [a, b]) ∧ Below (w.alloc (.cells #[.int .i64 0, .int .i64 0, .int .i64 0, .slice none 0 0] 29)).heap.size (w.alloc (.cells #[.int .i64 0, .int .i64 0, .int .i64 0, .slice none 0 0] 29)) w') := Lib.hid hcut
  have HB0 := Lib.hid hb0
  have HF0 := Lib.hid f0
  clear hcut hb0 f0 h1 h2 hws
  go_enter Tryd.func18, Tryd.ntmps18
  go_wp2_with fail
  refine HCut.out.mono ?_
  rintro e w1 ⟨A, C, rfl, hm, hb1⟩
  have B1 := step HB0.out hb1
  have F1 := HF0.out.below hb1
  have u0 := F1.frozen 0
  have u1 := F1.frozen 1
  have u2 := F1.frozen 2
  have u3 := F1.frozen 3
  have z0 := F1.cells4
  have hbn : Below w1.heap.size w1 (w1.alloc (.cells #[.int .i64 0, .int .i64 0, .int .i64 0, .slice none 0 0] 29)) := (Below.refl _ _).alloc (Nat.le_refl _) _
  have F2 := F1.below hbn
  have v0 := F2.frozen 0
  have v1 := F2.frozen 1
  have v2 := F2.frozen 2
  have v3 := F2.frozen 3
  have z1 := F2.cells4
  have HF1 := Lib.hid F1
  have HF2 := Lib.hid F2
  have HB1 := Lib.hid B1
  have HB2 := Lib.hid (step B1 hbn)
  have hlt1 : w.heap.size < w1.heap.size := F1.lt
  clear B1 F1 F2 hbn hb1
  obtain ⟨g, rfl, hg0, hwd⟩ := mine_words hm (by decide)
  have hwd2 := hwd.below ((Below.refl w1.heap.size w1).alloc (Nat.le_refl _) (.cells #[.int .i64 0, .int .i64 0, .int .i64 0, .slice none 0 0] 29))
  have x0 : World.cell? _ ⟨g, 0, none⟩ = some (.string (Sp.bs a)) := hwd2.at_ 0 a rfl
  have x1 : World.cell? _ ⟨g, 1, none⟩ = some (.string (Sp.bs b)) := hwd2.at_ 1 b rfl
  have HWd := Lib.hid hwd2
  have hgl := hwd.lt
  clear hwd hwd2 hm
  go_wp2_with fail
  have HN2 := Lib.hid (Blk.new w1 (evC 0 0 0 none 0 0) 29)
  refine (HBy.out _).mono ?_
  rintro e w3 hbr
  obtain ⟨A3, n3, c3, rfl, hd3, b3⟩ := bytes_any hbr
  clear hbr
  have hwd3 := HWd.out.below b3
  have y0 : World.cell? _ ⟨g, 0, none⟩ = some (.string (Sp.bs a)) := hwd3.at_ 0 a rfl
  have y1 : World.cell? _ ⟨g, 1, none⟩ = some (.string (Sp.bs b)) := hwd3.at_ 1 b rfl
  have HD3 := Lib.hid hd3
  have HB3 := Lib.hid (step HB2.out b3)
  have HF3 := Lib.hid (HF2.out.below b3)
  have HN3 := Lib.hid (HN2.out.below b3)
  have HWd3 := Lib.hid hwd3
  have Hs3 := Lib.hid b3.size
  clear hd3 b3 hwd3
  go_wp2_with fail
  refine (HNu.out _).mono ?_
  rintro e w4 hnr
  obtain ⟨rfl, b4⟩ := num_any hnr
  clear hnr
  have hwd4 := HWd3.out.below b4
  have z0 : World.cell? _ ⟨g, 0, none⟩ = some (.string (Sp.bs a)) := hwd4.at_ 0 a rfl
  have z1 : World.cell? _ ⟨g, 1, none⟩ = some (.string (Sp.bs b)) := hwd4.at_ 1 b rfl
  have HD4 := Lib.hid (fun t ht => (And.intro ((HD3.out t ht).1.below b4) (HD3.out t ht).2 : By w4 A3 n3 c3 t ∧ _))
  have HB4 := Lib.hid (step HB3.out b4)
  have F4 := HF3.out.below b4
  have N4 := HN3.out.below b4
  have f0 := F4.frozen 0
  have f1 := F4.frozen 1
  have f2 := F4.frozen 2
  have f3 := F4.frozen 3
  have f4 := F4.cells4
  have m4 := N4.cells4
  have HF4 := Lib.hid F4
  have HWd4 := Lib.hid hwd4
  have Hs4 := Lib.hid b4.size
  clear b4 F4 N4 hwd4
  have hbb : (Sp.numT b).isSome = false := by rw [HB.out]; rfl
  rw [hbb]
  clear hbb
  go_wp2_with fail
  (try rw [Exit.noGoto_ret])
  have q := Blk.four HF4.out (.int .i64 0) (.int .i64 0) (.int .i64 0) (.slice none 0 0)
  refine bodyPost_ret (results_cell_tmp rfl _ _ _ _ _ rfl (ev_load q.1)) rfl ?_
  exact ReadRet.no HR.out (HB4.out.trans (q.2.low (B := w.heap.size) (by have := HB4.out.size; omega) (Nat.le_refl _)))
set_option maxRecDepth 100000 in
theorem rread_power_hit (s : List UInt8) (hs : s.length ≤ 50000) (w : World) (h1 : s ≠ [100, 114, 111, 112, 32, 105, 110]) (h2 : s ≠ [100, 114, 111, 112, 32, 111, 117, 116]) (a b : List UInt8) (hws : Sp.cutL 32 s = [a, b]) (ha : a = [112, 111, 119, 101, 114]) (t : Int) (hb : Sp.numT b = some t) :
    Calls Tryd.prog 18 #[.string (Sp.bs s)] w fun e w' => ReadRet w s e w' := by
  have hr : Sp.readS s = some ⟨8, 0, t, []⟩ := by rw [Sp.readS_eq, hws, ha]; simp [Sp.readW, hb]
  have HR := Lib.hid hr
  have HBy := Lib.hid (rbytes_calls b (by have := cut_words hs (show b ∈ Sp.cutL 32 s by rw [hws]; simp); omega))
  have HNu := Lib.hid (rnumber_calls b (by have := cut_words hs (show b ∈ Sp.cutL 32 s by rw [hws]; simp); omega))
  have p0 := str_eqc a [105, 110]
  rw [decide_eq_false (by rw [ha]; decide)] at p0
  have p1 := str_eqc a [111, 117, 116]
  rw [decide_eq_false (by rw [ha]; decide)] at p1
  have p2 := str_eqc a [116, 105, 99, 107]
  rw [decide_eq_false (by rw [ha]; decide)] at p2
  have p3 := str_eqc a [114, 111, 111, 109]
  rw [decide_eq_false (by rw [ha]; decide)] at p3
  have p4 := str_eqc a [102, 97, 105, 108, 115, 121, 110, 99]
  rw [decide_eq_false (by rw [ha]; decide)] at p4
  have p5 := str_eqc a [112, 111, 119, 101, 114]
  rw [decide_eq_true ha] at p5
  have p6 := str_eqc a [97, 114, 109]
  rw [decide_eq_false (by rw [ha]; decide)] at p6
  have HB := Lib.hid hb
  clear hr ha hb
  have huE := Tryd.underlying29
  have hz := Sp.bs_size s
  have q1 := str_eqc s [100, 114, 111, 112, 32, 105, 110]
  have q2 := str_eqc s [100, 114, 111, 112, 32, 111, 117, 116]
  rw [decide_eq_false h1] at q1
  rw [decide_eq_false h2] at q2
  have hb0 : Below w.heap.size w (w.alloc (.cells #[.int .i64 0, .int .i64 0, .int .i64 0, .slice none 0 0] 29)) := (Below.refl _ _).alloc (Nat.le_refl _) _
  have f0 := Blk.new w (evC 0 0 0 none 0 0) 29
  have hcut := refCut_calls s 32 (by omega) (w.alloc (.cells #[.int .i64 0, .int .i64 0, .int .i64 0, .slice none 0 0] 29))
  rw [hws] at hcut
  have HCut : Hid (Calls Tryd.prog 36 #[.string (Sp.bs s), .int .u8 ((32 : UInt8).toNat : Int)] (w.alloc (.cells #[.int .i64 0, .int .i64 0, .int .i64 0, .slice none 0 0] 29)) fun e w' => ∃ A C, e = .returned (.slice A 2 C) ∧ Mine w' (w.alloc (.cells #[.int .i64 0, .int .i64 0, .int .i64 0, .slice none 0 0] 29)).heap.size A 2 C (Sp.vals [a, b]) ∧ Below (w.alloc (.cells #[.int .i64 0, .int .i64 0, .int .i64 0, .slice none 0 0] 29)).heap.size (w.alloc (.cells #[.int .i64 0, .int .i64 0, .int .i64 0, .slice none 0 0] 29)) w') := Lib.hid hcut
  have HB0 := Lib.hid hb0
  have HF0 := Lib.hid f0
  clear hcut hb0 f0 h1 h2 hws
  go_enter Tryd.func18, Tryd.ntmps18
  go_wp2_with fail
  refine HCut.out.mono ?_
  rintro e w1 ⟨A, C, rfl, hm, hb1⟩
  have B1 := step HB0.out hb1
  have F1 := HF0.out.below hb1
  have u0 := F1.frozen 0
  have u1 := F1.frozen 1
  have u2 := F1.frozen 2
  have u3 := F1.frozen 3
  have z0 := F1.cells4
  have hbn : Below w1.heap.size w1 (w1.alloc (.cells #[.int .i64 0, .int .i64 0, .int .i64 0, .slice none 0 0] 29)) := (Below.refl _ _).alloc (Nat.le_refl _) _
  have F2 := F1.below hbn
  have v0 := F2.frozen 0
  have v1 := F2.frozen 1
  have v2 := F2.frozen 2
  have v3 := F2.frozen 3
  have z1 := F2.cells4
  have HF1 := Lib.hid F1
  have HF2 := Lib.hid F2
  have HB1 := Lib.hid B1
  have HB2 := Lib.hid (step B1 hbn)
  have hlt1 : w.heap.size < w1.heap.size := F1.lt
  clear B1 F1 F2 hbn hb1
  obtain ⟨g, rfl, hg0, hwd⟩ := mine_words hm (by decide)
  have hwd2 := hwd.below ((Below.refl w1.heap.size w1).alloc (Nat.le_refl _) (.cells #[.int .i64 0, .int .i64 0, .int .i64 0, .slice none 0 0] 29))
  have x0 : World.cell? _ ⟨g, 0, none⟩ = some (.string (Sp.bs a)) := hwd2.at_ 0 a rfl
  have x1 : World.cell? _ ⟨g, 1, none⟩ = some (.string (Sp.bs b)) := hwd2.at_ 1 b rfl
  have HWd := Lib.hid hwd2
  have hgl := hwd.lt
  clear hwd hwd2 hm
  go_wp2_with fail
  have HN2 := Lib.hid (Blk.new w1 (evC 0 0 0 none 0 0) 29)
  refine (HBy.out _).mono ?_
  rintro e w3 hbr
  obtain ⟨A3, n3, c3, rfl, hd3, b3⟩ := bytes_any hbr
  clear hbr
  have hwd3 := HWd.out.below b3
  have y0 : World.cell? _ ⟨g, 0, none⟩ = some (.string (Sp.bs a)) := hwd3.at_ 0 a rfl
  have y1 : World.cell? _ ⟨g, 1, none⟩ = some (.string (Sp.bs b)) := hwd3.at_ 1 b rfl
  have HD3 := Lib.hid hd3
  have HB3 := Lib.hid (step HB2.out b3)
  have HF3 := Lib.hid (HF2.out.below b3)
  have HN3 := Lib.hid (HN2.out.below b3)
  have HWd3 := Lib.hid hwd3
  have Hs3 := Lib.hid b3.size
  clear hd3 b3 hwd3
  go_wp2_with fail
  refine (HNu.out _).mono ?_
  rintro e w4 hnr
  obtain ⟨rfl, b4⟩ := num_any hnr
  clear hnr
  have hwd4 := HWd3.out.below b4
  have z0 : World.cell? _ ⟨g, 0, none⟩ = some (.string (Sp.bs a)) := hwd4.at_ 0 a rfl
  have z1 : World.cell? _ ⟨g, 1, none⟩ = some (.string (Sp.bs b)) := hwd4.at_ 1 b rfl
  have HD4 := Lib.hid (fun t ht => (And.intro ((HD3.out t ht).1.below b4) (HD3.out t ht).2 : By w4 A3 n3 c3 t ∧ _))
  have HB4 := Lib.hid (step HB3.out b4)
  have F4 := HF3.out.below b4
  have N4 := HN3.out.below b4
  have f0 := F4.frozen 0
  have f1 := F4.frozen 1
  have f2 := F4.frozen 2
  have f3 := F4.frozen 3
  have f4 := F4.cells4
  have m4 := N4.cells4
  have HF4 := Lib.hid F4
  have HWd4 := Lib.hid hwd4
  have Hs4 := Lib.hid b4.size
  clear b4 F4 N4 hwd4
  have hbb : (Sp.numT b).isSome = true := by rw [HB.out]; rfl
  rw [hbb]
  clear hbb
  have hbg : (Sp.numT b).getD 0 = t := by rw [HB.out]; rfl
  rw [hbg]
  clear hbg
  go_wp2_with fail
  (try rw [Exit.noGoto_ret])
  have q := Blk.four HF4.out (.int .i64 8) (.int .i64 0) (.int .i64 t) (.slice none 0 0)
  refine bodyPost_ret (results_cell_tmp rfl _ _ _ _ _ rfl (ev_load q.1)) rfl ?_
  exact ReadRet.yes HR.out rfl (By.nil _) (fun g o e => by cases e) (HB4.out.trans (q.2.low (B := w.heap.size) (by have := HB4.out.size; omega) (Nat.le_refl _)))
set_option maxRecDepth 100000 in
theorem rread_power_miss (s : List UInt8) (hs : s.length ≤ 50000) (w : World) (h1 : s ≠ [100, 114, 111, 112, 32, 105, 110]) (h2 : s ≠ [100, 114, 111, 112, 32, 111, 117, 116]) (a b : List UInt8) (hws : Sp.cutL 32 s = [a, b]) (ha : a = [112, 111, 119, 101, 114]) (hb : Sp.numT b = none) :
    Calls Tryd.prog 18 #[.string (Sp.bs s)] w fun e w' => ReadRet w s e w' := by
  have hr : Sp.readS s = none := by rw [Sp.readS_eq, hws, ha]; simp [Sp.readW, hb]
  have HR := Lib.hid hr
  have HBy := Lib.hid (rbytes_calls b (by have := cut_words hs (show b ∈ Sp.cutL 32 s by rw [hws]; simp); omega))
  have HNu := Lib.hid (rnumber_calls b (by have := cut_words hs (show b ∈ Sp.cutL 32 s by rw [hws]; simp); omega))
  have p0 := str_eqc a [105, 110]
  rw [decide_eq_false (by rw [ha]; decide)] at p0
  have p1 := str_eqc a [111, 117, 116]
  rw [decide_eq_false (by rw [ha]; decide)] at p1
  have p2 := str_eqc a [116, 105, 99, 107]
  rw [decide_eq_false (by rw [ha]; decide)] at p2
  have p3 := str_eqc a [114, 111, 111, 109]
  rw [decide_eq_false (by rw [ha]; decide)] at p3
  have p4 := str_eqc a [102, 97, 105, 108, 115, 121, 110, 99]
  rw [decide_eq_false (by rw [ha]; decide)] at p4
  have p5 := str_eqc a [112, 111, 119, 101, 114]
  rw [decide_eq_true ha] at p5
  have p6 := str_eqc a [97, 114, 109]
  rw [decide_eq_false (by rw [ha]; decide)] at p6
  have HB := Lib.hid hb
  clear hr ha hb
  have huE := Tryd.underlying29
  have hz := Sp.bs_size s
  have q1 := str_eqc s [100, 114, 111, 112, 32, 105, 110]
  have q2 := str_eqc s [100, 114, 111, 112, 32, 111, 117, 116]
  rw [decide_eq_false h1] at q1
  rw [decide_eq_false h2] at q2
  have hb0 : Below w.heap.size w (w.alloc (.cells #[.int .i64 0, .int .i64 0, .int .i64 0, .slice none 0 0] 29)) := (Below.refl _ _).alloc (Nat.le_refl _) _
  have f0 := Blk.new w (evC 0 0 0 none 0 0) 29
  have hcut := refCut_calls s 32 (by omega) (w.alloc (.cells #[.int .i64 0, .int .i64 0, .int .i64 0, .slice none 0 0] 29))
  rw [hws] at hcut
  have HCut : Hid (Calls Tryd.prog 36 #[.string (Sp.bs s), .int .u8 ((32 : UInt8).toNat : Int)] (w.alloc (.cells #[.int .i64 0, .int .i64 0, .int .i64 0, .slice none 0 0] 29)) fun e w' => ∃ A C, e = .returned (.slice A 2 C) ∧ Mine w' (w.alloc (.cells #[.int .i64 0, .int .i64 0, .int .i64 0, .slice none 0 0] 29)).heap.size A 2 C (Sp.vals [a, b]) ∧ Below (w.alloc (.cells #[.int .i64 0, .int .i64 0, .int .i64 0, .slice none 0 0] 29)).heap.size (w.alloc (.cells #[.int .i64 0, .int .i64 0, .int .i64 0, .slice none 0 0] 29)) w') := Lib.hid hcut
  have HB0 := Lib.hid hb0
  have HF0 := Lib.hid f0
  clear hcut hb0 f0 h1 h2 hws
  go_enter Tryd.func18, Tryd.ntmps18
  go_wp2_with fail
  refine HCut.out.mono ?_
  rintro e w1 ⟨A, C, rfl, hm, hb1⟩
  have B1 := step HB0.out hb1
  have F1 := HF0.out.below hb1
  have u0 := F1.frozen 0
  have u1 := F1.frozen 1
  have u2 := F1.frozen 2
  have u3 := F1.frozen 3
  have z0 := F1.cells4
  have hbn : Below w1.heap.size w1 (w1.alloc (.cells #[.int .i64 0, .int .i64 0, .int .i64 0, .slice none 0 0] 29)) := (Below.refl _ _).alloc (Nat.le_refl _) _
  have F2 := F1.below hbn
  have v0 := F2.frozen 0
  have v1 := F2.frozen 1
  have v2 := F2.frozen 2
  have v3 := F2.frozen 3
  have z1 := F2.cells4
  have HF1 := Lib.hid F1
  have HF2 := Lib.hid F2
  have HB1 := Lib.hid B1
  have HB2 := Lib.hid (step B1 hbn)
  have hlt1 : w.heap.size < w1.heap.size := F1.lt
  clear B1 F1 F2 hbn hb1
  obtain ⟨g, rfl, hg0, hwd⟩ := mine_words hm (by decide)
  have hwd2 := hwd.below ((Below.refl w1.heap.size w1).alloc (Nat.le_refl _) (.cells #[.int .i64 0, .int .i64 0, .int .i64 0, .slice none 0 0] 29))
  have x0 : World.cell? _ ⟨g, 0, none⟩ = some (.string (Sp.bs a)) := hwd2.at_ 0 a rfl
  have x1 : World.cell? _ ⟨g, 1, none⟩ = some (.string (Sp.bs b)) := hwd2.at_ 1 b rfl
  have HWd := Lib.hid hwd2
  have hgl := hwd.lt
  clear hwd hwd2 hm
  go_wp2_with fail
  have HN2 := Lib.hid (Blk.new w1 (evC 0 0 0 none 0 0) 29)
  refine (HBy.out _).mono ?_
  rintro e w3 hbr
  obtain ⟨A3, n3, c3, rfl, hd3, b3⟩ := bytes_any hbr
  clear hbr
  have hwd3 := HWd.out.below b3
  have y0 : World.cell? _ ⟨g, 0, none⟩ = some (.string (Sp.bs a)) := hwd3.at_ 0 a rfl
  have y1 : World.cell? _ ⟨g, 1, none⟩ = some (.string (Sp.bs b)) := hwd3.at_ 1 b rfl
  have HD3 := Lib.hid hd3
  have HB3 := Lib.hid (step HB2.out b3)
  have HF3 := Lib.hid (HF2.out.below b3)
  have HN3 := Lib.hid (HN2.out.below b3)
  have HWd3 := Lib.hid hwd3
  have Hs3 := Lib.hid b3.size
  clear hd3 b3 hwd3
  go_wp2_with fail
  refine (HNu.out _).mono ?_
  rintro e w4 hnr
  obtain ⟨rfl, b4⟩ := num_any hnr
  clear hnr
  have hwd4 := HWd3.out.below b4
  have z0 : World.cell? _ ⟨g, 0, none⟩ = some (.string (Sp.bs a)) := hwd4.at_ 0 a rfl
  have z1 : World.cell? _ ⟨g, 1, none⟩ = some (.string (Sp.bs b)) := hwd4.at_ 1 b rfl
  have HD4 := Lib.hid (fun t ht => (And.intro ((HD3.out t ht).1.below b4) (HD3.out t ht).2 : By w4 A3 n3 c3 t ∧ _))
  have HB4 := Lib.hid (step HB3.out b4)
  have F4 := HF3.out.below b4
  have N4 := HN3.out.below b4
  have f0 := F4.frozen 0
  have f1 := F4.frozen 1
  have f2 := F4.frozen 2
  have f3 := F4.frozen 3
  have f4 := F4.cells4
  have m4 := N4.cells4
  have HF4 := Lib.hid F4
  have HWd4 := Lib.hid hwd4
  have Hs4 := Lib.hid b4.size
  clear b4 F4 N4 hwd4
  have hbb : (Sp.numT b).isSome = false := by rw [HB.out]; rfl
  rw [hbb]
  clear hbb
  go_wp2_with fail
  (try rw [Exit.noGoto_ret])
  have q := Blk.four HF4.out (.int .i64 0) (.int .i64 0) (.int .i64 0) (.slice none 0 0)
  refine bodyPost_ret (results_cell_tmp rfl _ _ _ _ _ rfl (ev_load q.1)) rfl ?_
  exact ReadRet.no HR.out (HB4.out.trans (q.2.low (B := w.heap.size) (by have := HB4.out.size; omega) (Nat.le_refl _)))
set_option maxRecDepth 100000 in
theorem rread_other (s : List UInt8) (hs : s.length ≤ 50000) (w : World) (h1 : s ≠ [100, 114, 111, 112, 32, 105, 110]) (h2 : s ≠ [100, 114, 111, 112, 32, 111, 117, 116]) (a b : List UInt8) (hws : Sp.cutL 32 s = [a, b]) (n0 : a ≠ [105, 110]) (n1 : a ≠ [111, 117, 116]) (n2 : a ≠ [116, 105, 99, 107]) (n3 : a ≠ [114, 111, 111, 109]) (n4 : a ≠ [102, 97, 105, 108, 115, 121, 110, 99]) (n5 : a ≠ [112, 111, 119, 101, 114]) (n6 : a ≠ [97, 114, 109]) :
    Calls Tryd.prog 18 #[.string (Sp.bs s)] w fun e w' => ReadRet w s e w' := by
  have hd1 : ¬ (a = [100, 114, 111, 112] ∧ b = [105, 110]) := fun h => h1 (by have := Sp.s_of_one hws; rw [this, h.1, h.2]; rfl)
  have hd2 : ¬ (a = [100, 114, 111, 112] ∧ b = [111, 117, 116]) := fun h => h2 (by have := Sp.s_of_one hws; rw [this, h.1, h.2]; rfl)
  have hr : Sp.readS s = none := by rw [Sp.readS_eq, hws]; unfold Sp.readW; simp only [hd1, hd2, n0, n1, n2, n3, n4, n5, if_false]
  have HR := Lib.hid hr
  have HBy := Lib.hid (rbytes_calls b (by have := cut_words hs (show b ∈ Sp.cutL 32 s by rw [hws]; simp); omega))
  have HNu := Lib.hid (rnumber_calls b (by have := cut_words hs (show b ∈ Sp.cutL 32 s by rw [hws]; simp); omega))
  have p0 := str_eqc a [105, 110]
  rw [decide_eq_false n0] at p0
  have p1 := str_eqc a [111, 117, 116]
  rw [decide_eq_false n1] at p1
  have p2 := str_eqc a [116, 105, 99, 107]
  rw [decide_eq_false n2] at p2
  have p3 := str_eqc a [114, 111, 111, 109]
  rw [decide_eq_false n3] at p3
  have p4 := str_eqc a [102, 97, 105, 108, 115, 121, 110, 99]
  rw [decide_eq_false n4] at p4
  have p5 := str_eqc a [112, 111, 119, 101, 114]
  rw [decide_eq_false n5] at p5
  have p6 := str_eqc a [97, 114, 109]
  rw [decide_eq_false n6] at p6
  clear hr hd1 hd2 n0 n1 n2 n3 n4 n5 n6
  have huE := Tryd.underlying29
  have hz := Sp.bs_size s
  have q1 := str_eqc s [100, 114, 111, 112, 32, 105, 110]
  have q2 := str_eqc s [100, 114, 111, 112, 32, 111, 117, 116]
  rw [decide_eq_false h1] at q1
  rw [decide_eq_false h2] at q2
  have hb0 : Below w.heap.size w (w.alloc (.cells #[.int .i64 0, .int .i64 0, .int .i64 0, .slice none 0 0] 29)) := (Below.refl _ _).alloc (Nat.le_refl _) _
  have f0 := Blk.new w (evC 0 0 0 none 0 0) 29
  have hcut := refCut_calls s 32 (by omega) (w.alloc (.cells #[.int .i64 0, .int .i64 0, .int .i64 0, .slice none 0 0] 29))
  rw [hws] at hcut
  have HCut : Hid (Calls Tryd.prog 36 #[.string (Sp.bs s), .int .u8 ((32 : UInt8).toNat : Int)] (w.alloc (.cells #[.int .i64 0, .int .i64 0, .int .i64 0, .slice none 0 0] 29)) fun e w' => ∃ A C, e = .returned (.slice A 2 C) ∧ Mine w' (w.alloc (.cells #[.int .i64 0, .int .i64 0, .int .i64 0, .slice none 0 0] 29)).heap.size A 2 C (Sp.vals [a, b]) ∧ Below (w.alloc (.cells #[.int .i64 0, .int .i64 0, .int .i64 0, .slice none 0 0] 29)).heap.size (w.alloc (.cells #[.int .i64 0, .int .i64 0, .int .i64 0, .slice none 0 0] 29)) w') := Lib.hid hcut
  have HB0 := Lib.hid hb0
  have HF0 := Lib.hid f0
  clear hcut hb0 f0 h1 h2 hws
  go_enter Tryd.func18, Tryd.ntmps18
  go_wp2_with fail
  refine HCut.out.mono ?_
  rintro e w1 ⟨A, C, rfl, hm, hb1⟩
  have B1 := step HB0.out hb1
  have F1 := HF0.out.below hb1
  have u0 := F1.frozen 0
  have u1 := F1.frozen 1
  have u2 := F1.frozen 2
  have u3 := F1.frozen 3
  have z0 := F1.cells4
  have hbn : Below w1.heap.size w1 (w1.alloc (.cells #[.int .i64 0, .int .i64 0, .int .i64 0, .slice none 0 0] 29)) := (Below.refl _ _).alloc (Nat.le_refl _) _
  have F2 := F1.below hbn
  have v0 := F2.frozen 0
  have v1 := F2.frozen 1
  have v2 := F2.frozen 2
  have v3 := F2.frozen 3
  have z1 := F2.cells4
  have HF1 := Lib.hid F1
  have HF2 := Lib.hid F2
  have HB1 := Lib.hid B1
  have HB2 := Lib.hid (step B1 hbn)
  have hlt1 : w.heap.size < w1.heap.size := F1.lt
  clear B1 F1 F2 hbn hb1
  obtain ⟨g, rfl, hg0, hwd⟩ := mine_words hm (by decide)
  have hwd2 := hwd.below ((Below.refl w1.heap.size w1).alloc (Nat.le_refl _) (.cells #[.int .i64 0, .int .i64 0, .int .i64 0, .slice none 0 0] 29))
  have x0 : World.cell? _ ⟨g, 0, none⟩ = some (.string (Sp.bs a)) := hwd2.at_ 0 a rfl
  have x1 : World.cell? _ ⟨g, 1, none⟩ = some (.string (Sp.bs b)) := hwd2.at_ 1 b rfl
  have HWd := Lib.hid hwd2
  have hgl := hwd.lt
  clear hwd hwd2 hm
  go_wp2_with fail
  have HN2 := Lib.hid (Blk.new w1 (evC 0 0 0 none 0 0) 29)
  refine (HBy.out _).mono ?_
  rintro e w3 hbr
  obtain ⟨A3, n3, c3, rfl, hd3, b3⟩ := bytes_any hbr
  clear hbr
  have hwd3 := HWd.out.below b3
  have y0 : World.cell? _ ⟨g, 0, none⟩ = some (.string (Sp.bs a)) := hwd3.at_ 0 a rfl
  have y1 : World.cell? _ ⟨g, 1, none⟩ = some (.string (Sp.bs b)) := hwd3.at_ 1 b rfl
  have HD3 := Lib.hid hd3
  have HB3 := Lib.hid (step HB2.out b3)
  have HF3 := Lib.hid (HF2.out.below b3)
  have HN3 := Lib.hid (HN2.out.below b3)
  have HWd3 := Lib.hid hwd3
  have Hs3 := Lib.hid b3.size
  clear hd3 b3 hwd3
  go_wp2_with fail
  refine (HNu.out _).mono ?_
  rintro e w4 hnr
  obtain ⟨rfl, b4⟩ := num_any hnr
  clear hnr
  have hwd4 := HWd3.out.below b4
  have z0 : World.cell? _ ⟨g, 0, none⟩ = some (.string (Sp.bs a)) := hwd4.at_ 0 a rfl
  have z1 : World.cell? _ ⟨g, 1, none⟩ = some (.string (Sp.bs b)) := hwd4.at_ 1 b rfl
  have HD4 := Lib.hid (fun t ht => (And.intro ((HD3.out t ht).1.below b4) (HD3.out t ht).2 : By w4 A3 n3 c3 t ∧ _))
  have HB4 := Lib.hid (step HB3.out b4)
  have F4 := HF3.out.below b4
  have N4 := HN3.out.below b4
  have f0 := F4.frozen 0
  have f1 := F4.frozen 1
  have f2 := F4.frozen 2
  have f3 := F4.frozen 3
  have f4 := F4.cells4
  have m4 := N4.cells4
  have HF4 := Lib.hid F4
  have HWd4 := Lib.hid hwd4
  have Hs4 := Lib.hid b4.size
  clear b4 F4 N4 hwd4
  go_wp2_with fail
  (try rw [Exit.noGoto_ret])
  have q := Blk.four HF4.out (.int .i64 0) (.int .i64 0) (.int .i64 0) (.slice none 0 0)
  refine bodyPost_ret (results_cell_tmp rfl _ _ _ _ _ rfl (ev_load q.1)) rfl ?_
  exact ReadRet.no HR.out (HB4.out.trans (q.2.low (B := w.heap.size) (by have := HB4.out.size; omega) (Nat.le_refl _)))
end Tr
end Go.Proofs.YtpchfmeaplhodaaDoor
namespace Go.Proofs.YtpchfmeaplhodaaDoor
set_option linter.unusedVariables false
set_option linter.unusedSimpArgs false
open Go.RowKit Go.Shelf
namespace Tr
open Ap Sg
set_option maxHeartbeats 2000000
set_option maxRecDepth 100000 in
theorem rread_arm_hit (s : List UInt8) (hs : s.length ≤ 50000) (w : World) (h1 : s ≠ [100, 114, 111, 112, 32, 105, 110]) (h2 : s ≠ [100, 114, 111, 112, 32, 111, 117, 116]) (a b c : List UInt8) (hws : Sp.cutL 32 s = [a, b, c]) (ha : a = [97, 114, 109]) (t u : Int) (hb : Sp.numT b = some t) (hc : Sp.numT c = some u) :
    Calls Tryd.prog 18 #[.string (Sp.bs s)] w fun e w' => ReadRet w s e w' := by
  have hr : Sp.readS s = some ⟨7, t, u, []⟩ := by rw [Sp.readS_eq, hws, ha]; simp [Sp.readW, hb, hc]
  have HR := Lib.hid hr
  have HBy := Lib.hid (rbytes_calls b (by have := cut_words hs (show b ∈ Sp.cutL 32 s by rw [hws]; simp); omega))
  have HNu := Lib.hid (rnumber_calls b (by have := cut_words hs (show b ∈ Sp.cutL 32 s by rw [hws]; simp); omega))
  have HNc := Lib.hid (rnumber_calls c (by have := cut_words hs (show c ∈ Sp.cutL 32 s by rw [hws]; simp); omega))
  have p0 := str_eqc a [105, 110]
  rw [decide_eq_false (by rw [ha]; decide)] at p0
  have p1 := str_eqc a [111, 117, 116]
  rw [decide_eq_false (by rw [ha]; decide)] at p1
  have p2 := str_eqc a [116, 105, 99, 107]
  rw [decide_eq_false (by rw [ha]; decide)] at p2
  have p3 := str_eqc a [114, 111, 111, 109]
  rw [decide_eq_false (by rw [ha]; decide)] at p3
  have p4 := str_eqc a [102, 97, 105, 108, 115, 121, 110, 99]
  rw [decide_eq_false (by rw [ha]; decide)] at p4
  have p5 := str_eqc a [112, 111, 119, 101, 114]
  rw [decide_eq_false (by rw [ha]; decide)] at p5
  have p6 := str_eqc a [97, 114, 109]
  rw [decide_eq_true ha] at p6
  have HB := Lib.hid hb
  have HC := Lib.hid hc
  clear hr ha hb hc
  have huE := Tryd.underlying29
  have hz := Sp.bs_size s
  have q1 := str_eqc s [100, 114, 111, 112, 32, 105, 110]
  have q2 := str_eqc s [100, 114, 111, 112, 32, 111, 117, 116]
  rw [decide_eq_false h1] at q1
  rw [decide_eq_false h2] at q2
  have hb0 : Below w.heap.size w (w.alloc (.cells #[.int .i64 0, .int .i64 0, .int .i64 0, .slice none 0 0] 29)) := (Below.refl _ _).alloc (Nat.le_refl _) _
  have f0 := Blk.new w (evC 0 0 0 none 0 0) 29
  have hcut := refCut_calls s 32 (by omega) (w.alloc (.cells #[.int .i64 0, .int .i64 0, .int .i64 0, .slice none 0 0] 29))
  rw [hws] at hcut
  have HCut : Hid (Calls Tryd.prog 36 #[.string (Sp.bs s), .int .u8 ((32 : UInt8).toNat : Int)] (w.alloc (.cells #[.int .i64 0, .int .i64 0, .int .i64 0, .slice none 0 0] 29)) fun e w' => ∃ A C, e = .returned (.slice A 3 C) ∧ Mine w' (w.alloc (.cells #[.int .i64 0, .int .i64 0, .int .i64 0, .slice none 0 0] 29)).heap.size A 3 C (Sp.vals [a, b, c]) ∧ Below (w.alloc (.cells #[.int .i64 0, .int .i64 0, .int .i64 0, .slice none 0 0] 29)).heap.size (w.alloc (.cells #[.int .i64 0, .int .i64 0, .int .i64 0, .slice none 0 0] 29)) w') := Lib.hid hcut
  have HB0 := Lib.hid hb0
  have HF0 := Lib.hid f0
  clear hcut hb0 f0 h1 h2 hws
  go_enter Tryd.func18, Tryd.ntmps18
  go_wp2_with fail
  refine HCut.out.mono ?_
  rintro e w1 ⟨A, C, rfl, hm, hb1⟩
  have B1 := step HB0.out hb1
  have F1 := HF0.out.below hb1
  have u0 := F1.frozen 0
  have u1 := F1.frozen 1
  have u2 := F1.frozen 2
  have u3 := F1.frozen 3
  have z0 := F1.cells4
  have hbn : Below w1.heap.size w1 (w1.alloc (.cells #[.int .i64 0, .int .i64 0, .int .i64 0, .slice none 0 0] 29)) := (Below.refl _ _).alloc (Nat.le_refl _) _
  have F2 := F1.below hbn
  have v0 := F2.frozen 0
  have v1 := F2.frozen 1
  have v2 := F2.frozen 2
  have v3 := F2.frozen 3
  have z1 := F2.cells4
  have HF1 := Lib.hid F1
  have HF2 := Lib.hid F2
  have HB1 := Lib.hid B1
  have HB2 := Lib.hid (step B1 hbn)
  have hlt1 : w.heap.size < w1.heap.size := F1.lt
  clear B1 F1 F2 hbn hb1
  obtain ⟨g, rfl, hg0, hwd⟩ := mine_words hm (by decide)
  have hwd2 := hwd.below ((Below.refl w1.heap.size w1).alloc (Nat.le_refl _) (.cells #[.int .i64 0, .int .i64 0, .int .i64 0, .slice none 0 0] 29))
  have x0 : World.cell? _ ⟨g, 0, none⟩ = some (.string (Sp.bs a)) := hwd2.at_ 0 a rfl
  have x1 : World.cell? _ ⟨g, 1, none⟩ = some (.string (Sp.bs b)) := hwd2.at_ 1 b rfl
  have x2 : World.cell? _ ⟨g, 2, none⟩ = some (.string (Sp.bs c)) := hwd2.at_ 2 c rfl
  have HWd := Lib.hid hwd2
  have hgl := hwd.lt
  clear hwd hwd2 hm
  go_wp2_with fail
  have HN2 := Lib.hid (Blk.new w1 (evC 0 0 0 none 0 0) 29)
  refine (HBy.out _).mono ?_
  rintro e w3 hbr
  obtain ⟨A3, n3, c3, rfl, hd3, b3⟩ := bytes_any hbr
  clear hbr
  have hwd3 := HWd.out.below b3
  have y0 : World.cell? _ ⟨g, 0, none⟩ = some (.string (Sp.bs a)) := hwd3.at_ 0 a rfl
  have y1 : World.cell? _ ⟨g, 1, none⟩ = some (.string (Sp.bs b)) := hwd3.at_ 1 b rfl
  have y2 : World.cell? _ ⟨g, 2, none⟩ = some (.string (Sp.bs c)) := hwd3.at_ 2 c rfl
  have HD3 := Lib.hid hd3
  have HB3 := Lib.hid (step HB2.out b3)
  have HF3 := Lib.hid (HF2.out.below b3)
  have HN3 := Lib.hid (HN2.out.below b3)
  have HWd3 := Lib.hid hwd3
  have Hs3 := Lib.hid b3.size
  clear hd3 b3 hwd3
  go_wp2_with fail
  refine (HNu.out _).mono ?_
  rintro e w4 hnr
  obtain ⟨rfl, b4⟩ := num_any hnr
  clear hnr
  have hwd4 := HWd3.out.below b4
  have z0 : World.cell? _ ⟨g, 0, none⟩ = some (.string (Sp.bs a)) := hwd4.at_ 0 a rfl
  have z1 : World.cell? _ ⟨g, 1, none⟩ = some (.string (Sp.bs b)) := hwd4.at_ 1 b rfl
  have z2 : World.cell? _ ⟨g, 2, none⟩ = some (.string (Sp.bs c)) := hwd4.at_ 2 c rfl
  have HD4 := Lib.hid (fun t ht => (And.intro ((HD3.out t ht).1.below b4) (HD3.out t ht).2 : By w4 A3 n3 c3 t ∧ _))
  have HB4 := Lib.hid (step HB3.out b4)
  have F4 := HF3.out.below b4
  have N4 := HN3.out.below b4
  have f0 := F4.frozen 0
  have f1 := F4.frozen 1
  have f2 := F4.frozen 2
  have f3 := F4.frozen 3
  have f4 := F4.cells4
  have m4 := N4.cells4
  have HF4 := Lib.hid F4
  have HN4 := Lib.hid N4
  have HWd4 := Lib.hid hwd4
  have Hs4 := Lib.hid b4.size
  clear b4 F4 N4 hwd4
  have hbb : (Sp.numT b).isSome = true := by rw [HB.out]; rfl
  rw [hbb]
  clear hbb
  have hbg : (Sp.numT b).getD 0 = t := by rw [HB.out]; rfl
  rw [hbg]
  clear hbg
  go_wp2_with fail
  refine (HNc.out _).mono ?_
  rintro e w5 hnr
  obtain ⟨rfl, b5⟩ := num_any hnr
  clear hnr
  have hcb : (Sp.numT c).isSome = true := by rw [HC.out]; rfl
  rw [hcb]
  clear hcb
  have hcg : (Sp.numT c).getD 0 = u := by rw [HC.out]; rfl
  rw [hcg]
  clear hcg
  have HB5 := Lib.hid (step HB4.out b5)
  have F5 := HF4.out.below b5
  have N5 := HN4.out.below b5
  have g0 := F5.frozen 0
  have g1 := F5.frozen 1
  have g2 := F5.frozen 2
  have g3 := F5.frozen 3
  have g4 := F5.cells4
  have m5 := N5.cells4
  have HF5 := Lib.hid F5
  clear b5 F5 N5
  go_wp2_with fail
  (try rw [Exit.noGoto_ret])
  have q := Blk.four HF5.out (.int .i64 7) (.int .i64 t) (.int .i64 u) (.slice none 0 0)
  refine bodyPost_ret (results_cell_tmp rfl _ _ _ _ _ rfl (ev_load q.1)) rfl ?_
  exact ReadRet.yes HR.out rfl (By.nil _) (fun g o e => by cases e) (HB5.out.trans (q.2.low (B := w.heap.size) (by have := HB5.out.size; omega) (Nat.le_refl _)))
set_option maxRecDepth 100000 in
theorem rread_arm_miss2 (s : List UInt8) (hs : s.length ≤ 50000) (w : World) (h1 : s ≠ [100, 114, 111, 112, 32, 105, 110]) (h2 : s ≠ [100, 114, 111, 112, 32, 111, 117, 116]) (a b c : List UInt8) (hws : Sp.cutL 32 s = [a, b, c]) (ha : a = [97, 114, 109]) (t : Int) (hb : Sp.numT b = some t) (hc : Sp.numT c = none) :
    Calls Tryd.prog 18 #[.string (Sp.bs s)] w fun e w' => ReadRet w s e w' := by
  have hr : Sp.readS s = none := by rw [Sp.readS_eq, hws, ha]; simp [Sp.readW, hb, hc]
  have HR := Lib.hid hr
  have HBy := Lib.hid (rbytes_calls b (by have := cut_words hs (show b ∈ Sp.cutL 32 s by rw [hws]; simp); omega))
  have HNu := Lib.hid (rnumber_calls b (by have := cut_words hs (show b ∈ Sp.cutL 32 s by rw [hws]; simp); omega))
  have HNc := Lib.hid (rnumber_calls c (by have := cut_words hs (show c ∈ Sp.cutL 32 s by rw [hws]; simp); omega))
  have p0 := str_eqc a [105, 110]
  rw [decide_eq_false (by rw [ha]; decide)] at p0
  have p1 := str_eqc a [111, 117, 116]
  rw [decide_eq_false (by rw [ha]; decide)] at p1
  have p2 := str_eqc a [116, 105, 99, 107]
  rw [decide_eq_false (by rw [ha]; decide)] at p2
  have p3 := str_eqc a [114, 111, 111, 109]
  rw [decide_eq_false (by rw [ha]; decide)] at p3
  have p4 := str_eqc a [102, 97, 105, 108, 115, 121, 110, 99]
  rw [decide_eq_false (by rw [ha]; decide)] at p4
  have p5 := str_eqc a [112, 111, 119, 101, 114]
  rw [decide_eq_false (by rw [ha]; decide)] at p5
  have p6 := str_eqc a [97, 114, 109]
  rw [decide_eq_true ha] at p6
  have HB := Lib.hid hb
  have HC := Lib.hid hc
  clear hr ha hb hc
  have huE := Tryd.underlying29
  have hz := Sp.bs_size s
  have q1 := str_eqc s [100, 114, 111, 112, 32, 105, 110]
  have q2 := str_eqc s [100, 114, 111, 112, 32, 111, 117, 116]
  rw [decide_eq_false h1] at q1
  rw [decide_eq_false h2] at q2
  have hb0 : Below w.heap.size w (w.alloc (.cells #[.int .i64 0, .int .i64 0, .int .i64 0, .slice none 0 0] 29)) := (Below.refl _ _).alloc (Nat.le_refl _) _
  have f0 := Blk.new w (evC 0 0 0 none 0 0) 29
  have hcut := refCut_calls s 32 (by omega) (w.alloc (.cells #[.int .i64 0, .int .i64 0, .int .i64 0, .slice none 0 0] 29))
  rw [hws] at hcut
  have HCut : Hid (Calls Tryd.prog 36 #[.string (Sp.bs s), .int .u8 ((32 : UInt8).toNat : Int)] (w.alloc (.cells #[.int .i64 0, .int .i64 0, .int .i64 0, .slice none 0 0] 29)) fun e w' => ∃ A C, e = .returned (.slice A 3 C) ∧ Mine w' (w.alloc (.cells #[.int .i64 0, .int .i64 0, .int .i64 0, .slice none 0 0] 29)).heap.size A 3 C (Sp.vals [a, b, c]) ∧ Below (w.alloc (.cells #[.int .i64 0, .int .i64 0, .int .i64 0, .slice none 0 0] 29)).heap.size (w.alloc (.cells #[.int .i64 0, .int .i64 0, .int .i64 0, .slice none 0 0] 29)) w') := Lib.hid hcut
  have HB0 := Lib.hid hb0
  have HF0 := Lib.hid f0
  clear hcut hb0 f0 h1 h2 hws
  go_enter Tryd.func18, Tryd.ntmps18
  go_wp2_with fail
  refine HCut.out.mono ?_
  rintro e w1 ⟨A, C, rfl, hm, hb1⟩
  have B1 := step HB0.out hb1
  have F1 := HF0.out.below hb1
  have u0 := F1.frozen 0
  have u1 := F1.frozen 1
  have u2 := F1.frozen 2
  have u3 := F1.frozen 3
  have z0 := F1.cells4
  have hbn : Below w1.heap.size w1 (w1.alloc (.cells #[.int .i64 0, .int .i64 0, .int .i64 0, .slice none 0 0] 29)) := (Below.refl _ _).alloc (Nat.le_refl _) _
  have F2 := F1.below hbn
  have v0 := F2.frozen 0
  have v1 := F2.frozen 1
  have v2 := F2.frozen 2
  have v3 := F2.frozen 3
  have z1 := F2.cells4
  have HF1 := Lib.hid F1
  have HF2 := Lib.hid F2
  have HB1 := Lib.hid B1
  have HB2 := Lib.hid (step B1 hbn)
  have hlt1 : w.heap.size < w1.heap.size := F1.lt
  clear B1 F1 F2 hbn hb1
  obtain ⟨g, rfl, hg0, hwd⟩ := mine_words hm (by decide)
  have hwd2 := hwd.below ((Below.refl w1.heap.size w1).alloc (Nat.le_refl _) (.cells #[.int .i64 0, .int .i64 0, .int .i64 0, .slice none 0 0] 29))
  have x0 : World.cell? _ ⟨g, 0, none⟩ = some (.string (Sp.bs a)) := hwd2.at_ 0 a rfl
  have x1 : World.cell? _ ⟨g, 1, none⟩ = some (.string (Sp.bs b)) := hwd2.at_ 1 b rfl
  have x2 : World.cell? _ ⟨g, 2, none⟩ = some (.string (Sp.bs c)) := hwd2.at_ 2 c rfl
  have HWd := Lib.hid hwd2
  have hgl := hwd.lt
  clear hwd hwd2 hm
  go_wp2_with fail
  have HN2 := Lib.hid (Blk.new w1 (evC 0 0 0 none 0 0) 29)
  refine (HBy.out _).mono ?_
  rintro e w3 hbr
  obtain ⟨A3, n3, c3, rfl, hd3, b3⟩ := bytes_any hbr
  clear hbr
  have hwd3 := HWd.out.below b3
  have y0 : World.cell? _ ⟨g, 0, none⟩ = some (.string (Sp.bs a)) := hwd3.at_ 0 a rfl
  have y1 : World.cell? _ ⟨g, 1, none⟩ = some (.string (Sp.bs b)) := hwd3.at_ 1 b rfl
  have y2 : World.cell? _ ⟨g, 2, none⟩ = some (.string (Sp.bs c)) := hwd3.at_ 2 c rfl
  have HD3 := Lib.hid hd3
  have HB3 := Lib.hid (step HB2.out b3)
  have HF3 := Lib.hid (HF2.out.below b3)
  have HN3 := Lib.hid (HN2.out.below b3)
  have HWd3 := Lib.hid hwd3
  have Hs3 := Lib.hid b3.size
  clear hd3 b3 hwd3
  go_wp2_with fail
  refine (HNu.out _).mono ?_
  rintro e w4 hnr
  obtain ⟨rfl, b4⟩ := num_any hnr
  clear hnr
  have hwd4 := HWd3.out.below b4
  have z0 : World.cell? _ ⟨g, 0, none⟩ = some (.string (Sp.bs a)) := hwd4.at_ 0 a rfl
  have z1 : World.cell? _ ⟨g, 1, none⟩ = some (.string (Sp.bs b)) := hwd4.at_ 1 b rfl
  have z2 : World.cell? _ ⟨g, 2, none⟩ = some (.string (Sp.bs c)) := hwd4.at_ 2 c rfl
  have HD4 := Lib.hid (fun t ht => (And.intro ((HD3.out t ht).1.below b4) (HD3.out t ht).2 : By w4 A3 n3 c3 t ∧ _))
  have HB4 := Lib.hid (step HB3.out b4)
  have F4 := HF3.out.below b4
  have N4 := HN3.out.below b4
  have f0 := F4.frozen 0
  have f1 := F4.frozen 1
  have f2 := F4.frozen 2
  have f3 := F4.frozen 3
  have f4 := F4.cells4
  have m4 := N4.cells4
  have HF4 := Lib.hid F4
  have HN4 := Lib.hid N4
  have HWd4 := Lib.hid hwd4
  have Hs4 := Lib.hid b4.size
  clear b4 F4 N4 hwd4
  have hbb : (Sp.numT b).isSome = true := by rw [HB.out]; rfl
  rw [hbb]
  clear hbb
  have hbg : (Sp.numT b).getD 0 = t := by rw [HB.out]; rfl
  rw [hbg]
  clear hbg
  go_wp2_with fail
  refine (HNc.out _).mono ?_
  rintro e w5 hnr
  obtain ⟨rfl, b5⟩ := num_any hnr
  clear hnr
  have hcb : (Sp.numT c).isSome = false := by rw [HC.out]; rfl
  rw [hcb]
  clear hcb
  have HB5 := Lib.hid (step HB4.out b5)
  have F5 := HF4.out.below b5
  have N5 := HN4.out.below b5
  have g0 := F5.frozen 0
  have g1 := F5.frozen 1
  have g2 := F5.frozen 2
  have g3 := F5.frozen 3
  have g4 := F5.cells4
  have m5 := N5.cells4
  have HF5 := Lib.hid F5
  clear b5 F5 N5
  go_wp2_with fail
  (try rw [Exit.noGoto_ret])
  have q := Blk.four HF5.out (.int .i64 0) (.int .i64 0) (.int .i64 0) (.slice none 0 0)
  refine bodyPost_ret (results_cell_tmp rfl _ _ _ _ _ rfl (ev_load q.1)) rfl ?_
  exact ReadRet.no HR.out (HB5.out.trans (q.2.low (B := w.heap.size) (by have := HB5.out.size; omega) (Nat.le_refl _)))
set_option maxRecDepth 100000 in
theorem rread_arm_miss1 (s : List UInt8) (hs : s.length ≤ 50000) (w : World) (h1 : s ≠ [100, 114, 111, 112, 32, 105, 110]) (h2 : s ≠ [100, 114, 111, 112, 32, 111, 117, 116]) (a b c : List UInt8) (hws : Sp.cutL 32 s = [a, b, c]) (ha : a = [97, 114, 109]) (hb : Sp.numT b = none) :
    Calls Tryd.prog 18 #[.string (Sp.bs s)] w fun e w' => ReadRet w s e w' := by
  have hr : Sp.readS s = none := by rw [Sp.readS_eq, hws, ha]; simp [Sp.readW, hb]
  have HR := Lib.hid hr
  have HBy := Lib.hid (rbytes_calls b (by have := cut_words hs (show b ∈ Sp.cutL 32 s by rw [hws]; simp); omega))
  have HNu := Lib.hid (rnumber_calls b (by have := cut_words hs (show b ∈ Sp.cutL 32 s by rw [hws]; simp); omega))
  have HNc := Lib.hid (rnumber_calls c (by have := cut_words hs (show c ∈ Sp.cutL 32 s by rw [hws]; simp); omega))
  have p0 := str_eqc a [105, 110]
  rw [decide_eq_false (by rw [ha]; decide)] at p0
  have p1 := str_eqc a [111, 117, 116]
  rw [decide_eq_false (by rw [ha]; decide)] at p1
  have p2 := str_eqc a [116, 105, 99, 107]
  rw [decide_eq_false (by rw [ha]; decide)] at p2
  have p3 := str_eqc a [114, 111, 111, 109]
  rw [decide_eq_false (by rw [ha]; decide)] at p3
  have p4 := str_eqc a [102, 97, 105, 108, 115, 121, 110, 99]
  rw [decide_eq_false (by rw [ha]; decide)] at p4
  have p5 := str_eqc a [112, 111, 119, 101, 114]
  rw [decide_eq_false (by rw [ha]; decide)] at p5
  have p6 := str_eqc a [97, 114, 109]
  rw [decide_eq_true ha] at p6
  have HB := Lib.hid hb
  clear hr ha hb
  have huE := Tryd.underlying29
  have hz := Sp.bs_size s
  have q1 := str_eqc s [100, 114, 111, 112, 32, 105, 110]
  have q2 := str_eqc s [100, 114, 111, 112, 32, 111, 117, 116]
  rw [decide_eq_false h1] at q1
  rw [decide_eq_false h2] at q2
  have hb0 : Below w.heap.size w (w.alloc (.cells #[.int .i64 0, .int .i64 0, .int .i64 0, .slice none 0 0] 29)) := (Below.refl _ _).alloc (Nat.le_refl _) _
  have f0 := Blk.new w (evC 0 0 0 none 0 0) 29
  have hcut := refCut_calls s 32 (by omega) (w.alloc (.cells #[.int .i64 0, .int .i64 0, .int .i64 0, .slice none 0 0] 29))
  rw [hws] at hcut
  have HCut : Hid (Calls Tryd.prog 36 #[.string (Sp.bs s), .int .u8 ((32 : UInt8).toNat : Int)] (w.alloc (.cells #[.int .i64 0, .int .i64 0, .int .i64 0, .slice none 0 0] 29)) fun e w' => ∃ A C, e = .returned (.slice A 3 C) ∧ Mine w' (w.alloc (.cells #[.int .i64 0, .int .i64 0, .int .i64 0, .slice none 0 0] 29)).heap.size A 3 C (Sp.vals [a, b, c]) ∧ Below (w.alloc (.cells #[.int .i64 0, .int .i64 0, .int .i64 0, .slice none 0 0] 29)).heap.size (w.alloc (.cells #[.int .i64 0, .int .i64 0, .int .i64 0, .slice none 0 0] 29)) w') := Lib.hid hcut
  have HB0 := Lib.hid hb0
  have HF0 := Lib.hid f0
  clear hcut hb0 f0 h1 h2 hws
  go_enter Tryd.func18, Tryd.ntmps18
  go_wp2_with fail
  refine HCut.out.mono ?_
  rintro e w1 ⟨A, C, rfl, hm, hb1⟩
  have B1 := step HB0.out hb1
  have F1 := HF0.out.below hb1
  have u0 := F1.frozen 0
  have u1 := F1.frozen 1
  have u2 := F1.frozen 2
  have u3 := F1.frozen 3
  have z0 := F1.cells4
  have hbn : Below w1.heap.size w1 (w1.alloc (.cells #[.int .i64 0, .int .i64 0, .int .i64 0, .slice none 0 0] 29)) := (Below.refl _ _).alloc (Nat.le_refl _) _
  have F2 := F1.below hbn
  have v0 := F2.frozen 0
  have v1 := F2.frozen 1
  have v2 := F2.frozen 2
  have v3 := F2.frozen 3
  have z1 := F2.cells4
  have HF1 := Lib.hid F1
  have HF2 := Lib.hid F2
  have HB1 := Lib.hid B1
  have HB2 := Lib.hid (step B1 hbn)
  have hlt1 : w.heap.size < w1.heap.size := F1.lt
  clear B1 F1 F2 hbn hb1
  obtain ⟨g, rfl, hg0, hwd⟩ := mine_words hm (by decide)
  have hwd2 := hwd.below ((Below.refl w1.heap.size w1).alloc (Nat.le_refl _) (.cells #[.int .i64 0, .int .i64 0, .int .i64 0, .slice none 0 0] 29))
  have x0 : World.cell? _ ⟨g, 0, none⟩ = some (.string (Sp.bs a)) := hwd2.at_ 0 a rfl
  have x1 : World.cell? _ ⟨g, 1, none⟩ = some (.string (Sp.bs b)) := hwd2.at_ 1 b rfl
  have x2 : World.cell? _ ⟨g, 2, none⟩ = some (.string (Sp.bs c)) := hwd2.at_ 2 c rfl
  have HWd := Lib.hid hwd2
  have hgl := hwd.lt
  clear hwd hwd2 hm
  go_wp2_with fail
  have HN2 := Lib.hid (Blk.new w1 (evC 0 0 0 none 0 0) 29)
  refine (HBy.out _).mono ?_
  rintro e w3 hbr
  obtain ⟨A3, n3, c3, rfl, hd3, b3⟩ := bytes_any hbr
  clear hbr
  have hwd3 := HWd.out.below b3
  have y0 : World.cell? _ ⟨g, 0, none⟩ = some (.string (Sp.bs a)) := hwd3.at_ 0 a rfl
  have y1 : World.cell? _ ⟨g, 1, none⟩ = some (.string (Sp.bs b)) := hwd3.at_ 1 b rfl
  have y2 : World.cell? _ ⟨g, 2, none⟩ = some (.string (Sp.bs c)) := hwd3.at_ 2 c rfl
  have HD3 := Lib.hid hd3
  have HB3 := Lib.hid (step HB2.out b3)
  have HF3 := Lib.hid (HF2.out.below b3)
  have HN3 := Lib.hid (HN2.out.below b3)
  have HWd3 := Lib.hid hwd3
  have Hs3 := Lib.hid b3.size
  clear hd3 b3 hwd3
  go_wp2_with fail
  refine (HNu.out _).mono ?_
  rintro e w4 hnr
  obtain ⟨rfl, b4⟩ := num_any hnr
  clear hnr
  have hwd4 := HWd3.out.below b4
  have z0 : World.cell? _ ⟨g, 0, none⟩ = some (.string (Sp.bs a)) := hwd4.at_ 0 a rfl
  have z1 : World.cell? _ ⟨g, 1, none⟩ = some (.string (Sp.bs b)) := hwd4.at_ 1 b rfl
  have z2 : World.cell? _ ⟨g, 2, none⟩ = some (.string (Sp.bs c)) := hwd4.at_ 2 c rfl
  have HD4 := Lib.hid (fun t ht => (And.intro ((HD3.out t ht).1.below b4) (HD3.out t ht).2 : By w4 A3 n3 c3 t ∧ _))
  have HB4 := Lib.hid (step HB3.out b4)
  have F4 := HF3.out.below b4
  have N4 := HN3.out.below b4
  have f0 := F4.frozen 0
  have f1 := F4.frozen 1
  have f2 := F4.frozen 2
  have f3 := F4.frozen 3
  have f4 := F4.cells4
  have m4 := N4.cells4
  have HF4 := Lib.hid F4
  have HN4 := Lib.hid N4
  have HWd4 := Lib.hid hwd4
  have Hs4 := Lib.hid b4.size
  clear b4 F4 N4 hwd4
  have hbb : (Sp.numT b).isSome = false := by rw [HB.out]; rfl
  rw [hbb]
  clear hbb
  go_wp2_with fail
  (try rw [Exit.noGoto_ret])
  have q := Blk.four HF4.out (.int .i64 0) (.int .i64 0) (.int .i64 0) (.slice none 0 0)
  refine bodyPost_ret (results_cell_tmp rfl _ _ _ _ _ rfl (ev_load q.1)) rfl ?_
  exact ReadRet.no HR.out (HB4.out.trans (q.2.low (B := w.heap.size) (by have := HB4.out.size; omega) (Nat.le_refl _)))
end Tr
end Go.Proofs.YtpchfmeaplhodaaDoor
namespace Go.Proofs.YtpchfmeaplhodaaDoor
set_option linter.unusedVariables false
set_option linter.unusedSimpArgs false
open Go.RowKit Go.Shelf
namespace Tr
open Ap Sg
set_option maxHeartbeats 2000000
theorem rread_calls (s : List UInt8) (hs : s.length ≤ 50000) (w : World) :
    Calls Tryd.prog 18 #[.string (Sp.bs s)] w fun e w' => ReadRet w s e w' := by
  by_cases h1 : s = [100, 114, 111, 112, 32, 105, 110]
  · exact rread_drop_in s hs w h1
  by_cases h2 : s = [100, 114, 111, 112, 32, 111, 117, 116]
  · exact rread_drop_out s hs w h2
  have hne := Sp.cutL_ne 32 s
  match hws : Sp.cutL 32 s with
  | [] => exact absurd hws hne
  | [a] => exact rread_one s hs w h1 h2 a hws
  | [a, b] =>
    by_cases n6 : a = [97, 114, 109]
    · exact rread_arm2 s hs w h1 h2 a b hws n6
    by_cases n0 : a = [105, 110]
    · cases hb : Sp.bytesT b with
      | none => exact rread_in_miss s hs w h1 h2 a b hws n0 hb
      | some t => exact rread_in_hit s hs w h1 h2 a b hws n0 t hb
    by_cases n1 : a = [111, 117, 116]
    · cases hb : Sp.bytesT b with
      | none => exact rread_out_miss s hs w h1 h2 a b hws n1 hb
      | some t => exact rread_out_hit s hs w h1 h2 a b hws n1 t hb
    by_cases n2 : a = [116, 105, 99, 107]
    · cases hb : Sp.numT b with
      | none => exact rread_tick_miss s hs w h1 h2 a b hws n2 hb
      | some t => exact rread_tick_hit s hs w h1 h2 a b hws n2 t hb
    by_cases n3 : a = [114, 111, 111, 109]
    · cases hb : Sp.numT b with
      | none => exact rread_room_miss s hs w h1 h2 a b hws n3 hb
      | some t => exact rread_room_hit s hs w h1 h2 a b hws n3 t hb
    by_cases n4 : a = [102, 97, 105, 108, 115, 121, 110, 99]
    · cases hb : Sp.numT b with
      | none => exact rread_failsync_miss s hs w h1 h2 a b hws n4 hb
      | some t => exact rread_failsync_hit s hs w h1 h2 a b hws n4 t hb
    by_cases n5 : a = [112, 111, 119, 101, 114]
    · cases hb : Sp.numT b with
      | none => exact rread_power_miss s hs w h1 h2 a b hws n5 hb
      | some t => exact rread_power_hit s hs w h1 h2 a b hws n5 t hb
    exact rread_other s hs w h1 h2 a b hws n0 n1 n2 n3 n4 n5 n6
  | [a, b, c] =>
    by_cases n6 : a = [97, 114, 109]
    · cases hb : Sp.numT b with
      | none => exact rread_arm_miss1 s hs w h1 h2 a b c hws n6 hb
      | some t =>
        cases hc : Sp.numT c with
        | none => exact rread_arm_miss2 s hs w h1 h2 a b c hws n6 t hb hc
        | some u => exact rread_arm_hit s hs w h1 h2 a b c hws n6 t u hb hc
    · exact rread_three s hs w h1 h2 a b c hws n6
  | a :: b :: c :: d :: l => exact rread_many s hs w h1 h2 _ _ hws rfl (by simp) (by have := Sp.cutL_length 32 s; rw [hws] at this; have := List.count_le_length (a := (32 : UInt8)) (l := s); omega)
end Tr
end Go.Proofs.YtpchfmeaplhodaaDoor
