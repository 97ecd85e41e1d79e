/-
  The walk of the law DelimReads.
-/
import Derived.Test.YtkjhjeaeffooaaaAl6
import Derived.Test.YtkjhjeaeffooaaaRd6
import Derived.Test.YtkjhjeaeffooaaaIn
namespace Go.Proofs.Ytkjhjeaeffooaaa
set_option linter.unusedVariables false
set_option linter.unusedSimpArgs false
open Go.RowKit
namespace Lw
open Dl Rf
set_option maxHeartbeats 4000000
theorem reads_long (A : Option Addr) (n cp : Nat) (xs : List Int) (a b c d f : Int) (w : World) (h : 3000 < n) :
    Calls Try.prog 4 #[.slice A n cp, .agg #[.int .u8 a, .int .u8 b, .int .u8 c, .int .u8 d, .int .u8 f]] w fun e w' => e = .returned (.bool true) ∧ Below w.heap.size w w' := by
  have huD := Try.underlying23
  go_enter Try.func4, Try.ntmps4
  go_wp2_with (go_at_call 7; refine (alive_calls _).mono ?_; rintro e w' ⟨rfl, hb⟩)
  go_ret
  exact ⟨rfl, ((Below.refl _ _).alloc (Nat.le_refl _) _).trans (hb.mono (by simp))⟩
/-- what stands in the law -/
structure Rs (w : World) (g5 g7 : Nat) (a b c d f t0 t1 t2 t3 t4 : Int) (w' : World) : Prop where
  below : Below w.heap.size w w'
  d : Five w.heap.size a b c d f w'
  x : Five g5 t0 t1 t2 t3 t4 w'
  y : Five g7 t0 t1 t2 t3 t4 w'
theorem Rs.step {w W W' : World} {g5 g7 : Nat} {a b c d f t0 t1 t2 t3 t4 : Int} (h : Rs w g5 g7 a b c d f t0 t1 t2 t3 t4 W) (hb : Below W.heap.size W W') : Rs w g5 g7 a b c d f t0 t1 t2 t3 t4 W' :=
  ⟨h.below.trans (hb.mono h.below.size), h.d.below hb h.d.lt, h.x.below hb h.x.lt, h.y.below hb h.y.lt⟩
theorem reads_short (A : Option Addr) (n cp : Nat) (xs : List Int) (a b c d f : Int) (w : World) (h : n ≤ 3000) (hx : Opn.Bytes w A n cp xs) (ha : Sp.isByte a) (hb : Sp.isByte b) (hc : Sp.isByte c) (hd : Sp.isByte d) (hf : Sp.isByte f) :
    Calls Try.prog 4 #[.slice A n cp, .agg #[.int .u8 a, .int .u8 b, .int .u8 c, .int .u8 d, .int .u8 f]] w fun e w' => e = .returned (.bool true) ∧ Below w.heap.size w w' := by
  have huD := Try.underlying23
  have hB0 : Below w.heap.size w (w.alloc (.cells #[.int .u8 a, .int .u8 b, .int .u8 c, .int .u8 d, .int .u8 f] 23)) := (Below.refl _ _).alloc (Nat.le_refl _) _
  have h50 := Five.new a b c d f w
  have Read := fun W (hW : Below w.heap.size w W) => Lib.hid (read_calls A n cp xs hx.cap hx.len W (hx.below hW).at9 hx.byte)
  have Rread := fun W (hW : Below w.heap.size w W) => Lib.hid (rread_calls A n cp xs hx.cap hx.len W (hx.below hW).at9 hx.byte)
  have Right := fun W => right_calls a b c d f W ha hb hc hd hf
  have Rright := fun W => rright_calls a b c d f W
  clear ha hb hc hd hf hx
  generalize Sp.readD xs = T at *
  obtain ⟨t0, t1, t2, t3, t4⟩ := T
  generalize Sp.readE xs = er at *
  have hq := fun n w => (eqD n w t0 t1 t2 t3 t4 t0 t1 t2 t3 t4).trans (by rw [show eq5 t0 t1 t2 t3 t4 t0 t1 t2 t3 t4 = true from by simp [eq5]])
  have hr : (Sp.right a b c d f = true ∧ Hid (∀ w, Calls Try.prog 10 #[.agg #[.int .u8 a, .int .u8 b, .int .u8 c, .int .u8 d, .int .u8 f]] w fun e w' => e = .returned (.tuple #[.string (Sp.told a b c d f), .int .i64 0]) ∧ Below w.heap.size w w')) ∨
    (Sp.right a b c d f = false ∧ Hid (∀ w, Calls Try.prog 10 #[.agg #[.int .u8 a, .int .u8 b, .int .u8 c, .int .u8 d, .int .u8 f]] w fun e w' => e = .returned (.tuple #[.string ⟨#[]⟩, .int .i64 11]) ∧ Below w.heap.size w w')) := by
    cases hr : Sp.right a b c d f with
    | true => rw [hr] at Right; exact .inl ⟨rfl, fun w => write_yes a b c d f w Right⟩
    | false => rw [hr] at Right; exact .inr ⟨rfl, fun w => write_no a b c d f w Right⟩
  generalize Sp.right a b c d f = r at *
  have Right := fun W => Lib.hid (Right W)
  have Rright := fun W => Lib.hid (Rright W)
  rcases hr with ⟨rfl, HWr⟩ | ⟨rfl, HWr⟩
  all_goals
    go_enter Try.func4, Try.ntmps4
    go_wp2_with fail
    refine (Read _ hB0).out.mono ?_
    rintro e w1 ⟨rfl, hb1⟩
    have hB1 := hB0.trans (hb1.mono hB0.size)
    have h51 := h50.below hb1 h50.lt
    have hB2 := hB1.alloc hB1.size (.cells #[.int .u8 t0, .int .u8 t1, .int .u8 t2, .int .u8 t3, .int .u8 t4] 23)
    have h52 := h51.alloc (.cells #[.int .u8 t0, .int .u8 t1, .int .u8 t2, .int .u8 t3, .int .u8 t4] 23)
    have hx2 := Five.new t0 t1 t2 t3 t4 w1
    clear hb1 hB1 h51
    go_wp2_with fail
    generalize w1.alloc (.cells #[.int .u8 t0, .int .u8 t1, .int .u8 t2, .int .u8 t3, .int .u8 t4] 23) = W2 at *
    refine (Rread _ hB2).out.mono ?_
    rintro e w3 ⟨rfl, hb3⟩
    have hB3 := hB2.trans (hb3.mono hB2.size)
    have h53 := h52.below hb3 h52.lt
    have hx3 := hx2.below hb3 hx2.lt
    have hB4 := hB3.alloc hB3.size (.cells #[.int .u8 t0, .int .u8 t1, .int .u8 t2, .int .u8 t3, .int .u8 t4] 23)
    have h54 := h53.alloc (.cells #[.int .u8 t0, .int .u8 t1, .int .u8 t2, .int .u8 t3, .int .u8 t4] 23)
    have hx4 := hx3.alloc (.cells #[.int .u8 t0, .int .u8 t1, .int .u8 t2, .int .u8 t3, .int .u8 t4] 23)
    have hy4 := Five.new t0 t1 t2 t3 t4 w3
    have hc4 := h54.cells
    clear hb3 hB3 h53 hx3 hB2 h52 hx2 hB0 h50
    generalize w1.heap.size = g5 at *
    go_wp2_with fail
    generalize w3.alloc (.cells #[.int .u8 t0, .int .u8 t1, .int .u8 t2, .int .u8 t3, .int .u8 t4] 23) = W4 at *
    generalize w3.heap.size = g7 at *
    refine (HWr.out _).mono ?_
    rintro e w5 ⟨rfl, hb5⟩
    have h6 : Rs w g5 g7 a b c d f t0 t1 t2 t3 t4 w5 := Rs.step ⟨hB4, h54, hx4, hy4⟩ hb5
    clear hB4 h54 hx4 hy4 hc4 hb5 HWr
    go_wp2_with fail
    have hl0 : ∀ x : Qr.In (Rs w g5 g7 a b c d f t0 t1 t2 t3 t4), x.w.cell? ⟨w.heap.size, 0, none⟩ = some (.int .u8 a) ∧ x.w.cell? ⟨w.heap.size, 1, none⟩ = some (.int .u8 b) ∧ x.w.cell? ⟨w.heap.size, 2, none⟩ = some (.int .u8 c) ∧
      x.w.cell? ⟨w.heap.size, 3, none⟩ = some (.int .u8 d) ∧ x.w.cell? ⟨w.heap.size, 4, none⟩ = some (.int .u8 f) := fun x => x.h.d.cells
    have hl1 : ∀ x : Qr.In (Rs w g5 g7 a b c d f t0 t1 t2 t3 t4), x.w.cell? ⟨g5, 0, none⟩ = some (.int .u8 t0) ∧ x.w.cell? ⟨g5, 1, none⟩ = some (.int .u8 t1) ∧ x.w.cell? ⟨g5, 2, none⟩ = some (.int .u8 t2) ∧
      x.w.cell? ⟨g5, 3, none⟩ = some (.int .u8 t3) ∧ x.w.cell? ⟨g5, 4, none⟩ = some (.int .u8 t4) := fun x => x.h.x.cells
    have hl2 : ∀ x : Qr.In (Rs w g5 g7 a b c d f t0 t1 t2 t3 t4), x.w.cell? ⟨g7, 0, none⟩ = some (.int .u8 t0) ∧ x.w.cell? ⟨g7, 1, none⟩ = some (.int .u8 t1) ∧ x.w.cell? ⟨g7, 2, none⟩ = some (.int .u8 t2) ∧
      x.w.cell? ⟨g7, 3, none⟩ = some (.int .u8 t3) ∧ x.w.cell? ⟨g7, 4, none⟩ = some (.int .u8 t4) := fun x => x.h.y.cells
    have hne : Nonempty (Qr.In (Rs w g5 g7 a b c d f t0 t1 t2 t3 t4)) := ⟨⟨_, h6⟩⟩
    refine Qr.region_in (S := Rs w g5 g7 a b c d f t0 t1 t2 t3 t4) (by kernel_rfl) (by kernel_rfl) (h6.step (Below.refl _ _).drew) ?_
    repeat (go_big_quiet_step (first | (go_at_call 7; exact Qr.call (alive_calls _) (fun _ _ => Rs.step)) | (go_at_call 6; exact Qr.call (Right _).out (fun _ _ => Rs.step)) | (go_at_call 11; exact Qr.call (Rright _).out (fun _ _ => Rs.step))))
    refine wpQuiet_nil ?_
    rintro _ ⟨⟨W8, h8⟩, rfl⟩
    clear hl0 hl1 hl2 hne h6 hq
    have hc8 := h8.d.cells
    go_wp2_with fail
    refine (Rright _).out.mono ?_
    rintro e w9 ⟨rfl, hb9⟩
    have h9 := h8.step hb9
    have hc9 := h9.d.cells
    clear h8 hc8 hb9
    go_wp2_with (go_at_call 12; refine (rwrite_calls a b c d f _).mono ?_; rintro e w10 ⟨rfl, hb10⟩; have hB10 := h9.below.trans (hb10.mono h9.below.size))
    go_ret
    exact ⟨by first | rfl | simp, by first | exact hB10 | exact h9.below⟩
/-- the law DelimReads, walked -/
theorem lawReads (A : Option Addr) (n cp : Nat) (xs : List Int) (a b c d f : Int) (w : World) (hx : Opn.Bytes w A n cp xs) (ha : Sp.isByte a) (hb : Sp.isByte b) (hc : Sp.isByte c) (hd : Sp.isByte d) (hf : Sp.isByte f) :
    Calls Try.prog 4 #[.slice A n cp, .agg #[.int .u8 a, .int .u8 b, .int .u8 c, .int .u8 d, .int .u8 f]] w fun e w' => e = .returned (.bool true) ∧ Below w.heap.size w w' := by
  by_cases h : n ≤ 3000
  · exact reads_short A n cp xs a b c d f w h hx ha hb hc hd hf
  · exact reads_long A n cp xs a b c d f w (by omega)
end Lw
end Go.Proofs.Ytkjhjeaeffooaaa
