/-
  A part of the proof of this seat's laws: what tells signs.
-/
import Derived.Test.YtkjhjeaeffooaaaRf6
import Derived.Laws.BytesArg
namespace Go.Proofs.Ytkjhjeaeffooaaa
set_option linter.unusedVariables false
set_option linter.unusedSimpArgs false
open Go.RowKit
namespace Sp
/-- what tells signs -/
def told (a b c d f : Int) : ByteArray := (⟨#[77, 83, 72]⟩ : ByteArray) ++ strOfNums [a, b, c, d, f]
end Sp
namespace Rf
open Dl
set_option maxHeartbeats 1000000
/-- five's row as a string -/
theorem five_str (a b c d f : Int) (w : World) : (convert 27 9 (.slice (some ⟨w.heap.size + 1, 0, none⟩) 5 5)).run Try.prog ((w.alloc (.cells #[.int .u8 a, .int .u8 b, .int .u8 c, .int .u8 d, .int .u8 f] 23)).alloc (.cells #[.int .u8 a, .int .u8 b, .int .u8 c, .int .u8 d, .int .u8 f] 5)) =
    .ok (.string (strOfNums [a, b, c, d, f])) ((w.alloc (.cells #[.int .u8 a, .int .u8 b, .int .u8 c, .int .u8 d, .int .u8 f] 23)).alloc (.cells #[.int .u8 a, .int .u8 b, .int .u8 c, .int .u8 d, .int .u8 f] 5)) :=
  run_convert_bytes_arg _ 27 5 Try.underlying27 Try.underlying5 (w.heap.size + 1) 0 5 5 [a, b, c, d, f] rfl (fun i hi => by rw [Nat.zero_add]; exact five_row a b c d f w i hi) 9 Try.underlying9
theorem rwrite_calls (a b c d f : Int) (w : World) :
    Calls Try.prog 12 #[.agg #[.int .u8 a, .int .u8 b, .int .u8 c, .int .u8 d, .int .u8 f]] w fun e w' =>
      e = .returned (.string (Sp.told a b c d f)) ∧ Below w.heap.size w w' := by
  have huD := Try.underlying23
  have hcv := five_str a b c d f (w.alloc (.cells #[.int .u8 a, .int .u8 b, .int .u8 c, .int .u8 d, .int .u8 f] 23))
  rw [World.size_alloc] at hcv
  go_enter Try.func12, Try.ntmps12
  go_wp2_with (go_at_call 18; refine (rfive_calls a b c d f _).mono ?_; rintro e w' ⟨rfl, rfl⟩)
  go_ret
  exact ⟨rfl, (((Below.refl _ _).alloc (Nat.le_refl _) _).alloc (by simp) _).alloc (by simp <;> omega) _⟩
theorem write_no (a b c d f : Int) (w : World) (h : ∀ W, Calls Try.prog 6 #[.agg #[.int .u8 a, .int .u8 b, .int .u8 c, .int .u8 d, .int .u8 f]] W fun e w' => e = .returned (.bool false) ∧ Below W.heap.size W w') :
    Calls Try.prog 10 #[.agg #[.int .u8 a, .int .u8 b, .int .u8 c, .int .u8 d, .int .u8 f]] w fun e w' =>
      e = .returned (.tuple #[.string ⟨#[]⟩, .int .i64 11]) ∧ Below w.heap.size w w' := by
  have huD := Try.underlying23
  have H := fun W => Lib.hid (h W)
  clear h
  go_enter Try.func10, Try.ntmps10
  go_wp2_with (go_at_call 6; refine (H _).out.mono ?_; rintro e w' ⟨rfl, hb⟩)
  go_ret2
  exact ⟨rfl, ((Below.refl _ _).alloc (Nat.le_refl _) _).trans (hb.mono (by simp))⟩
theorem write_yes (a b c d f : Int) (w : World) (h : ∀ W, Calls Try.prog 6 #[.agg #[.int .u8 a, .int .u8 b, .int .u8 c, .int .u8 d, .int .u8 f]] W fun e w' => e = .returned (.bool true) ∧ Below W.heap.size W w') :
    Calls Try.prog 10 #[.agg #[.int .u8 a, .int .u8 b, .int .u8 c, .int .u8 d, .int .u8 f]] w fun e w' =>
      e = .returned (.tuple #[.string (Sp.told a b c d f), .int .i64 0]) ∧ Below w.heap.size w w' := by
  have huD := Try.underlying23
  have hcv := fun w => five_str a b c d f w
  have H := fun W => Lib.hid (h W)
  clear h
  have h5 := Five.new a b c d f w
  have hB : Below w.heap.size w (w.alloc (.cells #[.int .u8 a, .int .u8 b, .int .u8 c, .int .u8 d, .int .u8 f] 23)) := (Below.refl _ _).alloc (Nat.le_refl _) _
  go_enter Try.func10, Try.ntmps10
  go_wp2_with fail
  refine (H _).out.mono ?_
  rintro e w1 ⟨rfl, hb⟩
  obtain ⟨hB1, h51⟩ := Five.keep ⟨hB, h5⟩ hb
  have hc := h51.cells
  clear hB h5 hb H
  have HB := Lib.hid hB1
  go_wp2_with (go_at_call 14; refine (five_calls a b c d f _).mono ?_; rintro e w' ⟨rfl, rfl⟩)
  go_ret2
  exact ⟨rfl, (HB.out.alloc HB.out.size _).alloc (Nat.le_trans HB.out.size (by simp)) _⟩
end Rf
end Go.Proofs.Ytkjhjeaeffooaaa
