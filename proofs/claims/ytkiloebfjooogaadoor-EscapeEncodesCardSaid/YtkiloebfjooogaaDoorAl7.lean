/-
  A part of the proof of this seat's laws: the plain signs; the document's examples.
-/
import Derived.Test.YtkiloebfjooogaaDoorEs5
namespace Go.Proofs.YtkiloebfjooogaaDoor
set_option linter.unusedVariables false
set_option linter.unusedSimpArgs false
open Go.RowKit Go.Shelf
namespace Es
open Ap Mp Sg
set_option maxHeartbeats 4000000
/-- the plain signs -/
abbrev pl : Value := .agg #[.int .u8 124, .int .u8 94, .int .u8 126, .int .u8 92, .int .u8 38]
theorem rt_plain : rtB 124 94 126 92 38 = true := Sp.right_plain
abbrev encP : List UInt8 → List UInt8 := Sp.enc 124 94 126 92 38
abbrev decP : List UInt8 → Except Nat (List UInt8) := Sp.dec 124 94 126 92 38
theorem plain_calls (w : World) : Calls Tryd.prog 13 #[] w fun e w' => e = .returned pl ∧ Below w.heap.size w w' := by
  have huD := Tryd.underlying23
  go_enter Tryd.func13, Tryd.ntmps13
  go_wp2
  exact bodyPost_ret (v := .agg #[.int .u8 124, .int .u8 94, .int .u8 126, .int .u8 92, .int .u8 38]) (by simp [results, Tryd.results13, go_sem]) rfl ⟨rfl, (Below.refl _ _).alloc (Nat.le_refl _) _⟩
theorem encP_calls (s : List UInt8) (hs : s.length ≤ 100000) (w : World) :
    Calls Tryd.prog 10 #[.string (Sp.bs s), pl] w fun e w' => e = .returned (.tuple #[.string (Sp.bs (encP s)), .int .i64 0]) ∧ Below w.heap.size w w' := encode_yes s hs 124 94 126 92 38 rt_plain w
theorem decP_calls (s : List UInt8) (hs : s.length ≤ 100000) (w : World) (hml : Ml w) :
    Calls Tryd.prog 11 #[.string (Sp.bs s), pl] w fun e w' => e = .returned (Sp.decV (decP s) s.length) ∧ Below w.heap.size w w' := decode_yes s hs 124 94 126 92 38 rt_plain w hml
theorem cleanP_calls (s : List UInt8) (hs : s.length ≤ 100000) (w : World) :
    Calls Tryd.prog 12 #[.string (Sp.bs s), pl] w fun e w' => e = .returned (.bool (Sp.clean 124 94 126 92 38 s)) ∧ Below w.heap.size w w' := clean_calls s hs 124 94 126 92 38 w
set_option maxRecDepth 100000 in
theorem alive_calls (w : World) (hml : Ml w) : Calls Tryd.prog 9 #[] w fun e w' => e = .returned (.bool true) ∧ Below w.heap.size w w' := by
  have h1 : ∀ w, Calls Tryd.prog 10 #[.string ⟨#[97, 124, 98, 92, 99]⟩, pl] w fun e w' => e = .returned (.tuple #[.string ⟨#[97, 92, 70, 92, 98, 92, 69, 92, 99]⟩, .int .i64 0]) ∧ Below w.heap.size w w' := fun w => by
    have h := encP_calls [97, 124, 98, 92, 99] (by decide) w
    rw [show encP [97, 124, 98, 92, 99] = [97, 92, 70, 92, 98, 92, 69, 92, 99] by decide +kernel] at h
    exact h
  have h2 : ∀ w, Ml w → Calls Tryd.prog 11 #[.string ⟨#[92, 88, 48, 68, 48, 65, 92]⟩, pl] w fun e w' => e = .returned (.tuple #[.string ⟨#[13, 10]⟩, .int .i64 7, .int .i64 0]) ∧ Below w.heap.size w w' := fun w hm => by
    have h := decP_calls [92, 88, 48, 68, 48, 65, 92] (by decide) w hm
    rw [show decP [92, 88, 48, 68, 48, 65, 92] = .ok [13, 10] by kernel_rfl] at h
    exact h
  have h3 : ∀ w, Ml w → Calls Tryd.prog 11 #[.string ⟨#[97, 92, 81, 92]⟩, pl] w fun e w' => e = .returned (.tuple #[.string ⟨#[]⟩, .int .i64 1, .int .i64 10]) ∧ Below w.heap.size w w' := fun w hm => by
    have h := decP_calls [97, 92, 81, 92] (by decide) w hm
    rw [show decP [97, 92, 81, 92] = .error 1 by kernel_rfl] at h
    exact h
  have H1 := Lib.hid h1
  have H2 := Lib.hid h2
  have H3 := Lib.hid h3
  have Hml := Lib.hid hml
  clear h1 h2 h3 hml
  go_enter Tryd.func9, Tryd.ntmps9
  go_wp2_with fail
  refine (plain_calls _).mono ?_
  rintro e w1 ⟨rfl, b1⟩
  have k1 := Lib.hid b1
  clear b1
  go_wp2_with fail
  refine (H1.out _).mono ?_
  rintro e w2 ⟨rfl, b2⟩
  have k2 := Lib.hid (step k1.out b2)
  clear b2 k1
  go_wp2_with fail
  refine (plain_calls _).mono ?_
  rintro e w3 ⟨rfl, b3⟩
  have k3 := Lib.hid (step k2.out b3)
  have m3 := Lib.hid (Hml.out.below k3.out)
  clear b3 k2
  go_wp2_with fail
  refine (H2.out _ m3.out).mono ?_
  rintro e w4 ⟨rfl, b4⟩
  have k4 := Lib.hid (step k3.out b4)
  clear b4 k3 m3
  go_wp2_with fail
  refine (plain_calls _).mono ?_
  rintro e w5 ⟨rfl, b5⟩
  have k5 := Lib.hid (step k4.out b5)
  have m5 := Lib.hid (Hml.out.below k5.out)
  clear b5 k4
  go_wp2_with fail
  refine (H3.out _ m5.out).mono ?_
  rintro e w6 ⟨rfl, b6⟩
  have k6 := Lib.hid (step k5.out b6)
  clear b6 k5 m5
  go_wp2_with fail
  go_ret
  exact ⟨rfl, k6.out⟩
end Es
end Go.Proofs.YtkiloebfjooogaaDoor
