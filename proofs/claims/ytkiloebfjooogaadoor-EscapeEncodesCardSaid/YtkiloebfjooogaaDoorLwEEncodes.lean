/-
  A part of the proof of this seat's laws: EscapeEncodes.
-/
import Derived.Test.YtkiloebfjooogaaDoorAl7
import Derived.Test.YtkiloebfjooogaaDoorRf9
namespace Go.Proofs.YtkiloebfjooogaaDoor
set_option linter.unusedVariables false
set_option linter.unusedSimpArgs false
open Go.RowKit Go.Shelf
namespace Es
open Ap Mp Sg
set_option maxHeartbeats 8000000
theorem byte_of2 {a : Int} (h : 0 ≤ a ∧ a ≤ 255) : ∃ x : UInt8, a = (x.toNat : Int) := ⟨UInt8.ofNat a.toNat, by simp [UInt8.toNat_ofNat]; omega⟩
theorem eenc_long (s : List UInt8) (F P R E U : UInt8) (w : World) (hs : 2000 < s.length) (hm : s.length ≤ 140737488351232) (hml : Ml w) :
    Calls Tryd.prog 8 #[.string (Sp.bs s), dv F P R E U] w fun e w' => e = .returned (.bool true) ∧ Below w.heap.size w w' := by
  have huD := Tryd.underlying23
  have hz := Sp.bs_size s
  have h1 : (2000 : Int) < (s.length : Int) := by omega
  have hB0 : Below w.heap.size w (w.alloc (.cells #[.int .u8 (F.toNat : Int), .int .u8 (P.toNat : Int), .int .u8 (R.toNat : Int), .int .u8 (E.toNat : Int), .int .u8 (U.toNat : Int)] 23)) := (Below.refl _ _).alloc (Nat.le_refl _) _
  have hm0 := Lib.hid (hml.below hB0)
  clear hml
  go_enter Tryd.func8, Tryd.ntmps8
  go_wp2_with fail
  refine (alive_calls _ hm0.out).mono ?_
  rintro e w1 ⟨rfl, b1⟩
  go_wp2_with fail
  go_ret
  exact ⟨rfl, step hB0 b1⟩
set_option maxRecDepth 100000 in
theorem eenc_no (s : List UInt8) (F P R E U : UInt8) (hr : rtB F P R E U = false) (w : World) (hs : s.length ≤ 2000) (hml : Ml w) :
    Calls Tryd.prog 8 #[.string (Sp.bs s), dv F P R E U] w fun e w' => e = .returned (.bool true) ∧ Below w.heap.size w w' := by
  have huD := Tryd.underlying23
  have hz := Sp.bs_size s
  have h1 : ¬ (2000 : Int) < (s.length : Int) := by omega
  have hB0 : Below w.heap.size w (w.alloc (.cells #[.int .u8 (F.toNat : Int), .int .u8 (P.toNat : Int), .int .u8 (R.toNat : Int), .int .u8 (E.toNat : Int), .int .u8 (U.toNat : Int)] 23)) := (Below.refl _ _).alloc (Nat.le_refl _) _
  have hm0 := Lib.hid (hml.below hB0)
  have f0 := Dl.Five.new (F.toNat : Int) (P.toNat : Int) (R.toNat : Int) (E.toNat : Int) (U.toNat : Int) w
  have hc0 := f0.cells
  have hrr0 : ∀ w, Calls Tryd.prog 14 #[dv F P R E U] w fun e w' => e = .returned (.bool (rtB F P R E U)) ∧ Below w.heap.size w w' := fun w => Rf.rright_calls _ _ _ _ _ w
  rw [hr] at hrr0
  have Hrr := Lib.hid hrr0
  clear hrr0
  have Hc := Lib.hid (clean_calls s (by omega) F P R E U)
  have Hrc := Lib.hid (rclean_calls s (by omega) F P R E U)
  have hcl : (Sp.clean F P R E U s != Sp.clean F P R E U s) = false := by simp
  have He := Lib.hid (encode_no s F P R E U hr)
  clear hr
  generalize Sp.clean F P R E U s = cl at *
  go_enter Tryd.func8, Tryd.ntmps8
  go_wp2_with fail
  refine (He.out _).mono ?_
  rintro e w1 ⟨rfl, b1⟩
  have hB1 := Lib.hid (step hB0 b1)
  have hm1 := Lib.hid (hm0.out.below b1)
  have f1 := Lib.hid (f0.below b1 f0.lt)
  have hc1 := f1.out.cells
  clear b1 hc0 hB0 hm0 f0
  go_wp2_with fail
  have hmw := Lib.hid hml
  refine Qr.region_in (S := Kp w w.heap.size F P R E U) (by kernel_rfl) (by kernel_rfl) (Kp.drew ⟨hB1.out, f1.out⟩) ?_
  have hcls : ∀ x : Qr.In (Kp w w.heap.size F P R E U), x.w.cell? ⟨w.heap.size, 0, none⟩ = some (.int .u8 (F.toNat : Int)) ∧ x.w.cell? ⟨w.heap.size, 1, none⟩ = some (.int .u8 (P.toNat : Int)) ∧ x.w.cell? ⟨w.heap.size, 2, none⟩ = some (.int .u8 (R.toNat : Int)) ∧ x.w.cell? ⟨w.heap.size, 3, none⟩ = some (.int .u8 (E.toNat : Int)) ∧ x.w.cell? ⟨w.heap.size, 4, none⟩ = some (.int .u8 (U.toNat : Int)) := fun x => Dl.Five.cells x.h.2
  have hne : Nonempty (Qr.In (Kp w w.heap.size F P R E U)) := ⟨⟨w1, ⟨hB1.out, f1.out⟩⟩⟩
  have Hal : ∀ x : Qr.In (Kp w w.heap.size F P R E U), Calls Tryd.prog 9 #[] x.w fun e w' => e = .returned (.bool true) ∧ Below x.w.heap.size x.w w' := fun x => alive_calls _ (hmw.out.below x.h.1)
  have HAL := Lib.hid Hal
  clear hml hc1 Hal
  repeat (go_big_quiet_step (first | (go_at_call 9; exact Qr.call (HAL.out _) (fun _ _ h hb => h.step hb)) | (go_at_call 12; exact Qr.call (Hc.out _) (fun _ _ h hb => h.step hb)) | (go_at_call 16; exact Qr.call (Hrc.out _) (fun _ _ h hb => h.step hb))))
  refine wpQuiet_nil ?_
  rintro _ ⟨⟨W2, h2⟩, rfl⟩
  have hB2 := Lib.hid h2.1
  have f2 := Lib.hid h2.2
  have hm2 := Lib.hid (hmw.out.below h2.1)
  have hc2 := f2.out.cells
  clear h2 hcls hne hB1 hm1 f1
  go_wp2_with fail
  refine (Hrr.out _).mono ?_
  rintro e w3 ⟨rfl, b3⟩
  have hB3 := Lib.hid (step hB2.out b3)
  have hm3 := Lib.hid (hm2.out.below b3)
  have f3 := Lib.hid (f2.out.below b3 f2.out.lt)
  have hc3 := f3.out.cells
  clear b3 hc2 hB2 hm2 f2
  go_wp2_with fail
  go_ret
  exact ⟨rfl, hB3.out⟩
set_option maxRecDepth 100000 in
theorem eenc_in (s : List UInt8) (F P R E U : UInt8) (hr : rtB F P R E U = true) (w : World) (hs : s.length ≤ 2000) (hml : Ml w) :
    Calls Tryd.prog 8 #[.string (Sp.bs s), dv F P R E U] w fun e w' => e = .returned (.bool true) ∧ Below w.heap.size w w' := by
  have huD := Tryd.underlying23
  have hz := Sp.bs_size s
  have h1 : ¬ (2000 : Int) < (s.length : Int) := by omega
  have hB0 : Below w.heap.size w (w.alloc (.cells #[.int .u8 (F.toNat : Int), .int .u8 (P.toNat : Int), .int .u8 (R.toNat : Int), .int .u8 (E.toNat : Int), .int .u8 (U.toNat : Int)] 23)) := (Below.refl _ _).alloc (Nat.le_refl _) _
  have hm0 := Lib.hid (hml.below hB0)
  have f0 := Dl.Five.new (F.toNat : Int) (P.toNat : Int) (R.toNat : Int) (E.toNat : Int) (U.toNat : Int) w
  have hc0 := f0.cells
  have hrr0 : ∀ w, Calls Tryd.prog 14 #[dv F P R E U] w fun e w' => e = .returned (.bool (rtB F P R E U)) ∧ Below w.heap.size w w' := fun w => Rf.rright_calls _ _ _ _ _ w
  rw [hr] at hrr0
  have Hrr := Lib.hid hrr0
  clear hrr0
  have Hc := Lib.hid (clean_calls s (by omega) F P R E U)
  have Hrc := Lib.hid (rclean_calls s (by omega) F P R E U)
  have hcl : (Sp.clean F P R E U s != Sp.clean F P R E U s) = false := by simp
  have He := Lib.hid (encode_yes s (by omega) F P R E U hr)
  have Hre := Lib.hid (rencode_calls s (by omega) F P R E U hr)
  generalize Sp.enc F P R E U s = a at *
  have he : ((Sp.bs a).toList == (Sp.bs a).toList) = true := by simp
  clear hr
  generalize Sp.clean F P R E U s = cl at *
  go_enter Tryd.func8, Tryd.ntmps8
  go_wp2_with fail
  refine (He.out _).mono ?_
  rintro e w1 ⟨rfl, b1⟩
  have hB1 := Lib.hid (step hB0 b1)
  have hm1 := Lib.hid (hm0.out.below b1)
  have f1 := Lib.hid (f0.below b1 f0.lt)
  have hc1 := f1.out.cells
  clear b1 hc0 hB0 hm0 f0
  go_wp2_with fail
  have hmw := Lib.hid hml
  refine Qr.region_in (S := Kp w w.heap.size F P R E U) (by kernel_rfl) (by kernel_rfl) (Kp.drew ⟨hB1.out, f1.out⟩) ?_
  have hcls : ∀ x : Qr.In (Kp w w.heap.size F P R E U), x.w.cell? ⟨w.heap.size, 0, none⟩ = some (.int .u8 (F.toNat : Int)) ∧ x.w.cell? ⟨w.heap.size, 1, none⟩ = some (.int .u8 (P.toNat : Int)) ∧ x.w.cell? ⟨w.heap.size, 2, none⟩ = some (.int .u8 (R.toNat : Int)) ∧ x.w.cell? ⟨w.heap.size, 3, none⟩ = some (.int .u8 (E.toNat : Int)) ∧ x.w.cell? ⟨w.heap.size, 4, none⟩ = some (.int .u8 (U.toNat : Int)) := fun x => Dl.Five.cells x.h.2
  have hne : Nonempty (Qr.In (Kp w w.heap.size F P R E U)) := ⟨⟨w1, ⟨hB1.out, f1.out⟩⟩⟩
  have Hal : ∀ x : Qr.In (Kp w w.heap.size F P R E U), Calls Tryd.prog 9 #[] x.w fun e w' => e = .returned (.bool true) ∧ Below x.w.heap.size x.w w' := fun x => alive_calls _ (hmw.out.below x.h.1)
  have HAL := Lib.hid Hal
  clear hml hc1 Hal
  repeat (go_big_quiet_step (first | (go_at_call 9; exact Qr.call (HAL.out _) (fun _ _ h hb => h.step hb)) | (go_at_call 12; exact Qr.call (Hc.out _) (fun _ _ h hb => h.step hb)) | (go_at_call 16; exact Qr.call (Hrc.out _) (fun _ _ h hb => h.step hb))))
  refine wpQuiet_nil ?_
  rintro _ ⟨⟨W2, h2⟩, rfl⟩
  have hB2 := Lib.hid h2.1
  have f2 := Lib.hid h2.2
  have hm2 := Lib.hid (hmw.out.below h2.1)
  have hc2 := f2.out.cells
  clear h2 hcls hne hB1 hm1 f1
  go_wp2_with fail
  refine (Hrr.out _).mono ?_
  rintro e w3 ⟨rfl, b3⟩
  have hB3 := Lib.hid (step hB2.out b3)
  have hm3 := Lib.hid (hm2.out.below b3)
  have f3 := Lib.hid (f2.out.below b3 f2.out.lt)
  have hc3 := f3.out.cells
  clear b3 hc2 hB2 hm2 f2
  go_wp2_with fail
  refine (Hre.out _).mono ?_
  rintro e w4 ⟨rfl, b4⟩
  have hB4 := Lib.hid (step hB3.out b4)
  have hm4 := Lib.hid (hm3.out.below b4)
  have f4 := Lib.hid (f3.out.below b4 f3.out.lt)
  have hc4 := f4.out.cells
  clear b4 hc3 hB3 hm3 f3
  go_wp2_with fail
  go_ret
  exact ⟨rfl, hB4.out⟩
theorem eenc_at (s : ByteArray) (a b c d f : Int) (w : World) (hs : s.size ≤ 140737488351232) (ha : 0 ≤ a ∧ a ≤ 255) (hb : 0 ≤ b ∧ b ≤ 255) (hc : 0 ≤ c ∧ c ≤ 255) (hd : 0 ≤ d ∧ d ≤ 255) (hf : 0 ≤ f ∧ f ≤ 255) (hml : Ml w) :
    Calls Tryd.prog 8 #[.string s, .agg #[.int .u8 a, .int .u8 b, .int .u8 c, .int .u8 d, .int .u8 f]] w fun e w' => e = .returned (.bool true) ∧ Below w.heap.size w w' := by
  obtain ⟨F, rfl⟩ := byte_of2 ha
  obtain ⟨P, rfl⟩ := byte_of2 hb
  obtain ⟨R, rfl⟩ := byte_of2 hc
  obtain ⟨E, rfl⟩ := byte_of2 hd
  obtain ⟨U, rfl⟩ := byte_of2 hf
  rw [← Sp.bs_data s]
  have hz : s.data.toList.length = s.size := by rw [Array.length_toList]; rfl
  by_cases h : 2000 < s.data.toList.length
  · exact eenc_long _ F P R E U w h (by omega) hml
  · cases hr : rtB F P R E U with
    | false => exact eenc_no _ F P R E U hr w (by omega) hml
    | true => exact eenc_in _ F P R E U hr w (by omega) hml
end Es
end Go.Proofs.YtkiloebfjooogaaDoor
