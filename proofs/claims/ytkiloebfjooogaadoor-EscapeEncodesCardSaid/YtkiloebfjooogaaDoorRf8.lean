/-
  A part of the proof of this seat's laws: the reference's clean, encoded, decoded texts.
-/
import Derived.Test.YtkiloebfjooogaaDoorRf7
namespace Go.Proofs.YtkiloebfjooogaaDoor
set_option linter.unusedVariables false
set_option linter.unusedSimpArgs false
open Go.RowKit Go.Shelf
namespace Es
open Ap Mp Sg
set_option maxHeartbeats 8000000
/-- a world that keeps the signs -/
abbrev Kp (w : World) (g : Nat) (F P R E U : UInt8) : World → Prop := fun w' => Below w.heap.size w w' ∧ FV g F P R E U w'
theorem Kp.step {w a b : World} {g : Nat} {F P R E U : UInt8} (h : Kp w g F P R E U a) (hb : Below a.heap.size a b) : Kp w g F P R E U b := ⟨h.1.trans (hb.mono h.1.size), Dl.Five.below h.2 hb h.2.lt⟩
theorem Kp.drew {w a : World} {g : Nat} {F P R E U : UInt8} (h : Kp w g F P R E U a) : Kp w g F P R E U a.drew := h.step (Below.refl _ _).drew
set_option maxRecDepth 100000 in
theorem rclean_calls (s : List UInt8) (hs : s.length ≤ 100000) (F P R E U : UInt8) (w : World) :
    Calls Tryd.prog 16 #[.string (Sp.bs s), dv F P R E U] w fun e w' => e = .returned (.bool (Sp.clean F P R E U s)) ∧ Below w.heap.size w w' := by
  have huD := Tryd.underlying23
  have hz := Sp.bs_size s
  have k0 : Kp w w.heap.size F P R E U (w.alloc (.cells #[.int .u8 (F.toNat : Int), .int .u8 (P.toNat : Int), .int .u8 (R.toNat : Int), .int .u8 (E.toNat : Int), .int .u8 (U.toNat : Int)] 23)) := ⟨(Below.refl _ _).alloc (Nat.le_refl _) _, Dl.Five.new (F.toNat : Int) (P.toNat : Int) (R.toNat : Int) (E.toNat : Int) (U.toNat : Int) w⟩
  obtain ⟨v, hv⟩ : ∃ v, v = Sp.clean F P R E U s := ⟨_, rfl⟩
  rw [← hv]
  have Hv := Lib.hid hv
  have K0 := Lib.hid k0
  clear hv k0
  go_enter Tryd.func16, Tryd.ntmps16
  go_wp2_with fail
  go_loopw [5] (fun i wr => ∃ k : Nat, k ≤ s.length ∧ i = .int .i64 k ∧ Hid (Sp.clean F P R E U (s.take k) = true) ∧ Hid (Kp w w.heap.size F P R E U wr)) (fun i _ => s.length - (intOf i).toNat)
  case atStart => exact ⟨0, by omega, rfl, rfl, K0⟩
  case round =>
    obtain ⟨k, hk, rfl, hcl, K1⟩ := hrel
    clear K0
    by_cases hlt : k < s.length
    · obtain ⟨c, hc⟩ : ∃ c, s[k]? = some c := ⟨_, List.getElem?_eq_getElem hlt⟩
      have hck := bs_at hc
      have c0 : (0 : Int) ≤ (k : Int) := by omega
      have c1 : (k : Int) < (s.length : Int) := by omega
      have hw1 : IntKind.i64.wrap ((k : Int) + 1) = (k : Int) + 1 := IntWalk.i64_in _ (by omega)
      have hsn := clean_snoc F P R E U (s.take k) c
      rw [hcl.out, Bool.true_and, show s.take k ++ [c] = s.take (k + 1) by rw [List.take_add_one, hc]; rfl, ← Option.not_isSome, Sp.ins_some] at hsn
      have Hle := Lib.hid (letter_calls c F P R E U)
      have q0 : (((Sp.letterOf F P R E U c).toNat : Int) != 0) = (Sp.letterOf F P R E U c != 0) := by
        have := beq_byte (Sp.letterOf F P R E U c) 0
        rw [bne, bne]
        have h0 : (((Sp.letterOf F P R E U c).toNat : Int) == 0) = decide (Sp.letterOf F P R E U c = 0) := this
        rw [h0]; rfl
      have q1 : ((c.toNat : Int) == 11) = (c == 11) := beq_byte c 11
      have q2 : ((c.toNat : Int) == 13) = (c == 13) := beq_byte c 13
      have q3 : ((c.toNat : Int) == 28) = (c == 28) := beq_byte c 28
      generalize Sp.letterOf F P R E U c = lt at *
      have hcls : ∀ x : Qr.In (Kp w w.heap.size F P R E U), x.w.cell? ⟨w.heap.size, 0, none⟩ = some (.int .u8 (F.toNat : Int)) ∧ x.w.cell? ⟨w.heap.size, 1, none⟩ = some (.int .u8 (P.toNat : Int)) ∧ x.w.cell? ⟨w.heap.size, 2, none⟩ = some (.int .u8 (R.toNat : Int)) ∧ x.w.cell? ⟨w.heap.size, 3, none⟩ = some (.int .u8 (E.toNat : Int)) ∧ x.w.cell? ⟨w.heap.size, 4, none⟩ = some (.int .u8 (U.toNat : Int)) := fun x => Dl.Five.cells x.h.2
      have hne : Nonempty (Qr.In (Kp w w.heap.size F P R E U)) := ⟨⟨wr, K1.out⟩⟩
      by_cases hfoul : (lt != 0 || (c == 11 || (c == 13 || c == 28))) = true
      · have Hf : Hid (v = false) := Lib.hid (by
          rw [Hv.out]
          rw [hfoul] at hsn
          cases hx : Sp.clean F P R E U s with
          | false => rfl
          | true =>
            have : Sp.clean F P R E U (s.take (k + 1)) = true := by
              unfold Sp.clean at hx ⊢
              rw [List.all_eq_true] at hx ⊢
              exact fun y hy => hx y (List.take_subset _ _ hy)
            rw [this] at hsn
            cases hsn)
        clear hsn hc hcl
        cases h1 : (lt != 0) with
        | true =>
          rw [h1] at q0
          clear q1 q2 q3 hfoul h1
          go_wp2_with fail
          refine Qr.region_in (S := Kp w w.heap.size F P R E U) (by kernel_rfl) (by kernel_rfl) K1.out.drew ?_
          repeat (go_big_quiet_step ((go_at_call 28; exact Qr.call (Hle.out _) (fun _ _ h hb => h.step hb))))
          refine wpQuiet_nil ?_
          rintro _ ⟨⟨W8, h8⟩, rfl⟩
          clear hcls hne
          go_wp2_with fail
          go_ret
          rw [Hf.out]
          exact ⟨rfl, h8.1⟩
        | false =>
          rw [h1] at q0 hfoul
          rw [Bool.false_or] at hfoul
          cases h2 : (c == 11) with
          | true =>
            rw [h2] at q1
            clear q2 q3 hfoul h1 h2
            go_wp2_with fail
            refine Qr.region_in (S := Kp w w.heap.size F P R E U) (by kernel_rfl) (by kernel_rfl) K1.out.drew ?_
            repeat (go_big_quiet_step ((go_at_call 28; exact Qr.call (Hle.out _) (fun _ _ h hb => h.step hb))))
            refine wpQuiet_nil ?_
            rintro _ ⟨⟨W8, h8⟩, rfl⟩
            clear hcls hne
            go_wp2_with fail
            go_ret
            rw [Hf.out]
            exact ⟨rfl, h8.1⟩
          | false =>
            rw [h2] at q1 hfoul
            rw [Bool.false_or] at hfoul
            cases h3 : (c == 13) with
            | true =>
              rw [h3] at q2
              clear q3 hfoul h1 h2 h3
              go_wp2_with fail
              refine Qr.region_in (S := Kp w w.heap.size F P R E U) (by kernel_rfl) (by kernel_rfl) K1.out.drew ?_
              repeat (go_big_quiet_step ((go_at_call 28; exact Qr.call (Hle.out _) (fun _ _ h hb => h.step hb))))
              refine wpQuiet_nil ?_
              rintro _ ⟨⟨W8, h8⟩, rfl⟩
              clear hcls hne
              go_wp2_with fail
              go_ret
              rw [Hf.out]
              exact ⟨rfl, h8.1⟩
            | false =>
              rw [h3] at q2 hfoul
              rw [Bool.false_or] at hfoul
              rw [hfoul] at q3
              clear hfoul h1 h2 h3
              go_wp2_with fail
              refine Qr.region_in (S := Kp w w.heap.size F P R E U) (by kernel_rfl) (by kernel_rfl) K1.out.drew ?_
              repeat (go_big_quiet_step ((go_at_call 28; exact Qr.call (Hle.out _) (fun _ _ h hb => h.step hb))))
              refine wpQuiet_nil ?_
              rintro _ ⟨⟨W8, h8⟩, rfl⟩
              clear hcls hne
              go_wp2_with fail
              go_ret
              rw [Hf.out]
              exact ⟨rfl, h8.1⟩
      · have hf2 : (lt != 0 || (c == 11 || (c == 13 || c == 28))) = false := by simpa using hfoul
        rw [hf2] at hsn
        have Hn : Hid (Sp.clean F P R E U (s.take (k + 1)) = true) := Lib.hid hsn
        simp only [Bool.or_eq_false_iff] at hf2
        obtain ⟨h1, h2, h3, h4⟩ := hf2
        rw [h1] at q0
        rw [h2] at q1
        rw [h3] at q2
        rw [h4] at q3
        clear hsn hc hcl hfoul h1 h2 h3 h4
        go_wp2_with fail
        refine Qr.region_in (S := Kp w w.heap.size F P R E U) (by kernel_rfl) (by kernel_rfl) K1.out.drew ?_
        repeat (go_big_quiet_step ((go_at_call 28; exact Qr.call (Hle.out _) (fun _ _ h hb => h.step hb))))
        refine wpQuiet_nil ?_
        rintro _ ⟨⟨W8, h8⟩, rfl⟩
        have K8 := Lib.hid h8
        clear hcls hne q0 q1 q2 q3 h8
        go_wp2_with fail
        go_roundw
        case rel => exact ⟨k + 1, by omega, by go_num, Hn, K8⟩
        case measure => simp [intOf]; omega
    · obtain rfl : k = s.length := by omega
      rw [List.take_length] at hcl
      have c1 : ¬ (s.length : Int) < (s.length : Int) := by omega
      go_wp2_with fail
      go_ret
      rw [Hv.out, hcl.out]
      exact ⟨rfl, K1.out.1⟩
end Es
end Go.Proofs.YtkiloebfjooogaaDoor
