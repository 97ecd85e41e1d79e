/-
  A part of the proof of this seat's laws: an event's text, the reference's.
-/
import Derived.Test.YtpchfmeaplhodaaDoorTr7
namespace Go.Proofs.YtpchfmeaplhodaaDoor
set_option linter.unusedVariables false
set_option linter.unusedSimpArgs false
open Go.RowKit Go.Shelf
namespace Tr
open Ap Sg
set_option maxHeartbeats 8000000
set_option maxRecDepth 100000 in
theorem revent_0 (n keep : Int) (A : Option Addr) (len c : Nat) (data : List UInt8) (w : World) (hby : By w A len c data) (hlen : len ≤ 100000) (hn0 : -9223372036854775808 ≤ n) (hn1 : n ≤ 9223372036854775807) (hk0 : -9223372036854775808 ≤ keep) (hk1 : keep ≤ 9223372036854775807) :
    Calls Tryd.prog 16 #[evA 0 n keep A len c] w fun e w' => e = .returned (Sp.evV (Sp.evT ⟨0, n, keep, data⟩)) ∧ Below w.heap.size w w' := by
  have hl := hby.len
  have huE := Tryd.underlying29
  have hB0 : Below w.heap.size w (w.alloc (.cells (evC 0 n keep A len c) 29)) := (Below.refl _ _).alloc (Nat.le_refl _) _
  have E0 := Blk.new w (evC 0 n keep A len c) 29
  have e0 := E0.cells4
  have HE := Lib.hid E0
  have HB0 := Lib.hid hB0
  have Hby := Lib.hid hby
  have Hn := Lib.hid (decimal_calls n hn0 hn1)
  have Hk := Lib.hid (decimal_calls keep hk0 hk1)
  have hln := Lib.itoa_length_le n hn0 hn1
  have hlk := Lib.itoa_length_le keep hk0 hk1
  obtain ⟨et, het⟩ : ∃ et, et = Sp.evT ⟨0, n, keep, data⟩ := ⟨_, rfl⟩
  rw [← het]
  have Het := Lib.hid het
  clear E0 hB0 het hby
  by_cases hn : n = 0
  case neg =>
    have g2 : (n == 0) = false := by rw [beq_eq_false_iff_ne]; exact hn
    have g3 : (n != 0) = true := by rw [bne, g2]; rfl
    have Hr : Hid (et = .error 10) := Lib.hid (by
      rw [Het.out]
      show (if (0 : Int) < 0 ∨ 9 ≤ (0 : Int) then _ else _) = _
      rw [if_neg (by decide)]
      exact if_pos (.inr (.inl ⟨rfl, hn⟩)))
    generalize Lib.itoa n = dn at *
    generalize Lib.itoa keep = dk at *
    clear hl
    go_enter Tryd.func16, Tryd.ntmps16
    go_wp2_with fail
    refine (Hn.out _).mono ?_
    rintro e w2 ⟨rfl, b2⟩
    have B2 := Lib.hid (step HB0.out b2)
    have E2 := Lib.hid (HE.out.below b2)
    have e2 := E2.out.cells4
    clear b2 HB0 HE e0
    go_wp2_with fail
    refine (Hk.out _).mono ?_
    rintro e w3 ⟨rfl, b3⟩
    have B3 := Lib.hid (step B2.out b3)
    have E3 := Lib.hid (E2.out.below b3)
    have e3 := E3.out.cells4
    clear b3 B2 E2 e2
    go_wp2_with fail
    go_ret2
    exact ⟨by rw [Hr.out]; rfl, B3.out⟩
  subst hn
  by_cases hk : keep = 0
  case neg =>
    have g4 : (keep == 0) = false := by rw [beq_eq_false_iff_ne]; exact hk
    have g5 : (keep != 0) = true := by rw [bne, g4]; rfl
    have Hr : Hid (et = .error 10) := Lib.hid (by
      rw [Het.out]
      show (if (0 : Int) < 0 ∨ 9 ≤ (0 : Int) then _ else _) = _
      rw [if_neg (by decide)]
      exact if_pos (.inr (.inr ⟨rfl, hk⟩)))
    generalize Lib.itoa 0 = dn at *
    generalize Lib.itoa keep = dk at *
    clear hl
    go_enter Tryd.func16, Tryd.ntmps16
    go_wp2_with fail
    refine (Hn.out _).mono ?_
    rintro e w2 ⟨rfl, b2⟩
    have B2 := Lib.hid (step HB0.out b2)
    have E2 := Lib.hid (HE.out.below b2)
    have e2 := E2.out.cells4
    clear b2 HB0 HE e0
    go_wp2_with fail
    refine (Hk.out _).mono ?_
    rintro e w3 ⟨rfl, b3⟩
    have B3 := Lib.hid (step B2.out b3)
    have E3 := Lib.hid (E2.out.below b3)
    have e3 := E3.out.cells4
    clear b3 B2 E2 e2
    go_wp2_with fail
    go_ret2
    exact ⟨by rw [Hr.out]; rfl, B3.out⟩
  subst hk
  have Hr : Hid (et = .ok ([105, 110] ++ ((32 :: Sp.hexT data) ++ (([]) ++ ([]))))) := Lib.hid (by
    rw [Het.out]
    show (if (0 : Int) < 0 ∨ 9 ≤ (0 : Int) then _ else _) = _
    rw [if_neg (by decide)]
    refine (if_neg ?_).trans rfl
    rintro (⟨h, h'⟩ | ⟨h, h'⟩ | ⟨h, h'⟩)
    · exact absurd (show Sp.kd 0 = false from h) (by decide)
    · exact h' rfl
    · exact h' rfl)
  obtain ⟨dn, hdn⟩ : ∃ l, l = Lib.itoa 0 := ⟨_, rfl⟩
  rw [← hdn] at Hn hln
  obtain ⟨dk, hdk⟩ : ∃ l, l = Lib.itoa 0 := ⟨_, rfl⟩
  rw [← hdk] at Hk hlk
  have hzn := Sp.bs_size dn
  have hzk := Sp.bs_size dk
  obtain ⟨h0, hh0⟩ : ∃ l, l = Sp.hexT data := ⟨_, rfl⟩
  have hzh := Sp.bs_size h0
  have hq0 : h0.length ≤ 200001 := by
    rw [hh0]; unfold Sp.hexT
    split
    · simp
    · rw [Sp.hexs_len]; omega
  have Hx := Lib.hid (fun W hW => rhex_calls A len c data (by omega) W hW)
  rw [← hh0] at Hx
  obtain ⟨t0, ht0⟩ : ∃ l, l = [105, 110, 32] ++ h0 := ⟨_, rfl⟩
  have hc0 : (⟨#[105, 110, 32]⟩ : ByteArray) ++ Sp.bs h0 = Sp.bs t0 := by rw [ht0]; exact Sp.bs_append [105, 110, 32] h0
  have hzt0 := Sp.bs_size t0
  have hqt0 : t0.length = 3 + h0.length := by rw [ht0, List.length_append]; rfl
  have Hr2 : Hid (et = .ok t0) := Lib.hid (by rw [Hr.out, ht0, hh0]; simp)
  clear Hr hh0 ht0 hdn hdk hl
  go_enter Tryd.func16, Tryd.ntmps16
  go_wp2_with fail
  refine (Hn.out _).mono ?_
  rintro e w2 ⟨rfl, b2⟩
  have B2 := Lib.hid (step HB0.out b2)
  have E2 := Lib.hid (HE.out.below b2)
  have e2 := E2.out.cells4
  clear b2 HB0 HE e0
  go_wp2_with fail
  refine (Hk.out _).mono ?_
  rintro e w3 ⟨rfl, b3⟩
  have B3 := Lib.hid (step B2.out b3)
  have E3 := Lib.hid (E2.out.below b3)
  have e3 := E3.out.cells4
  clear b3 B2 E2 e2
  go_wp2_with fail
  refine (Hx.out _ (Hby.out.below B3.out)).mono ?_
  rintro e w4 ⟨rfl, q4, rfl⟩
  go_wp2_with fail
  go_ret2
  exact ⟨by rw [Hr2.out]; rfl, below_drewN B3.out q4⟩
end Tr
end Go.Proofs.YtpchfmeaplhodaaDoor
namespace Go.Proofs.YtpchfmeaplhodaaDoor
set_option linter.unusedVariables false
set_option linter.unusedSimpArgs false
open Go.RowKit Go.Shelf
namespace Tr
open Ap Sg
set_option maxHeartbeats 8000000
set_option maxRecDepth 100000 in
theorem revent_1 (n keep : Int) (A : Option Addr) (len c : Nat) (data : List UInt8) (w : World) (hby : By w A len c data) (hlen : len ≤ 100000) (hn0 : -9223372036854775808 ≤ n) (hn1 : n ≤ 9223372036854775807) (hk0 : -9223372036854775808 ≤ keep) (hk1 : keep ≤ 9223372036854775807) :
    Calls Tryd.prog 16 #[evA 1 n keep A len c] w fun e w' => e = .returned (Sp.evV (Sp.evT ⟨1, n, keep, data⟩)) ∧ Below w.heap.size w w' := by
  have hl := hby.len
  have huE := Tryd.underlying29
  have hB0 : Below w.heap.size w (w.alloc (.cells (evC 1 n keep A len c) 29)) := (Below.refl _ _).alloc (Nat.le_refl _) _
  have E0 := Blk.new w (evC 1 n keep A len c) 29
  have e0 := E0.cells4
  have HE := Lib.hid E0
  have HB0 := Lib.hid hB0
  have Hby := Lib.hid hby
  have Hn := Lib.hid (decimal_calls n hn0 hn1)
  have Hk := Lib.hid (decimal_calls keep hk0 hk1)
  have hln := Lib.itoa_length_le n hn0 hn1
  have hlk := Lib.itoa_length_le keep hk0 hk1
  obtain ⟨et, het⟩ : ∃ et, et = Sp.evT ⟨1, n, keep, data⟩ := ⟨_, rfl⟩
  rw [← het]
  have Het := Lib.hid het
  clear E0 hB0 het hby
  by_cases hn : n = 0
  case neg =>
    have g2 : (n == 0) = false := by rw [beq_eq_false_iff_ne]; exact hn
    have g3 : (n != 0) = true := by rw [bne, g2]; rfl
    have Hr : Hid (et = .error 10) := Lib.hid (by
      rw [Het.out]
      show (if (1 : Int) < 0 ∨ 9 ≤ (1 : Int) then _ else _) = _
      rw [if_neg (by decide)]
      exact if_pos (.inr (.inl ⟨rfl, hn⟩)))
    generalize Lib.itoa n = dn at *
    generalize Lib.itoa keep = dk at *
    clear hl
    go_enter Tryd.func16, Tryd.ntmps16
    go_wp2_with fail
    refine (Hn.out _).mono ?_
    rintro e w2 ⟨rfl, b2⟩
    have B2 := Lib.hid (step HB0.out b2)
    have E2 := Lib.hid (HE.out.below b2)
    have e2 := E2.out.cells4
    clear b2 HB0 HE e0
    go_wp2_with fail
    refine (Hk.out _).mono ?_
    rintro e w3 ⟨rfl, b3⟩
    have B3 := Lib.hid (step B2.out b3)
    have E3 := Lib.hid (E2.out.below b3)
    have e3 := E3.out.cells4
    clear b3 B2 E2 e2
    go_wp2_with fail
    go_ret2
    exact ⟨by rw [Hr.out]; rfl, B3.out⟩
  subst hn
  by_cases hk : keep = 0
  case neg =>
    have g4 : (keep == 0) = false := by rw [beq_eq_false_iff_ne]; exact hk
    have g5 : (keep != 0) = true := by rw [bne, g4]; rfl
    have Hr : Hid (et = .error 10) := Lib.hid (by
      rw [Het.out]
      show (if (1 : Int) < 0 ∨ 9 ≤ (1 : Int) then _ else _) = _
      rw [if_neg (by decide)]
      exact if_pos (.inr (.inr ⟨rfl, hk⟩)))
    generalize Lib.itoa 0 = dn at *
    generalize Lib.itoa keep = dk at *
    clear hl
    go_enter Tryd.func16, Tryd.ntmps16
    go_wp2_with fail
    refine (Hn.out _).mono ?_
    rintro e w2 ⟨rfl, b2⟩
    have B2 := Lib.hid (step HB0.out b2)
    have E2 := Lib.hid (HE.out.below b2)
    have e2 := E2.out.cells4
    clear b2 HB0 HE e0
    go_wp2_with fail
    refine (Hk.out _).mono ?_
    rintro e w3 ⟨rfl, b3⟩
    have B3 := Lib.hid (step B2.out b3)
    have E3 := Lib.hid (E2.out.below b3)
    have e3 := E3.out.cells4
    clear b3 B2 E2 e2
    go_wp2_with fail
    go_ret2
    exact ⟨by rw [Hr.out]; rfl, B3.out⟩
  subst hk
  have Hr : Hid (et = .ok ([111, 117, 116] ++ ((32 :: Sp.hexT data) ++ (([]) ++ ([]))))) := Lib.hid (by
    rw [Het.out]
    show (if (1 : Int) < 0 ∨ 9 ≤ (1 : Int) then _ else _) = _
    rw [if_neg (by decide)]
    refine (if_neg ?_).trans rfl
    rintro (⟨h, h'⟩ | ⟨h, h'⟩ | ⟨h, h'⟩)
    · exact absurd (show Sp.kd 1 = false from h) (by decide)
    · exact h' rfl
    · exact h' rfl)
  obtain ⟨dn, hdn⟩ : ∃ l, l = Lib.itoa 0 := ⟨_, rfl⟩
  rw [← hdn] at Hn hln
  obtain ⟨dk, hdk⟩ : ∃ l, l = Lib.itoa 0 := ⟨_, rfl⟩
  rw [← hdk] at Hk hlk
  have hzn := Sp.bs_size dn
  have hzk := Sp.bs_size dk
  obtain ⟨h0, hh0⟩ : ∃ l, l = Sp.hexT data := ⟨_, rfl⟩
  have hzh := Sp.bs_size h0
  have hq0 : h0.length ≤ 200001 := by
    rw [hh0]; unfold Sp.hexT
    split
    · simp
    · rw [Sp.hexs_len]; omega
  have Hx := Lib.hid (fun W hW => rhex_calls A len c data (by omega) W hW)
  rw [← hh0] at Hx
  obtain ⟨t0, ht0⟩ : ∃ l, l = [111, 117, 116, 32] ++ h0 := ⟨_, rfl⟩
  have hc0 : (⟨#[111, 117, 116, 32]⟩ : ByteArray) ++ Sp.bs h0 = Sp.bs t0 := by rw [ht0]; exact Sp.bs_append [111, 117, 116, 32] h0
  have hzt0 := Sp.bs_size t0
  have hqt0 : t0.length = 4 + h0.length := by rw [ht0, List.length_append]; rfl
  have Hr2 : Hid (et = .ok t0) := Lib.hid (by rw [Hr.out, ht0, hh0]; simp)
  clear Hr hh0 ht0 hdn hdk hl
  go_enter Tryd.func16, Tryd.ntmps16
  go_wp2_with fail
  refine (Hn.out _).mono ?_
  rintro e w2 ⟨rfl, b2⟩
  have B2 := Lib.hid (step HB0.out b2)
  have E2 := Lib.hid (HE.out.below b2)
  have e2 := E2.out.cells4
  clear b2 HB0 HE e0
  go_wp2_with fail
  refine (Hk.out _).mono ?_
  rintro e w3 ⟨rfl, b3⟩
  have B3 := Lib.hid (step B2.out b3)
  have E3 := Lib.hid (E2.out.below b3)
  have e3 := E3.out.cells4
  clear b3 B2 E2 e2
  go_wp2_with fail
  refine (Hx.out _ (Hby.out.below B3.out)).mono ?_
  rintro e w4 ⟨rfl, q4, rfl⟩
  go_wp2_with fail
  go_ret2
  exact ⟨by rw [Hr2.out]; rfl, below_drewN B3.out q4⟩
end Tr
end Go.Proofs.YtpchfmeaplhodaaDoor
namespace Go.Proofs.YtpchfmeaplhodaaDoor
set_option linter.unusedVariables false
set_option linter.unusedSimpArgs false
open Go.RowKit Go.Shelf
namespace Tr
open Ap Sg
set_option maxHeartbeats 8000000
set_option maxRecDepth 100000 in
theorem revent_2 (n keep : Int) (A : Option Addr) (len c : Nat) (data : List UInt8) (w : World) (hby : By w A len c data) (hlen : len ≤ 100000) (hn0 : -9223372036854775808 ≤ n) (hn1 : n ≤ 9223372036854775807) (hk0 : -9223372036854775808 ≤ keep) (hk1 : keep ≤ 9223372036854775807) :
    Calls Tryd.prog 16 #[evA 2 n keep A len c] w fun e w' => e = .returned (Sp.evV (Sp.evT ⟨2, n, keep, data⟩)) ∧ Below w.heap.size w w' := by
  have hl := hby.len
  have huE := Tryd.underlying29
  have hB0 : Below w.heap.size w (w.alloc (.cells (evC 2 n keep A len c) 29)) := (Below.refl _ _).alloc (Nat.le_refl _) _
  have E0 := Blk.new w (evC 2 n keep A len c) 29
  have e0 := E0.cells4
  have HE := Lib.hid E0
  have HB0 := Lib.hid hB0
  have Hby := Lib.hid hby
  have Hn := Lib.hid (decimal_calls n hn0 hn1)
  have Hk := Lib.hid (decimal_calls keep hk0 hk1)
  have hln := Lib.itoa_length_le n hn0 hn1
  have hlk := Lib.itoa_length_le keep hk0 hk1
  obtain ⟨et, het⟩ : ∃ et, et = Sp.evT ⟨2, n, keep, data⟩ := ⟨_, rfl⟩
  rw [← het]
  have Het := Lib.hid het
  clear E0 hB0 het hby
  by_cases hd : data = []
  case neg =>
    have hlp : 0 < len := by rw [← hl]; exact List.length_pos_iff.2 hd
    have g1 : (0 : Int) < (len : Int) := by omega
    have Hr : Hid (et = .error 10) := Lib.hid (by
      rw [Het.out]
      show (if (2 : Int) < 0 ∨ 9 ≤ (2 : Int) then _ else _) = _
      rw [if_neg (by decide)]
      exact if_pos (.inl ⟨rfl, hd⟩))
    generalize Lib.itoa n = dn at *
    generalize Lib.itoa keep = dk at *
    clear hd hlp hl
    go_enter Tryd.func16, Tryd.ntmps16
    go_wp2_with fail
    refine (Hn.out _).mono ?_
    rintro e w2 ⟨rfl, b2⟩
    have B2 := Lib.hid (step HB0.out b2)
    have E2 := Lib.hid (HE.out.below b2)
    have e2 := E2.out.cells4
    clear b2 HB0 HE e0
    go_wp2_with fail
    refine (Hk.out _).mono ?_
    rintro e w3 ⟨rfl, b3⟩
    have B3 := Lib.hid (step B2.out b3)
    have E3 := Lib.hid (E2.out.below b3)
    have e3 := E3.out.cells4
    clear b3 B2 E2 e2
    go_wp2_with fail
    go_ret2
    exact ⟨by rw [Hr.out]; rfl, B3.out⟩
  obtain rfl : len = 0 := by rw [← hl, hd]; rfl
  by_cases hn : n = 0
  case neg =>
    have g2 : (n == 0) = false := by rw [beq_eq_false_iff_ne]; exact hn
    have g3 : (n != 0) = true := by rw [bne, g2]; rfl
    have Hr : Hid (et = .error 10) := Lib.hid (by
      rw [Het.out]
      show (if (2 : Int) < 0 ∨ 9 ≤ (2 : Int) then _ else _) = _
      rw [if_neg (by decide)]
      exact if_pos (.inr (.inl ⟨rfl, hn⟩)))
    generalize Lib.itoa n = dn at *
    generalize Lib.itoa keep = dk at *
    clear hd hl
    go_enter Tryd.func16, Tryd.ntmps16
    go_wp2_with fail
    refine (Hn.out _).mono ?_
    rintro e w2 ⟨rfl, b2⟩
    have B2 := Lib.hid (step HB0.out b2)
    have E2 := Lib.hid (HE.out.below b2)
    have e2 := E2.out.cells4
    clear b2 HB0 HE e0
    go_wp2_with fail
    refine (Hk.out _).mono ?_
    rintro e w3 ⟨rfl, b3⟩
    have B3 := Lib.hid (step B2.out b3)
    have E3 := Lib.hid (E2.out.below b3)
    have e3 := E3.out.cells4
    clear b3 B2 E2 e2
    go_wp2_with fail
    go_ret2
    exact ⟨by rw [Hr.out]; rfl, B3.out⟩
  subst hn
  by_cases hk : keep = 0
  case neg =>
    have g4 : (keep == 0) = false := by rw [beq_eq_false_iff_ne]; exact hk
    have g5 : (keep != 0) = true := by rw [bne, g4]; rfl
    have Hr : Hid (et = .error 10) := Lib.hid (by
      rw [Het.out]
      show (if (2 : Int) < 0 ∨ 9 ≤ (2 : Int) then _ else _) = _
      rw [if_neg (by decide)]
      exact if_pos (.inr (.inr ⟨rfl, hk⟩)))
    generalize Lib.itoa 0 = dn at *
    generalize Lib.itoa keep = dk at *
    clear hd hl
    go_enter Tryd.func16, Tryd.ntmps16
    go_wp2_with fail
    refine (Hn.out _).mono ?_
    rintro e w2 ⟨rfl, b2⟩
    have B2 := Lib.hid (step HB0.out b2)
    have E2 := Lib.hid (HE.out.below b2)
    have e2 := E2.out.cells4
    clear b2 HB0 HE e0
    go_wp2_with fail
    refine (Hk.out _).mono ?_
    rintro e w3 ⟨rfl, b3⟩
    have B3 := Lib.hid (step B2.out b3)
    have E3 := Lib.hid (E2.out.below b3)
    have e3 := E3.out.cells4
    clear b3 B2 E2 e2
    go_wp2_with fail
    go_ret2
    exact ⟨by rw [Hr.out]; rfl, B3.out⟩
  subst hk
  have Hr : Hid (et = .ok ([100, 114, 111, 112, 32, 105, 110] ++ (([]) ++ (([]) ++ ([]))))) := Lib.hid (by
    rw [Het.out]
    show (if (2 : Int) < 0 ∨ 9 ≤ (2 : Int) then _ else _) = _
    rw [if_neg (by decide)]
    refine (if_neg ?_).trans rfl
    rintro (⟨h, h'⟩ | ⟨h, h'⟩ | ⟨h, h'⟩)
    · exact h' hd
    · exact h' rfl
    · exact h' rfl)
  obtain ⟨dn, hdn⟩ : ∃ l, l = Lib.itoa 0 := ⟨_, rfl⟩
  rw [← hdn] at Hn hln
  obtain ⟨dk, hdk⟩ : ∃ l, l = Lib.itoa 0 := ⟨_, rfl⟩
  rw [← hdk] at Hk hlk
  have hzn := Sp.bs_size dn
  have hzk := Sp.bs_size dk
  have Hr2 := Hr
  clear hd hl hdn hdk
  go_enter Tryd.func16, Tryd.ntmps16
  go_wp2_with fail
  refine (Hn.out _).mono ?_
  rintro e w2 ⟨rfl, b2⟩
  have B2 := Lib.hid (step HB0.out b2)
  have E2 := Lib.hid (HE.out.below b2)
  have e2 := E2.out.cells4
  clear b2 HB0 HE e0
  go_wp2_with fail
  refine (Hk.out _).mono ?_
  rintro e w3 ⟨rfl, b3⟩
  have B3 := Lib.hid (step B2.out b3)
  have E3 := Lib.hid (E2.out.below b3)
  have e3 := E3.out.cells4
  clear b3 B2 E2 e2
  go_wp2_with fail
  go_ret2
  exact ⟨by rw [Hr2.out]; rfl, B3.out⟩
end Tr
end Go.Proofs.YtpchfmeaplhodaaDoor
namespace Go.Proofs.YtpchfmeaplhodaaDoor
set_option linter.unusedVariables false
set_option linter.unusedSimpArgs false
open Go.RowKit Go.Shelf
namespace Tr
open Ap Sg
set_option maxHeartbeats 8000000
set_option maxRecDepth 100000 in
theorem revent_3 (n keep : Int) (A : Option Addr) (len c : Nat) (data : List UInt8) (w : World) (hby : By w A len c data) (hlen : len ≤ 100000) (hn0 : -9223372036854775808 ≤ n) (hn1 : n ≤ 9223372036854775807) (hk0 : -9223372036854775808 ≤ keep) (hk1 : keep ≤ 9223372036854775807) :
    Calls Tryd.prog 16 #[evA 3 n keep A len c] w fun e w' => e = .returned (Sp.evV (Sp.evT ⟨3, n, keep, data⟩)) ∧ Below w.heap.size w w' := by
  have hl := hby.len
  have huE := Tryd.underlying29
  have hB0 : Below w.heap.size w (w.alloc (.cells (evC 3 n keep A len c) 29)) := (Below.refl _ _).alloc (Nat.le_refl _) _
  have E0 := Blk.new w (evC 3 n keep A len c) 29
  have e0 := E0.cells4
  have HE := Lib.hid E0
  have HB0 := Lib.hid hB0
  have Hby := Lib.hid hby
  have Hn := Lib.hid (decimal_calls n hn0 hn1)
  have Hk := Lib.hid (decimal_calls keep hk0 hk1)
  have hln := Lib.itoa_length_le n hn0 hn1
  have hlk := Lib.itoa_length_le keep hk0 hk1
  obtain ⟨et, het⟩ : ∃ et, et = Sp.evT ⟨3, n, keep, data⟩ := ⟨_, rfl⟩
  rw [← het]
  have Het := Lib.hid het
  clear E0 hB0 het hby
  by_cases hd : data = []
  case neg =>
    have hlp : 0 < len := by rw [← hl]; exact List.length_pos_iff.2 hd
    have g1 : (0 : Int) < (len : Int) := by omega
    have Hr : Hid (et = .error 10) := Lib.hid (by
      rw [Het.out]
      show (if (3 : Int) < 0 ∨ 9 ≤ (3 : Int) then _ else _) = _
      rw [if_neg (by decide)]
      exact if_pos (.inl ⟨rfl, hd⟩))
    generalize Lib.itoa n = dn at *
    generalize Lib.itoa keep = dk at *
    clear hd hlp hl
    go_enter Tryd.func16, Tryd.ntmps16
    go_wp2_with fail
    refine (Hn.out _).mono ?_
    rintro e w2 ⟨rfl, b2⟩
    have B2 := Lib.hid (step HB0.out b2)
    have E2 := Lib.hid (HE.out.below b2)
    have e2 := E2.out.cells4
    clear b2 HB0 HE e0
    go_wp2_with fail
    refine (Hk.out _).mono ?_
    rintro e w3 ⟨rfl, b3⟩
    have B3 := Lib.hid (step B2.out b3)
    have E3 := Lib.hid (E2.out.below b3)
    have e3 := E3.out.cells4
    clear b3 B2 E2 e2
    go_wp2_with fail
    go_ret2
    exact ⟨by rw [Hr.out]; rfl, B3.out⟩
  obtain rfl : len = 0 := by rw [← hl, hd]; rfl
  by_cases hn : n = 0
  case neg =>
    have g2 : (n == 0) = false := by rw [beq_eq_false_iff_ne]; exact hn
    have g3 : (n != 0) = true := by rw [bne, g2]; rfl
    have Hr : Hid (et = .error 10) := Lib.hid (by
      rw [Het.out]
      show (if (3 : Int) < 0 ∨ 9 ≤ (3 : Int) then _ else _) = _
      rw [if_neg (by decide)]
      exact if_pos (.inr (.inl ⟨rfl, hn⟩)))
    generalize Lib.itoa n = dn at *
    generalize Lib.itoa keep = dk at *
    clear hd hl
    go_enter Tryd.func16, Tryd.ntmps16
    go_wp2_with fail
    refine (Hn.out _).mono ?_
    rintro e w2 ⟨rfl, b2⟩
    have B2 := Lib.hid (step HB0.out b2)
    have E2 := Lib.hid (HE.out.below b2)
    have e2 := E2.out.cells4
    clear b2 HB0 HE e0
    go_wp2_with fail
    refine (Hk.out _).mono ?_
    rintro e w3 ⟨rfl, b3⟩
    have B3 := Lib.hid (step B2.out b3)
    have E3 := Lib.hid (E2.out.below b3)
    have e3 := E3.out.cells4
    clear b3 B2 E2 e2
    go_wp2_with fail
    go_ret2
    exact ⟨by rw [Hr.out]; rfl, B3.out⟩
  subst hn
  by_cases hk : keep = 0
  case neg =>
    have g4 : (keep == 0) = false := by rw [beq_eq_false_iff_ne]; exact hk
    have g5 : (keep != 0) = true := by rw [bne, g4]; rfl
    have Hr : Hid (et = .error 10) := Lib.hid (by
      rw [Het.out]
      show (if (3 : Int) < 0 ∨ 9 ≤ (3 : Int) then _ else _) = _
      rw [if_neg (by decide)]
      exact if_pos (.inr (.inr ⟨rfl, hk⟩)))
    generalize Lib.itoa 0 = dn at *
    generalize Lib.itoa keep = dk at *
    clear hd hl
    go_enter Tryd.func16, Tryd.ntmps16
    go_wp2_with fail
    refine (Hn.out _).mono ?_
    rintro e w2 ⟨rfl, b2⟩
    have B2 := Lib.hid (step HB0.out b2)
    have E2 := Lib.hid (HE.out.below b2)
    have e2 := E2.out.cells4
    clear b2 HB0 HE e0
    go_wp2_with fail
    refine (Hk.out _).mono ?_
    rintro e w3 ⟨rfl, b3⟩
    have B3 := Lib.hid (step B2.out b3)
    have E3 := Lib.hid (E2.out.below b3)
    have e3 := E3.out.cells4
    clear b3 B2 E2 e2
    go_wp2_with fail
    go_ret2
    exact ⟨by rw [Hr.out]; rfl, B3.out⟩
  subst hk
  have Hr : Hid (et = .ok ([100, 114, 111, 112, 32, 111, 117, 116] ++ (([]) ++ (([]) ++ ([]))))) := Lib.hid (by
    rw [Het.out]
    show (if (3 : Int) < 0 ∨ 9 ≤ (3 : Int) then _ else _) = _
    rw [if_neg (by decide)]
    refine (if_neg ?_).trans rfl
    rintro (⟨h, h'⟩ | ⟨h, h'⟩ | ⟨h, h'⟩)
    · exact h' hd
    · exact h' rfl
    · exact h' rfl)
  obtain ⟨dn, hdn⟩ : ∃ l, l = Lib.itoa 0 := ⟨_, rfl⟩
  rw [← hdn] at Hn hln
  obtain ⟨dk, hdk⟩ : ∃ l, l = Lib.itoa 0 := ⟨_, rfl⟩
  rw [← hdk] at Hk hlk
  have hzn := Sp.bs_size dn
  have hzk := Sp.bs_size dk
  have Hr2 := Hr
  clear hd hl hdn hdk
  go_enter Tryd.func16, Tryd.ntmps16
  go_wp2_with fail
  refine (Hn.out _).mono ?_
  rintro e w2 ⟨rfl, b2⟩
  have B2 := Lib.hid (step HB0.out b2)
  have E2 := Lib.hid (HE.out.below b2)
  have e2 := E2.out.cells4
  clear b2 HB0 HE e0
  go_wp2_with fail
  refine (Hk.out _).mono ?_
  rintro e w3 ⟨rfl, b3⟩
  have B3 := Lib.hid (step B2.out b3)
  have E3 := Lib.hid (E2.out.below b3)
  have e3 := E3.out.cells4
  clear b3 B2 E2 e2
  go_wp2_with fail
  go_ret2
  exact ⟨by rw [Hr2.out]; rfl, B3.out⟩
end Tr
end Go.Proofs.YtpchfmeaplhodaaDoor
namespace Go.Proofs.YtpchfmeaplhodaaDoor
set_option linter.unusedVariables false
set_option linter.unusedSimpArgs false
open Go.RowKit Go.Shelf
namespace Tr
open Ap Sg
set_option maxHeartbeats 8000000
set_option maxRecDepth 100000 in
theorem revent_4 (n keep : Int) (A : Option Addr) (len c : Nat) (data : List UInt8) (w : World) (hby : By w A len c data) (hlen : len ≤ 100000) (hn0 : -9223372036854775808 ≤ n) (hn1 : n ≤ 9223372036854775807) (hk0 : -9223372036854775808 ≤ keep) (hk1 : keep ≤ 9223372036854775807) :
    Calls Tryd.prog 16 #[evA 4 n keep A len c] w fun e w' => e = .returned (Sp.evV (Sp.evT ⟨4, n, keep, data⟩)) ∧ Below w.heap.size w w' := by
  have hl := hby.len
  have huE := Tryd.underlying29
  have hB0 : Below w.heap.size w (w.alloc (.cells (evC 4 n keep A len c) 29)) := (Below.refl _ _).alloc (Nat.le_refl _) _
  have E0 := Blk.new w (evC 4 n keep A len c) 29
  have e0 := E0.cells4
  have HE := Lib.hid E0
  have HB0 := Lib.hid hB0
  have Hby := Lib.hid hby
  have Hn := Lib.hid (decimal_calls n hn0 hn1)
  have Hk := Lib.hid (decimal_calls keep hk0 hk1)
  have hln := Lib.itoa_length_le n hn0 hn1
  have hlk := Lib.itoa_length_le keep hk0 hk1
  obtain ⟨et, het⟩ : ∃ et, et = Sp.evT ⟨4, n, keep, data⟩ := ⟨_, rfl⟩
  rw [← het]
  have Het := Lib.hid het
  clear E0 hB0 het hby
  by_cases hd : data = []
  case neg =>
    have hlp : 0 < len := by rw [← hl]; exact List.length_pos_iff.2 hd
    have g1 : (0 : Int) < (len : Int) := by omega
    have Hr : Hid (et = .error 10) := Lib.hid (by
      rw [Het.out]
      show (if (4 : Int) < 0 ∨ 9 ≤ (4 : Int) then _ else _) = _
      rw [if_neg (by decide)]
      exact if_pos (.inl ⟨rfl, hd⟩))
    generalize Lib.itoa n = dn at *
    generalize Lib.itoa keep = dk at *
    clear hd hlp hl
    go_enter Tryd.func16, Tryd.ntmps16
    go_wp2_with fail
    refine (Hn.out _).mono ?_
    rintro e w2 ⟨rfl, b2⟩
    have B2 := Lib.hid (step HB0.out b2)
    have E2 := Lib.hid (HE.out.below b2)
    have e2 := E2.out.cells4
    clear b2 HB0 HE e0
    go_wp2_with fail
    refine (Hk.out _).mono ?_
    rintro e w3 ⟨rfl, b3⟩
    have B3 := Lib.hid (step B2.out b3)
    have E3 := Lib.hid (E2.out.below b3)
    have e3 := E3.out.cells4
    clear b3 B2 E2 e2
    go_wp2_with fail
    go_ret2
    exact ⟨by rw [Hr.out]; rfl, B3.out⟩
  obtain rfl : len = 0 := by rw [← hl, hd]; rfl
  by_cases hk : keep = 0
  case neg =>
    have g4 : (keep == 0) = false := by rw [beq_eq_false_iff_ne]; exact hk
    have g5 : (keep != 0) = true := by rw [bne, g4]; rfl
    have Hr : Hid (et = .error 10) := Lib.hid (by
      rw [Het.out]
      show (if (4 : Int) < 0 ∨ 9 ≤ (4 : Int) then _ else _) = _
      rw [if_neg (by decide)]
      exact if_pos (.inr (.inr ⟨rfl, hk⟩)))
    generalize Lib.itoa n = dn at *
    generalize Lib.itoa keep = dk at *
    clear hd hl
    go_enter Tryd.func16, Tryd.ntmps16
    go_wp2_with fail
    refine (Hn.out _).mono ?_
    rintro e w2 ⟨rfl, b2⟩
    have B2 := Lib.hid (step HB0.out b2)
    have E2 := Lib.hid (HE.out.below b2)
    have e2 := E2.out.cells4
    clear b2 HB0 HE e0
    go_wp2_with fail
    refine (Hk.out _).mono ?_
    rintro e w3 ⟨rfl, b3⟩
    have B3 := Lib.hid (step B2.out b3)
    have E3 := Lib.hid (E2.out.below b3)
    have e3 := E3.out.cells4
    clear b3 B2 E2 e2
    go_wp2_with fail
    go_ret2
    exact ⟨by rw [Hr.out]; rfl, B3.out⟩
  subst hk
  have Hr : Hid (et = .ok ([116, 105, 99, 107] ++ (([]) ++ ((32 :: Lib.itoa n) ++ ([]))))) := Lib.hid (by
    rw [Het.out]
    show (if (4 : Int) < 0 ∨ 9 ≤ (4 : Int) then _ else _) = _
    rw [if_neg (by decide)]
    refine (if_neg ?_).trans rfl
    rintro (⟨h, h'⟩ | ⟨h, h'⟩ | ⟨h, h'⟩)
    · exact h' hd
    · exact absurd (show Sp.kc 4 = false from h) (by decide)
    · exact h' rfl)
  obtain ⟨dn, hdn⟩ : ∃ l, l = Lib.itoa n := ⟨_, rfl⟩
  rw [← hdn] at Hn hln
  obtain ⟨dk, hdk⟩ : ∃ l, l = Lib.itoa 0 := ⟨_, rfl⟩
  rw [← hdk] at Hk hlk
  have hzn := Sp.bs_size dn
  have hzk := Sp.bs_size dk
  obtain ⟨t0, ht0⟩ : ∃ l, l = [116, 105, 99, 107, 32] ++ dn := ⟨_, rfl⟩
  have hc0 : (⟨#[116, 105, 99, 107, 32]⟩ : ByteArray) ++ Sp.bs dn = Sp.bs t0 := by rw [ht0]; exact Sp.bs_append [116, 105, 99, 107, 32] dn
  have hzt0 := Sp.bs_size t0
  have hqt0 : t0.length = 5 + dn.length := by rw [ht0, List.length_append]; rfl
  have Hr2 : Hid (et = .ok t0) := Lib.hid (by rw [Hr.out, ht0, hdn]; simp)
  clear Hr ht0 hdn hdk hd hl
  go_enter Tryd.func16, Tryd.ntmps16
  go_wp2_with fail
  refine (Hn.out _).mono ?_
  rintro e w2 ⟨rfl, b2⟩
  have B2 := Lib.hid (step HB0.out b2)
  have E2 := Lib.hid (HE.out.below b2)
  have e2 := E2.out.cells4
  clear b2 HB0 HE e0
  go_wp2_with fail
  refine (Hk.out _).mono ?_
  rintro e w3 ⟨rfl, b3⟩
  have B3 := Lib.hid (step B2.out b3)
  have E3 := Lib.hid (E2.out.below b3)
  have e3 := E3.out.cells4
  clear b3 B2 E2 e2
  go_wp2_with fail
  go_ret2
  exact ⟨by rw [Hr2.out]; rfl, B3.out⟩
end Tr
end Go.Proofs.YtpchfmeaplhodaaDoor
namespace Go.Proofs.YtpchfmeaplhodaaDoor
set_option linter.unusedVariables false
set_option linter.unusedSimpArgs false
open Go.RowKit Go.Shelf
namespace Tr
open Ap Sg
set_option maxHeartbeats 8000000
set_option maxRecDepth 100000 in
theorem revent_5 (n keep : Int) (A : Option Addr) (len c : Nat) (data : List UInt8) (w : World) (hby : By w A len c data) (hlen : len ≤ 100000) (hn0 : -9223372036854775808 ≤ n) (hn1 : n ≤ 9223372036854775807) (hk0 : -9223372036854775808 ≤ keep) (hk1 : keep ≤ 9223372036854775807) :
    Calls Tryd.prog 16 #[evA 5 n keep A len c] w fun e w' => e = .returned (Sp.evV (Sp.evT ⟨5, n, keep, data⟩)) ∧ Below w.heap.size w w' := by
  have hl := hby.len
  have huE := Tryd.underlying29
  have hB0 : Below w.heap.size w (w.alloc (.cells (evC 5 n keep A len c) 29)) := (Below.refl _ _).alloc (Nat.le_refl _) _
  have E0 := Blk.new w (evC 5 n keep A len c) 29
  have e0 := E0.cells4
  have HE := Lib.hid E0
  have HB0 := Lib.hid hB0
  have Hby := Lib.hid hby
  have Hn := Lib.hid (decimal_calls n hn0 hn1)
  have Hk := Lib.hid (decimal_calls keep hk0 hk1)
  have hln := Lib.itoa_length_le n hn0 hn1
  have hlk := Lib.itoa_length_le keep hk0 hk1
  obtain ⟨et, het⟩ : ∃ et, et = Sp.evT ⟨5, n, keep, data⟩ := ⟨_, rfl⟩
  rw [← het]
  have Het := Lib.hid het
  clear E0 hB0 het hby
  by_cases hd : data = []
  case neg =>
    have hlp : 0 < len := by rw [← hl]; exact List.length_pos_iff.2 hd
    have g1 : (0 : Int) < (len : Int) := by omega
    have Hr : Hid (et = .error 10) := Lib.hid (by
      rw [Het.out]
      show (if (5 : Int) < 0 ∨ 9 ≤ (5 : Int) then _ else _) = _
      rw [if_neg (by decide)]
      exact if_pos (.inl ⟨rfl, hd⟩))
    generalize Lib.itoa n = dn at *
    generalize Lib.itoa keep = dk at *
    clear hd hlp hl
    go_enter Tryd.func16, Tryd.ntmps16
    go_wp2_with fail
    refine (Hn.out _).mono ?_
    rintro e w2 ⟨rfl, b2⟩
    have B2 := Lib.hid (step HB0.out b2)
    have E2 := Lib.hid (HE.out.below b2)
    have e2 := E2.out.cells4
    clear b2 HB0 HE e0
    go_wp2_with fail
    refine (Hk.out _).mono ?_
    rintro e w3 ⟨rfl, b3⟩
    have B3 := Lib.hid (step B2.out b3)
    have E3 := Lib.hid (E2.out.below b3)
    have e3 := E3.out.cells4
    clear b3 B2 E2 e2
    go_wp2_with fail
    go_ret2
    exact ⟨by rw [Hr.out]; rfl, B3.out⟩
  obtain rfl : len = 0 := by rw [← hl, hd]; rfl
  by_cases hk : keep = 0
  case neg =>
    have g4 : (keep == 0) = false := by rw [beq_eq_false_iff_ne]; exact hk
    have g5 : (keep != 0) = true := by rw [bne, g4]; rfl
    have Hr : Hid (et = .error 10) := Lib.hid (by
      rw [Het.out]
      show (if (5 : Int) < 0 ∨ 9 ≤ (5 : Int) then _ else _) = _
      rw [if_neg (by decide)]
      exact if_pos (.inr (.inr ⟨rfl, hk⟩)))
    generalize Lib.itoa n = dn at *
    generalize Lib.itoa keep = dk at *
    clear hd hl
    go_enter Tryd.func16, Tryd.ntmps16
    go_wp2_with fail
    refine (Hn.out _).mono ?_
    rintro e w2 ⟨rfl, b2⟩
    have B2 := Lib.hid (step HB0.out b2)
    have E2 := Lib.hid (HE.out.below b2)
    have e2 := E2.out.cells4
    clear b2 HB0 HE e0
    go_wp2_with fail
    refine (Hk.out _).mono ?_
    rintro e w3 ⟨rfl, b3⟩
    have B3 := Lib.hid (step B2.out b3)
    have E3 := Lib.hid (E2.out.below b3)
    have e3 := E3.out.cells4
    clear b3 B2 E2 e2
    go_wp2_with fail
    go_ret2
    exact ⟨by rw [Hr.out]; rfl, B3.out⟩
  subst hk
  have Hr : Hid (et = .ok ([114, 111, 111, 109] ++ (([]) ++ ((32 :: Lib.itoa n) ++ ([]))))) := Lib.hid (by
    rw [Het.out]
    show (if (5 : Int) < 0 ∨ 9 ≤ (5 : Int) then _ else _) = _
    rw [if_neg (by decide)]
    refine (if_neg ?_).trans rfl
    rintro (⟨h, h'⟩ | ⟨h, h'⟩ | ⟨h, h'⟩)
    · exact h' hd
    · exact absurd (show Sp.kc 5 = false from h) (by decide)
    · exact h' rfl)
  obtain ⟨dn, hdn⟩ : ∃ l, l = Lib.itoa n := ⟨_, rfl⟩
  rw [← hdn] at Hn hln
  obtain ⟨dk, hdk⟩ : ∃ l, l = Lib.itoa 0 := ⟨_, rfl⟩
  rw [← hdk] at Hk hlk
  have hzn := Sp.bs_size dn
  have hzk := Sp.bs_size dk
  obtain ⟨t0, ht0⟩ : ∃ l, l = [114, 111, 111, 109, 32] ++ dn := ⟨_, rfl⟩
  have hc0 : (⟨#[114, 111, 111, 109, 32]⟩ : ByteArray) ++ Sp.bs dn = Sp.bs t0 := by rw [ht0]; exact Sp.bs_append [114, 111, 111, 109, 32] dn
  have hzt0 := Sp.bs_size t0
  have hqt0 : t0.length = 5 + dn.length := by rw [ht0, List.length_append]; rfl
  have Hr2 : Hid (et = .ok t0) := Lib.hid (by rw [Hr.out, ht0, hdn]; simp)
  clear Hr ht0 hdn hdk hd hl
  go_enter Tryd.func16, Tryd.ntmps16
  go_wp2_with fail
  refine (Hn.out _).mono ?_
  rintro e w2 ⟨rfl, b2⟩
  have B2 := Lib.hid (step HB0.out b2)
  have E2 := Lib.hid (HE.out.below b2)
  have e2 := E2.out.cells4
  clear b2 HB0 HE e0
  go_wp2_with fail
  refine (Hk.out _).mono ?_
  rintro e w3 ⟨rfl, b3⟩
  have B3 := Lib.hid (step B2.out b3)
  have E3 := Lib.hid (E2.out.below b3)
  have e3 := E3.out.cells4
  clear b3 B2 E2 e2
  go_wp2_with fail
  go_ret2
  exact ⟨by rw [Hr2.out]; rfl, B3.out⟩
end Tr
end Go.Proofs.YtpchfmeaplhodaaDoor
namespace Go.Proofs.YtpchfmeaplhodaaDoor
set_option linter.unusedVariables false
set_option linter.unusedSimpArgs false
open Go.RowKit Go.Shelf
namespace Tr
open Ap Sg
set_option maxHeartbeats 8000000
set_option maxRecDepth 100000 in
theorem revent_6 (n keep : Int) (A : Option Addr) (len c : Nat) (data : List UInt8) (w : World) (hby : By w A len c data) (hlen : len ≤ 100000) (hn0 : -9223372036854775808 ≤ n) (hn1 : n ≤ 9223372036854775807) (hk0 : -9223372036854775808 ≤ keep) (hk1 : keep ≤ 9223372036854775807) :
    Calls Tryd.prog 16 #[evA 6 n keep A len c] w fun e w' => e = .returned (Sp.evV (Sp.evT ⟨6, n, keep, data⟩)) ∧ Below w.heap.size w w' := by
  have hl := hby.len
  have huE := Tryd.underlying29
  have hB0 : Below w.heap.size w (w.alloc (.cells (evC 6 n keep A len c) 29)) := (Below.refl _ _).alloc (Nat.le_refl _) _
  have E0 := Blk.new w (evC 6 n keep A len c) 29
  have e0 := E0.cells4
  have HE := Lib.hid E0
  have HB0 := Lib.hid hB0
  have Hby := Lib.hid hby
  have Hn := Lib.hid (decimal_calls n hn0 hn1)
  have Hk := Lib.hid (decimal_calls keep hk0 hk1)
  have hln := Lib.itoa_length_le n hn0 hn1
  have hlk := Lib.itoa_length_le keep hk0 hk1
  obtain ⟨et, het⟩ : ∃ et, et = Sp.evT ⟨6, n, keep, data⟩ := ⟨_, rfl⟩
  rw [← het]
  have Het := Lib.hid het
  clear E0 hB0 het hby
  by_cases hd : data = []
  case neg =>
    have hlp : 0 < len := by rw [← hl]; exact List.length_pos_iff.2 hd
    have g1 : (0 : Int) < (len : Int) := by omega
    have Hr : Hid (et = .error 10) := Lib.hid (by
      rw [Het.out]
      show (if (6 : Int) < 0 ∨ 9 ≤ (6 : Int) then _ else _) = _
      rw [if_neg (by decide)]
      exact if_pos (.inl ⟨rfl, hd⟩))
    generalize Lib.itoa n = dn at *
    generalize Lib.itoa keep = dk at *
    clear hd hlp hl
    go_enter Tryd.func16, Tryd.ntmps16
    go_wp2_with fail
    refine (Hn.out _).mono ?_
    rintro e w2 ⟨rfl, b2⟩
    have B2 := Lib.hid (step HB0.out b2)
    have E2 := Lib.hid (HE.out.below b2)
    have e2 := E2.out.cells4
    clear b2 HB0 HE e0
    go_wp2_with fail
    refine (Hk.out _).mono ?_
    rintro e w3 ⟨rfl, b3⟩
    have B3 := Lib.hid (step B2.out b3)
    have E3 := Lib.hid (E2.out.below b3)
    have e3 := E3.out.cells4
    clear b3 B2 E2 e2
    go_wp2_with fail
    go_ret2
    exact ⟨by rw [Hr.out]; rfl, B3.out⟩
  obtain rfl : len = 0 := by rw [← hl, hd]; rfl
  by_cases hk : keep = 0
  case neg =>
    have g4 : (keep == 0) = false := by rw [beq_eq_false_iff_ne]; exact hk
    have g5 : (keep != 0) = true := by rw [bne, g4]; rfl
    have Hr : Hid (et = .error 10) := Lib.hid (by
      rw [Het.out]
      show (if (6 : Int) < 0 ∨ 9 ≤ (6 : Int) then _ else _) = _
      rw [if_neg (by decide)]
      exact if_pos (.inr (.inr ⟨rfl, hk⟩)))
    generalize Lib.itoa n = dn at *
    generalize Lib.itoa keep = dk at *
    clear hd hl
    go_enter Tryd.func16, Tryd.ntmps16
    go_wp2_with fail
    refine (Hn.out _).mono ?_
    rintro e w2 ⟨rfl, b2⟩
    have B2 := Lib.hid (step HB0.out b2)
    have E2 := Lib.hid (HE.out.below b2)
    have e2 := E2.out.cells4
    clear b2 HB0 HE e0
    go_wp2_with fail
    refine (Hk.out _).mono ?_
    rintro e w3 ⟨rfl, b3⟩
    have B3 := Lib.hid (step B2.out b3)
    have E3 := Lib.hid (E2.out.below b3)
    have e3 := E3.out.cells4
    clear b3 B2 E2 e2
    go_wp2_with fail
    go_ret2
    exact ⟨by rw [Hr.out]; rfl, B3.out⟩
  subst hk
  have Hr : Hid (et = .ok ([102, 97, 105, 108, 115, 121, 110, 99] ++ (([]) ++ ((32 :: Lib.itoa n) ++ ([]))))) := Lib.hid (by
    rw [Het.out]
    show (if (6 : Int) < 0 ∨ 9 ≤ (6 : Int) then _ else _) = _
    rw [if_neg (by decide)]
    refine (if_neg ?_).trans rfl
    rintro (⟨h, h'⟩ | ⟨h, h'⟩ | ⟨h, h'⟩)
    · exact h' hd
    · exact absurd (show Sp.kc 6 = false from h) (by decide)
    · exact h' rfl)
  obtain ⟨dn, hdn⟩ : ∃ l, l = Lib.itoa n := ⟨_, rfl⟩
  rw [← hdn] at Hn hln
  obtain ⟨dk, hdk⟩ : ∃ l, l = Lib.itoa 0 := ⟨_, rfl⟩
  rw [← hdk] at Hk hlk
  have hzn := Sp.bs_size dn
  have hzk := Sp.bs_size dk
  obtain ⟨t0, ht0⟩ : ∃ l, l = [102, 97, 105, 108, 115, 121, 110, 99, 32] ++ dn := ⟨_, rfl⟩
  have hc0 : (⟨#[102, 97, 105, 108, 115, 121, 110, 99, 32]⟩ : ByteArray) ++ Sp.bs dn = Sp.bs t0 := by rw [ht0]; exact Sp.bs_append [102, 97, 105, 108, 115, 121, 110, 99, 32] dn
  have hzt0 := Sp.bs_size t0
  have hqt0 : t0.length = 9 + dn.length := by rw [ht0, List.length_append]; rfl
  have Hr2 : Hid (et = .ok t0) := Lib.hid (by rw [Hr.out, ht0, hdn]; simp)
  clear Hr ht0 hdn hdk hd hl
  go_enter Tryd.func16, Tryd.ntmps16
  go_wp2_with fail
  refine (Hn.out _).mono ?_
  rintro e w2 ⟨rfl, b2⟩
  have B2 := Lib.hid (step HB0.out b2)
  have E2 := Lib.hid (HE.out.below b2)
  have e2 := E2.out.cells4
  clear b2 HB0 HE e0
  go_wp2_with fail
  refine (Hk.out _).mono ?_
  rintro e w3 ⟨rfl, b3⟩
  have B3 := Lib.hid (step B2.out b3)
  have E3 := Lib.hid (E2.out.below b3)
  have e3 := E3.out.cells4
  clear b3 B2 E2 e2
  go_wp2_with fail
  go_ret2
  exact ⟨by rw [Hr2.out]; rfl, B3.out⟩
end Tr
end Go.Proofs.YtpchfmeaplhodaaDoor
namespace Go.Proofs.YtpchfmeaplhodaaDoor
set_option linter.unusedVariables false
set_option linter.unusedSimpArgs false
open Go.RowKit Go.Shelf
namespace Tr
open Ap Sg
set_option maxHeartbeats 8000000
set_option maxRecDepth 100000 in
theorem revent_7 (n keep : Int) (A : Option Addr) (len c : Nat) (data : List UInt8) (w : World) (hby : By w A len c data) (hlen : len ≤ 100000) (hn0 : -9223372036854775808 ≤ n) (hn1 : n ≤ 9223372036854775807) (hk0 : -9223372036854775808 ≤ keep) (hk1 : keep ≤ 9223372036854775807) :
    Calls Tryd.prog 16 #[evA 7 n keep A len c] w fun e w' => e = .returned (Sp.evV (Sp.evT ⟨7, n, keep, data⟩)) ∧ Below w.heap.size w w' := by
  have hl := hby.len
  have huE := Tryd.underlying29
  have hB0 : Below w.heap.size w (w.alloc (.cells (evC 7 n keep A len c) 29)) := (Below.refl _ _).alloc (Nat.le_refl _) _
  have E0 := Blk.new w (evC 7 n keep A len c) 29
  have e0 := E0.cells4
  have HE := Lib.hid E0
  have HB0 := Lib.hid hB0
  have Hby := Lib.hid hby
  have Hn := Lib.hid (decimal_calls n hn0 hn1)
  have Hk := Lib.hid (decimal_calls keep hk0 hk1)
  have hln := Lib.itoa_length_le n hn0 hn1
  have hlk := Lib.itoa_length_le keep hk0 hk1
  obtain ⟨et, het⟩ : ∃ et, et = Sp.evT ⟨7, n, keep, data⟩ := ⟨_, rfl⟩
  rw [← het]
  have Het := Lib.hid het
  clear E0 hB0 het hby
  by_cases hd : data = []
  case neg =>
    have hlp : 0 < len := by rw [← hl]; exact List.length_pos_iff.2 hd
    have g1 : (0 : Int) < (len : Int) := by omega
    have Hr : Hid (et = .error 10) := Lib.hid (by
      rw [Het.out]
      show (if (7 : Int) < 0 ∨ 9 ≤ (7 : Int) then _ else _) = _
      rw [if_neg (by decide)]
      exact if_pos (.inl ⟨rfl, hd⟩))
    generalize Lib.itoa n = dn at *
    generalize Lib.itoa keep = dk at *
    clear hd hlp hl
    go_enter Tryd.func16, Tryd.ntmps16
    go_wp2_with fail
    refine (Hn.out _).mono ?_
    rintro e w2 ⟨rfl, b2⟩
    have B2 := Lib.hid (step HB0.out b2)
    have E2 := Lib.hid (HE.out.below b2)
    have e2 := E2.out.cells4
    clear b2 HB0 HE e0
    go_wp2_with fail
    refine (Hk.out _).mono ?_
    rintro e w3 ⟨rfl, b3⟩
    have B3 := Lib.hid (step B2.out b3)
    have E3 := Lib.hid (E2.out.below b3)
    have e3 := E3.out.cells4
    clear b3 B2 E2 e2
    go_wp2_with fail
    go_ret2
    exact ⟨by rw [Hr.out]; rfl, B3.out⟩
  obtain rfl : len = 0 := by rw [← hl, hd]; rfl
  have Hr : Hid (et = .ok ([97, 114, 109] ++ (([]) ++ ((32 :: Lib.itoa n) ++ (32 :: Lib.itoa keep))))) := Lib.hid (by
    rw [Het.out]
    show (if (7 : Int) < 0 ∨ 9 ≤ (7 : Int) then _ else _) = _
    rw [if_neg (by decide)]
    refine (if_neg ?_).trans rfl
    rintro (⟨h, h'⟩ | ⟨h, h'⟩ | ⟨h, h'⟩)
    · exact h' hd
    · exact absurd (show Sp.kc 7 = false from h) (by decide)
    · exact absurd (show Sp.kk 7 = false from h) (by decide))
  obtain ⟨dn, hdn⟩ : ∃ l, l = Lib.itoa n := ⟨_, rfl⟩
  rw [← hdn] at Hn hln
  obtain ⟨dk, hdk⟩ : ∃ l, l = Lib.itoa keep := ⟨_, rfl⟩
  rw [← hdk] at Hk hlk
  have hzn := Sp.bs_size dn
  have hzk := Sp.bs_size dk
  obtain ⟨t0, ht0⟩ : ∃ l, l = [97, 114, 109, 32] ++ dn := ⟨_, rfl⟩
  have hc0 : (⟨#[97, 114, 109, 32]⟩ : ByteArray) ++ Sp.bs dn = Sp.bs t0 := by rw [ht0]; exact Sp.bs_append [97, 114, 109, 32] dn
  have hzt0 := Sp.bs_size t0
  have hqt0 : t0.length = 4 + dn.length := by rw [ht0, List.length_append]; rfl
  obtain ⟨t1, ht1⟩ : ∃ l, l = t0 ++ [32] := ⟨_, rfl⟩
  have hc1 : Sp.bs t0 ++ (⟨#[32]⟩ : ByteArray) = Sp.bs t1 := by rw [ht1]; exact Sp.bs_append t0 [32]
  have hzt1 := Sp.bs_size t1
  have hqt1 : t1.length = t0.length + 1 := by rw [ht1, List.length_append]; rfl
  obtain ⟨t2, ht2⟩ : ∃ l, l = t1 ++ dk := ⟨_, rfl⟩
  have hc2 : Sp.bs t1 ++ Sp.bs dk = Sp.bs t2 := by rw [ht2]; exact Sp.bs_append t1 dk
  have hzt2 := Sp.bs_size t2
  have hqt2 : t2.length = t1.length + dk.length := by rw [ht2, List.length_append]
  have Hr2 : Hid (et = .ok t2) := Lib.hid (by rw [Hr.out, ht2, ht1, ht0, hdn, hdk]; simp)
  clear Hr ht0 hdn hdk ht1 ht2 hd hl
  go_enter Tryd.func16, Tryd.ntmps16
  go_wp2_with fail
  refine (Hn.out _).mono ?_
  rintro e w2 ⟨rfl, b2⟩
  have B2 := Lib.hid (step HB0.out b2)
  have E2 := Lib.hid (HE.out.below b2)
  have e2 := E2.out.cells4
  clear b2 HB0 HE e0
  go_wp2_with fail
  refine (Hk.out _).mono ?_
  rintro e w3 ⟨rfl, b3⟩
  have B3 := Lib.hid (step B2.out b3)
  have E3 := Lib.hid (E2.out.below b3)
  have e3 := E3.out.cells4
  clear b3 B2 E2 e2
  go_wp2_with fail
  go_ret2
  exact ⟨by rw [Hr2.out]; rfl, B3.out⟩
end Tr
end Go.Proofs.YtpchfmeaplhodaaDoor
namespace Go.Proofs.YtpchfmeaplhodaaDoor
set_option linter.unusedVariables false
set_option linter.unusedSimpArgs false
open Go.RowKit Go.Shelf
namespace Tr
open Ap Sg
set_option maxHeartbeats 8000000
set_option maxRecDepth 100000 in
theorem revent_8 (n keep : Int) (A : Option Addr) (len c : Nat) (data : List UInt8) (w : World) (hby : By w A len c data) (hlen : len ≤ 100000) (hn0 : -9223372036854775808 ≤ n) (hn1 : n ≤ 9223372036854775807) (hk0 : -9223372036854775808 ≤ keep) (hk1 : keep ≤ 9223372036854775807) :
    Calls Tryd.prog 16 #[evA 8 n keep A len c] w fun e w' => e = .returned (Sp.evV (Sp.evT ⟨8, n, keep, data⟩)) ∧ Below w.heap.size w w' := by
  have hl := hby.len
  have huE := Tryd.underlying29
  have hB0 : Below w.heap.size w (w.alloc (.cells (evC 8 n keep A len c) 29)) := (Below.refl _ _).alloc (Nat.le_refl _) _
  have E0 := Blk.new w (evC 8 n keep A len c) 29
  have e0 := E0.cells4
  have HE := Lib.hid E0
  have HB0 := Lib.hid hB0
  have Hby := Lib.hid hby
  have Hn := Lib.hid (decimal_calls n hn0 hn1)
  have Hk := Lib.hid (decimal_calls keep hk0 hk1)
  have hln := Lib.itoa_length_le n hn0 hn1
  have hlk := Lib.itoa_length_le keep hk0 hk1
  obtain ⟨et, het⟩ : ∃ et, et = Sp.evT ⟨8, n, keep, data⟩ := ⟨_, rfl⟩
  rw [← het]
  have Het := Lib.hid het
  clear E0 hB0 het hby
  by_cases hd : data = []
  case neg =>
    have hlp : 0 < len := by rw [← hl]; exact List.length_pos_iff.2 hd
    have g1 : (0 : Int) < (len : Int) := by omega
    have Hr : Hid (et = .error 10) := Lib.hid (by
      rw [Het.out]
      show (if (8 : Int) < 0 ∨ 9 ≤ (8 : Int) then _ else _) = _
      rw [if_neg (by decide)]
      exact if_pos (.inl ⟨rfl, hd⟩))
    generalize Lib.itoa n = dn at *
    generalize Lib.itoa keep = dk at *
    clear hd hlp hl
    go_enter Tryd.func16, Tryd.ntmps16
    go_wp2_with fail
    refine (Hn.out _).mono ?_
    rintro e w2 ⟨rfl, b2⟩
    have B2 := Lib.hid (step HB0.out b2)
    have E2 := Lib.hid (HE.out.below b2)
    have e2 := E2.out.cells4
    clear b2 HB0 HE e0
    go_wp2_with fail
    refine (Hk.out _).mono ?_
    rintro e w3 ⟨rfl, b3⟩
    have B3 := Lib.hid (step B2.out b3)
    have E3 := Lib.hid (E2.out.below b3)
    have e3 := E3.out.cells4
    clear b3 B2 E2 e2
    go_wp2_with fail
    go_ret2
    exact ⟨by rw [Hr.out]; rfl, B3.out⟩
  obtain rfl : len = 0 := by rw [← hl, hd]; rfl
  by_cases hn : n = 0
  case neg =>
    have g2 : (n == 0) = false := by rw [beq_eq_false_iff_ne]; exact hn
    have g3 : (n != 0) = true := by rw [bne, g2]; rfl
    have Hr : Hid (et = .error 10) := Lib.hid (by
      rw [Het.out]
      show (if (8 : Int) < 0 ∨ 9 ≤ (8 : Int) then _ else _) = _
      rw [if_neg (by decide)]
      exact if_pos (.inr (.inl ⟨rfl, hn⟩)))
    generalize Lib.itoa n = dn at *
    generalize Lib.itoa keep = dk at *
    clear hd hl
    go_enter Tryd.func16, Tryd.ntmps16
    go_wp2_with fail
    refine (Hn.out _).mono ?_
    rintro e w2 ⟨rfl, b2⟩
    have B2 := Lib.hid (step HB0.out b2)
    have E2 := Lib.hid (HE.out.below b2)
    have e2 := E2.out.cells4
    clear b2 HB0 HE e0
    go_wp2_with fail
    refine (Hk.out _).mono ?_
    rintro e w3 ⟨rfl, b3⟩
    have B3 := Lib.hid (step B2.out b3)
    have E3 := Lib.hid (E2.out.below b3)
    have e3 := E3.out.cells4
    clear b3 B2 E2 e2
    go_wp2_with fail
    go_ret2
    exact ⟨by rw [Hr.out]; rfl, B3.out⟩
  subst hn
  have Hr : Hid (et = .ok ([112, 111, 119, 101, 114] ++ (([]) ++ (([]) ++ (32 :: Lib.itoa keep))))) := Lib.hid (by
    rw [Het.out]
    show (if (8 : Int) < 0 ∨ 9 ≤ (8 : Int) then _ else _) = _
    rw [if_neg (by decide)]
    refine (if_neg ?_).trans rfl
    rintro (⟨h, h'⟩ | ⟨h, h'⟩ | ⟨h, h'⟩)
    · exact h' hd
    · exact h' rfl
    · exact absurd (show Sp.kk 8 = false from h) (by decide))
  obtain ⟨dn, hdn⟩ : ∃ l, l = Lib.itoa 0 := ⟨_, rfl⟩
  rw [← hdn] at Hn hln
  obtain ⟨dk, hdk⟩ : ∃ l, l = Lib.itoa keep := ⟨_, rfl⟩
  rw [← hdk] at Hk hlk
  have hzn := Sp.bs_size dn
  have hzk := Sp.bs_size dk
  obtain ⟨t0, ht0⟩ : ∃ l, l = [112, 111, 119, 101, 114, 32] ++ dk := ⟨_, rfl⟩
  have hc0 : (⟨#[112, 111, 119, 101, 114, 32]⟩ : ByteArray) ++ Sp.bs dk = Sp.bs t0 := by rw [ht0]; exact Sp.bs_append [112, 111, 119, 101, 114, 32] dk
  have hzt0 := Sp.bs_size t0
  have hqt0 : t0.length = 6 + dk.length := by rw [ht0, List.length_append]; rfl
  have Hr2 : Hid (et = .ok t0) := Lib.hid (by rw [Hr.out, ht0, hdk]; simp)
  clear Hr ht0 hdn hdk hd hl
  go_enter Tryd.func16, Tryd.ntmps16
  go_wp2_with fail
  refine (Hn.out _).mono ?_
  rintro e w2 ⟨rfl, b2⟩
  have B2 := Lib.hid (step HB0.out b2)
  have E2 := Lib.hid (HE.out.below b2)
  have e2 := E2.out.cells4
  clear b2 HB0 HE e0
  go_wp2_with fail
  refine (Hk.out _).mono ?_
  rintro e w3 ⟨rfl, b3⟩
  have B3 := Lib.hid (step B2.out b3)
  have E3 := Lib.hid (E2.out.below b3)
  have e3 := E3.out.cells4
  clear b3 B2 E2 e2
  go_wp2_with fail
  go_ret2
  exact ⟨by rw [Hr2.out]; rfl, B3.out⟩
end Tr
end Go.Proofs.YtpchfmeaplhodaaDoor
namespace Go.Proofs.YtpchfmeaplhodaaDoor
set_option linter.unusedVariables false
set_option linter.unusedSimpArgs false
open Go.RowKit Go.Shelf
namespace Tr
open Ap Sg
set_option maxHeartbeats 8000000
set_option maxRecDepth 100000 in
theorem revent_calls (k n keep : Int) (A : Option Addr) (len c : Nat) (data : List UInt8) (w : World) (hby : By w A len c data) (hlen : len ≤ 100000) (hn0 : -9223372036854775808 ≤ n) (hn1 : n ≤ 9223372036854775807) (hk0 : -9223372036854775808 ≤ keep) (hk1 : keep ≤ 9223372036854775807) :
    Calls Tryd.prog 16 #[evA k n keep A len c] w fun e w' => e = .returned (Sp.evV (Sp.evT ⟨k, n, keep, data⟩)) ∧ Below w.heap.size w w' := by
  by_cases hr : k < 0 ∨ 9 ≤ k
  · have huE := Tryd.underlying29
    have E0 := Blk.new w (evC k n keep A len c) 29
    have e0 := E0.cells4
    have HE := Lib.hid E0
    have HB0 := Lib.hid (show Below w.heap.size w (w.alloc (.cells (evC k n keep A len c) 29)) from (Below.refl _ _).alloc (Nat.le_refl _) _)
    have hv : Sp.evT ⟨k, n, keep, data⟩ = .error 17 := by
      unfold Sp.evT
      exact if_pos hr
    rw [hv]
    have Hn := Lib.hid (decimal_calls n hn0 hn1)
    have Hk := Lib.hid (decimal_calls keep hk0 hk1)
    have q0 : (k == 0) = false := by rw [beq_eq_false_iff_ne]; omega
    have q1 : (k == 1) = false := by rw [beq_eq_false_iff_ne]; omega
    have q4 : (k == 4) = false := by rw [beq_eq_false_iff_ne]; omega
    have q5 : (k == 5) = false := by rw [beq_eq_false_iff_ne]; omega
    have q6 : (k == 6) = false := by rw [beq_eq_false_iff_ne]; omega
    have q7 : (k == 7) = false := by rw [beq_eq_false_iff_ne]; omega
    have q8 : (k == 8) = false := by rw [beq_eq_false_iff_ne]; omega
    clear hby hv E0
    generalize Lib.itoa n = dn at *
    generalize Lib.itoa keep = dk at *
    by_cases h1 : k < 0
    · clear hr
      go_enter Tryd.func16, Tryd.ntmps16
      go_wp2_with fail
      refine (Hn.out _).mono ?_
      rintro e w2 ⟨rfl, b2⟩
      have B2 := Lib.hid (step HB0.out b2)
      have E2 := Lib.hid (HE.out.below b2)
      have e2 := E2.out.cells4
      clear b2 HB0 HE e0
      go_wp2_with fail
      refine (Hk.out _).mono ?_
      rintro e w3 ⟨rfl, b3⟩
      have B3 := Lib.hid (step B2.out b3)
      have E3 := Lib.hid (E2.out.below b3)
      have e3 := E3.out.cells4
      clear b3 B2 E2 e2
      go_wp2_with fail
      go_ret2
      exact ⟨rfl, B3.out⟩
    · have h2 : 8 < k := by omega
      clear hr
      go_enter Tryd.func16, Tryd.ntmps16
      go_wp2_with fail
      refine (Hn.out _).mono ?_
      rintro e w2 ⟨rfl, b2⟩
      have B2 := Lib.hid (step HB0.out b2)
      have E2 := Lib.hid (HE.out.below b2)
      have e2 := E2.out.cells4
      clear b2 HB0 HE e0
      go_wp2_with fail
      refine (Hk.out _).mono ?_
      rintro e w3 ⟨rfl, b3⟩
      have B3 := Lib.hid (step B2.out b3)
      have E3 := Lib.hid (E2.out.below b3)
      have e3 := E3.out.cells4
      clear b3 B2 E2 e2
      go_wp2_with fail
      go_ret2
      exact ⟨rfl, B3.out⟩
  · have h : k = 0 ∨ k = 1 ∨ k = 2 ∨ k = 3 ∨ k = 4 ∨ k = 5 ∨ k = 6 ∨ k = 7 ∨ k = 8 := by omega
    rcases h with rfl | rfl | rfl | rfl | rfl | rfl | rfl | rfl | rfl
    · exact revent_0 n keep A len c data w hby hlen hn0 hn1 hk0 hk1
    · exact revent_1 n keep A len c data w hby hlen hn0 hn1 hk0 hk1
    · exact revent_2 n keep A len c data w hby hlen hn0 hn1 hk0 hk1
    · exact revent_3 n keep A len c data w hby hlen hn0 hn1 hk0 hk1
    · exact revent_4 n keep A len c data w hby hlen hn0 hn1 hk0 hk1
    · exact revent_5 n keep A len c data w hby hlen hn0 hn1 hk0 hk1
    · exact revent_6 n keep A len c data w hby hlen hn0 hn1 hk0 hk1
    · exact revent_7 n keep A len c data w hby hlen hn0 hn1 hk0 hk1
    · exact revent_8 n keep A len c data w hby hlen hn0 hn1 hk0 hk1
end Tr
end Go.Proofs.YtpchfmeaplhodaaDoor
