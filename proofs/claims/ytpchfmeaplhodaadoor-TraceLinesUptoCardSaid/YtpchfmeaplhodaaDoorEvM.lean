/-
  A part of the proof of this seat's laws: an event's text, the program's.
-/
import Derived.Test.YtpchfmeaplhodaaDoorTr7
namespace Go.Proofs.YtpchfmeaplhodaaDoor
set_option linter.unusedVariables false
set_option linter.unusedSimpArgs false
open Go.RowKit Go.Shelf
namespace Tr
open Ap Sg
set_option maxHeartbeats 8000000
theorem kblk {W : World} {g : Nat} (hg : W.heap.size = g) (a b c d : Value) (T : TypeId) :
    Blk (W.alloc (.cells #[a, b, c, d] T)) g #[a, b, c, d] T ∧ Below W.heap.size W (W.alloc (.cells #[a, b, c, d] T)) := by
  subst hg
  exact ⟨Blk.new _ _ _, (Below.refl _ _).alloc (Nat.le_refl _) _⟩
end Tr
end Go.Proofs.YtpchfmeaplhodaaDoor
namespace Go.Proofs.YtpchfmeaplhodaaDoor
set_option linter.unusedVariables false
set_option linter.unusedSimpArgs false
open Go.RowKit Go.Shelf
namespace Tr
open Ap Sg
set_option maxHeartbeats 8000000
set_option maxRecDepth 100000 in
theorem event_0 (n keep : Int) (A : Option Addr) (len c : Nat) (data : List UInt8) (w : World) (hg : Gl w) (hby : By w A len c data) (hlen : len ≤ 100000) (hn0 : -9223372036854775808 ≤ n) (hn1 : n ≤ 9223372036854775807) (hk0 : -9223372036854775808 ≤ keep) (hk1 : keep ≤ 9223372036854775807) :
    Calls Tryd.prog 15 #[evA 0 n keep A len c] w fun e w' => e = .returned (Sp.evV (Sp.evT ⟨0, n, keep, data⟩)) ∧ Below w.heap.size w w' := by
  have hl := hby.len
  have huE := Tryd.underlying29
  have huK := Tryd.underlying68
  have huA := Tryd.underlying69
  have hB0 : Below w.heap.size w (w.alloc (.cells (evC 0 n keep A len c) 29)) := (Below.refl _ _).alloc (Nat.le_refl _) _
  have hsz0 : (w.alloc (.cells (evC 0 n keep A len c) 29)).heap.size = w.heap.size + 1 := World.size_alloc _ _
  have Hgl := Lib.hid hg
  have G0 := Lib.hid (hg.below hB0)
  have k0 : (w.alloc (.cells (evC 0 n keep A len c) 29)).cell? ⟨0, 0, none⟩ = some (.string ⟨#[105, 110]⟩) := G0.out.kn.at_ 0 _ rfl
  have k1 : (w.alloc (.cells (evC 0 n keep A len c) 29)).cell? ⟨0, 1, none⟩ = some (.bool true) := G0.out.kn.at_ 1 _ rfl
  have k2 : (w.alloc (.cells (evC 0 n keep A len c) 29)).cell? ⟨0, 2, none⟩ = some (.bool false) := G0.out.kn.at_ 2 _ rfl
  have k3 : (w.alloc (.cells (evC 0 n keep A len c) 29)).cell? ⟨0, 3, none⟩ = some (.bool false) := G0.out.kn.at_ 3 _ rfl
  have E0 := Blk.new w (evC 0 n keep A len c) 29
  have e0 := E0.cells4
  obtain ⟨V, hV⟩ : ∃ V, V = w.alloc (.cells (evC 0 n keep A len c) 29) := ⟨_, rfl⟩
  have hKB := kblk (W := V) (g := w.heap.size + 1) (by rw [hV]; exact hsz0) (.string ⟨#[105, 110]⟩) (.bool true) (.bool false) (.bool false) 68
  rw [hV] at hKB
  have HKB := Lib.hid hKB
  have HE := Lib.hid E0
  have HB0 := Lib.hid hB0
  have Hby := Lib.hid hby
  obtain ⟨et, het⟩ : ∃ et, et = Sp.evT ⟨0, n, keep, data⟩ := ⟨_, rfl⟩
  rw [← het]
  have Het := Lib.hid het
  clear hKB hV E0 hB0 hg het hby
  by_cases hn : n = 0
  case neg =>
    have g2 : (n == 0) = false := by rw [beq_eq_false_iff_ne]; exact hn
    have g3 : (n != 0) = true := by rw [bne, g2]; rfl
    have Hr : Hid (et = .error 10) := Lib.hid (by
      rw [Het.out]
      show (if (0 : Int) < 0 ∨ 9 ≤ (0 : Int) then _ else _) = _
      rw [if_neg (by decide)]
      exact if_pos (.inr (.inl ⟨rfl, hn⟩)))
    clear hl
    go_enter Tryd.func15, Tryd.ntmps15
    go_wp2_with fail
    go_ret2
    exact ⟨by rw [Hr.out]; rfl, HB0.out.trans (HKB.out.2.mono (by rw [World.size_alloc]; exact Nat.le_succ _))⟩
  subst hn
  by_cases hk : keep = 0
  case neg =>
    have g4 : (keep == 0) = false := by rw [beq_eq_false_iff_ne]; exact hk
    have g5 : (keep != 0) = true := by rw [bne, g4]; rfl
    have Hr : Hid (et = .error 10) := Lib.hid (by
      rw [Het.out]
      show (if (0 : Int) < 0 ∨ 9 ≤ (0 : Int) then _ else _) = _
      rw [if_neg (by decide)]
      exact if_pos (.inr (.inr ⟨rfl, hk⟩)))
    clear hl
    go_enter Tryd.func15, Tryd.ntmps15
    go_wp2_with fail
    go_ret2
    exact ⟨by rw [Hr.out]; rfl, HB0.out.trans (HKB.out.2.mono (by rw [World.size_alloc]; exact Nat.le_succ _))⟩
  subst hk
  have Hr : Hid (et = .ok ([105, 110] ++ ((32 :: Sp.hexT data) ++ (([]) ++ ([]))))) := Lib.hid (by
    rw [Het.out]
    show (if (0 : Int) < 0 ∨ 9 ≤ (0 : Int) then _ else _) = _
    rw [if_neg (by decide)]
    refine (if_neg ?_).trans rfl
    rintro (⟨h, h'⟩ | ⟨h, h'⟩ | ⟨h, h'⟩)
    · exact absurd (show Sp.kd 0 = false from h) (by decide)
    · exact h' rfl
    · exact h' rfl)
  obtain ⟨h0, hh0⟩ : ∃ l, l = Sp.hexT data := ⟨_, rfl⟩
  obtain ⟨m0, hm0⟩ : ∃ l, l = 32 :: h0 := ⟨_, rfl⟩
  have ha0 : (⟨#[32]⟩ : ByteArray) ++ Sp.bs h0 = Sp.bs m0 := by rw [hm0]; exact Sp.bs_append [32] h0
  obtain ⟨t0, ht0⟩ : ∃ l, l = [105, 110] ++ m0 := ⟨_, rfl⟩
  have hc0 : (⟨#[105, 110]⟩ : ByteArray) ++ Sp.bs m0 = Sp.bs t0 := by rw [ht0]; exact Sp.bs_append [105, 110] m0
  have hzh0 := Sp.bs_size h0
  have hzm0 := Sp.bs_size m0
  have hzt0 := Sp.bs_size t0
  have hq0 : h0.length ≤ 200001 := by
    rw [hh0]; unfold Sp.hexT
    split
    · simp
    · rw [Sp.hexs_len]; omega
  have hql0 : m0.length = h0.length + 1 := by rw [hm0]; rfl
  have hqt0 : t0.length = 2 + m0.length := by rw [ht0, List.length_append]; rfl
  have Hr2 : Hid (et = .ok t0) := Lib.hid (by
    rw [Hr.out, ht0, hm0, hh0]; simp)
  have Hx0 := Lib.hid (fun W hW => hex_calls A len c data (by omega) W hW)
  rw [← hh0] at Hx0
  clear Hr hh0 hm0 ht0 hl
  go_enter Tryd.func15, Tryd.ntmps15
  go_wp2_with fail
  have B1 := Lib.hid (HB0.out.trans (HKB.out.2.mono (by rw [World.size_alloc]; exact Nat.le_succ _)))
  have E1 := Lib.hid (HE.out.low HKB.out.2 (by rw [World.size_alloc]; exact Nat.lt_succ_self _))
  have K1 := Lib.hid HKB.out.1
  clear HKB HE HB0 G0 k0 k1 k2 k3 e0
  refine (Hx0.out _ (Hby.out.below B1.out)).mono ?_
  rintro e w2 ⟨rfl, b2⟩
  have B2 := Lib.hid (step B1.out b2)
  have E2 := Lib.hid (E1.out.below b2)
  have K2 := Lib.hid (K1.out.below b2)
  have e2 := E2.out.cells4
  have kc2 := K2.out.cells4
  clear b2 B1 E1 K1
  go_wp2_with fail
  go_ret2
  exact ⟨by rw [Hr2.out]; rfl, B2.out⟩
end Tr
end Go.Proofs.YtpchfmeaplhodaaDoor
namespace Go.Proofs.YtpchfmeaplhodaaDoor
set_option linter.unusedVariables false
set_option linter.unusedSimpArgs false
open Go.RowKit Go.Shelf
namespace Tr
open Ap Sg
set_option maxHeartbeats 8000000
set_option maxRecDepth 100000 in
theorem event_1 (n keep : Int) (A : Option Addr) (len c : Nat) (data : List UInt8) (w : World) (hg : Gl w) (hby : By w A len c data) (hlen : len ≤ 100000) (hn0 : -9223372036854775808 ≤ n) (hn1 : n ≤ 9223372036854775807) (hk0 : -9223372036854775808 ≤ keep) (hk1 : keep ≤ 9223372036854775807) :
    Calls Tryd.prog 15 #[evA 1 n keep A len c] w fun e w' => e = .returned (Sp.evV (Sp.evT ⟨1, n, keep, data⟩)) ∧ Below w.heap.size w w' := by
  have hl := hby.len
  have huE := Tryd.underlying29
  have huK := Tryd.underlying68
  have huA := Tryd.underlying69
  have hB0 : Below w.heap.size w (w.alloc (.cells (evC 1 n keep A len c) 29)) := (Below.refl _ _).alloc (Nat.le_refl _) _
  have hsz0 : (w.alloc (.cells (evC 1 n keep A len c) 29)).heap.size = w.heap.size + 1 := World.size_alloc _ _
  have Hgl := Lib.hid hg
  have G0 := Lib.hid (hg.below hB0)
  have k0 : (w.alloc (.cells (evC 1 n keep A len c) 29)).cell? ⟨0, 4, none⟩ = some (.string ⟨#[111, 117, 116]⟩) := G0.out.kn.at_ 4 _ rfl
  have k1 : (w.alloc (.cells (evC 1 n keep A len c) 29)).cell? ⟨0, 5, none⟩ = some (.bool true) := G0.out.kn.at_ 5 _ rfl
  have k2 : (w.alloc (.cells (evC 1 n keep A len c) 29)).cell? ⟨0, 6, none⟩ = some (.bool false) := G0.out.kn.at_ 6 _ rfl
  have k3 : (w.alloc (.cells (evC 1 n keep A len c) 29)).cell? ⟨0, 7, none⟩ = some (.bool false) := G0.out.kn.at_ 7 _ rfl
  have E0 := Blk.new w (evC 1 n keep A len c) 29
  have e0 := E0.cells4
  obtain ⟨V, hV⟩ : ∃ V, V = w.alloc (.cells (evC 1 n keep A len c) 29) := ⟨_, rfl⟩
  have hKB := kblk (W := V) (g := w.heap.size + 1) (by rw [hV]; exact hsz0) (.string ⟨#[111, 117, 116]⟩) (.bool true) (.bool false) (.bool false) 68
  rw [hV] at hKB
  have HKB := Lib.hid hKB
  have HE := Lib.hid E0
  have HB0 := Lib.hid hB0
  have Hby := Lib.hid hby
  obtain ⟨et, het⟩ : ∃ et, et = Sp.evT ⟨1, n, keep, data⟩ := ⟨_, rfl⟩
  rw [← het]
  have Het := Lib.hid het
  clear hKB hV E0 hB0 hg het hby
  by_cases hn : n = 0
  case neg =>
    have g2 : (n == 0) = false := by rw [beq_eq_false_iff_ne]; exact hn
    have g3 : (n != 0) = true := by rw [bne, g2]; rfl
    have Hr : Hid (et = .error 10) := Lib.hid (by
      rw [Het.out]
      show (if (1 : Int) < 0 ∨ 9 ≤ (1 : Int) then _ else _) = _
      rw [if_neg (by decide)]
      exact if_pos (.inr (.inl ⟨rfl, hn⟩)))
    clear hl
    go_enter Tryd.func15, Tryd.ntmps15
    go_wp2_with fail
    go_ret2
    exact ⟨by rw [Hr.out]; rfl, HB0.out.trans (HKB.out.2.mono (by rw [World.size_alloc]; exact Nat.le_succ _))⟩
  subst hn
  by_cases hk : keep = 0
  case neg =>
    have g4 : (keep == 0) = false := by rw [beq_eq_false_iff_ne]; exact hk
    have g5 : (keep != 0) = true := by rw [bne, g4]; rfl
    have Hr : Hid (et = .error 10) := Lib.hid (by
      rw [Het.out]
      show (if (1 : Int) < 0 ∨ 9 ≤ (1 : Int) then _ else _) = _
      rw [if_neg (by decide)]
      exact if_pos (.inr (.inr ⟨rfl, hk⟩)))
    clear hl
    go_enter Tryd.func15, Tryd.ntmps15
    go_wp2_with fail
    go_ret2
    exact ⟨by rw [Hr.out]; rfl, HB0.out.trans (HKB.out.2.mono (by rw [World.size_alloc]; exact Nat.le_succ _))⟩
  subst hk
  have Hr : Hid (et = .ok ([111, 117, 116] ++ ((32 :: Sp.hexT data) ++ (([]) ++ ([]))))) := Lib.hid (by
    rw [Het.out]
    show (if (1 : Int) < 0 ∨ 9 ≤ (1 : Int) then _ else _) = _
    rw [if_neg (by decide)]
    refine (if_neg ?_).trans rfl
    rintro (⟨h, h'⟩ | ⟨h, h'⟩ | ⟨h, h'⟩)
    · exact absurd (show Sp.kd 1 = false from h) (by decide)
    · exact h' rfl
    · exact h' rfl)
  obtain ⟨h0, hh0⟩ : ∃ l, l = Sp.hexT data := ⟨_, rfl⟩
  obtain ⟨m0, hm0⟩ : ∃ l, l = 32 :: h0 := ⟨_, rfl⟩
  have ha0 : (⟨#[32]⟩ : ByteArray) ++ Sp.bs h0 = Sp.bs m0 := by rw [hm0]; exact Sp.bs_append [32] h0
  obtain ⟨t0, ht0⟩ : ∃ l, l = [111, 117, 116] ++ m0 := ⟨_, rfl⟩
  have hc0 : (⟨#[111, 117, 116]⟩ : ByteArray) ++ Sp.bs m0 = Sp.bs t0 := by rw [ht0]; exact Sp.bs_append [111, 117, 116] m0
  have hzh0 := Sp.bs_size h0
  have hzm0 := Sp.bs_size m0
  have hzt0 := Sp.bs_size t0
  have hq0 : h0.length ≤ 200001 := by
    rw [hh0]; unfold Sp.hexT
    split
    · simp
    · rw [Sp.hexs_len]; omega
  have hql0 : m0.length = h0.length + 1 := by rw [hm0]; rfl
  have hqt0 : t0.length = 3 + m0.length := by rw [ht0, List.length_append]; rfl
  have Hr2 : Hid (et = .ok t0) := Lib.hid (by
    rw [Hr.out, ht0, hm0, hh0]; simp)
  have Hx0 := Lib.hid (fun W hW => hex_calls A len c data (by omega) W hW)
  rw [← hh0] at Hx0
  clear Hr hh0 hm0 ht0 hl
  go_enter Tryd.func15, Tryd.ntmps15
  go_wp2_with fail
  have B1 := Lib.hid (HB0.out.trans (HKB.out.2.mono (by rw [World.size_alloc]; exact Nat.le_succ _)))
  have E1 := Lib.hid (HE.out.low HKB.out.2 (by rw [World.size_alloc]; exact Nat.lt_succ_self _))
  have K1 := Lib.hid HKB.out.1
  clear HKB HE HB0 G0 k0 k1 k2 k3 e0
  refine (Hx0.out _ (Hby.out.below B1.out)).mono ?_
  rintro e w2 ⟨rfl, b2⟩
  have B2 := Lib.hid (step B1.out b2)
  have E2 := Lib.hid (E1.out.below b2)
  have K2 := Lib.hid (K1.out.below b2)
  have e2 := E2.out.cells4
  have kc2 := K2.out.cells4
  clear b2 B1 E1 K1
  go_wp2_with fail
  go_ret2
  exact ⟨by rw [Hr2.out]; rfl, B2.out⟩
end Tr
end Go.Proofs.YtpchfmeaplhodaaDoor
namespace Go.Proofs.YtpchfmeaplhodaaDoor
set_option linter.unusedVariables false
set_option linter.unusedSimpArgs false
open Go.RowKit Go.Shelf
namespace Tr
open Ap Sg
set_option maxHeartbeats 8000000
set_option maxRecDepth 100000 in
theorem event_2 (n keep : Int) (A : Option Addr) (len c : Nat) (data : List UInt8) (w : World) (hg : Gl w) (hby : By w A len c data) (hlen : len ≤ 100000) (hn0 : -9223372036854775808 ≤ n) (hn1 : n ≤ 9223372036854775807) (hk0 : -9223372036854775808 ≤ keep) (hk1 : keep ≤ 9223372036854775807) :
    Calls Tryd.prog 15 #[evA 2 n keep A len c] w fun e w' => e = .returned (Sp.evV (Sp.evT ⟨2, n, keep, data⟩)) ∧ Below w.heap.size w w' := by
  have hl := hby.len
  have huE := Tryd.underlying29
  have huK := Tryd.underlying68
  have huA := Tryd.underlying69
  have hB0 : Below w.heap.size w (w.alloc (.cells (evC 2 n keep A len c) 29)) := (Below.refl _ _).alloc (Nat.le_refl _) _
  have hsz0 : (w.alloc (.cells (evC 2 n keep A len c) 29)).heap.size = w.heap.size + 1 := World.size_alloc _ _
  have Hgl := Lib.hid hg
  have G0 := Lib.hid (hg.below hB0)
  have k0 : (w.alloc (.cells (evC 2 n keep A len c) 29)).cell? ⟨0, 8, none⟩ = some (.string ⟨#[100, 114, 111, 112, 32, 105, 110]⟩) := G0.out.kn.at_ 8 _ rfl
  have k1 : (w.alloc (.cells (evC 2 n keep A len c) 29)).cell? ⟨0, 9, none⟩ = some (.bool false) := G0.out.kn.at_ 9 _ rfl
  have k2 : (w.alloc (.cells (evC 2 n keep A len c) 29)).cell? ⟨0, 10, none⟩ = some (.bool false) := G0.out.kn.at_ 10 _ rfl
  have k3 : (w.alloc (.cells (evC 2 n keep A len c) 29)).cell? ⟨0, 11, none⟩ = some (.bool false) := G0.out.kn.at_ 11 _ rfl
  have E0 := Blk.new w (evC 2 n keep A len c) 29
  have e0 := E0.cells4
  obtain ⟨V, hV⟩ : ∃ V, V = w.alloc (.cells (evC 2 n keep A len c) 29) := ⟨_, rfl⟩
  have hKB := kblk (W := V) (g := w.heap.size + 1) (by rw [hV]; exact hsz0) (.string ⟨#[100, 114, 111, 112, 32, 105, 110]⟩) (.bool false) (.bool false) (.bool false) 68
  rw [hV] at hKB
  have HKB := Lib.hid hKB
  have HE := Lib.hid E0
  have HB0 := Lib.hid hB0
  have Hby := Lib.hid hby
  obtain ⟨et, het⟩ : ∃ et, et = Sp.evT ⟨2, n, keep, data⟩ := ⟨_, rfl⟩
  rw [← het]
  have Het := Lib.hid het
  clear hKB hV E0 hB0 hg het hby
  by_cases hd : data = []
  case neg =>
    have hlp : 0 < len := by rw [← hl]; exact List.length_pos_iff.2 hd
    have g1 : (0 : Int) < (len : Int) := by omega
    have Hr : Hid (et = .error 10) := Lib.hid (by
      rw [Het.out]
      show (if (2 : Int) < 0 ∨ 9 ≤ (2 : Int) then _ else _) = _
      rw [if_neg (by decide)]
      exact if_pos (.inl ⟨rfl, hd⟩))
    clear hd hlp hl
    go_enter Tryd.func15, Tryd.ntmps15
    go_wp2_with fail
    go_ret2
    exact ⟨by rw [Hr.out]; rfl, HB0.out.trans (HKB.out.2.mono (by rw [World.size_alloc]; exact Nat.le_succ _))⟩
  obtain rfl : len = 0 := by rw [← hl, hd]; rfl
  by_cases hn : n = 0
  case neg =>
    have g2 : (n == 0) = false := by rw [beq_eq_false_iff_ne]; exact hn
    have g3 : (n != 0) = true := by rw [bne, g2]; rfl
    have Hr : Hid (et = .error 10) := Lib.hid (by
      rw [Het.out]
      show (if (2 : Int) < 0 ∨ 9 ≤ (2 : Int) then _ else _) = _
      rw [if_neg (by decide)]
      exact if_pos (.inr (.inl ⟨rfl, hn⟩)))
    clear hd hl
    go_enter Tryd.func15, Tryd.ntmps15
    go_wp2_with fail
    go_ret2
    exact ⟨by rw [Hr.out]; rfl, HB0.out.trans (HKB.out.2.mono (by rw [World.size_alloc]; exact Nat.le_succ _))⟩
  subst hn
  by_cases hk : keep = 0
  case neg =>
    have g4 : (keep == 0) = false := by rw [beq_eq_false_iff_ne]; exact hk
    have g5 : (keep != 0) = true := by rw [bne, g4]; rfl
    have Hr : Hid (et = .error 10) := Lib.hid (by
      rw [Het.out]
      show (if (2 : Int) < 0 ∨ 9 ≤ (2 : Int) then _ else _) = _
      rw [if_neg (by decide)]
      exact if_pos (.inr (.inr ⟨rfl, hk⟩)))
    clear hd hl
    go_enter Tryd.func15, Tryd.ntmps15
    go_wp2_with fail
    go_ret2
    exact ⟨by rw [Hr.out]; rfl, HB0.out.trans (HKB.out.2.mono (by rw [World.size_alloc]; exact Nat.le_succ _))⟩
  subst hk
  have Hr : Hid (et = .ok ([100, 114, 111, 112, 32, 105, 110] ++ (([]) ++ (([]) ++ ([]))))) := Lib.hid (by
    rw [Het.out]
    show (if (2 : Int) < 0 ∨ 9 ≤ (2 : Int) then _ else _) = _
    rw [if_neg (by decide)]
    refine (if_neg ?_).trans rfl
    rintro (⟨h, h'⟩ | ⟨h, h'⟩ | ⟨h, h'⟩)
    · exact h' hd
    · exact h' rfl
    · exact h' rfl)
  have Hr2 := Hr
  clear hd hl
  go_enter Tryd.func15, Tryd.ntmps15
  go_wp2_with fail
  go_ret2
  exact ⟨by rw [Hr2.out]; rfl, HB0.out.trans (HKB.out.2.mono (by rw [World.size_alloc]; exact Nat.le_succ _))⟩
end Tr
end Go.Proofs.YtpchfmeaplhodaaDoor
namespace Go.Proofs.YtpchfmeaplhodaaDoor
set_option linter.unusedVariables false
set_option linter.unusedSimpArgs false
open Go.RowKit Go.Shelf
namespace Tr
open Ap Sg
set_option maxHeartbeats 8000000
set_option maxRecDepth 100000 in
theorem event_3 (n keep : Int) (A : Option Addr) (len c : Nat) (data : List UInt8) (w : World) (hg : Gl w) (hby : By w A len c data) (hlen : len ≤ 100000) (hn0 : -9223372036854775808 ≤ n) (hn1 : n ≤ 9223372036854775807) (hk0 : -9223372036854775808 ≤ keep) (hk1 : keep ≤ 9223372036854775807) :
    Calls Tryd.prog 15 #[evA 3 n keep A len c] w fun e w' => e = .returned (Sp.evV (Sp.evT ⟨3, n, keep, data⟩)) ∧ Below w.heap.size w w' := by
  have hl := hby.len
  have huE := Tryd.underlying29
  have huK := Tryd.underlying68
  have huA := Tryd.underlying69
  have hB0 : Below w.heap.size w (w.alloc (.cells (evC 3 n keep A len c) 29)) := (Below.refl _ _).alloc (Nat.le_refl _) _
  have hsz0 : (w.alloc (.cells (evC 3 n keep A len c) 29)).heap.size = w.heap.size + 1 := World.size_alloc _ _
  have Hgl := Lib.hid hg
  have G0 := Lib.hid (hg.below hB0)
  have k0 : (w.alloc (.cells (evC 3 n keep A len c) 29)).cell? ⟨0, 12, none⟩ = some (.string ⟨#[100, 114, 111, 112, 32, 111, 117, 116]⟩) := G0.out.kn.at_ 12 _ rfl
  have k1 : (w.alloc (.cells (evC 3 n keep A len c) 29)).cell? ⟨0, 13, none⟩ = some (.bool false) := G0.out.kn.at_ 13 _ rfl
  have k2 : (w.alloc (.cells (evC 3 n keep A len c) 29)).cell? ⟨0, 14, none⟩ = some (.bool false) := G0.out.kn.at_ 14 _ rfl
  have k3 : (w.alloc (.cells (evC 3 n keep A len c) 29)).cell? ⟨0, 15, none⟩ = some (.bool false) := G0.out.kn.at_ 15 _ rfl
  have E0 := Blk.new w (evC 3 n keep A len c) 29
  have e0 := E0.cells4
  obtain ⟨V, hV⟩ : ∃ V, V = w.alloc (.cells (evC 3 n keep A len c) 29) := ⟨_, rfl⟩
  have hKB := kblk (W := V) (g := w.heap.size + 1) (by rw [hV]; exact hsz0) (.string ⟨#[100, 114, 111, 112, 32, 111, 117, 116]⟩) (.bool false) (.bool false) (.bool false) 68
  rw [hV] at hKB
  have HKB := Lib.hid hKB
  have HE := Lib.hid E0
  have HB0 := Lib.hid hB0
  have Hby := Lib.hid hby
  obtain ⟨et, het⟩ : ∃ et, et = Sp.evT ⟨3, n, keep, data⟩ := ⟨_, rfl⟩
  rw [← het]
  have Het := Lib.hid het
  clear hKB hV E0 hB0 hg het hby
  by_cases hd : data = []
  case neg =>
    have hlp : 0 < len := by rw [← hl]; exact List.length_pos_iff.2 hd
    have g1 : (0 : Int) < (len : Int) := by omega
    have Hr : Hid (et = .error 10) := Lib.hid (by
      rw [Het.out]
      show (if (3 : Int) < 0 ∨ 9 ≤ (3 : Int) then _ else _) = _
      rw [if_neg (by decide)]
      exact if_pos (.inl ⟨rfl, hd⟩))
    clear hd hlp hl
    go_enter Tryd.func15, Tryd.ntmps15
    go_wp2_with fail
    go_ret2
    exact ⟨by rw [Hr.out]; rfl, HB0.out.trans (HKB.out.2.mono (by rw [World.size_alloc]; exact Nat.le_succ _))⟩
  obtain rfl : len = 0 := by rw [← hl, hd]; rfl
  by_cases hn : n = 0
  case neg =>
    have g2 : (n == 0) = false := by rw [beq_eq_false_iff_ne]; exact hn
    have g3 : (n != 0) = true := by rw [bne, g2]; rfl
    have Hr : Hid (et = .error 10) := Lib.hid (by
      rw [Het.out]
      show (if (3 : Int) < 0 ∨ 9 ≤ (3 : Int) then _ else _) = _
      rw [if_neg (by decide)]
      exact if_pos (.inr (.inl ⟨rfl, hn⟩)))
    clear hd hl
    go_enter Tryd.func15, Tryd.ntmps15
    go_wp2_with fail
    go_ret2
    exact ⟨by rw [Hr.out]; rfl, HB0.out.trans (HKB.out.2.mono (by rw [World.size_alloc]; exact Nat.le_succ _))⟩
  subst hn
  by_cases hk : keep = 0
  case neg =>
    have g4 : (keep == 0) = false := by rw [beq_eq_false_iff_ne]; exact hk
    have g5 : (keep != 0) = true := by rw [bne, g4]; rfl
    have Hr : Hid (et = .error 10) := Lib.hid (by
      rw [Het.out]
      show (if (3 : Int) < 0 ∨ 9 ≤ (3 : Int) then _ else _) = _
      rw [if_neg (by decide)]
      exact if_pos (.inr (.inr ⟨rfl, hk⟩)))
    clear hd hl
    go_enter Tryd.func15, Tryd.ntmps15
    go_wp2_with fail
    go_ret2
    exact ⟨by rw [Hr.out]; rfl, HB0.out.trans (HKB.out.2.mono (by rw [World.size_alloc]; exact Nat.le_succ _))⟩
  subst hk
  have Hr : Hid (et = .ok ([100, 114, 111, 112, 32, 111, 117, 116] ++ (([]) ++ (([]) ++ ([]))))) := Lib.hid (by
    rw [Het.out]
    show (if (3 : Int) < 0 ∨ 9 ≤ (3 : Int) then _ else _) = _
    rw [if_neg (by decide)]
    refine (if_neg ?_).trans rfl
    rintro (⟨h, h'⟩ | ⟨h, h'⟩ | ⟨h, h'⟩)
    · exact h' hd
    · exact h' rfl
    · exact h' rfl)
  have Hr2 := Hr
  clear hd hl
  go_enter Tryd.func15, Tryd.ntmps15
  go_wp2_with fail
  go_ret2
  exact ⟨by rw [Hr2.out]; rfl, HB0.out.trans (HKB.out.2.mono (by rw [World.size_alloc]; exact Nat.le_succ _))⟩
end Tr
end Go.Proofs.YtpchfmeaplhodaaDoor
namespace Go.Proofs.YtpchfmeaplhodaaDoor
set_option linter.unusedVariables false
set_option linter.unusedSimpArgs false
open Go.RowKit Go.Shelf
namespace Tr
open Ap Sg
set_option maxHeartbeats 8000000
set_option maxRecDepth 100000 in
theorem event_4 (n keep : Int) (A : Option Addr) (len c : Nat) (data : List UInt8) (w : World) (hg : Gl w) (hby : By w A len c data) (hlen : len ≤ 100000) (hn0 : -9223372036854775808 ≤ n) (hn1 : n ≤ 9223372036854775807) (hk0 : -9223372036854775808 ≤ keep) (hk1 : keep ≤ 9223372036854775807) :
    Calls Tryd.prog 15 #[evA 4 n keep A len c] w fun e w' => e = .returned (Sp.evV (Sp.evT ⟨4, n, keep, data⟩)) ∧ Below w.heap.size w w' := by
  have hl := hby.len
  have huE := Tryd.underlying29
  have huK := Tryd.underlying68
  have huA := Tryd.underlying69
  have hB0 : Below w.heap.size w (w.alloc (.cells (evC 4 n keep A len c) 29)) := (Below.refl _ _).alloc (Nat.le_refl _) _
  have hsz0 : (w.alloc (.cells (evC 4 n keep A len c) 29)).heap.size = w.heap.size + 1 := World.size_alloc _ _
  have Hgl := Lib.hid hg
  have G0 := Lib.hid (hg.below hB0)
  have k0 : (w.alloc (.cells (evC 4 n keep A len c) 29)).cell? ⟨0, 16, none⟩ = some (.string ⟨#[116, 105, 99, 107]⟩) := G0.out.kn.at_ 16 _ rfl
  have k1 : (w.alloc (.cells (evC 4 n keep A len c) 29)).cell? ⟨0, 17, none⟩ = some (.bool false) := G0.out.kn.at_ 17 _ rfl
  have k2 : (w.alloc (.cells (evC 4 n keep A len c) 29)).cell? ⟨0, 18, none⟩ = some (.bool true) := G0.out.kn.at_ 18 _ rfl
  have k3 : (w.alloc (.cells (evC 4 n keep A len c) 29)).cell? ⟨0, 19, none⟩ = some (.bool false) := G0.out.kn.at_ 19 _ rfl
  have E0 := Blk.new w (evC 4 n keep A len c) 29
  have e0 := E0.cells4
  obtain ⟨V, hV⟩ : ∃ V, V = w.alloc (.cells (evC 4 n keep A len c) 29) := ⟨_, rfl⟩
  have hKB := kblk (W := V) (g := w.heap.size + 1) (by rw [hV]; exact hsz0) (.string ⟨#[116, 105, 99, 107]⟩) (.bool false) (.bool true) (.bool false) 68
  rw [hV] at hKB
  have HKB := Lib.hid hKB
  have HE := Lib.hid E0
  have HB0 := Lib.hid hB0
  have Hby := Lib.hid hby
  obtain ⟨et, het⟩ : ∃ et, et = Sp.evT ⟨4, n, keep, data⟩ := ⟨_, rfl⟩
  rw [← het]
  have Het := Lib.hid het
  clear hKB hV E0 hB0 hg het hby
  by_cases hd : data = []
  case neg =>
    have hlp : 0 < len := by rw [← hl]; exact List.length_pos_iff.2 hd
    have g1 : (0 : Int) < (len : Int) := by omega
    have Hr : Hid (et = .error 10) := Lib.hid (by
      rw [Het.out]
      show (if (4 : Int) < 0 ∨ 9 ≤ (4 : Int) then _ else _) = _
      rw [if_neg (by decide)]
      exact if_pos (.inl ⟨rfl, hd⟩))
    clear hd hlp hl
    go_enter Tryd.func15, Tryd.ntmps15
    go_wp2_with fail
    go_ret2
    exact ⟨by rw [Hr.out]; rfl, HB0.out.trans (HKB.out.2.mono (by rw [World.size_alloc]; exact Nat.le_succ _))⟩
  obtain rfl : len = 0 := by rw [← hl, hd]; rfl
  by_cases hk : keep = 0
  case neg =>
    have g4 : (keep == 0) = false := by rw [beq_eq_false_iff_ne]; exact hk
    have g5 : (keep != 0) = true := by rw [bne, g4]; rfl
    have Hr : Hid (et = .error 10) := Lib.hid (by
      rw [Het.out]
      show (if (4 : Int) < 0 ∨ 9 ≤ (4 : Int) then _ else _) = _
      rw [if_neg (by decide)]
      exact if_pos (.inr (.inr ⟨rfl, hk⟩)))
    clear hd hl
    go_enter Tryd.func15, Tryd.ntmps15
    go_wp2_with fail
    go_ret2
    exact ⟨by rw [Hr.out]; rfl, HB0.out.trans (HKB.out.2.mono (by rw [World.size_alloc]; exact Nat.le_succ _))⟩
  subst hk
  have Hr : Hid (et = .ok ([116, 105, 99, 107] ++ (([]) ++ ((32 :: Lib.itoa n) ++ ([]))))) := Lib.hid (by
    rw [Het.out]
    show (if (4 : Int) < 0 ∨ 9 ≤ (4 : Int) then _ else _) = _
    rw [if_neg (by decide)]
    refine (if_neg ?_).trans rfl
    rintro (⟨h, h'⟩ | ⟨h, h'⟩ | ⟨h, h'⟩)
    · exact h' hd
    · exact absurd (show Sp.kc 4 = false from h) (by decide)
    · exact h' rfl)
  obtain ⟨h0, hh0⟩ : ∃ l, l = Lib.itoa n := ⟨_, rfl⟩
  obtain ⟨m0, hm0⟩ : ∃ l, l = 32 :: h0 := ⟨_, rfl⟩
  have ha0 : (⟨#[32]⟩ : ByteArray) ++ Sp.bs h0 = Sp.bs m0 := by rw [hm0]; exact Sp.bs_append [32] h0
  obtain ⟨t0, ht0⟩ : ∃ l, l = [116, 105, 99, 107] ++ m0 := ⟨_, rfl⟩
  have hc0 : (⟨#[116, 105, 99, 107]⟩ : ByteArray) ++ Sp.bs m0 = Sp.bs t0 := by rw [ht0]; exact Sp.bs_append [116, 105, 99, 107] m0
  have hzh0 := Sp.bs_size h0
  have hzm0 := Sp.bs_size m0
  have hzt0 := Sp.bs_size t0
  have hq0 : h0.length ≤ 200001 := by rw [hh0]; have := Lib.itoa_length_le n (by omega) (by omega); omega
  have hql0 : m0.length = h0.length + 1 := by rw [hm0]; rfl
  have hqt0 : t0.length = 4 + m0.length := by rw [ht0, List.length_append]; rfl
  have Hr2 : Hid (et = .ok t0) := Lib.hid (by
    rw [Hr.out, ht0, hm0, hh0]; simp)
  have Hx0 := Lib.hid (fun W hW => itoa_calls n (by omega) (by omega) W hW)
  rw [← hh0] at Hx0
  clear Hr hh0 hm0 ht0 hd hl
  go_enter Tryd.func15, Tryd.ntmps15
  go_wp2_with fail
  have B1 := Lib.hid (HB0.out.trans (HKB.out.2.mono (by rw [World.size_alloc]; exact Nat.le_succ _)))
  have E1 := Lib.hid (HE.out.low HKB.out.2 (by rw [World.size_alloc]; exact Nat.lt_succ_self _))
  have K1 := Lib.hid HKB.out.1
  clear HKB HE HB0 G0 k0 k1 k2 k3 e0
  refine (Hx0.out _ (Hgl.out.below B1.out).nv).mono ?_
  rintro e w2 ⟨rfl, b2⟩
  have B2 := Lib.hid (step B1.out b2)
  have E2 := Lib.hid (E1.out.below b2)
  have K2 := Lib.hid (K1.out.below b2)
  have e2 := E2.out.cells4
  have kc2 := K2.out.cells4
  clear b2 B1 E1 K1
  go_wp2_with fail
  go_ret2
  exact ⟨by rw [Hr2.out]; rfl, B2.out⟩
end Tr
end Go.Proofs.YtpchfmeaplhodaaDoor
namespace Go.Proofs.YtpchfmeaplhodaaDoor
set_option linter.unusedVariables false
set_option linter.unusedSimpArgs false
open Go.RowKit Go.Shelf
namespace Tr
open Ap Sg
set_option maxHeartbeats 8000000
set_option maxRecDepth 100000 in
theorem event_5 (n keep : Int) (A : Option Addr) (len c : Nat) (data : List UInt8) (w : World) (hg : Gl w) (hby : By w A len c data) (hlen : len ≤ 100000) (hn0 : -9223372036854775808 ≤ n) (hn1 : n ≤ 9223372036854775807) (hk0 : -9223372036854775808 ≤ keep) (hk1 : keep ≤ 9223372036854775807) :
    Calls Tryd.prog 15 #[evA 5 n keep A len c] w fun e w' => e = .returned (Sp.evV (Sp.evT ⟨5, n, keep, data⟩)) ∧ Below w.heap.size w w' := by
  have hl := hby.len
  have huE := Tryd.underlying29
  have huK := Tryd.underlying68
  have huA := Tryd.underlying69
  have hB0 : Below w.heap.size w (w.alloc (.cells (evC 5 n keep A len c) 29)) := (Below.refl _ _).alloc (Nat.le_refl _) _
  have hsz0 : (w.alloc (.cells (evC 5 n keep A len c) 29)).heap.size = w.heap.size + 1 := World.size_alloc _ _
  have Hgl := Lib.hid hg
  have G0 := Lib.hid (hg.below hB0)
  have k0 : (w.alloc (.cells (evC 5 n keep A len c) 29)).cell? ⟨0, 20, none⟩ = some (.string ⟨#[114, 111, 111, 109]⟩) := G0.out.kn.at_ 20 _ rfl
  have k1 : (w.alloc (.cells (evC 5 n keep A len c) 29)).cell? ⟨0, 21, none⟩ = some (.bool false) := G0.out.kn.at_ 21 _ rfl
  have k2 : (w.alloc (.cells (evC 5 n keep A len c) 29)).cell? ⟨0, 22, none⟩ = some (.bool true) := G0.out.kn.at_ 22 _ rfl
  have k3 : (w.alloc (.cells (evC 5 n keep A len c) 29)).cell? ⟨0, 23, none⟩ = some (.bool false) := G0.out.kn.at_ 23 _ rfl
  have E0 := Blk.new w (evC 5 n keep A len c) 29
  have e0 := E0.cells4
  obtain ⟨V, hV⟩ : ∃ V, V = w.alloc (.cells (evC 5 n keep A len c) 29) := ⟨_, rfl⟩
  have hKB := kblk (W := V) (g := w.heap.size + 1) (by rw [hV]; exact hsz0) (.string ⟨#[114, 111, 111, 109]⟩) (.bool false) (.bool true) (.bool false) 68
  rw [hV] at hKB
  have HKB := Lib.hid hKB
  have HE := Lib.hid E0
  have HB0 := Lib.hid hB0
  have Hby := Lib.hid hby
  obtain ⟨et, het⟩ : ∃ et, et = Sp.evT ⟨5, n, keep, data⟩ := ⟨_, rfl⟩
  rw [← het]
  have Het := Lib.hid het
  clear hKB hV E0 hB0 hg het hby
  by_cases hd : data = []
  case neg =>
    have hlp : 0 < len := by rw [← hl]; exact List.length_pos_iff.2 hd
    have g1 : (0 : Int) < (len : Int) := by omega
    have Hr : Hid (et = .error 10) := Lib.hid (by
      rw [Het.out]
      show (if (5 : Int) < 0 ∨ 9 ≤ (5 : Int) then _ else _) = _
      rw [if_neg (by decide)]
      exact if_pos (.inl ⟨rfl, hd⟩))
    clear hd hlp hl
    go_enter Tryd.func15, Tryd.ntmps15
    go_wp2_with fail
    go_ret2
    exact ⟨by rw [Hr.out]; rfl, HB0.out.trans (HKB.out.2.mono (by rw [World.size_alloc]; exact Nat.le_succ _))⟩
  obtain rfl : len = 0 := by rw [← hl, hd]; rfl
  by_cases hk : keep = 0
  case neg =>
    have g4 : (keep == 0) = false := by rw [beq_eq_false_iff_ne]; exact hk
    have g5 : (keep != 0) = true := by rw [bne, g4]; rfl
    have Hr : Hid (et = .error 10) := Lib.hid (by
      rw [Het.out]
      show (if (5 : Int) < 0 ∨ 9 ≤ (5 : Int) then _ else _) = _
      rw [if_neg (by decide)]
      exact if_pos (.inr (.inr ⟨rfl, hk⟩)))
    clear hd hl
    go_enter Tryd.func15, Tryd.ntmps15
    go_wp2_with fail
    go_ret2
    exact ⟨by rw [Hr.out]; rfl, HB0.out.trans (HKB.out.2.mono (by rw [World.size_alloc]; exact Nat.le_succ _))⟩
  subst hk
  have Hr : Hid (et = .ok ([114, 111, 111, 109] ++ (([]) ++ ((32 :: Lib.itoa n) ++ ([]))))) := Lib.hid (by
    rw [Het.out]
    show (if (5 : Int) < 0 ∨ 9 ≤ (5 : Int) then _ else _) = _
    rw [if_neg (by decide)]
    refine (if_neg ?_).trans rfl
    rintro (⟨h, h'⟩ | ⟨h, h'⟩ | ⟨h, h'⟩)
    · exact h' hd
    · exact absurd (show Sp.kc 5 = false from h) (by decide)
    · exact h' rfl)
  obtain ⟨h0, hh0⟩ : ∃ l, l = Lib.itoa n := ⟨_, rfl⟩
  obtain ⟨m0, hm0⟩ : ∃ l, l = 32 :: h0 := ⟨_, rfl⟩
  have ha0 : (⟨#[32]⟩ : ByteArray) ++ Sp.bs h0 = Sp.bs m0 := by rw [hm0]; exact Sp.bs_append [32] h0
  obtain ⟨t0, ht0⟩ : ∃ l, l = [114, 111, 111, 109] ++ m0 := ⟨_, rfl⟩
  have hc0 : (⟨#[114, 111, 111, 109]⟩ : ByteArray) ++ Sp.bs m0 = Sp.bs t0 := by rw [ht0]; exact Sp.bs_append [114, 111, 111, 109] m0
  have hzh0 := Sp.bs_size h0
  have hzm0 := Sp.bs_size m0
  have hzt0 := Sp.bs_size t0
  have hq0 : h0.length ≤ 200001 := by rw [hh0]; have := Lib.itoa_length_le n (by omega) (by omega); omega
  have hql0 : m0.length = h0.length + 1 := by rw [hm0]; rfl
  have hqt0 : t0.length = 4 + m0.length := by rw [ht0, List.length_append]; rfl
  have Hr2 : Hid (et = .ok t0) := Lib.hid (by
    rw [Hr.out, ht0, hm0, hh0]; simp)
  have Hx0 := Lib.hid (fun W hW => itoa_calls n (by omega) (by omega) W hW)
  rw [← hh0] at Hx0
  clear Hr hh0 hm0 ht0 hd hl
  go_enter Tryd.func15, Tryd.ntmps15
  go_wp2_with fail
  have B1 := Lib.hid (HB0.out.trans (HKB.out.2.mono (by rw [World.size_alloc]; exact Nat.le_succ _)))
  have E1 := Lib.hid (HE.out.low HKB.out.2 (by rw [World.size_alloc]; exact Nat.lt_succ_self _))
  have K1 := Lib.hid HKB.out.1
  clear HKB HE HB0 G0 k0 k1 k2 k3 e0
  refine (Hx0.out _ (Hgl.out.below B1.out).nv).mono ?_
  rintro e w2 ⟨rfl, b2⟩
  have B2 := Lib.hid (step B1.out b2)
  have E2 := Lib.hid (E1.out.below b2)
  have K2 := Lib.hid (K1.out.below b2)
  have e2 := E2.out.cells4
  have kc2 := K2.out.cells4
  clear b2 B1 E1 K1
  go_wp2_with fail
  go_ret2
  exact ⟨by rw [Hr2.out]; rfl, B2.out⟩
end Tr
end Go.Proofs.YtpchfmeaplhodaaDoor
namespace Go.Proofs.YtpchfmeaplhodaaDoor
set_option linter.unusedVariables false
set_option linter.unusedSimpArgs false
open Go.RowKit Go.Shelf
namespace Tr
open Ap Sg
set_option maxHeartbeats 8000000
set_option maxRecDepth 100000 in
theorem event_6 (n keep : Int) (A : Option Addr) (len c : Nat) (data : List UInt8) (w : World) (hg : Gl w) (hby : By w A len c data) (hlen : len ≤ 100000) (hn0 : -9223372036854775808 ≤ n) (hn1 : n ≤ 9223372036854775807) (hk0 : -9223372036854775808 ≤ keep) (hk1 : keep ≤ 9223372036854775807) :
    Calls Tryd.prog 15 #[evA 6 n keep A len c] w fun e w' => e = .returned (Sp.evV (Sp.evT ⟨6, n, keep, data⟩)) ∧ Below w.heap.size w w' := by
  have hl := hby.len
  have huE := Tryd.underlying29
  have huK := Tryd.underlying68
  have huA := Tryd.underlying69
  have hB0 : Below w.heap.size w (w.alloc (.cells (evC 6 n keep A len c) 29)) := (Below.refl _ _).alloc (Nat.le_refl _) _
  have hsz0 : (w.alloc (.cells (evC 6 n keep A len c) 29)).heap.size = w.heap.size + 1 := World.size_alloc _ _
  have Hgl := Lib.hid hg
  have G0 := Lib.hid (hg.below hB0)
  have k0 : (w.alloc (.cells (evC 6 n keep A len c) 29)).cell? ⟨0, 24, none⟩ = some (.string ⟨#[102, 97, 105, 108, 115, 121, 110, 99]⟩) := G0.out.kn.at_ 24 _ rfl
  have k1 : (w.alloc (.cells (evC 6 n keep A len c) 29)).cell? ⟨0, 25, none⟩ = some (.bool false) := G0.out.kn.at_ 25 _ rfl
  have k2 : (w.alloc (.cells (evC 6 n keep A len c) 29)).cell? ⟨0, 26, none⟩ = some (.bool true) := G0.out.kn.at_ 26 _ rfl
  have k3 : (w.alloc (.cells (evC 6 n keep A len c) 29)).cell? ⟨0, 27, none⟩ = some (.bool false) := G0.out.kn.at_ 27 _ rfl
  have E0 := Blk.new w (evC 6 n keep A len c) 29
  have e0 := E0.cells4
  obtain ⟨V, hV⟩ : ∃ V, V = w.alloc (.cells (evC 6 n keep A len c) 29) := ⟨_, rfl⟩
  have hKB := kblk (W := V) (g := w.heap.size + 1) (by rw [hV]; exact hsz0) (.string ⟨#[102, 97, 105, 108, 115, 121, 110, 99]⟩) (.bool false) (.bool true) (.bool false) 68
  rw [hV] at hKB
  have HKB := Lib.hid hKB
  have HE := Lib.hid E0
  have HB0 := Lib.hid hB0
  have Hby := Lib.hid hby
  obtain ⟨et, het⟩ : ∃ et, et = Sp.evT ⟨6, n, keep, data⟩ := ⟨_, rfl⟩
  rw [← het]
  have Het := Lib.hid het
  clear hKB hV E0 hB0 hg het hby
  by_cases hd : data = []
  case neg =>
    have hlp : 0 < len := by rw [← hl]; exact List.length_pos_iff.2 hd
    have g1 : (0 : Int) < (len : Int) := by omega
    have Hr : Hid (et = .error 10) := Lib.hid (by
      rw [Het.out]
      show (if (6 : Int) < 0 ∨ 9 ≤ (6 : Int) then _ else _) = _
      rw [if_neg (by decide)]
      exact if_pos (.inl ⟨rfl, hd⟩))
    clear hd hlp hl
    go_enter Tryd.func15, Tryd.ntmps15
    go_wp2_with fail
    go_ret2
    exact ⟨by rw [Hr.out]; rfl, HB0.out.trans (HKB.out.2.mono (by rw [World.size_alloc]; exact Nat.le_succ _))⟩
  obtain rfl : len = 0 := by rw [← hl, hd]; rfl
  by_cases hk : keep = 0
  case neg =>
    have g4 : (keep == 0) = false := by rw [beq_eq_false_iff_ne]; exact hk
    have g5 : (keep != 0) = true := by rw [bne, g4]; rfl
    have Hr : Hid (et = .error 10) := Lib.hid (by
      rw [Het.out]
      show (if (6 : Int) < 0 ∨ 9 ≤ (6 : Int) then _ else _) = _
      rw [if_neg (by decide)]
      exact if_pos (.inr (.inr ⟨rfl, hk⟩)))
    clear hd hl
    go_enter Tryd.func15, Tryd.ntmps15
    go_wp2_with fail
    go_ret2
    exact ⟨by rw [Hr.out]; rfl, HB0.out.trans (HKB.out.2.mono (by rw [World.size_alloc]; exact Nat.le_succ _))⟩
  subst hk
  have Hr : Hid (et = .ok ([102, 97, 105, 108, 115, 121, 110, 99] ++ (([]) ++ ((32 :: Lib.itoa n) ++ ([]))))) := Lib.hid (by
    rw [Het.out]
    show (if (6 : Int) < 0 ∨ 9 ≤ (6 : Int) then _ else _) = _
    rw [if_neg (by decide)]
    refine (if_neg ?_).trans rfl
    rintro (⟨h, h'⟩ | ⟨h, h'⟩ | ⟨h, h'⟩)
    · exact h' hd
    · exact absurd (show Sp.kc 6 = false from h) (by decide)
    · exact h' rfl)
  obtain ⟨h0, hh0⟩ : ∃ l, l = Lib.itoa n := ⟨_, rfl⟩
  obtain ⟨m0, hm0⟩ : ∃ l, l = 32 :: h0 := ⟨_, rfl⟩
  have ha0 : (⟨#[32]⟩ : ByteArray) ++ Sp.bs h0 = Sp.bs m0 := by rw [hm0]; exact Sp.bs_append [32] h0
  obtain ⟨t0, ht0⟩ : ∃ l, l = [102, 97, 105, 108, 115, 121, 110, 99] ++ m0 := ⟨_, rfl⟩
  have hc0 : (⟨#[102, 97, 105, 108, 115, 121, 110, 99]⟩ : ByteArray) ++ Sp.bs m0 = Sp.bs t0 := by rw [ht0]; exact Sp.bs_append [102, 97, 105, 108, 115, 121, 110, 99] m0
  have hzh0 := Sp.bs_size h0
  have hzm0 := Sp.bs_size m0
  have hzt0 := Sp.bs_size t0
  have hq0 : h0.length ≤ 200001 := by rw [hh0]; have := Lib.itoa_length_le n (by omega) (by omega); omega
  have hql0 : m0.length = h0.length + 1 := by rw [hm0]; rfl
  have hqt0 : t0.length = 8 + m0.length := by rw [ht0, List.length_append]; rfl
  have Hr2 : Hid (et = .ok t0) := Lib.hid (by
    rw [Hr.out, ht0, hm0, hh0]; simp)
  have Hx0 := Lib.hid (fun W hW => itoa_calls n (by omega) (by omega) W hW)
  rw [← hh0] at Hx0
  clear Hr hh0 hm0 ht0 hd hl
  go_enter Tryd.func15, Tryd.ntmps15
  go_wp2_with fail
  have B1 := Lib.hid (HB0.out.trans (HKB.out.2.mono (by rw [World.size_alloc]; exact Nat.le_succ _)))
  have E1 := Lib.hid (HE.out.low HKB.out.2 (by rw [World.size_alloc]; exact Nat.lt_succ_self _))
  have K1 := Lib.hid HKB.out.1
  clear HKB HE HB0 G0 k0 k1 k2 k3 e0
  refine (Hx0.out _ (Hgl.out.below B1.out).nv).mono ?_
  rintro e w2 ⟨rfl, b2⟩
  have B2 := Lib.hid (step B1.out b2)
  have E2 := Lib.hid (E1.out.below b2)
  have K2 := Lib.hid (K1.out.below b2)
  have e2 := E2.out.cells4
  have kc2 := K2.out.cells4
  clear b2 B1 E1 K1
  go_wp2_with fail
  go_ret2
  exact ⟨by rw [Hr2.out]; rfl, B2.out⟩
end Tr
end Go.Proofs.YtpchfmeaplhodaaDoor
namespace Go.Proofs.YtpchfmeaplhodaaDoor
set_option linter.unusedVariables false
set_option linter.unusedSimpArgs false
open Go.RowKit Go.Shelf
namespace Tr
open Ap Sg
set_option maxHeartbeats 8000000
set_option maxRecDepth 100000 in
theorem event_7 (n keep : Int) (A : Option Addr) (len c : Nat) (data : List UInt8) (w : World) (hg : Gl w) (hby : By w A len c data) (hlen : len ≤ 100000) (hn0 : -9223372036854775808 ≤ n) (hn1 : n ≤ 9223372036854775807) (hk0 : -9223372036854775808 ≤ keep) (hk1 : keep ≤ 9223372036854775807) :
    Calls Tryd.prog 15 #[evA 7 n keep A len c] w fun e w' => e = .returned (Sp.evV (Sp.evT ⟨7, n, keep, data⟩)) ∧ Below w.heap.size w w' := by
  have hl := hby.len
  have huE := Tryd.underlying29
  have huK := Tryd.underlying68
  have huA := Tryd.underlying69
  have hB0 : Below w.heap.size w (w.alloc (.cells (evC 7 n keep A len c) 29)) := (Below.refl _ _).alloc (Nat.le_refl _) _
  have hsz0 : (w.alloc (.cells (evC 7 n keep A len c) 29)).heap.size = w.heap.size + 1 := World.size_alloc _ _
  have Hgl := Lib.hid hg
  have G0 := Lib.hid (hg.below hB0)
  have k0 : (w.alloc (.cells (evC 7 n keep A len c) 29)).cell? ⟨0, 28, none⟩ = some (.string ⟨#[97, 114, 109]⟩) := G0.out.kn.at_ 28 _ rfl
  have k1 : (w.alloc (.cells (evC 7 n keep A len c) 29)).cell? ⟨0, 29, none⟩ = some (.bool false) := G0.out.kn.at_ 29 _ rfl
  have k2 : (w.alloc (.cells (evC 7 n keep A len c) 29)).cell? ⟨0, 30, none⟩ = some (.bool true) := G0.out.kn.at_ 30 _ rfl
  have k3 : (w.alloc (.cells (evC 7 n keep A len c) 29)).cell? ⟨0, 31, none⟩ = some (.bool true) := G0.out.kn.at_ 31 _ rfl
  have E0 := Blk.new w (evC 7 n keep A len c) 29
  have e0 := E0.cells4
  obtain ⟨V, hV⟩ : ∃ V, V = w.alloc (.cells (evC 7 n keep A len c) 29) := ⟨_, rfl⟩
  have hKB := kblk (W := V) (g := w.heap.size + 1) (by rw [hV]; exact hsz0) (.string ⟨#[97, 114, 109]⟩) (.bool false) (.bool true) (.bool true) 68
  rw [hV] at hKB
  have HKB := Lib.hid hKB
  have HE := Lib.hid E0
  have HB0 := Lib.hid hB0
  have Hby := Lib.hid hby
  obtain ⟨et, het⟩ : ∃ et, et = Sp.evT ⟨7, n, keep, data⟩ := ⟨_, rfl⟩
  rw [← het]
  have Het := Lib.hid het
  clear hKB hV E0 hB0 hg het hby
  by_cases hd : data = []
  case neg =>
    have hlp : 0 < len := by rw [← hl]; exact List.length_pos_iff.2 hd
    have g1 : (0 : Int) < (len : Int) := by omega
    have Hr : Hid (et = .error 10) := Lib.hid (by
      rw [Het.out]
      show (if (7 : Int) < 0 ∨ 9 ≤ (7 : Int) then _ else _) = _
      rw [if_neg (by decide)]
      exact if_pos (.inl ⟨rfl, hd⟩))
    clear hd hlp hl
    go_enter Tryd.func15, Tryd.ntmps15
    go_wp2_with fail
    go_ret2
    exact ⟨by rw [Hr.out]; rfl, HB0.out.trans (HKB.out.2.mono (by rw [World.size_alloc]; exact Nat.le_succ _))⟩
  obtain rfl : len = 0 := by rw [← hl, hd]; rfl
  have Hr : Hid (et = .ok ([97, 114, 109] ++ (([]) ++ ((32 :: Lib.itoa n) ++ (32 :: Lib.itoa keep))))) := Lib.hid (by
    rw [Het.out]
    show (if (7 : Int) < 0 ∨ 9 ≤ (7 : Int) then _ else _) = _
    rw [if_neg (by decide)]
    refine (if_neg ?_).trans rfl
    rintro (⟨h, h'⟩ | ⟨h, h'⟩ | ⟨h, h'⟩)
    · exact h' hd
    · exact absurd (show Sp.kc 7 = false from h) (by decide)
    · exact absurd (show Sp.kk 7 = false from h) (by decide))
  obtain ⟨h0, hh0⟩ : ∃ l, l = Lib.itoa n := ⟨_, rfl⟩
  obtain ⟨m0, hm0⟩ : ∃ l, l = 32 :: h0 := ⟨_, rfl⟩
  have ha0 : (⟨#[32]⟩ : ByteArray) ++ Sp.bs h0 = Sp.bs m0 := by rw [hm0]; exact Sp.bs_append [32] h0
  obtain ⟨t0, ht0⟩ : ∃ l, l = [97, 114, 109] ++ m0 := ⟨_, rfl⟩
  have hc0 : (⟨#[97, 114, 109]⟩ : ByteArray) ++ Sp.bs m0 = Sp.bs t0 := by rw [ht0]; exact Sp.bs_append [97, 114, 109] m0
  have hzh0 := Sp.bs_size h0
  have hzm0 := Sp.bs_size m0
  have hzt0 := Sp.bs_size t0
  have hq0 : h0.length ≤ 200001 := by rw [hh0]; have := Lib.itoa_length_le n (by omega) (by omega); omega
  have hql0 : m0.length = h0.length + 1 := by rw [hm0]; rfl
  have hqt0 : t0.length = 3 + m0.length := by rw [ht0, List.length_append]; rfl
  obtain ⟨h1, hh1⟩ : ∃ l, l = Lib.itoa keep := ⟨_, rfl⟩
  obtain ⟨m1, hm1⟩ : ∃ l, l = 32 :: h1 := ⟨_, rfl⟩
  have ha1 : (⟨#[32]⟩ : ByteArray) ++ Sp.bs h1 = Sp.bs m1 := by rw [hm1]; exact Sp.bs_append [32] h1
  obtain ⟨t1, ht1⟩ : ∃ l, l = t0 ++ m1 := ⟨_, rfl⟩
  have hc1 : Sp.bs t0 ++ Sp.bs m1 = Sp.bs t1 := by rw [ht1]; exact Sp.bs_append t0 m1
  have hzh1 := Sp.bs_size h1
  have hzm1 := Sp.bs_size m1
  have hzt1 := Sp.bs_size t1
  have hq1 : h1.length ≤ 200001 := by rw [hh1]; have := Lib.itoa_length_le keep (by omega) (by omega); omega
  have hql1 : m1.length = h1.length + 1 := by rw [hm1]; rfl
  have hqt1 : t1.length = t0.length + m1.length := by rw [ht1, List.length_append]
  have Hr2 : Hid (et = .ok t1) := Lib.hid (by
    rw [Hr.out, ht1, hm1, hh1, ht0, hm0, hh0]; simp)
  have Hx0 := Lib.hid (fun W hW => itoa_calls n (by omega) (by omega) W hW)
  rw [← hh0] at Hx0
  have Hx1 := Lib.hid (fun W hW => itoa_calls keep (by omega) (by omega) W hW)
  rw [← hh1] at Hx1
  clear Hr hh0 hm0 ht0 hh1 hm1 ht1 hd hl
  go_enter Tryd.func15, Tryd.ntmps15
  go_wp2_with fail
  have B1 := Lib.hid (HB0.out.trans (HKB.out.2.mono (by rw [World.size_alloc]; exact Nat.le_succ _)))
  have E1 := Lib.hid (HE.out.low HKB.out.2 (by rw [World.size_alloc]; exact Nat.lt_succ_self _))
  have K1 := Lib.hid HKB.out.1
  clear HKB HE HB0 G0 k0 k1 k2 k3 e0
  refine (Hx0.out _ (Hgl.out.below B1.out).nv).mono ?_
  rintro e w2 ⟨rfl, b2⟩
  have B2 := Lib.hid (step B1.out b2)
  have E2 := Lib.hid (E1.out.below b2)
  have K2 := Lib.hid (K1.out.below b2)
  have e2 := E2.out.cells4
  have kc2 := K2.out.cells4
  clear b2 B1 E1 K1
  go_wp2_with fail
  refine (Hx1.out _ (Hgl.out.below B2.out).nv).mono ?_
  rintro e w3 ⟨rfl, b3⟩
  have B3 := Lib.hid (step B2.out b3)
  have E3 := Lib.hid (E2.out.below b3)
  have K3 := Lib.hid (K2.out.below b3)
  have e3 := E3.out.cells4
  have kc3 := K3.out.cells4
  clear b3 B2 E2 K2 e2 kc2
  go_wp2_with fail
  go_ret2
  exact ⟨by rw [Hr2.out]; rfl, B3.out⟩
end Tr
end Go.Proofs.YtpchfmeaplhodaaDoor
namespace Go.Proofs.YtpchfmeaplhodaaDoor
set_option linter.unusedVariables false
set_option linter.unusedSimpArgs false
open Go.RowKit Go.Shelf
namespace Tr
open Ap Sg
set_option maxHeartbeats 8000000
set_option maxRecDepth 100000 in
theorem event_8 (n keep : Int) (A : Option Addr) (len c : Nat) (data : List UInt8) (w : World) (hg : Gl w) (hby : By w A len c data) (hlen : len ≤ 100000) (hn0 : -9223372036854775808 ≤ n) (hn1 : n ≤ 9223372036854775807) (hk0 : -9223372036854775808 ≤ keep) (hk1 : keep ≤ 9223372036854775807) :
    Calls Tryd.prog 15 #[evA 8 n keep A len c] w fun e w' => e = .returned (Sp.evV (Sp.evT ⟨8, n, keep, data⟩)) ∧ Below w.heap.size w w' := by
  have hl := hby.len
  have huE := Tryd.underlying29
  have huK := Tryd.underlying68
  have huA := Tryd.underlying69
  have hB0 : Below w.heap.size w (w.alloc (.cells (evC 8 n keep A len c) 29)) := (Below.refl _ _).alloc (Nat.le_refl _) _
  have hsz0 : (w.alloc (.cells (evC 8 n keep A len c) 29)).heap.size = w.heap.size + 1 := World.size_alloc _ _
  have Hgl := Lib.hid hg
  have G0 := Lib.hid (hg.below hB0)
  have k0 : (w.alloc (.cells (evC 8 n keep A len c) 29)).cell? ⟨0, 32, none⟩ = some (.string ⟨#[112, 111, 119, 101, 114]⟩) := G0.out.kn.at_ 32 _ rfl
  have k1 : (w.alloc (.cells (evC 8 n keep A len c) 29)).cell? ⟨0, 33, none⟩ = some (.bool false) := G0.out.kn.at_ 33 _ rfl
  have k2 : (w.alloc (.cells (evC 8 n keep A len c) 29)).cell? ⟨0, 34, none⟩ = some (.bool false) := G0.out.kn.at_ 34 _ rfl
  have k3 : (w.alloc (.cells (evC 8 n keep A len c) 29)).cell? ⟨0, 35, none⟩ = some (.bool true) := G0.out.kn.at_ 35 _ rfl
  have E0 := Blk.new w (evC 8 n keep A len c) 29
  have e0 := E0.cells4
  obtain ⟨V, hV⟩ : ∃ V, V = w.alloc (.cells (evC 8 n keep A len c) 29) := ⟨_, rfl⟩
  have hKB := kblk (W := V) (g := w.heap.size + 1) (by rw [hV]; exact hsz0) (.string ⟨#[112, 111, 119, 101, 114]⟩) (.bool false) (.bool false) (.bool true) 68
  rw [hV] at hKB
  have HKB := Lib.hid hKB
  have HE := Lib.hid E0
  have HB0 := Lib.hid hB0
  have Hby := Lib.hid hby
  obtain ⟨et, het⟩ : ∃ et, et = Sp.evT ⟨8, n, keep, data⟩ := ⟨_, rfl⟩
  rw [← het]
  have Het := Lib.hid het
  clear hKB hV E0 hB0 hg het hby
  by_cases hd : data = []
  case neg =>
    have hlp : 0 < len := by rw [← hl]; exact List.length_pos_iff.2 hd
    have g1 : (0 : Int) < (len : Int) := by omega
    have Hr : Hid (et = .error 10) := Lib.hid (by
      rw [Het.out]
      show (if (8 : Int) < 0 ∨ 9 ≤ (8 : Int) then _ else _) = _
      rw [if_neg (by decide)]
      exact if_pos (.inl ⟨rfl, hd⟩))
    clear hd hlp hl
    go_enter Tryd.func15, Tryd.ntmps15
    go_wp2_with fail
    go_ret2
    exact ⟨by rw [Hr.out]; rfl, HB0.out.trans (HKB.out.2.mono (by rw [World.size_alloc]; exact Nat.le_succ _))⟩
  obtain rfl : len = 0 := by rw [← hl, hd]; rfl
  by_cases hn : n = 0
  case neg =>
    have g2 : (n == 0) = false := by rw [beq_eq_false_iff_ne]; exact hn
    have g3 : (n != 0) = true := by rw [bne, g2]; rfl
    have Hr : Hid (et = .error 10) := Lib.hid (by
      rw [Het.out]
      show (if (8 : Int) < 0 ∨ 9 ≤ (8 : Int) then _ else _) = _
      rw [if_neg (by decide)]
      exact if_pos (.inr (.inl ⟨rfl, hn⟩)))
    clear hd hl
    go_enter Tryd.func15, Tryd.ntmps15
    go_wp2_with fail
    go_ret2
    exact ⟨by rw [Hr.out]; rfl, HB0.out.trans (HKB.out.2.mono (by rw [World.size_alloc]; exact Nat.le_succ _))⟩
  subst hn
  have Hr : Hid (et = .ok ([112, 111, 119, 101, 114] ++ (([]) ++ (([]) ++ (32 :: Lib.itoa keep))))) := Lib.hid (by
    rw [Het.out]
    show (if (8 : Int) < 0 ∨ 9 ≤ (8 : Int) then _ else _) = _
    rw [if_neg (by decide)]
    refine (if_neg ?_).trans rfl
    rintro (⟨h, h'⟩ | ⟨h, h'⟩ | ⟨h, h'⟩)
    · exact h' hd
    · exact h' rfl
    · exact absurd (show Sp.kk 8 = false from h) (by decide))
  obtain ⟨h0, hh0⟩ : ∃ l, l = Lib.itoa keep := ⟨_, rfl⟩
  obtain ⟨m0, hm0⟩ : ∃ l, l = 32 :: h0 := ⟨_, rfl⟩
  have ha0 : (⟨#[32]⟩ : ByteArray) ++ Sp.bs h0 = Sp.bs m0 := by rw [hm0]; exact Sp.bs_append [32] h0
  obtain ⟨t0, ht0⟩ : ∃ l, l = [112, 111, 119, 101, 114] ++ m0 := ⟨_, rfl⟩
  have hc0 : (⟨#[112, 111, 119, 101, 114]⟩ : ByteArray) ++ Sp.bs m0 = Sp.bs t0 := by rw [ht0]; exact Sp.bs_append [112, 111, 119, 101, 114] m0
  have hzh0 := Sp.bs_size h0
  have hzm0 := Sp.bs_size m0
  have hzt0 := Sp.bs_size t0
  have hq0 : h0.length ≤ 200001 := by rw [hh0]; have := Lib.itoa_length_le keep (by omega) (by omega); omega
  have hql0 : m0.length = h0.length + 1 := by rw [hm0]; rfl
  have hqt0 : t0.length = 5 + m0.length := by rw [ht0, List.length_append]; rfl
  have Hr2 : Hid (et = .ok t0) := Lib.hid (by
    rw [Hr.out, ht0, hm0, hh0]; simp)
  have Hx0 := Lib.hid (fun W hW => itoa_calls keep (by omega) (by omega) W hW)
  rw [← hh0] at Hx0
  clear Hr hh0 hm0 ht0 hd hl
  go_enter Tryd.func15, Tryd.ntmps15
  go_wp2_with fail
  have B1 := Lib.hid (HB0.out.trans (HKB.out.2.mono (by rw [World.size_alloc]; exact Nat.le_succ _)))
  have E1 := Lib.hid (HE.out.low HKB.out.2 (by rw [World.size_alloc]; exact Nat.lt_succ_self _))
  have K1 := Lib.hid HKB.out.1
  clear HKB HE HB0 G0 k0 k1 k2 k3 e0
  refine (Hx0.out _ (Hgl.out.below B1.out).nv).mono ?_
  rintro e w2 ⟨rfl, b2⟩
  have B2 := Lib.hid (step B1.out b2)
  have E2 := Lib.hid (E1.out.below b2)
  have K2 := Lib.hid (K1.out.below b2)
  have e2 := E2.out.cells4
  have kc2 := K2.out.cells4
  clear b2 B1 E1 K1
  go_wp2_with fail
  go_ret2
  exact ⟨by rw [Hr2.out]; rfl, B2.out⟩
end Tr
end Go.Proofs.YtpchfmeaplhodaaDoor
namespace Go.Proofs.YtpchfmeaplhodaaDoor
set_option linter.unusedVariables false
set_option linter.unusedSimpArgs false
open Go.RowKit Go.Shelf
namespace Tr
open Ap Sg
set_option maxHeartbeats 8000000
set_option maxRecDepth 100000 in
theorem event_calls (k n keep : Int) (A : Option Addr) (len c : Nat) (data : List UInt8) (w : World) (hg : Gl w) (hby : By w A len c data) (hlen : len ≤ 100000) (hn0 : -9223372036854775808 ≤ n) (hn1 : n ≤ 9223372036854775807) (hk0 : -9223372036854775808 ≤ keep) (hk1 : keep ≤ 9223372036854775807) :
    Calls Tryd.prog 15 #[evA k n keep A len c] w fun e w' => e = .returned (Sp.evV (Sp.evT ⟨k, n, keep, data⟩)) ∧ Below w.heap.size w w' := by
  by_cases hr : k < 0 ∨ 9 ≤ k
  · have huE := Tryd.underlying29
    have e0 := (Blk.new w (evC k n keep A len c) 29).cells4
    have HB0 := Lib.hid (show Below w.heap.size w (w.alloc (.cells (evC k n keep A len c) 29)) from (Below.refl _ _).alloc (Nat.le_refl _) _)
    have hv : Sp.evT ⟨k, n, keep, data⟩ = .error 17 := by
      unfold Sp.evT
      exact if_pos hr
    rw [hv]
    clear hg hby hv
    by_cases h1 : k < 0
    · clear hr
      go_enter Tryd.func15, Tryd.ntmps15
      go_wp2_with fail
      go_ret2
      exact ⟨rfl, HB0.out⟩
    · have h2 : 9 ≤ k := by omega
      clear hr
      go_enter Tryd.func15, Tryd.ntmps15
      go_wp2_with fail
      go_ret2
      exact ⟨rfl, HB0.out⟩
  · have h : k = 0 ∨ k = 1 ∨ k = 2 ∨ k = 3 ∨ k = 4 ∨ k = 5 ∨ k = 6 ∨ k = 7 ∨ k = 8 := by omega
    rcases h with rfl | rfl | rfl | rfl | rfl | rfl | rfl | rfl | rfl
    · exact event_0 n keep A len c data w hg hby hlen hn0 hn1 hk0 hk1
    · exact event_1 n keep A len c data w hg hby hlen hn0 hn1 hk0 hk1
    · exact event_2 n keep A len c data w hg hby hlen hn0 hn1 hk0 hk1
    · exact event_3 n keep A len c data w hg hby hlen hn0 hn1 hk0 hk1
    · exact event_4 n keep A len c data w hg hby hlen hn0 hn1 hk0 hk1
    · exact event_5 n keep A len c data w hg hby hlen hn0 hn1 hk0 hk1
    · exact event_6 n keep A len c data w hg hby hlen hn0 hn1 hk0 hk1
    · exact event_7 n keep A len c data w hg hby hlen hn0 hn1 hk0 hk1
    · exact event_8 n keep A len c data w hg hby hlen hn0 hn1 hk0 hk1
end Tr
end Go.Proofs.YtpchfmeaplhodaaDoor
