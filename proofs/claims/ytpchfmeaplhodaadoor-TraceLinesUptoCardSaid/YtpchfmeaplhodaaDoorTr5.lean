/-
  A part of the proof of this seat's laws: the reference's numbers' texts.
-/
import Derived.Test.YtpchfmeaplhodaaDoorTr4
namespace Go.Proofs.YtpchfmeaplhodaaDoor
set_option linter.unusedVariables false
set_option linter.unusedSimpArgs false
open Go.RowKit Go.Shelf
namespace Sp
open Lib
theorem decFrom_bad {t : List UInt8} {k : Nat} {b : UInt8} (h : t[k]? = some b) (hb : digitVal b = none) : decFrom 0 t = none := by
  cases hd : decFrom 0 t with
  | none => rfl
  | some n =>
    obtain ⟨d, hd2⟩ := digit_of_decFrom t 0 n hd k b h
    rw [hb] at hd2; cases hd2
theorem least : itoa (-9223372036854775808) = [45, 57, 50, 50, 51, 51, 55, 50, 48, 51, 54, 56, 53, 52, 55, 55, 53, 56, 48, 56] := by
  have h := decDigits_of 19 [57, 50, 50, 51, 51, 55, 50, 48, 51, 54, 56, 53, 52, 55, 55, 53, 56, 48, 56] 9223372036854775808 (by decide) (by decide) (by decide +kernel) (by decide)
  show (if (-9223372036854775808 : Int) < 0 then 45 :: decDigits 9223372036854775808 else decDigits 0) = _
  rw [if_pos (by decide), h]
end Sp
namespace Tr
open Ap Sg
set_option maxHeartbeats 8000000
set_option maxRecDepth 100000 in
theorem decimal_nat (u : Nat) (hu : u ≤ 9223372036854775807) (w : World) :
    Calls Tryd.prog 31 #[.int .i64 (u : Int)] w fun e w' => e = .returned (.string (Sp.bs (Lib.decDigits u))) ∧ Below w.heap.size w w' := by
  have hsign := run_sign
  have c0 : ¬ (u : Int) < 0 := by omega
  have hnd := Lib.nDigits_le20 u (by omega)
  obtain ⟨D, hD⟩ : ∃ D, D = Lib.decDigits u := ⟨_, rfl⟩
  have hDl : D.length ≤ 20 := by rw [hD, Lib.decDigits_length]; exact hnd
  rw [← hD]
  have HD := Lib.hid hD
  clear hD hnd
  go_enter Tryd.func31, Tryd.ntmps31
  go_wp2_with fail
  go_loopw [0, 3] (fun v o wr => ∃ (x : Nat) (l : List UInt8), v = .int .i64 (x : Int) ∧ o = .string (Sp.bs l) ∧ x ≤ 9223372036854775807 ∧ l.length ≤ 20 ∧ Hid ((x = u ∧ l = []) ∨ (l ≠ [] ∧ ((x = 0 ∧ l = D) ∨ (0 < x ∧ Lib.decDigits x ++ l = D)))) ∧ Hid (Below w.heap.size w wr)) (fun v o _ => 2 * (intOf v).toNat + (match o with | .string b => 1 - b.size | _ => 0))
  case atStart => exact ⟨u, [], rfl, rfl, by omega, by simp, .inl ⟨rfl, rfl⟩, Below.refl _ _⟩
  case round =>
    obtain ⟨x, l, rfl, rfl, hx, hl, hc, hb⟩ := hrel
    have hzl := Sp.bs_size l
    have emp : (Sp.bs l).toList.isEmpty = decide (l = []) := by
      rw [Sp.bs_toList]
      cases l <;> simp
    by_cases hgo : 0 < x ∨ l = []
    · obtain ⟨c, hcc⟩ : ∃ c, c = UInt8.ofNat (48 + x % 10) := ⟨_, rfl⟩
      have hcv : 48 + (x : Int) % 10 = (c.toNat : Int) := by rw [hcc]; simp; omega
      have hstep : Hid ((x / 10 = 0 ∧ c :: l = D) ∨ (0 < x / 10 ∧ Lib.decDigits (x / 10) ++ c :: l = D)) := Lib.hid (by
        have hDu := HD.out
        have key : ∀ y, x / 10 = y → (y = 0 → Lib.decDigits x = [c]) ∧ (0 < y → Lib.decDigits x = Lib.decDigits y ++ [c]) := by
          rintro y rfl
          refine ⟨fun h => ?_, fun h => ?_⟩
          · rw [Lib.decDigits_one (by omega), hcc, show x % 10 = x by omega]
          · rw [Sp.decDigits_big (by omega), hcc]
        obtain ⟨k1, k2⟩ := key _ rfl
        have hDx : Lib.decDigits x ++ l = D := by
          rcases hc.out with ⟨rfl, rfl⟩ | ⟨h1, ⟨h2, -⟩ | ⟨-, h3⟩⟩
          · rw [List.append_nil, hDu]
          · rcases hgo with h | h
            · omega
            · exact absurd h h1
          · exact h3
        rcases Nat.eq_zero_or_pos (x / 10) with h | h
        · exact .inl ⟨h, by rw [← hDx, k1 h]; rfl⟩
        · exact .inr ⟨h, by rw [← hDx, k2 h]; simp⟩)
      obtain ⟨n2, hn2⟩ : ∃ n2, n2 = c :: l := ⟨_, rfl⟩
      have ha : Sp.bs [c] ++ Sp.bs l = Sp.bs n2 := by rw [hn2]; exact Sp.bs_append _ _
      have hsE : (⟨#[c]⟩ : ByteArray) = Sp.bs [c] := rfl
      have hz1 : (Sp.bs [c]).size = 1 := Sp.bs_size _
      have hz2 := Sp.bs_size n2
      have hn3 : n2.length = l.length + 1 := by rw [hn2]; rfl
      have hne : n2 ≠ [] := by rw [hn2]; simp
      rw [← hn2] at hstep
      have hl2 : n2.length ≤ 20 := by
        rcases hstep.out with ⟨-, h⟩ | ⟨-, h⟩
        · rw [h]; exact hDl
        · have := congrArg List.length h
          rw [List.length_append] at this; omega
      have Hn := Lib.hid hne
      have Hn3 := Lib.hid hn3
      have w3 : (x : Int).tdiv 10 = (x : Int) / 10 := Int.tdiv_eq_ediv_of_nonneg (by omega)
      have hx10 : ((x / 10 : Nat) : Int) = (x : Int) / 10 := by omega
      have Hx10 := Lib.hid hx10
      have Hcc := Lib.hid hcc
      have Hm : Hid (2 * (x / 10) + (1 - (Sp.bs n2).size) < 2 * x + (1 - (Sp.bs l).size)) := Lib.hid (by
        rw [hz2, hzl, hn3]
        rcases Nat.eq_zero_or_pos x with h | h
        · rcases hgo with h' | h'
          · omega
          · rw [h']; simp; omega
        · omega)
      clear hne hn2 hcc hc hn3 hx10
      rcases Nat.eq_zero_or_pos x with h | h
      · have hl0 : l = [] := hgo.resolve_left (by omega)
        rw [decide_eq_true hl0] at emp
        have g0 : ¬ (0 : Int) < (0 : Int) := by omega
        have hs48 : ∀ W : World, (convert 22 9 (.slice (some ⟨W.heap.size, 0, none⟩) 1 1)).run Tryd.prog (W.alloc (.cells #[.int .u8 48] 5)) = .ok (.string (Sp.bs [48])) (W.alloc (.cells #[.int .u8 48] 5)) := fun W => run_sign W 48
        have h48 : c = 48 := by rw [Hcc.out, h]; rfl
        subst h
        subst h48
        clear hgo hl0 hcv hsE hsign
        go_wp2_with fail
        go_roundw
        case rel => exact ⟨0, n2, rfl, rfl, by omega, hl2, Lib.hid (.inr ⟨Hn.out, hstep.out⟩), hb.out.trans (((Below.refl _ _).alloc hb.out.size _))⟩
        case measure => have := Hm.out; have := Hx10.out; simp [intOf] at *; omega
      · have g0 : (0 : Int) < (x : Int) := by omega
        clear hgo h emp
        go_wp2_with fail
        go_roundw
        case rel => exact ⟨x / 10, n2, by rw [Hx10.out], rfl, by omega, hl2, Lib.hid (.inr ⟨Hn.out, hstep.out⟩), hb.out.trans (((Below.refl _ _).alloc hb.out.size _))⟩
        case measure => have := Hm.out; have := Hx10.out; simp [intOf] at *; omega
    · have g0 : ¬ (0 : Int) < (x : Int) := by omega
      have hl0 : ¬ l = [] := fun h => hgo (.inr h)
      rw [decide_eq_false hl0] at emp
      have Hr : Hid (l = D) := Lib.hid (by
        rcases hc.out with ⟨-, h⟩ | ⟨-, ⟨-, h⟩ | ⟨h, -⟩⟩
        · exact absurd h hl0
        · exact h
        · omega)
      clear hgo hl0 hc
      go_wp2_with fail
      go_ret
      rw [Hr.out]
      exact ⟨rfl, hb.out⟩
theorem decimal_calls (n : Int) (h0 : -9223372036854775808 ≤ n) (h1 : n ≤ 9223372036854775807) (w : World) :
    Calls Tryd.prog 31 #[.int .i64 n] w fun e w' => e = .returned (.string (Sp.bs (Lib.itoa n))) ∧ Below w.heap.size w w' := by
  rcases Sp.itoa_cases n with ⟨h, e⟩ | ⟨h, hp, e⟩
  · rw [e]
    have := decimal_nat n.natAbs (by omega) w
    rwa [show ((n.natAbs : Nat) : Int) = n by omega] at this
  · by_cases hm : n = -9223372036854775808
    · subst hm
      rw [Sp.least]
      go_enter Tryd.func31, Tryd.ntmps31
      go_wp2_with fail
      go_ret
      exact ⟨rfl, Below.refl _ _⟩
    · have Hn := Lib.hid (decimal_nat n.natAbs (by omega))
      rw [show ((n.natAbs : Nat) : Int) = -n by omega] at Hn
      have hl := Lib.decDigits_length n.natAbs
      have hnd := Lib.nDigits_le20 n.natAbs (by omega)
      rw [e]
      generalize Lib.decDigits n.natAbs = D at *
      obtain ⟨n2, hn2⟩ : ∃ n2, n2 = 45 :: D := ⟨_, rfl⟩
      have ha : (⟨#[45]⟩ : ByteArray) ++ Sp.bs D = Sp.bs n2 := by rw [hn2]; exact Sp.bs_append [45] D
      rw [← hn2]
      have hz := Sp.bs_size D
      have g1 : (n == -9223372036854775808) = false := by rw [beq_eq_false_iff_ne]; exact hm
      have hw : IntKind.i64.wrap (-n) = -n := IntWalk.i64_in _ (by omega)
      clear hn2 e hm
      go_enter Tryd.func31, Tryd.ntmps31
      go_wp2_with fail
      refine (Hn.out _).mono ?_
      rintro e w1 ⟨rfl, b1⟩
      go_wp2_with fail
      go_ret
      exact ⟨rfl, b1⟩
end Tr
end Go.Proofs.YtpchfmeaplhodaaDoor
