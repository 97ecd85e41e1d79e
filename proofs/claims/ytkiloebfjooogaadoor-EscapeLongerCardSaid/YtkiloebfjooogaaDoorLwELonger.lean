/-
  A part of the proof of this seat's laws: EscapeLonger.
-/
import Derived.Test.YtkiloebfjooogaaDoorEp9
namespace Go.Proofs.YtkiloebfjooogaaDoor
set_option linter.unusedVariables false
set_option linter.unusedSimpArgs false
open Go.RowKit Go.Shelf
namespace Es
open Ap Mp Sg
set_option maxHeartbeats 8000000
theorem elonger_long (s : List UInt8) (w : World) (hs : s.length ≤ 140737488351232) (h : 1500 < s.length) (hml : Ml w) :
    Calls Tryd.prog 7 #[.string (Sp.bs s)] w fun e w' => e = .returned (.bool true) ∧ Below w.heap.size w w' := by
  have hz := Sp.bs_size s
  have h1 : (1500 : Int) < (s.length : Int) := by omega
  have Hml := Lib.hid hml
  clear hml
  go_enter Tryd.func7, Tryd.ntmps7
  go_wp2_with fail
  refine (alive_calls _ Hml.out).mono ?_
  rintro e w1 ⟨rfl, b1⟩
  go_wp2_with fail
  go_ret
  exact ⟨rfl, b1⟩
set_option maxRecDepth 100000 in
theorem elonger_in (s : List UInt8) (w : World) (hs : s.length ≤ 1500) (hml : Ml w) :
    Calls Tryd.prog 7 #[.string (Sp.bs s)] w fun e w' => e = .returned (.bool true) ∧ Below w.heap.size w w' := by
  have hz := Sp.bs_size s
  have h1 : ¬ (1500 : Int) < (s.length : Int) := by omega
  have Hml := Lib.hid hml
  have He := Lib.hid (encP_calls s (by omega))
  have Hd := Lib.hid (fun w hm => decP_calls s (by omega) w hm)
  have Hel := Lib.hid (Sp.enc_more s)
  clear hml
  go_enter Tryd.func7, Tryd.ntmps7
  go_wp2_with fail
  go_loop [3, 4, 23, 24, 32, 18] (fun n _ _ _ _ i => ∃ k : Nat, k ≤ s.length ∧ i = .int .i64 k ∧ n = .int .i64 ((s.length + Sp.mores (s.take k) : Nat) : Int)) (fun _ _ _ _ _ i => s.length - (intOf i).toNat)
  case atStart => exact ⟨0, by omega, rfl, by simp [Sp.mores]⟩
  case round =>
    obtain ⟨k, hk, rfl, rfl⟩ := hrel
    by_cases hlt : k < s.length
    · obtain ⟨c, hc⟩ : ∃ c, s[k]? = some c := ⟨_, List.getElem?_eq_getElem hlt⟩
      have hck := bs_at hc
      have c0 : (0 : Int) ≤ (k : Int) := by omega
      have c1 : (k : Int) < (s.length : Int) := by omega
      have hw1 : IntKind.i64.wrap ((k : Int) + 1) = (k : Int) + 1 := IntWalk.i64_in _ (by omega)
      have hsn := Sp.mores_snoc (s.take k) c
      rw [show s.take k ++ [c] = s.take (k + 1) by rw [List.take_add_one, hc]; rfl] at hsn
      have hml := Sp.mores_le (s.take k)
      have htl : (s.take k).length ≤ 1500 := by rw [List.length_take]; omega
      obtain ⟨T, hT⟩ : ∃ T : Nat, T = s.length + Sp.mores (s.take k) := ⟨_, rfl⟩
      obtain ⟨T', hT'⟩ : ∃ T' : Nat, T' = s.length + Sp.mores (s.take (k + 1)) := ⟨_, rfl⟩
      have hTT : T' = T + Sp.more c := by omega
      have hTl : T ≤ 7500 := by omega
      rw [← hT]
      have HT' := Lib.hid hT'
      have key : ∀ v : UInt8, ((c.toNat : Int) == (v.toNat : Int)) = decide (c = v) := fun v => by
        by_cases hv : c = v
        · rw [hv]; simp
        · rw [decide_eq_false hv, beq_eq_false_iff_ne]; intro e; exact hv (UInt8.toNat_inj.1 (by omega))
      have q1 : ((c.toNat : Int) == 124) = decide (c = 124) := key 124
      have q2 : ((c.toNat : Int) == 94) = decide (c = 94) := key 94
      have q3 : ((c.toNat : Int) == 126) = decide (c = 126) := key 126
      have q4 : ((c.toNat : Int) == 92) = decide (c = 92) := key 92
      have q5 : ((c.toNat : Int) == 38) = decide (c = 38) := key 38
      have q6 : ((c.toNat : Int) == 11) = decide (c = 11) := key 11
      have q7 : ((c.toNat : Int) == 13) = decide (c = 13) := key 13
      have q8 : ((c.toNat : Int) == 28) = decide (c = 28) := key 28
      clear key hc hsn hml htl hT hT'
      by_cases g1 : c = 124 ∨ c = 94 ∨ c = 126 ∨ c = 92 ∨ c = 38
      · have hm : Sp.more c = 2 := by unfold Sp.more; rw [if_pos g1]
        have hw2 : IntKind.i64.wrap ((T : Int) + 2) = (T' : Int) := by rw [IntWalk.i64_in _ (by omega)]; omega
        rw [hm] at hTT
        clear hm hTT
        rcases g1 with g1 | g1 | g1 | g1 | g1
        all_goals
          rw [g1] at q1 q2 q3 q4 q5 q6 q7 q8
          simp only [show (decide ((124 : UInt8) = 124)) = true from rfl, show (decide ((94 : UInt8) = 124)) = false from rfl, show (decide ((94 : UInt8) = 94)) = true from rfl, show (decide ((126 : UInt8) = 124)) = false from rfl, show (decide ((126 : UInt8) = 94)) = false from rfl, show (decide ((126 : UInt8) = 126)) = true from rfl, show (decide ((92 : UInt8) = 124)) = false from rfl, show (decide ((92 : UInt8) = 94)) = false from rfl, show (decide ((92 : UInt8) = 126)) = false from rfl, show (decide ((92 : UInt8) = 92)) = true from rfl, show (decide ((38 : UInt8) = 124)) = false from rfl, show (decide ((38 : UInt8) = 94)) = false from rfl, show (decide ((38 : UInt8) = 126)) = false from rfl, show (decide ((38 : UInt8) = 92)) = false from rfl, show (decide ((38 : UInt8) = 38)) = true from rfl] at q1 q2 q3 q4 q5
          clear q6 q7 q8
          subst g1
          go_wp2_with fail
          go_round
          case rel => exact ⟨k + 1, by omega, by go_num, by rw [HT'.out]⟩
          case measure => simp [intOf]; omega
      · have n1 : c ≠ 124 := fun e => g1 (.inl e)
        have n2 : c ≠ 94 := fun e => g1 (.inr (.inl e))
        have n3 : c ≠ 126 := fun e => g1 (.inr (.inr (.inl e)))
        have n4 : c ≠ 92 := fun e => g1 (.inr (.inr (.inr (.inl e))))
        have n5 : c ≠ 38 := fun e => g1 (.inr (.inr (.inr (.inr e))))
        rw [decide_eq_false n1] at q1
        rw [decide_eq_false n2] at q2
        rw [decide_eq_false n3] at q3
        rw [decide_eq_false n4] at q4
        rw [decide_eq_false n5] at q5
        by_cases g2 : c = 11 ∨ c = 13 ∨ c = 28
        · have hm : Sp.more c = 4 := by unfold Sp.more; rw [if_neg g1, if_pos g2]
          have hw2 : IntKind.i64.wrap ((T : Int) + 4) = (T' : Int) := by rw [IntWalk.i64_in _ (by omega)]; omega
          clear hm hTT n1 n2 n3 n4 n5 g1
          rcases g2 with g1 | g1 | g1
          all_goals
            rw [g1] at q6 q7 q8
            simp only [show (decide ((11 : UInt8) = 11)) = true from rfl, show (decide ((13 : UInt8) = 11)) = false from rfl, show (decide ((13 : UInt8) = 13)) = true from rfl, show (decide ((28 : UInt8) = 11)) = false from rfl, show (decide ((28 : UInt8) = 13)) = false from rfl, show (decide ((28 : UInt8) = 28)) = true from rfl] at q6 q7 q8
            clear q1 q2 q3 q4 q5
            subst g1
            go_wp2_with fail
            go_round
            case rel => exact ⟨k + 1, by omega, by go_num, by rw [HT'.out]⟩
            case measure => simp [intOf]; omega
        · have hm : Sp.more c = 0 := by unfold Sp.more; rw [if_neg g1, if_neg g2]
          have HT2 : Hid (T = s.length + Sp.mores (s.take (k + 1))) := Lib.hid (by rw [← HT'.out]; omega)
          rw [decide_eq_false (fun e => g2 (.inl e))] at q6
          rw [decide_eq_false (fun e => g2 (.inr (.inl e)))] at q7
          rw [decide_eq_false (fun e => g2 (.inr (.inr e)))] at q8
          clear hm hTT n1 n2 n3 n4 n5 g1 g2 HT'
          go_wp2_with fail
          go_round
          case rel => exact ⟨k + 1, by omega, by go_num, by rw [HT2.out]⟩
          case measure => simp [intOf]; omega
    · obtain rfl : k = s.length := by omega
      have c1 : ¬ (s.length : Int) < (s.length : Int) := by omega
      rw [List.take_length, ← Hel.out]
      have hlb := (Sp.enc_len 124 94 126 92 38 s).2
      unfold encP at He
      generalize Sp.enc 124 94 126 92 38 s = a at *
      have hza := Sp.bs_size a
      clear Hel
      go_wp2_with fail
      refine (plain_calls _).mono ?_
      rintro e w1 ⟨rfl, b1⟩
      have k1 := Lib.hid b1
      clear b1
      go_wp2_with fail
      refine (He.out _).mono ?_
      rintro e w2 ⟨rfl, b2⟩
      have k2 := Lib.hid (step k1.out b2)
      clear b2 k1
      go_wp2_with fail
      refine (plain_calls _).mono ?_
      rintro e w3 ⟨rfl, b3⟩
      have k3 := Lib.hid (step k2.out b3)
      have m3 := Lib.hid (Hml.out.below k3.out)
      clear b3 k2
      cases hx : decP s with
      | ok x =>
        rw [hx] at Hd
        unfold Sp.decV at Hd
        have hlx := Sp.dec_len hx
        have hzx := Sp.bs_size x
        have g1 : (x.length : Int) ≤ (s.length : Int) := by omega
        clear hx
        go_wp2_with fail
        refine (Hd.out _ m3.out).mono ?_
        rintro e w4 ⟨rfl, b4⟩
        have k4 := Lib.hid (step k3.out b4)
        have m4 := Lib.hid (Hml.out.below k4.out)
        clear b4 k3 m3
        go_wp2_with fail
        refine (alive_calls _ m4.out).mono ?_
        rintro e w5 ⟨rfl, b5⟩
        have k5 := Lib.hid (step k4.out b5)
        clear b5 k4 m4
        go_wp2_with fail
        go_ret
        exact ⟨rfl, k5.out⟩
      | error i =>
        rw [hx] at Hd
        unfold Sp.decV at Hd
        have hat := Sp.dec_err hx
        have hil := (List.getElem?_eq_some_iff.1 hat).1
        have hck := bs_at hat
        have g0 : (0 : Int) ≤ (i : Int) := by omega
        have g1 : (i : Int) < (s.length : Int) := by omega
        have g2 : (0 : Int) ≤ (s.length : Int) := by omega
        clear hx hat
        go_wp2_with fail
        refine (Hd.out _ m3.out).mono ?_
        rintro e w4 ⟨rfl, b4⟩
        have k4 := Lib.hid (step k3.out b4)
        have m4 := Lib.hid (Hml.out.below k4.out)
        clear b4 k3 m3
        go_wp2_with fail
        refine (alive_calls _ m4.out).mono ?_
        rintro e w5 ⟨rfl, b5⟩
        have k5 := Lib.hid (step k4.out b5)
        clear b5 k4 m4
        go_wp2_with fail
        go_ret
        exact ⟨rfl, k5.out⟩
theorem elonger_at (s : ByteArray) (w : World) (hs : s.size ≤ 140737488351232) (hml : Ml w) :
    Calls Tryd.prog 7 #[.string s] w fun e w' => e = .returned (.bool true) ∧ Below w.heap.size w w' := by
  rw [← Sp.bs_data s]
  have hz : s.data.toList.length = s.size := by rw [Array.length_toList]; rfl
  by_cases h : 1500 < s.data.toList.length
  · exact elonger_long _ w (by omega) h hml
  · exact elonger_in _ w (by omega) hml
end Es
end Go.Proofs.YtkiloebfjooogaaDoor
