/-
  A part of the proof of this seat's laws: DelimCuts.
-/
import Derived.Test.YtkjhjeaeffooaaaDoorLwDParts
import Derived.Test.YtkjhjeaeffooaaaDoorG2
import Derived.Test.YtkjhjeaeffooaaaDoorG3
import Derived.Test.YtkjhjeaeffooaaaDoorG5
namespace Go.Proofs.YtkjhjeaeffooaaaDoor
set_option linter.unusedVariables false
set_option linter.unusedSimpArgs false
open Go.RowKit Go.Shelf
namespace Sg
open Ap
set_option maxHeartbeats 4000000
theorem dcuts_in (s : List UInt8) (c : UInt8) (A : Option Addr) (n C : Nat) (xs : List (List UInt8)) (w : World) (hs : s.length ≤ 1048576) (hx : Tx w A n C xs) (ht : Sp.tot xs ≤ 1048576) (hl : Ml w) :
    Calls Tryd.prog 4 #[.string (Sp.bs s), .int .u8 (c.toNat : Int), .slice A n C] w fun e w' => e = .returned (.bool true) ∧ Below w.heap.size w w' := by
  have hz := Sp.bs_size s
  have hn := hx.len
  have hnt := Sp.tot_len xs
  have Hx := Lib.hid hx
  have Hl := Lib.hid hl
  clear hx hl
  go_enter Tryd.func4, Tryd.ntmps4
  go_wp2_with fail
  go_loop [7, 9, 14] (fun t _ i => ∃ k : Nat, k ≤ n ∧ i = .int .i64 k ∧ t = .int .i64 ((s.length + Sp.tot (xs.take k) : Nat) : Int)) (fun _ _ i => n - (intOf i).toNat)
  case atStart => exact ⟨0, by omega, rfl, by simp [Sp.tot]⟩
  case round =>
    obtain ⟨k, hk, rfl, rfl⟩ := hrel
    by_cases hlt : k < n
    · obtain ⟨x, hxk⟩ : ∃ x, xs[k]? = some x := ⟨_, List.getElem?_eq_getElem (by omega)⟩
      obtain ⟨b, o, rfl, hbl, hc⟩ := Hx.out.cells.resolve_left (by omega)
      have hcx := hc k x hxk
      have htq := Sp.tot_take xs k x hxk
      have htl := Sp.tot_take_le xs (k + 1)
      have c0 : (0 : Int) ≤ (k : Int) := by omega
      have c1 : (k : Int) < (n : Int) := by omega
      have hzx := Sp.bs_size x
      have hw1 : IntKind.i64.wrap ((k : Int) + 1) = (k : Int) + 1 := IntWalk.i64_in _ (by omega)
      have hw2 : IntKind.i64.wrap (1 + (x.length : Int)) = 1 + (x.length : Int) := IntWalk.i64_in _ (by omega)
      obtain ⟨T, hT⟩ : ∃ T : Nat, T = s.length + Sp.tot (xs.take k) := ⟨_, rfl⟩
      obtain ⟨T', hT'⟩ : ∃ T' : Nat, T' = s.length + Sp.tot (xs.take (k + 1)) := ⟨_, rfl⟩
      have hTT : T' = T + (x.length + 1) := by omega
      have hw3 : IntKind.i64.wrap ((T : Int) + (1 + (x.length : Int))) = (T' : Int) := by rw [IntWalk.i64_in _ (by omega)]; omega
      rw [← hT]
      have HT' := Lib.hid hT'
      clear htq htl hxk hc hT hT' hTT
      go_wp2_with fail
      go_round
      case rel => exact ⟨k + 1, by omega, by go_num, by rw [HT'.out]⟩
      case measure => simp [intOf]; omega
    · obtain rfl : k = n := by omega
      have e : xs.take k = xs := List.take_of_length_le (by omega)
      have c1 : ¬ (k : Int) < (k : Int) := by omega
      rw [e]
      clear e
      obtain ⟨T, hT⟩ : ∃ T : Nat, T = s.length + Sp.tot xs := ⟨_, rfl⟩
      rw [← hT]
      by_cases hb : 3000 < T
      · have c2 : (3000 : Int) < (T : Int) := by omega
        go_wp2_with fail
        refine (Dl.alive_calls _).mono ?_
        rintro e w1 ⟨rfl, b1⟩
        go_wp2_with fail
        go_ret
        exact ⟨rfl, b1⟩
      · have c2 : ¬ (3000 : Int) < (T : Int) := by omega
        have hsl : s.length ≤ 3000 := by omega
        have htl : Sp.tot xs ≤ 3000 := by omega
        have hjt := Sp.join_tot c xs
        have hcb := Sp.cutL_bound c s
        go_wp2_with fail
        refine (Dl.alive_calls _).mono ?_
        rintro e w1 ⟨rfl, b1⟩
        have hl1 := Lib.hid (Hl.out.below b1)
        have hx1 := Lib.hid (Hx.out.below b1)
        have hB1 := Lib.hid b1
        clear b1
        go_wp2_with fail
        refine (delimCut_calls s c (by omega) _ hl1.out).mono ?_
        rintro e w2 ⟨A2, C2, rfl, t2, b2⟩
        have hx2 := Lib.hid (hx1.out.below b2)
        have hB2 := Lib.hid (stepC hB1.out b2)
        have T2 := Lib.hid t2
        clear b2 t2 hB1 hx1
        go_wp2_with fail
        refine (refCut_calls s c (by omega) _).mono ?_
        rintro e w3 ⟨A3, C3, rfl, m3, b3⟩
        have hx3 := Lib.hid (hx2.out.below b3)
        have hB3 := Lib.hid (stepC hB2.out b3)
        have T23 := Lib.hid (T2.out.below b3)
        have T3 := Lib.hid (Tx.of m3)
        clear b3 m3 T2 hB2 hx2
        go_wp2_with fail
        refine (same_one A2 A3 _ C2 C3 (Sp.cutL c s) _ T23.out T3.out (by omega)).mono ?_
        rintro e w4 ⟨rfl, b4⟩
        have hx4 := Lib.hid (hx3.out.below b4)
        have hB4 := Lib.hid (stepC hB3.out b4)
        clear b4 T23 T3 hB3 hx3
        go_wp2_with fail
        refine (delimJoin_calls c A k C xs _ hx4.out (by omega) (by omega)).mono ?_
        rintro e w5 ⟨rfl, b5⟩
        have hx5 := Lib.hid (hx4.out.below b5)
        have hB5 := Lib.hid (stepC hB4.out b5)
        clear b5 hB4 hx4
        go_wp2_with fail
        refine (rJoin_calls c A k C xs _ hx5.out (by omega)).mono ?_
        rintro e w6 ⟨rfl, b6⟩
        have hB6 := Lib.hid (stepC hB5.out b6)
        clear b6 hB5 hx5
        go_wp2_with fail
        go_ret
        exact ⟨rfl, hB6.out⟩
theorem dcuts_at (s : ByteArray) (c : Int) (A : Option Addr) (n C : Nat) (xs : List (List UInt8)) (w : World) (hs : s.size ≤ 1048576) (hc : 0 ≤ c ∧ c ≤ 255) (hx : Tx w A n C xs) (ht : Sp.tot xs ≤ 1048576) (hl : Ml w) :
    Calls Tryd.prog 4 #[.string s, .int .u8 c, .slice A n C] w fun e w' => e = .returned (.bool true) ∧ Below w.heap.size w w' := by
  rw [← Sp.bs_data s]
  have hz : s.data.toList.length = s.size := by rw [Array.length_toList]; rfl
  obtain ⟨x, rfl⟩ := byte_of hc
  exact dcuts_in _ x A n C xs w (by omega) hx ht hl
end Sg
end Go.Proofs.YtkjhjeaeffooaaaDoor
