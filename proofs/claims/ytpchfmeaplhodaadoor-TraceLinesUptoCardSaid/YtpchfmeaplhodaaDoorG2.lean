/-
  A part of the proof of this seat's laws: the reference's texts between a byte.
-/
import Derived.Test.YtpchfmeaplhodaaDoorG1
namespace Go.Proofs.YtpchfmeaplhodaaDoor
set_option linter.unusedVariables false
set_option linter.unusedSimpArgs false
open Go.RowKit Go.Shelf
namespace Sg
open Ap
set_option maxHeartbeats 2000000
set_option maxRecDepth 100000 in
theorem refCut_calls (s : List UInt8) (c : UInt8) (hs : s.length ≤ 100000) (w : World) :
    Calls Tryd.prog 36 #[.string (Sp.bs s), .int .u8 (c.toNat : Int)] w fun e w' =>
      ∃ A C, e = .returned (.slice A (Sp.cutL c s).length C) ∧ Mine w' w.heap.size A (Sp.cutL c s).length C (Sp.vals (Sp.cutL c s)) ∧ Below w.heap.size w w' := by
  have hz := Sp.bs_size s
  obtain ⟨i0, hi, hz0, hz1, hz2⟩ := info_parts infoS
  have hrow := mine_lit w w.heap.size #[.string ⟨#[]⟩] 9 (Nat.le_refl _) (by decide)
  have hB : Below w.heap.size w (w.alloc (.cells #[.string ⟨#[]⟩] 9)) := (Below.refl _ _).alloc (Nat.le_refl _) _
  go_enter Tryd.func36, Tryd.ntmps36
  go_wp2_with fail
  generalize (w.alloc (.cells #[.string ⟨#[]⟩] 9)) = W at *
  go_loopw [5, 6] (fun o i wr => ∃ (k n C : Nat) (A : Option Addr) (init : List (List UInt8)) (last : List UInt8), k ≤ s.length ∧ i = .int .i64 k ∧ o = .slice A n C ∧ n = init.length + 1 ∧ n ≤ k + 1 ∧ last.length ≤ k ∧
      Hid (Sp.cutL c (s.take k) = init ++ [last]) ∧ Hid (Mine wr w.heap.size A n C (Sp.vals init ++ [.string (Sp.bs last)])) ∧ Hid (Below w.heap.size w wr)) (fun _ i _ => s.length - (intOf i).toNat)
  case atStart => exact ⟨0, 1, 1, _, [], [], by omega, rfl, rfl, rfl, by omega, by simp, rfl, hrow, hB⟩
  case round =>
    obtain ⟨k, n, C, A, init, last, hk, rfl, rfl, rfl, hnk, hll, hcut, hm, hb⟩ := hrel
    by_cases hlt : k < s.length
    · have c1 : (k : Int) < (s.length : Int) := by omega
      have c0 : (0 : Int) ≤ (k : Int) := by omega
      have hwj : IntKind.i64.wrap ((k : Int) + 1) = (k : Int) + 1 := IntWalk.i64_in _ (by omega)
      obtain ⟨x, hx⟩ : ∃ x, s[k]? = some x := ⟨_, List.getElem?_eq_getElem hlt⟩
      have hxk : ∀ h, (Sp.bs s)[k]'h = x := by
        intro h
        have e : (Sp.bs s)[k]'h = (Sp.bs s).data.toList[k]'(by rw [Sp.bs_list]; exact hlt) := rfl
        rw [e]
        simp only [Sp.bs_list]
        have := List.getElem?_eq_getElem hlt
        rw [hx] at this
        exact (Option.some.inj this).symm
      have htk : s.take (k + 1) = s.take k ++ [x] := by rw [List.take_add_one, hx]; rfl
      by_cases hxc : x = c
      · have hq : ((x.toNat : Int) == (c.toNat : Int)) = true := by rw [hxc]; simp
        have Hcut : Hid (Sp.cutL c (s.take (k + 1)) = (init ++ [last]) ++ [[]]) := Lib.hid (by rw [htk, hxc, Sp.cutL_mid c [] (s.take k), hcut.out]; rfl)
        clear hxc htk hx
        go_wp2_with (at_builtin; (refine Ap.wpList_append_mine _ rfl (.tmp 19) (.tmp 20) 75 rfl 9 i0 (.string ⟨#[]⟩) 16 Tryd.underlying75 hi hz0 hz1 hz2 rfl w.heap.size _ _ _ (Sp.vals init ++ [.string (Sp.bs last)]) rfl ?hm _ _ _ [.string ⟨#[]⟩] rfl ?hn ?hX ?h1c ?b1 ?b2 ?hbase ?_); (case hm => exact (hm.out.below ((Below.refl _ _).alloc (Nat.le_refl _) _))); (case hn => rfl); (case hX => exact .inr ⟨_, rfl, one_cell _ _ _ _ rfl⟩); (case h1c => (simp [Value.oneCell'])); (case b1 => (simp only [maxLen]; omega)); (case b2 => omega); (case hbase => (have := hb.out.size; simp; omega)); intro A1 c1 W1 hm1 hb1)
        go_roundw
        case rel => exact ⟨k + 1, init.length + 1 + 1, _, _, init ++ [last], [], by omega, by go_num, rfl, by simp, by omega, by simp, Hcut, by rw [Sp.vals, List.map_append]; exact hm1, hb.out.trans (((Below.refl _ _).alloc hb.out.size _).trans hb1)⟩
        case measure => simp [intOf]; omega
      · have hq : ((x.toNat : Int) == (c.toNat : Int)) = false := by
          rw [beq_eq_false_iff_ne]
          intro e
          exact hxc (UInt8.toNat_inj.1 (by omega))
        have Hcut : Hid (Sp.cutL c (s.take (k + 1)) = init ++ [last ++ [x]]) := Lib.hid (by rw [htk]; exact Sp.cutL_snoc c x hxc _ _ _ hcut.out)
        have hsub : (Sp.bs s).extract k (k + 1) = Sp.bs [x] := by
          rw [Sp.bs_extract]; congr 1
          rw [show k + 1 - k = 1 by omega, List.take_one, List.head?_drop, hx]; rfl
        have happ : Sp.bs last ++ Sp.bs [x] = Sp.bs (last ++ [x]) := Sp.bs_append _ _
        have hsz1 : (Sp.bs last).size = last.length := Sp.bs_size _
        have hsz2 : (Sp.bs [x]).size = 1 := Sp.bs_size _
        obtain ⟨g, rfl, hg, hgs, hn1, hcell, hfro, hset⟩ := Mine.last hm.out
        rw [show (Sp.vals init).length = init.length by simp] at hcell hfro hset
        have hwl : IntKind.i64.wrap ((init.length : Int) + 1 - 1) = (init.length : Int) := by
          rw [show (init.length : Int) + 1 - 1 = (init.length : Int) by omega]; exact IntWalk.i64_in _ (by omega)
        have hwl2 : IntKind.i64.wrap (init.length : Int) = (init.length : Int) := IntWalk.i64_in _ (by omega)
        have c5 : (init.length : Int) < (init.length : Int) + 1 := by omega
        have c6 : (k : Int) ≤ (k : Int) + 1 := by omega
        have c2 : (k : Int) + 1 ≤ (s.length : Int) := by omega
        have c3 : (0 : Int) ≤ (k : Int) + 1 := by omega
        have c4 : (0 : Int) ≤ (init.length : Int) := by omega
        have Hset := Lib.hid hset
        clear hxc htk hx hset hn1
        go_wp2_with fail
        go_region
        go_wp2
        go_roundw
        case rel => exact ⟨k + 1, init.length + 1, _, _, init, last ++ [x], by omega, by go_num, rfl, rfl, by omega, by simp; omega, Hcut, (Hset.out _).below (Below.refl _ _).drew, (hb.out.setCell (p := ⟨g, init.length, none⟩) hg _).drew⟩
        case measure => simp [intOf]; omega
    · obtain rfl : k = s.length := by omega
      have c1 : ¬ (s.length : Int) < (s.length : Int) := by omega
      have hc : Hid (Sp.cutL c s = init ++ [last]) := by rw [List.take_length] at hcut; exact hcut
      go_wp2_with fail
      go_ret
      have hl := congrArg List.length hc.out
      rw [List.length_append, List.length_singleton] at hl
      have e2 : Sp.vals (Sp.cutL c s) = Sp.vals init ++ [.string (Sp.bs last)] := by rw [hc.out, Sp.vals, List.map_append]; rfl
      rw [hl, e2]
      exact ⟨_, _, rfl, hm.out, hb.out⟩
end Sg
end Go.Proofs.YtpchfmeaplhodaaDoor
