/-
  A part of the proof of this seat's laws: the reference's Split, Join, same.
-/
import Derived.Test.YtcldnibedimepaaSg11
namespace Go.Proofs.Ytcldnibedimepaa
set_option linter.unusedVariables false
set_option linter.unusedSimpArgs false
open Go.RowKit Go.Shelf
namespace Sg
open Ap
set_option maxHeartbeats 2000000
theorem refSplit_calls (s : List UInt8) (hs : s.length ≤ 100000) (A : Option Addr) (n c : Nat) (w : World)
    (hconv : ∀ w', Below w.heap.size w w' → (convert 39 9 (.slice A n c)).run Try.prog w' = .ok (.string (Sp.bs s)) w') :
    Calls Try.prog 24 #[.slice A n c] w fun e w' =>
      ∃ A' C', e = .returned (.slice A' (Sp.split s).length C') ∧ Tx w' A' (Sp.split s).length C' (Sp.split s) ∧ Below w.heap.size w w' := by
  have hcv := hconv w (Below.refl _ _)
  have Hc := Lib.hid (refCut_calls s 13 hs)
  obtain ⟨init, last, hil⟩ := Sp.cutL_last 13 s
  have hspl := Sp.split_of hil
  have hlen := Sp.cutL_length 13 s
  have hcnt := List.count_le_length (a := 13) (l := s)
  rw [hil] at hlen Hc
  rw [List.length_append, List.length_singleton] at hlen Hc
  have e2 : Sp.vals (init ++ [last]) = Sp.vals init ++ [.string (Sp.bs last)] := by rw [Sp.vals, List.map_append]; rfl
  have hN : init.length ≤ 100000 := by omega
  have hw2 : IntKind.i64.wrap (init.length : Int) = (init.length : Int) := IntWalk.i64_in _ (by omega)
  have k0 : (0 : Int) ≤ (init.length : Int) := by omega
  have k1 : (init.length : Int) < (init.length : Int) + 1 := by omega
  clear hconv hlen hcnt hil
  go_enter Try.func24, Try.ntmps24
  go_wp2_with fail
  refine (Hc.out _).mono ?_
  rintro e w' ⟨A', C, rfl, hm, hb⟩
  have hcap := hm.cap
  have htx := Tx.of hm
  rw [e2] at hm
  obtain ⟨g, rfl, hg, hgs, -, hcell, -, -⟩ := Mine.last hm
  rw [show (Sp.vals init).length = init.length by simp] at hcell
  have k2 : (init.length : Int) ≤ (C : Int) := by omega
  clear hm
  by_cases hl : last = []
  · subst hl
    have hq : ((Sp.bs []).toList == []) = true := by rw [Sp.bs_toList]; rfl
    rw [if_pos rfl] at hspl
    have Hs := Lib.hid hspl
    clear hspl
    go_wp2_with fail
    go_ret
    rw [Hs.out]
    refine ⟨_, _, rfl, ⟨by omega, rfl, ?_⟩, hb⟩
    obtain ⟨b, o, hA, hbl, hcc⟩ := htx.cells.resolve_left (by omega)
    exact .inr ⟨b, o, hA, hbl, fun j x hj => hcc j x (by rw [List.getElem?_append_left (List.getElem?_eq_some_iff.1 hj).1]; exact hj)⟩
  · have hq : ((Sp.bs last).toList == []) = false := by rw [Sp.bs_toList, beq_eq_false_iff_ne]; exact hl
    rw [if_neg hl] at hspl
    have Hs := Lib.hid hspl
    clear hspl hl
    go_wp2_with fail
    go_ret
    rw [Hs.out, List.length_append, List.length_singleton]
    exact ⟨_, _, rfl, htx, hb⟩
theorem drewN_two (w : World) (a b : Nat) : (w.drewN a).drewN b = w.drewN (a + b) := by simp [World.drewN, Nat.add_assoc]
theorem same_calls (A B : Option Addr) (n m c d : Nat) (xs ys : List (List UInt8)) (w : World) (hx : Tx w A n c xs) (hy : Tx w B m d ys) (hs : n ≤ 4194304) :
    Calls Try.prog 22 #[.slice A n c, .slice B m d] w fun e w' => e = .returned (.bool (decide (xs = ys))) ∧ ∃ k, w' = w.drewN k := by
  have hn := hx.len
  have hm := hy.len
  by_cases hnm : n = m
  · subst hnm
    obtain ⟨r, hr⟩ : ∃ r, r = decide (xs = ys) := ⟨_, rfl⟩
    rw [← hr]
    have Hr := Lib.hid hr
    clear hr
    go_enter Try.func22, Try.ntmps22
    go_wp2_with fail
    go_loopw [5, 13] (fun _ i wr => (∃ k : Nat, k ≤ n ∧ i = .int .i64 k ∧ Hid (xs.take k = ys.take k)) ∧ ∃ q, wr = w.drewN q) (fun _ i _ => n - (intOf i).toNat)
    case atStart => exact ⟨⟨0, by omega, rfl, rfl⟩, 0, rfl⟩
    case round =>
      obtain ⟨⟨k, hk, rfl, hpre⟩, q, rfl⟩ := hrel
      by_cases hlt : k < n
      · obtain ⟨x, hxk⟩ : ∃ x, xs[k]? = some x := ⟨_, List.getElem?_eq_getElem (by omega)⟩
        obtain ⟨y, hyk⟩ : ∃ y, ys[k]? = some y := ⟨_, List.getElem?_eq_getElem (by omega)⟩
        obtain ⟨b, o, rfl, hbl, hc⟩ := hx.cells.resolve_left (by omega)
        obtain ⟨b', o', rfl, hbl', hc'⟩ := hy.cells.resolve_left (by omega)
        have hcx := hc k x hxk
        have hcy := hc' k y hyk
        have hs1 : xs.take (k + 1) = xs.take k ++ [x] := by rw [List.take_add_one, hxk]; rfl
        have hs2 : ys.take (k + 1) = ys.take k ++ [y] := by rw [List.take_add_one, hyk]; rfl
        have c0 : (0 : Int) ≤ (k : Int) := by omega
        have c1 : (k : Int) < (n : Int) := by omega
        have hw1 : IntKind.i64.wrap ((k : Int) + 1) = (k : Int) + 1 := IntWalk.i64_in _ (by omega)
        by_cases hxy : x = y
        · subst hxy
          have hpre2 : Hid (xs.take (k + 1) = ys.take (k + 1)) := Lib.hid (by rw [hs1, hs2, hpre.out])
          clear hs1 hs2 hxk hyk hc hc' hx hy
          go_wp2_with fail
          go_quiet (fail)
          go_wp2_with fail
          go_roundw
          case rel => exact ⟨⟨k + 1, by omega, by go_num, hpre2⟩, _, rfl⟩
          case measure => simp [intOf]; omega
        · have hq : ((Sp.bs x).toList == (Sp.bs y).toList) = false := by rw [Sp.bs_toList, Sp.bs_toList, beq_eq_false_iff_ne]; exact hxy
          have hne : Hid (r = false) := Lib.hid (by
            rw [Hr.out, decide_eq_false_iff_not]
            intro e
            rw [e, hyk] at hxk
            exact hxy (Option.some.inj hxk).symm)
          clear hs1 hs2 hxk hyk hc hc' hx hy hxy
          go_wp2_with fail
          go_quiet (fail)
          go_wp2_with fail
          go_ret
          rw [hne.out]
          exact ⟨rfl, _, drewN_two _ _ _⟩
      · obtain rfl : k = n := by omega
        have c1 : ¬ (k : Int) < (k : Int) := by omega
        have hne : Hid (r = true) := Lib.hid (by
          rw [Hr.out, decide_eq_true_iff]
          have := hpre.out
          rwa [List.take_of_length_le (by omega), List.take_of_length_le (by omega)] at this)
        clear hx hy
        go_wp2
        go_ret
        rw [hne.out]
        exact ⟨rfl, _, rfl⟩
  · have e : decide (xs = ys) = false := decide_eq_false (fun e => hnm (by rw [← hn, ← hm, e]))
    rw [e]
    have hq : ((n : Int) == (m : Int)) = false := by rw [beq_eq_false_iff_ne]; omega
    clear e hx hy
    go_enter Try.func22, Try.ntmps22
    go_wp2
    go_ret
    exact ⟨rfl, 0, rfl⟩
/-- bytes as values -/
abbrev vb (l : List UInt8) : List Value := l.map fun b => .int .u8 (b.toNat : Int)
theorem strCells_bs (l : List UInt8) : Lib.strCells (Sp.bs l) = vb l := by unfold Lib.strCells Sp.bs; simp
theorem infoB : (Try.prog.info? 5).map (fun i => (i.zero, i.size, i.bytes)) = some (some (.int .u8 0), 1, 1) := by kernel_rfl
theorem join_calls (A : Option Addr) (n c : Nat) (xs : List (List UInt8)) (w : World) (h : Tx w A n c xs) (hb : Sp.tot xs ≤ 4194304) :
    Calls Try.prog 25 #[.slice A n c] w fun e w' => ∃ v, e = .returned v ∧ Lib.OwnBuf w.heap.size 5 v (Sp.tot xs) (vb (Sp.joinT xs)) w w' := by
  have hn := h.len
  have hnt := Sp.tot_len xs
  obtain ⟨i0, hi, hz0, hz1, hz2⟩ := info_parts infoB
  go_enter Try.func25, Try.ntmps25
  go_wp2_with fail
  go_loopw [3, 5, 8] (fun v _ i wr => ∃ k : Nat, k ≤ n ∧ i = .int .i64 k ∧ Hid (Lib.OwnBuf w.heap.size 5 v (Sp.tot (xs.take k)) (vb (Sp.joinT (xs.take k))) w wr)) (fun _ _ i _ => n - (intOf i).toNat)
  case atStart => exact ⟨0, by omega, rfl, World.ownsRowF_nil _ _ _ _, Below.refl _ _, Nat.le_refl _⟩
  case round =>
    obtain ⟨k, hk, rfl, hob⟩ := hrel
    by_cases hlt : k < n
    · obtain ⟨x, hx⟩ : ∃ x, xs[k]? = some x := ⟨_, List.getElem?_eq_getElem (by omega)⟩
      obtain ⟨b, o, rfl, hbl, hc⟩ := h.cells.resolve_left (by omega)
      have hcx := (hob.out.2.1.cell (p := ⟨b, o + k, none⟩) hbl).trans (hc k x hx)
      have ht := Sp.tot_take xs k x hx
      have htl := Sp.tot_take_le xs (k + 1)
      have hjt := Sp.joinT_take xs k x hx
      have c0 : (0 : Int) ≤ (k : Int) := by omega
      have c1 : (k : Int) < (n : Int) := by omega
      have hzx := Sp.bs_size x
      have hw1 : IntKind.i64.wrap ((k : Int) + 1) = (k : Int) + 1 := IntWalk.i64_in _ (by omega)
      have Hjt := Lib.hid hjt
      have hT : Sp.tot (xs.take k) + x.length + 1 ≤ 4194304 := by omega
      have Ht := Lib.hid ht
      clear ht htl hx hc h hjt
      go_wp2_with first
        | (at_builtin; (refine Lib.wpList_append_text rfl (.tmp 12) (.tmp 13) 39 9 rfl w.heap.size 5 i0 Try.underlying39 Try.underlying9 hi hz0 hz1 hz2 _ _ _ rfl w hob.out (Sp.bs x) rfl ?hl ?_); (case hl => omega); intro v1 w1 hob1)
        | (at_builtin; refine Lib.wpList_append_byte rfl (.tmp 15) (.tmp 16) 39 rfl w.heap.size 5 i0 Try.underlying39 hi hz0 hz1 hz2 _ _ _ rfl w _ 13 hob1 rfl ?hl ?_; (case hl => omega); intro v2 w2 hob2)
      have hfin : Hid (Lib.OwnBuf w.heap.size 5 v2 (Sp.tot (xs.take (k + 1))) (vb (Sp.joinT (xs.take (k + 1)))) w w2) := by
        have e1 : Sp.tot (xs.take (k + 1)) = Sp.tot (xs.take k) + (Sp.bs x).size + 1 := by rw [Ht.out, hzx]; omega
        have e2 : vb (Sp.joinT (xs.take (k + 1))) = vb (Sp.joinT (xs.take k)) ++ Lib.strCells (Sp.bs x) ++ [.int .u8 13] := by
          rw [Hjt.out, strCells_bs, vb, List.map_append, List.map_append]; rfl
        rw [e1, e2]
        exact hob2
      clear hob1 hob2
      go_wp2
      go_roundw
      case rel => exact ⟨k + 1, by omega, by go_num, hfin⟩
      case measure => simp [intOf]; omega
    · obtain rfl : k = n := by omega
      have e : xs.take k = xs := List.take_of_length_le (by omega)
      rw [e] at hob
      have c1 : ¬ (k : Int) < (k : Int) := by omega
      clear h
      go_wp2
      go_ret
      exact ⟨_, rfl, hob.out⟩
/-- the text of a buffer of one's own -/
theorem own_text {B n : Nat} {v : Value} {l : List UInt8} {W0 w : World} (h : Lib.OwnBuf B 5 v n (vb l) W0 w) : (convert 39 9 v).run Try.prog w = .ok (.string (Sp.bs l)) w := by
  have hl : l.length = n := by have := h.1.1; simpa using this
  by_cases h0 : n = 0
  · have hl0 : l = [] := List.eq_nil_of_length_eq_zero (by omega)
    subst hl0
    rcases h.1.2 with ⟨rfl, -⟩ | ⟨g, cap, cur, fz, rfl, hb, hg, hf, hnc, r⟩
    · exact run_convert_bytes_nil w 39 5 Try.underlying39 Try.underlying5 0 0 9 Try.underlying9
    · subst h0
      exact run_convert_bytes_back w 39 9 5 ⟨g, 0, none⟩ cap [] Try.underlying39 Try.underlying5 Try.underlying9 (fun j hj => by simp at hj)
  · obtain ⟨g, cap, rfl, -, -, -, hc⟩ := own_form h.1 (by omega)
    subst hl
    refine run_convert_bytes_back w 39 9 5 ⟨g, 0, none⟩ cap l Try.underlying39 Try.underlying5 Try.underlying9 (fun j hj => ?_)
    rw [Addr.add_lit, Nat.zero_add]
    exact hc j _ (by rw [List.getElem?_map, List.getElem?_eq_getElem hj]; rfl)
end Sg
end Go.Proofs.Ytcldnibedimepaa
