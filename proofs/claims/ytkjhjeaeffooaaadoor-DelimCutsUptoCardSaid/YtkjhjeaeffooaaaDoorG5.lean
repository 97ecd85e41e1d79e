/-
  A part of the proof of this seat's laws: are texts the same; the reference's join.
-/
import Derived.Test.YtkjhjeaeffooaaaDoorG1
namespace Go.Proofs.YtkjhjeaeffooaaaDoor
set_option linter.unusedVariables false
set_option linter.unusedSimpArgs false
open Go.RowKit Go.Shelf
namespace Sp
theorem joinTail_take (sep : List UInt8) (xs : List (List UInt8)) (k : Nat) (x : List UInt8) (h : xs[k]? = some x) : Lib.joinTail sep (xs.take (k + 1)) = Lib.joinTail sep (xs.take k) ++ sep ++ x := by
  rw [List.take_add_one, h]
  simp [Lib.joinTail]
theorem join_first (sep : List UInt8) (xs : List (List UInt8)) (x : List UInt8) (h : xs[0]? = some x) : Lib.join (xs.take 1) sep = x := by
  cases xs with
  | nil => simp at h
  | cons y l => simp at h; subst h; simp [Lib.join, Lib.joinTail]
theorem join_take (sep : List UInt8) (xs : List (List UInt8)) (k : Nat) (x : List UInt8) (hk : 0 < k) (h : xs[k]? = some x) : Lib.join (xs.take (k + 1)) sep = Lib.join (xs.take k) sep ++ sep ++ x := by
  cases xs with
  | nil => simp at h
  | cons y l =>
    obtain ⟨j, rfl⟩ : ∃ j, k = j + 1 := ⟨k - 1, by omega⟩
    rw [List.take_succ_cons, List.take_succ_cons, Lib.join_cons, Lib.join_cons, joinTail_take sep l j x (by simpa using h)]
    simp
theorem join_tot (c : UInt8) (xs : List (List UInt8)) : (Lib.join xs [c]).length ≤ tot xs := by
  cases xs with
  | nil => simp [Lib.join]
  | cons y l =>
    rw [Lib.join_cons, tot_cons, List.length_append]
    have : (Lib.joinTail [c] l).length = tot l := by
      induction l with
      | nil => rfl
      | cons z l ih => rw [tot_cons, ← ih]; simp [Lib.joinTail]; omega
    omega
end Sp
namespace Sg
open Ap
set_option maxHeartbeats 4000000
theorem drewN_two (w : World) (a b : Nat) : (w.drewN a).drewN b = w.drewN (a + b) := by simp [World.drewN, Nat.add_assoc]
theorem same_calls (A B : Option Addr) (n m c d : Nat) (xs ys : List (List UInt8)) (w : World) (hx : Tx w A n c xs) (hy : Tx w B m d ys) (hs : n ≤ 4194304) :
    Calls Tryd.prog 8 #[.slice A n c, .slice B m d] w fun e w' => e = .returned (.bool (decide (xs = ys))) ∧ ∃ k, w' = w.drewN k := by
  have hn := hx.len
  have hm := hy.len
  by_cases hnm : n = m
  · subst hnm
    obtain ⟨r, hr⟩ : ∃ r, r = decide (xs = ys) := ⟨_, rfl⟩
    rw [← hr]
    have Hr := Lib.hid hr
    clear hr
    go_enter Tryd.func8, Tryd.ntmps8
    go_wp2_with fail
    go_loopw [5, 13] (fun _ i wr => (∃ k : Nat, k ≤ n ∧ i = .int .i64 k ∧ Hid (xs.take k = ys.take k)) ∧ ∃ q, wr = w.drewN q) (fun _ i _ => n - (intOf i).toNat)
    case atStart => exact ⟨⟨0, by omega, rfl, rfl⟩, 0, rfl⟩
    case round =>
      obtain ⟨⟨k, hk, rfl, hpre⟩, q, rfl⟩ := hrel
      by_cases hlt : k < n
      · obtain ⟨x, hxk⟩ : ∃ x, xs[k]? = some x := ⟨_, List.getElem?_eq_getElem (by omega)⟩
        obtain ⟨y, hyk⟩ : ∃ y, ys[k]? = some y := ⟨_, List.getElem?_eq_getElem (by omega)⟩
        obtain ⟨b, o, rfl, hbl, hc⟩ := hx.cells.resolve_left (by omega)
        obtain ⟨b', o', rfl, hbl', hc'⟩ := hy.cells.resolve_left (by omega)
        have hcx := hc k x hxk
        have hcy := hc' k y hyk
        have hs1 : xs.take (k + 1) = xs.take k ++ [x] := by rw [List.take_add_one, hxk]; rfl
        have hs2 : ys.take (k + 1) = ys.take k ++ [y] := by rw [List.take_add_one, hyk]; rfl
        have c0 : (0 : Int) ≤ (k : Int) := by omega
        have c1 : (k : Int) < (n : Int) := by omega
        have hw1 : IntKind.i64.wrap ((k : Int) + 1) = (k : Int) + 1 := IntWalk.i64_in _ (by omega)
        by_cases hxy : x = y
        · subst hxy
          have hpre2 : Hid (xs.take (k + 1) = ys.take (k + 1)) := Lib.hid (by rw [hs1, hs2, hpre.out])
          clear hs1 hs2 hxk hyk hc hc' hx hy
          go_wp2_with fail
          go_quiet (fail)
          go_wp2_with fail
          go_roundw
          case rel => exact ⟨⟨k + 1, by omega, by go_num, hpre2⟩, _, rfl⟩
          case measure => simp [intOf]; omega
        · have hq : ((Sp.bs x).toList == (Sp.bs y).toList) = false := by rw [Sp.bs_toList, Sp.bs_toList, beq_eq_false_iff_ne]; exact hxy
          have hne : Hid (r = false) := Lib.hid (by
            rw [Hr.out, decide_eq_false_iff_not]
            intro e
            rw [e, hyk] at hxk
            exact hxy (Option.some.inj hxk).symm)
          clear hs1 hs2 hxk hyk hc hc' hx hy hxy
          go_wp2_with fail
          go_quiet (fail)
          go_wp2_with fail
          go_ret
          rw [hne.out]
          exact ⟨rfl, _, drewN_two _ _ _⟩
      · obtain rfl : k = n := by omega
        have c1 : ¬ (k : Int) < (k : Int) := by omega
        have hne : Hid (r = true) := Lib.hid (by
          rw [Hr.out, decide_eq_true_iff]
          have := hpre.out
          rwa [List.take_of_length_le (by omega), List.take_of_length_le (by omega)] at this)
        clear hx hy
        go_wp2
        go_ret
        rw [hne.out]
        exact ⟨rfl, _, rfl⟩
  · have e : decide (xs = ys) = false := decide_eq_false (fun e => hnm (by rw [← hn, ← hm, e]))
    rw [e]
    have hq : ((n : Int) == (m : Int)) = false := by rw [beq_eq_false_iff_ne]; omega
    clear e hx hy
    go_enter Tryd.func8, Tryd.ntmps8
    go_wp2
    go_ret
    exact ⟨rfl, 0, rfl⟩
theorem same_one (A B : Option Addr) (n c d : Nat) (xs : List (List UInt8)) (w : World) (hx : Tx w A n c xs) (hy : Tx w B n d xs) (hs : n ≤ 4194304) :
    Calls Tryd.prog 8 #[.slice A n c, .slice B n d] w fun e w' => e = .returned (.bool true) ∧ Below w.heap.size w w' := by
  refine (same_calls A B n n c d xs xs w hx hy hs).mono ?_
  rintro e w' ⟨rfl, k, rfl⟩
  exact ⟨by simp, below_drewN (Below.refl _ _) _⟩
theorem rJoin_calls (F : UInt8) (A : Option Addr) (n c : Nat) (xs : List (List UInt8)) (w : World) (h : Tx w A n c xs) (hb : Sp.tot xs ≤ 4194304) :
    Calls Tryd.prog 11 #[.int .u8 (F.toNat : Int), .slice A n c] w fun e w' => e = .returned (.string (Sp.bs (Lib.join xs [F]))) ∧ Below w.heap.size w w' := by
  have hsign := run_sign
  have hn := h.len
  have hnt := Sp.tot_len xs
  have Hx := Lib.hid h
  clear h
  go_enter Tryd.func11, Tryd.ntmps11
  go_wp2_with fail
  go_loopw [5, 6] (fun t i wr => ∃ k : Nat, k ≤ n ∧ i = .int .i64 k ∧ t = .string (Sp.bs (Lib.join (xs.take k) [F])) ∧ Hid (Below w.heap.size w wr)) (fun _ i _ => n - (intOf i).toNat)
  case atStart => exact ⟨0, by omega, rfl, rfl, Below.refl _ _⟩
  case round =>
    obtain ⟨k, hk, rfl, rfl, hbr⟩ := hrel
    by_cases hlt : k < n
    · obtain ⟨x, hx⟩ : ∃ x, xs[k]? = some x := ⟨_, List.getElem?_eq_getElem (by omega)⟩
      obtain ⟨b, o, rfl, hbl, hc⟩ := Hx.out.cells.resolve_left (by omega)
      have hcx := (hbr.out.cell (p := ⟨b, o + k, none⟩) hbl).trans (hc k x hx)
      have hlk := Sp.join_tot F (xs.take k)
      have htl := Sp.tot_take_le xs k
      have hxl : x.length ≤ 4194304 := by
        have := Sp.tot_take xs k x hx
        have := Sp.tot_take_le xs (k + 1)
        omega
      have c0 : (0 : Int) ≤ (k : Int) := by omega
      have c1 : (k : Int) < (n : Int) := by omega
      have hw1 : IntKind.i64.wrap ((k : Int) + 1) = (k : Int) + 1 := IntWalk.i64_in _ (by omega)
      have hzx := Sp.bs_size x
      have hzj := Sp.bs_size (Lib.join (xs.take k) [F])
      have hjl : (Lib.join (xs.take k) [F]).length ≤ 4194304 := by omega
      by_cases hk0 : k = 0
      · subst hk0
        have c2 : ¬ (0 : Int) < ((0 : Nat) : Int) := by omega
        have Hj := Lib.hid (Sp.join_first [F] xs x hx)
        have e0 : Sp.bs (Lib.join (xs.take 0) [F]) = ⟨#[]⟩ := rfl
        have e1 : (⟨#[]⟩ : ByteArray) ++ Sp.bs x = Sp.bs x := Sp.bs_append [] x
        rw [e0]
        rw [Nat.add_zero] at hcx
        clear hlk htl hx hc hzj hjl e0
        go_wp2_with fail
        go_roundw
        case rel => exact ⟨1, by omega, by go_num, by rw [Hj.out], hbr⟩
        case measure => simp [intOf]; omega
      · have c2 : (0 : Int) < (k : Int) := by omega
        have Hj := Lib.hid (Sp.join_take [F] xs k x (by omega) hx)
        have ha1 : Sp.bs (Lib.join (xs.take k) [F]) ++ (⟨#[F]⟩ : ByteArray) = Sp.bs (Lib.join (xs.take k) [F] ++ [F]) := Sp.bs_append _ [F]
        have ha2 : Sp.bs (Lib.join (xs.take k) [F] ++ [F]) ++ Sp.bs x = Sp.bs (Lib.join (xs.take k) [F] ++ [F] ++ x) := Sp.bs_append _ _
        have hz3 : (Sp.bs (Lib.join (xs.take k) [F] ++ [F])).size = (Lib.join (xs.take k) [F]).length + 1 := by rw [Sp.bs_size, List.length_append, List.length_singleton]
        have hcx2 : (wr.alloc (.cells #[.int .u8 (F.toNat : Int)] 5)).cell? ⟨b, o + k, none⟩ = some (.string (Sp.bs x)) := ((Below.refl wr.heap.size wr).alloc (Nat.le_refl _) _).cell (p := ⟨b, o + k, none⟩) (Nat.lt_of_lt_of_le hbl hbr.out.size) |>.trans hcx
        clear hlk htl hx hc hk0
        go_wp2_with fail
        go_roundw
        case rel => exact ⟨k + 1, by omega, by go_num, by rw [Hj.out]; simp, hbr.out.alloc hbr.out.size _⟩
        case measure => simp [intOf]; omega
    · obtain rfl : k = n := by omega
      have c1 : ¬ (k : Int) < (k : Int) := by omega
      have e : xs.take k = xs := List.take_of_length_le (by omega)
      rw [e]
      clear e
      go_wp2_with fail
      go_ret
      exact ⟨rfl, hbr.out⟩
end Sg
end Go.Proofs.YtkjhjeaeffooaaaDoor
