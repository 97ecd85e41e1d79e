/-
  A part of the proof of this seat's laws: SegmentBack.
-/
import Derived.Test.YtcldnibedimepaaSg13
namespace Go.Proofs.Ytcldnibedimepaa
set_option linter.unusedVariables false
set_option linter.unusedSimpArgs false
open Go.RowKit Go.Shelf
namespace Sg
open Ap
set_option maxHeartbeats 4000000
theorem stepC {w a b : World} (h : Below w.heap.size w a) (hb : Below a.heap.size a b) : Below w.heap.size w b := h.trans (hb.mono h.size)
section
variable (s : List UInt8) (A B : Option Addr) (c m d : Nat) (xs : List (List UInt8)) (w : World)
theorem segBack_many (n : Nat) (hx : Tx w B m d xs) (hb : Sp.tot xs ≤ 4194304) (ht : 2000 < Sp.tot xs) :
    Calls Try.prog 7 #[.slice B m d, .slice A n c] w fun e w' => e = .returned (.bool true) ∧ Below w.heap.size w w' := by
  have h2 : (2000 : Int) < (Sp.tot xs : Int) := by omega
  have Hb := Lib.hid (bytes_calls B m d xs w hx hb)
  clear hx
  go_enter Try.func7, Try.ntmps7
  go_wp2_with fail
  refine Hb.out.mono ?_
  rintro e w' ⟨rfl, rfl⟩
  go_wp2_with fail
  refine (alive_calls _).mono ?_
  rintro e w1 ⟨rfl, b1⟩
  go_wp2_with fail
  go_ret
  exact ⟨rfl, b1⟩
theorem segBack_long (n : Nat) (hx : Tx w B m d xs) (ht : Sp.tot xs ≤ 2000) (h : 2000 < n) :
    Calls Try.prog 7 #[.slice B m d, .slice A n c] w fun e w' => e = .returned (.bool true) ∧ Below w.heap.size w w' := by
  have h2 : ¬ (2000 : Int) < (Sp.tot xs : Int) := by omega
  have h1 : (2000 : Int) < (n : Int) := by omega
  have Hb := Lib.hid (bytes_calls B m d xs w hx (by omega))
  clear hx
  go_enter Try.func7, Try.ntmps7
  go_wp2_with fail
  refine Hb.out.mono ?_
  rintro e w' ⟨rfl, rfl⟩
  go_wp2_with fail
  refine (alive_calls _).mono ?_
  rintro e w1 ⟨rfl, b1⟩
  go_wp2_with fail
  go_ret
  exact ⟨rfl, b1⟩
theorem segBack_in (hx : Tx w B m d xs) (ht : Sp.tot xs ≤ 2000) (hs : s.length ≤ 2000) (hby : By w A s.length c s) :
    Calls Try.prog 7 #[.slice B m d, .slice A s.length c] w fun e w' => e = .returned (.bool true) ∧ Below w.heap.size w w' := by
  have h2 : ¬ (2000 : Int) < (Sp.tot xs : Int) := by omega
  have h1 : ¬ (2000 : Int) < (s.length : Int) := by omega
  have hxl := hx.len
  have hxt := Sp.tot_len xs
  obtain ⟨i0, hi, hz0, hz1, hz2⟩ := info_parts infoS
  have Hb := Lib.hid (bytes_calls B m d xs w hx (by omega))
  have Hx := Lib.hid hx
  have Hby := Lib.hid hby
  clear hx hby
  go_enter Try.func7, Try.ntmps7
  go_wp2_with fail
  refine Hb.out.mono ?_
  rintro e w' ⟨rfl, rfl⟩
  clear Hb
  go_wp2_with fail
  go_loopw [5, 8, 22] (fun l _ i wr => ∃ (k n C : Nat) (A' : Option Addr), k ≤ m ∧ i = .int .i64 k ∧ l = .slice A' n C ∧ n ≤ k ∧ Hid (Mine wr w'.heap.size A' n C (Sp.vals (Sp.clean 13 (xs.take k)))) ∧ Hid (Below w'.heap.size w' wr)) (fun _ _ i _ => m - (intOf i).toNat)
  case atStart => exact ⟨0, 0, 0, none, by omega, rfl, rfl, by omega, Mine.nil _ _, Below.refl _ _⟩
  case round =>
    obtain ⟨k, n, C, A', hk, rfl, rfl, hnk, hm, hbl⟩ := hrel
    by_cases hlt : k < m
    · obtain ⟨x, hxk⟩ : ∃ x, xs[k]? = some x := ⟨_, List.getElem?_eq_getElem (by omega)⟩
      obtain ⟨b, o, rfl, hbl2, hc⟩ := Hx.out.cells.resolve_left (by omega)
      have hcx := (hbl.out.cell (p := ⟨b, o + k, none⟩) hbl2).trans (hc k x hxk)
      have hxs : x.length ≤ 2000 := by
        have := Sp.tot_take xs k x hxk
        have := Sp.tot_take_le xs (k + 1)
        omega
      have Hct := Lib.hid (Sp.clean_take 13 xs k x hxk)
      have c0 : (0 : Int) ≤ (k : Int) := by omega
      have c1 : (k : Int) < (m : Int) := by omega
      have hw1 : IntKind.i64.wrap ((k : Int) + 1) = (k : Int) + 1 := IntWalk.i64_in _ (by omega)
      have hzx := Sp.bs_size x
      clear hxk hc
      go_wp2_with fail
      go_loop [8, 28] (fun h i => ∃ j : Nat, j ≤ x.length ∧ i = .int .i64 j ∧ h = .bool ((x.take j).contains 13)) (fun _ i => x.length - (intOf i).toNat)
      case atStart => exact ⟨0, by omega, rfl, rfl⟩
      case round =>
        obtain ⟨j, hj, rfl, rfl⟩ := hrel
        by_cases hjl : j < x.length
        · obtain ⟨y, hyj⟩ : ∃ y, x[j]? = some y := ⟨_, List.getElem?_eq_getElem hjl⟩
          have hyk := bs_at hyj
          have d0 : (0 : Int) ≤ (j : Int) := by omega
          have d1 : (j : Int) < (x.length : Int) := by omega
          have hwj : IntKind.i64.wrap ((j : Int) + 1) = (j : Int) + 1 := IntWalk.i64_in _ (by omega)
          have hct : (x.take (j + 1)).contains 13 = ((x.take j).contains 13 || y == 13) := by
            rw [List.take_add_one, hyj]; exact Sp.contains_snoc _ _ _
          cases hb13 : (x.take j).contains 13 with
          | true =>
            rw [hb13, Bool.true_or] at hct
            have Hc := Lib.hid hct
            clear hct hb13 hyj
            go_wp2_with fail
            go_round
            case rel => exact ⟨j + 1, by omega, by go_num, by rw [Hc.out]⟩
            case measure => simp [intOf]; omega
          | false =>
            rw [hb13, Bool.false_or] at hct
            by_cases hy : y = 13
            · subst hy
              have Hc := Lib.hid hct
              clear hct hb13 hyj
              go_wp2_with fail
              go_round
              case rel => exact ⟨j + 1, by omega, by go_num, by rw [Hc.out]; rfl⟩
              case measure => simp [intOf]; omega
            · have hq : ((y.toNat : Int) == 13) = false := by
                rw [beq_eq_false_iff_ne]
                intro e
                exact hy (UInt8.toNat_inj.1 (by show y.toNat = 13; omega))
              have hyq : (y == 13) = false := by rw [beq_eq_false_iff_ne]; exact hy
              rw [hyq] at hct
              have Hc := Lib.hid hct
              clear hct hb13 hyj hy hyq
              go_wp2_with fail
              go_round
              case rel => exact ⟨j + 1, by omega, by go_num, by rw [Hc.out]⟩
              case measure => simp [intOf]; omega
        · obtain rfl : j = x.length := by omega
          have d1 : ¬ (x.length : Int) < (x.length : Int) := by omega
          rw [List.take_length]
          cases hb13 : x.contains 13 with
          | true =>
            have hct := Hct.out
            rw [hb13, if_pos rfl, List.append_nil] at hct
            have Hc := Lib.hid hct
            clear hct Hct hb13
            go_wp2_with fail
            go_roundw
            case rel => exact ⟨k + 1, n, C, A', by omega, by go_num, rfl, by omega, by rw [Hc.out]; exact hm, hbl⟩
            case measure => simp [intOf]; omega
          | false =>
            have hct := Hct.out
            rw [hb13, if_neg (by simp)] at hct
            have Hc := Lib.hid hct
            clear hct Hct hb13
            go_wp2_with (at_builtin; refine Ap.wpList_append_mine _ rfl (.tmp 41) (.tmp 43) 31 rfl 9 i0 (.string ⟨#[]⟩) 16 Try.underlying31 hi hz0 hz1 hz2 rfl w'.heap.size _ _ _ (Sp.vals (Sp.clean 13 (xs.take k))) rfl ?hm _ _ _ [.string (Sp.bs x)] rfl ?hn ?hX ?h1c ?b1 ?b2 ?hbase ?_; (case hm => exact (hm.out.below ((Below.refl _ _).alloc (Nat.le_refl _) _))); (case hn => rfl); (case hX => exact .inr ⟨_, rfl, one_cell _ _ _ _ rfl⟩); (case h1c => (simp [Value.oneCell'])); (case b1 => (simp only [maxLen]; omega)); (case b2 => omega); (case hbase => (have := hbl.out.size; simp; omega)); intro A1 c1 W1 hm1 hb1)
            go_roundw
            case rel => exact ⟨k + 1, n + 1, c1, A1, by omega, by go_num, rfl, by omega, by rw [Hc.out, Sp.vals, List.map_append]; exact hm1, hbl.out.trans (((Below.refl _ _).alloc hbl.out.size _).trans hb1)⟩
            case measure => simp [intOf]; omega
    · obtain rfl : k = m := by omega
      have c1 : ¬ (k : Int) < (k : Int) := by omega
      have e : xs.take k = xs := List.take_of_length_le (by omega)
      rw [e] at hm
      have hfree := Sp.clean_free (c := 13) (l := xs)
      have htc := Sp.tot_clean 13 xs
      generalize Sp.clean 13 xs = cl at *
      have hcl : cl.length = n := by have := hm.out.len; simpa using this
      subst hcl
      have hsj := Sp.split_join cl hfree
      have hjl := Sp.joinT_length cl
      have hby := Hby.out.below hbl.out
      have hback := Lib.hid (Sp.back s)
      have hst : Sp.tot (Sp.split s) ≤ 4194304 := by
        rw [← Sp.joinT_length]
        rcases hback.out with ⟨-, h⟩ | ⟨-, -, h⟩ <;> rw [h] <;> first | omega | (rw [List.length_append, List.length_singleton]; omega)
      have Hsp := Lib.hid (split_calls s (by omega) A s.length c wr (fun w'' hb => (hby.below hb).conv))
      have Hm := Lib.hid hm.out
      have Hby2 := Lib.hid hby
      clear hby hm hfree e Hby
      go_wp2_with fail
      refine Hsp.out.mono ?_
      rintro e w1 ⟨A2, C2, rfl, t2, b1⟩
      have k1 := stepC hbl.out b1
      have m1 := Lib.hid (Hm.out.below b1)
      have y1 := Lib.hid (Hby2.out.below b1)
      clear Hsp Hm Hby2 b1
      go_wp2_with fail
      refine (join_calls A2 _ C2 (Sp.split s) w1 t2 hst).mono ?_
      rintro e w2 ⟨v3, rfl, o3⟩
      have hcv3 := own_text o3
      have k2 := stepC k1 o3.2.1
      have m2 := Lib.hid (m1.out.below o3.2.1)
      have y2 := Lib.hid (y1.out.below o3.2.1)
      clear m1 y1 o3 t2
      go_wp2_with fail
      clear hcv3
      refine (alive_calls _).mono ?_
      rintro e w3 ⟨rfl, b3⟩
      have k3 := stepC k2 b3
      have m3 := Lib.hid (m2.out.below b3)
      have y3 := Lib.hid (y2.out.below b3)
      clear m2 y2 b3
      go_wp2_with fail
      refine (join_calls A' _ C cl w3 (Tx.of m3.out) (by omega)).mono ?_
      rintro e w4 ⟨v4, rfl, o4⟩
      obtain ⟨A4, C4, rfl⟩ := own_slice o4.1
      have k4 := stepC k3 o4.2.1
      have m4 := Lib.hid (m3.out.below o4.2.1)
      have y4 := Lib.hid (y3.out.below o4.2.1)
      have Hs4 := split_calls (Sp.joinT cl) (by omega) A4 (Sp.tot cl) C4 w4 (fun w'' hb => own_text_at o4 hb)
      rw [hsj] at Hs4
      have Hs4 := Lib.hid Hs4
      clear m3 y3 o4
      go_wp2_with fail
      refine Hs4.out.mono ?_
      rintro e w5 ⟨A5, C5, rfl, t5, b5⟩
      have k5 := stepC k4 b5
      have t5' := Tx.of (m4.out.below b5)
      have y5 := Lib.hid (y4.out.below b5)
      clear m4 y4 b5 Hs4
      go_wp2_with fail
      refine (same_one A5 A' _ C5 C cl w5 t5 t5' (by omega)).mono ?_
      rintro e w6 ⟨rfl, b6⟩
      have k6 := stepC k5 b6
      have y6 := y5.out.below b6
      have hcv6 := y6.conv
      clear y5 b6 t5 t5'
      clear htc hsj hjl hst hnk
      rcases List.eq_nil_or_concat s with h0 | ⟨pre, y, hpy⟩
      · have hq : Hid (Sp.joinT (Sp.split s) = s) := by
          rcases hback.out with ⟨-, h⟩ | ⟨h, -⟩
          · exact h
          · exact absurd h0 h
        have heq : ((Sp.bs (Sp.joinT (Sp.split s))).toList == (Sp.bs s).toList) = true := by rw [hq.out]; exact beq_self_eq_true _
        have hl0 : s.length = 0 := by rw [h0]; rfl
        rw [hl0] at hcv6
        clear hq h0 y6 hback
        go_wp2_with fail
        go_ret
        exact ⟨rfl, k6⟩
      · have hl0 : s.length = pre.length + 1 := by rw [hpy]; simp
        have hyl : s[pre.length]? = some y := by rw [hpy]; simp
        have hlast : s.getLast? = some y := by rw [hpy]; simp
        rw [hl0] at hcv6
        obtain ⟨b, o, rfl, hbl3, hcc⟩ := y6.cells.resolve_left (by omega)
        have hcy := hcc pre.length y hyl
        have p0 : (0 : Int) ≤ (pre.length : Int) := by omega
        have p1 : (pre.length : Int) < (pre.length : Int) + 1 := by omega
        have p2 : ¬ ((pre.length : Int) + 1 = 0) := by omega
        have hwp : IntKind.i64.wrap (pre.length : Int) = (pre.length : Int) := IntWalk.i64_in _ (by omega)
        have hwp2 : IntKind.i64.wrap ((pre.length : Int) + 1 - 1) = (pre.length : Int) := by rw [show (pre.length : Int) + 1 - 1 = (pre.length : Int) by omega]; exact hwp
        have p3 : (((pre.length : Int) + 1) == 0) = false := by rw [beq_eq_false_iff_ne]; exact p2
        have hzs := Sp.bs_size s
        by_cases hy : y = 13
        · have hq : Hid (Sp.joinT (Sp.split s) = s) := by
            rcases hback.out with ⟨-, h⟩ | ⟨-, h, -⟩
            · exact h
            · exact absurd (hlast.trans (by rw [hy])) h
          have heq : ((Sp.bs (Sp.joinT (Sp.split s))).toList == (Sp.bs s).toList) = true := by rw [hq.out]; exact beq_self_eq_true _
          have hyq : ((y.toNat : Int) == 13) = true := by rw [hy]; rfl
          clear hq hpy y6 hyl hlast hcc hback hy
          go_wp2_with fail
          go_ret
          exact ⟨rfl, k6⟩
        · have hq : Hid (Sp.joinT (Sp.split s) = s ++ [13]) := by
            rcases hback.out with ⟨h | h, -⟩ | ⟨-, -, h⟩
            · rw [h] at hyl; simp at hyl
            · exact absurd (Option.some.inj (hlast.symm.trans h)) hy
            · exact h
          have heq : ((Sp.bs (Sp.joinT (Sp.split s))).toList == (Sp.bs (s ++ [13])).toList) = true := by rw [hq.out]; exact beq_self_eq_true _
          have ha : Sp.bs s ++ (⟨#[13]⟩ : ByteArray) = Sp.bs (s ++ [13]) := Sp.bs_append s [13]
          have hyq : ((y.toNat : Int) == 13) = false := by
            rw [beq_eq_false_iff_ne]
            intro e
            exact hy (UInt8.toNat_inj.1 (by show y.toNat = 13; omega))
          clear hq hpy y6 hyl hlast hcc hback hy
          go_wp2_with fail
          go_ret
          exact ⟨rfl, k6⟩
end
theorem segBack_at (B : Option Addr) (m d : Nat) (xs : List (List UInt8)) (A : Option Addr) (n c : Nat) (bs : List Int) (w : World) (hx : Tx w B m d xs) (ht : Sp.tot xs ≤ 1048576) (hb : Opn.Bytes w A n c bs) (hn : n ≤ 1048576) :
    Calls Try.prog 7 #[.slice B m d, .slice A n c] w fun e w' => e = .returned (.bool true) ∧ Below w.heap.size w w' := by
  obtain ⟨s, hby⟩ := By.of hb
  by_cases h : 2000 < Sp.tot xs
  · exact segBack_many A B c m d xs w n hx (by omega) h
  by_cases h2 : 2000 < n
  · exact segBack_long A B c m d xs w n hx (by omega) h2
  · have hl := hby.len
    subst hl
    exact segBack_in s A B c m d xs w hx (by omega) (by omega) hby
end Sg
end Go.Proofs.Ytcldnibedimepaa
