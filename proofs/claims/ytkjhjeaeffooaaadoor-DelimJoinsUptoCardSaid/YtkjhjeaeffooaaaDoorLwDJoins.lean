/-
  A part of the proof of this seat's laws: DelimJoins.
-/
import Derived.Test.YtkjhjeaeffooaaaDoorLwDCuts
namespace Go.Proofs.YtkjhjeaeffooaaaDoor
set_option linter.unusedVariables false
set_option linter.unusedSimpArgs false
open Go.RowKit Go.Shelf
namespace Sp
/-- those without a byte -/
def clean (c : UInt8) (l : List (List UInt8)) : List (List UInt8) := l.filter fun x => !x.contains c
theorem contains_snoc (l : List UInt8) (y c : UInt8) : (l ++ [y]).contains c = (l.contains c || y == c) := by
  simp only [List.contains_eq_mem, List.mem_append, List.mem_singleton]
  by_cases h1 : c ∈ l
  · simp [h1]
  · by_cases h2 : c = y
    · subst h2; simp
    · have h3 : (y == c) = false := by rw [beq_eq_false_iff_ne]; exact fun e => h2 e.symm
      rw [h3]; simp [h1, h2]
theorem clean_take (c : UInt8) (l : List (List UInt8)) (k : Nat) (x : List UInt8) (h : l[k]? = some x) : clean c (l.take (k + 1)) = clean c (l.take k) ++ (if x.contains c then [] else [x]) := by
  unfold clean
  rw [List.take_add_one, h, List.filter_append]
  congr 1
  cases hc : x.contains c <;> simp [hc] <;> simpa using hc
theorem clean_free {c : UInt8} {l : List (List UInt8)} : ∀ x ∈ clean c l, c ∉ x := by
  intro x hx
  have := (List.mem_filter.1 hx).2
  simpa using this
theorem tot_clean (c : UInt8) (l : List (List UInt8)) : tot (clean c l) ≤ tot l := by
  induction l with
  | nil => exact Nat.le_refl _
  | cons x l ih =>
    rw [tot_cons]
    unfold clean at *
    rw [List.filter_cons]
    split
    · rw [tot_cons]; omega
    · omega
theorem cut_tail (c : UInt8) : ∀ (x : List UInt8) (l : List (List UInt8)), c ∉ x → (∀ y ∈ l, c ∉ y) → cutL c (x ++ Lib.joinTail [c] l) = x :: l
  | x, [], hx, _ => by
    rw [show Lib.joinTail [c] [] = [] from rfl, List.append_nil, cutL_none hx]
  | x, y :: l, hx, hl => by
    have e : Lib.joinTail [c] (y :: l) = c :: (y ++ Lib.joinTail [c] l) := by simp [Lib.joinTail]
    rw [e, cutL_mid, cutL_none hx, cut_tail c y l (hl y (by simp)) (fun z hz => hl z (by simp [hz]))]; rfl
theorem cut_join_one {c : UInt8} {L : List (List UInt8)} (h0 : L ≠ []) (h : ∀ x ∈ L, c ∉ x) : cutL c (Lib.join L [c]) = L := by
  cases L with
  | nil => exact (h0 rfl).elim
  | cons x l => rw [Lib.join_cons]; exact cut_tail c x l (h x (by simp)) (fun y hy => h y (by simp [hy]))
theorem join_cut (c : UInt8) : ∀ s : List UInt8, Lib.join (cutL c s) [c] = s
  | [] => rfl
  | x :: l => by
    have ih := join_cut c l
    have h0 := cutL_ne c l
    cases hc : cutL c l with
    | nil => exact (h0 hc).elim
    | cons a b =>
      rw [hc] at ih
      by_cases hx : x = c
      · rw [cutL_eq l hx, hc, Lib.join_cons]
        rw [Lib.join_cons] at ih
        subst hx
        simp only [Lib.joinTail, List.map_cons, List.flatten_cons, List.nil_append] at ih ⊢
        rw [← ih]; simp
      · rw [cutL_other l hx, hc, List.headD_cons, List.tail_cons, Lib.join_cons]
        rw [Lib.join_cons] at ih
        rw [List.cons_append, ih]
end Sp
namespace Sg
open Ap
set_option maxHeartbeats 4000000
theorem mine_empty (w : World) (t : TypeId) : Mine (w.alloc (.cells #[] t)) w.heap.size (some ⟨w.heap.size, 0, none⟩) 0 0 [] := mine_lit w w.heap.size #[] t (Nat.le_refl _) (by decide)
theorem djoins_in (s : List UInt8) (c : UInt8) (A : Option Addr) (n C : Nat) (xs : List (List UInt8)) (w : World) (hs : s.length ≤ 1048576) (hx : Tx w A n C xs) (ht : Sp.tot xs ≤ 1048576) (hl : Ml w) :
    Calls Tryd.prog 5 #[.string (Sp.bs s), .int .u8 (c.toNat : Int), .slice A n C] w fun e w' => e = .returned (.bool true) ∧ Below w.heap.size w w' := by
  have hz := Sp.bs_size s
  have hn := hx.len
  have hnt := Sp.tot_len xs
  obtain ⟨i0, hi, hz0, hz1, hz2⟩ := info_parts infoS
  have Hx := Lib.hid hx
  have Hl := Lib.hid hl
  have hm0 := mine_empty w 9
  have hB0 : Below w.heap.size w (w.alloc (.cells #[] 9)) := (Below.refl _ _).alloc (Nat.le_refl _) _
  clear hx hl
  go_enter Tryd.func5, Tryd.ntmps5
  go_wp2_with fail
  generalize (w.alloc (.cells #[] 9)) = W1 at *
  have Hm0 := Lib.hid hm0
  have HB0 := Lib.hid hB0
  clear hm0 hB0
  go_loopw [7, 8, 10, 11, 19] (fun t l _ _ i wr => ∃ (k m D : Nat) (B : Option Addr), k ≤ n ∧ i = .int .i64 k ∧ t = .int .i64 ((s.length + Sp.tot (xs.take k) : Nat) : Int) ∧ l = .slice B m D ∧ m ≤ k ∧
      Hid (Mine wr w.heap.size B m D (Sp.vals (Sp.clean c (xs.take k)))) ∧ Hid (Below w.heap.size w wr)) (fun _ _ _ _ i _ => n - (intOf i).toNat)
  case atStart => exact ⟨0, 0, 0, _, by omega, rfl, by simp [Sp.tot], rfl, by omega, Hm0, HB0⟩
  case round =>
    obtain ⟨k, m, D, B, hk, rfl, rfl, rfl, hmk, hm, hbl⟩ := hrel
    clear Hm0 HB0
    by_cases hlt : k < n
    · obtain ⟨x, hxk⟩ : ∃ x, xs[k]? = some x := ⟨_, List.getElem?_eq_getElem (by omega)⟩
      obtain ⟨b, o, rfl, hbl2, hc⟩ := Hx.out.cells.resolve_left (by omega)
      have hcx := (hbl.out.cell (p := ⟨b, o + k, none⟩) hbl2).trans (hc k x hxk)
      have htq := Sp.tot_take xs k x hxk
      have htl := Sp.tot_take_le xs (k + 1)
      have hxs : x.length ≤ 1048576 := by omega
      have Hct := Lib.hid (Sp.clean_take c xs k x hxk)
      have c0 : (0 : Int) ≤ (k : Int) := by omega
      have c1 : (k : Int) < (n : Int) := by omega
      have hw1 : IntKind.i64.wrap ((k : Int) + 1) = (k : Int) + 1 := IntWalk.i64_in _ (by omega)
      have hzx := Sp.bs_size x
      have hw2 : IntKind.i64.wrap (1 + (x.length : Int)) = 1 + (x.length : Int) := IntWalk.i64_in _ (by omega)
      obtain ⟨T, hT⟩ : ∃ T : Nat, T = s.length + Sp.tot (xs.take k) := ⟨_, rfl⟩
      obtain ⟨T', hT'⟩ : ∃ T' : Nat, T' = s.length + Sp.tot (xs.take (k + 1)) := ⟨_, rfl⟩
      have hTT : T' = T + (x.length + 1) := by omega
      have hw3 : IntKind.i64.wrap ((T : Int) + (1 + (x.length : Int))) = (T' : Int) := by rw [IntWalk.i64_in _ (by omega)]; omega
      rw [← hT]
      have HT' := Lib.hid hT'
      clear htq htl hxk hc hT hT' hTT
      go_wp2_with fail
      go_loop [11, 12, 30] (fun h _ i => ∃ j : Nat, j ≤ x.length ∧ i = .int .i64 j ∧ h = .bool ((x.take j).contains c)) (fun _ _ i => x.length - (intOf i).toNat)
      case atStart => exact ⟨0, by omega, rfl, rfl⟩
      case round =>
        obtain ⟨j, hj, rfl, rfl⟩ := hrel
        by_cases hjl : j < x.length
        · obtain ⟨y, hyj⟩ : ∃ y, x[j]? = some y := ⟨_, List.getElem?_eq_getElem hjl⟩
          have hyk := bs_at hyj
          have d0 : (0 : Int) ≤ (j : Int) := by omega
          have d1 : (j : Int) < (x.length : Int) := by omega
          have hwj : IntKind.i64.wrap ((j : Int) + 1) = (j : Int) + 1 := IntWalk.i64_in _ (by omega)
          have hct : (x.take (j + 1)).contains c = ((x.take j).contains c || y == c) := by
            rw [List.take_add_one, hyj]; exact Sp.contains_snoc _ _ _
          cases hb13 : (x.take j).contains c with
          | true =>
            rw [hb13, Bool.true_or] at hct
            have Hc := Lib.hid hct
            clear hct hb13 hyj
            go_wp2_with fail
            go_round
            case rel => exact ⟨j + 1, by omega, by go_num, by rw [Hc.out]⟩
            case measure => simp [intOf]; omega
          | false =>
            rw [hb13, Bool.false_or] at hct
            by_cases hy : y = c
            · have hq : ((y.toNat : Int) == (c.toNat : Int)) = true := by rw [hy]; simp
              have hyq : (y == c) = true := by rw [hy]; simp
              rw [hyq] at hct
              have Hc := Lib.hid hct
              clear hct hb13 hyj hy hyq
              go_wp2_with fail
              go_round
              case rel => exact ⟨j + 1, by omega, by go_num, by rw [Hc.out]⟩
              case measure => simp [intOf]; omega
            · have hq : ((y.toNat : Int) == (c.toNat : Int)) = false := by
                rw [beq_eq_false_iff_ne]
                intro e
                exact hy (UInt8.toNat_inj.1 (by omega))
              have hyq : (y == c) = false := by rw [beq_eq_false_iff_ne]; exact hy
              rw [hyq] at hct
              have Hc := Lib.hid hct
              clear hct hb13 hyj hy hyq
              go_wp2_with fail
              go_round
              case rel => exact ⟨j + 1, by omega, by go_num, by rw [Hc.out]⟩
              case measure => simp [intOf]; omega
        · obtain rfl : j = x.length := by omega
          have d1 : ¬ (x.length : Int) < (x.length : Int) := by omega
          rw [List.take_length]
          cases hb13 : x.contains c with
          | true =>
            have hct := Hct.out
            rw [hb13, if_pos rfl, List.append_nil] at hct
            have Hc := Lib.hid hct
            clear hct Hct hb13
            go_wp2_with fail
            go_roundw
            case rel => exact ⟨k + 1, m, D, B, by omega, by go_num, by rw [HT'.out], rfl, by omega, by rw [Hc.out]; exact hm, hbl⟩
            case measure => simp [intOf]; omega
          | false =>
            have hct := Hct.out
            rw [hb13, if_neg (by simp)] at hct
            have Hc := Lib.hid hct
            clear hct Hct hb13
            go_wp2_with (at_builtin; refine Ap.wpList_append_mine _ rfl (.tmp 44) (.tmp 46) 24 rfl 9 i0 (.string ⟨#[]⟩) 16 Tryd.underlying24 hi hz0 hz1 hz2 rfl w.heap.size _ _ _ (Sp.vals (Sp.clean c (xs.take k))) rfl ?hm _ _ _ [.string (Sp.bs x)] rfl ?hn ?hX ?h1c ?b1 ?b2 ?hbase ?_; (case hm => exact (hm.out.below ((Below.refl _ _).alloc (Nat.le_refl _) _))); (case hn => rfl); (case hX => exact .inr ⟨_, rfl, one_cell _ _ _ _ rfl⟩); (case h1c => (simp [Value.oneCell'])); (case b1 => (simp only [maxLen]; omega)); (case b2 => omega); (case hbase => (have := hbl.out.size; simp; omega)); intro A1 c1 W2 hm1 hb1)
            go_roundw
            case rel => exact ⟨k + 1, m + 1, c1, A1, by omega, by go_num, by rw [HT'.out], rfl, by omega, by rw [Hc.out, Sp.vals, List.map_append]; exact hm1, hbl.out.trans (((Below.refl _ _).alloc hbl.out.size _).trans hb1)⟩
            case measure => simp [intOf]; omega
    · obtain rfl : k = n := by omega
      have c1 : ¬ (k : Int) < (k : Int) := by omega
      have e : xs.take k = xs := List.take_of_length_le (by omega)
      rw [e] at hm ⊢
      have hfree := Sp.clean_free (c := c) (l := xs)
      have htc := Sp.tot_clean c xs
      generalize Sp.clean c xs = cl at *
      have hcl : cl.length = m := by have := hm.out.len; simpa using this
      subst hcl
      clear e
      obtain ⟨T, hT⟩ : ∃ T : Nat, T = s.length + Sp.tot xs := ⟨_, rfl⟩
      rw [← hT]
      by_cases hb : 3000 < T
      · have c2 : (3000 : Int) < (T : Int) := by omega
        go_wp2_with fail
        refine (Dl.alive_calls _).mono ?_
        rintro e w1 ⟨rfl, b1⟩
        go_wp2_with fail
        go_ret
        exact ⟨rfl, stepC hbl.out b1⟩
      · have c2 : ¬ (3000 : Int) < (T : Int) := by omega
        have hjt := Sp.join_tot c cl
        have hct := Sp.tot_len cl
        have hcb := Sp.cutL_bound c s
        have hcp := Sp.cutL_pos c s
        have Hjc := Lib.hid (Sp.join_cut c s)
        have hl1 := Lib.hid (Hl.out.below hbl.out)
        go_wp2_with fail
        refine (delimCut_calls s c (by omega) _ hl1.out).mono ?_
        rintro e w2 ⟨A2, C2, rfl, t2, b2⟩
        have hl2 := Lib.hid (hl1.out.below b2)
        have hm2 := Lib.hid (hm.out.below b2)
        have hB2 := Lib.hid (stepC hbl.out b2)
        have T2 := Lib.hid t2
        clear b2 t2 hl1 hm hbl
        go_wp2_with fail
        refine (Dl.alive_calls _).mono ?_
        rintro e w3 ⟨rfl, b3⟩
        have hl3 := Lib.hid (hl2.out.below b3)
        have hm3 := Lib.hid (hm2.out.below b3)
        have hB3 := Lib.hid (stepC hB2.out b3)
        have T3 := Lib.hid (T2.out.below b3)
        clear b3 T2 hl2 hm2 hB2
        have Hj := Lib.hid (delimJoin_calls c A2 _ C2 (Sp.cutL c s) w3 T3.out (by rw [Hjc.out]; omega) (by omega))
        rw [Hjc.out] at Hj
        go_wp2_with fail
        refine Hj.out.mono ?_
        rintro e w4 ⟨rfl, b4⟩
        have hl4 := Lib.hid (hl3.out.below b4)
        have hm4 := Lib.hid (hm3.out.below b4)
        have hB4 := Lib.hid (stepC hB3.out b4)
        clear b4 T3 hl3 hm3 hB3 Hj
        obtain ⟨N, hN⟩ : ∃ N, N = (Sp.cutL c s).length := ⟨_, rfl⟩
        rw [← hN] at hcp hcb ⊢
        have c5 : ((N : Int) == 0) = false := by rw [beq_eq_false_iff_ne]; omega
        have c6 : ¬ ((N : Int) = 0) := by omega
        clear hN
        by_cases h0 : cl = []
        · subst h0
          go_wp2_with fail
          refine (delimJoin_calls c none 0 0 [] _ ⟨Nat.le_refl _, rfl, .inl rfl⟩ (by simp [Lib.join]) (by omega)).mono ?_
          rintro e w5 ⟨rfl, b5⟩
          have hB5 := Lib.hid (stepC hB4.out b5)
          clear b5 hB4
          have e0 : Sp.bs (Lib.join [] [c]) = (⟨#[]⟩ : ByteArray) := rfl
          rw [e0]
          clear e0
          go_wp2_with fail
          go_ret
          exact ⟨rfl, hB5.out⟩
        · have hp := List.length_pos_iff.2 h0
          have g9 : ((cl.length : Int) == 0) = false := by rw [beq_eq_false_iff_ne]; omega
          have g9' : ¬ ((cl.length : Int) = 0) := by omega
          have Hcj := Lib.hid (Sp.cut_join_one h0 hfree)
          clear h0 hfree
          go_wp2_with fail
          refine (delimJoin_calls c B _ D cl _ (Tx.of hm4.out) (by omega) (by omega)).mono ?_
          rintro e w5 ⟨rfl, b5⟩
          have hl5 := Lib.hid (hl4.out.below b5)
          have hm5 := Lib.hid (hm4.out.below b5)
          have hB5 := Lib.hid (stepC hB4.out b5)
          clear b5 hl4 hm4 hB4
          have Hc := Lib.hid (delimCut_calls (Lib.join cl [c]) c (by omega) w5 hl5.out)
          rw [Hcj.out] at Hc
          go_wp2_with fail
          refine Hc.out.mono ?_
          rintro e w6 ⟨A6, C6, rfl, t6, b6⟩
          have hm6 := Lib.hid (hm5.out.below b6)
          have hB6 := Lib.hid (stepC hB5.out b6)
          have T6 := Lib.hid t6
          clear b6 t6 hl5 hm5 hB5 Hc
          go_wp2_with fail
          refine (same_one A6 B _ C6 D cl _ T6.out (Tx.of hm6.out) (by omega)).mono ?_
          rintro e w7 ⟨rfl, b7⟩
          go_wp2_with fail
          go_ret
          exact ⟨rfl, stepC hB6.out b7⟩
theorem djoins_at (s : ByteArray) (c : Int) (A : Option Addr) (n C : Nat) (xs : List (List UInt8)) (w : World) (hs : s.size ≤ 1048576) (hc : 0 ≤ c ∧ c ≤ 255) (hx : Tx w A n C xs) (ht : Sp.tot xs ≤ 1048576) (hl : Ml w) :
    Calls Tryd.prog 5 #[.string s, .int .u8 c, .slice A n C] w fun e w' => e = .returned (.bool true) ∧ Below w.heap.size w w' := by
  rw [← Sp.bs_data s]
  have hz : s.data.toList.length = s.size := by rw [Array.length_toList]; rfl
  obtain ⟨x, rfl⟩ := byte_of hc
  exact djoins_in _ x A n C xs w (by omega) hx ht hl
end Sg
end Go.Proofs.YtkjhjeaeffooaaaDoor
