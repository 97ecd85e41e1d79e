/-
  A part of the proof of this seat's laws: SegmentNested.
-/
import Derived.Test.YtcldnibedimepaaSg20
namespace Go.Proofs.Ytcldnibedimepaa
set_option linter.unusedVariables false
set_option linter.unusedSimpArgs false
open Go.RowKit Go.Shelf
namespace Sg
open Ap
theorem stepF {w a b : World} (h : Below w.heap.size w a) (hb : Below a.heap.size a b) : Below w.heap.size w b := h.trans (hb.mono h.size)
theorem own_mono {W : World} {base base' : Nat} {e : TypeId} {v : Value} {n : Nat} {xs : List Value} (h : W.ownsRowF base e 1 v n xs) (hb : base' ≤ base) : W.ownsRowF base' e 1 v n xs := by
  refine ⟨h.1, ?_⟩
  rcases h.2 with h0 | ⟨g, cap, cur, fz, rfl, hg, r⟩
  · exact .inl h0
  · exact .inr ⟨g, cap, cur, fz, rfl, Nat.le_trans hb hg, r⟩
theorem nested_agains (own : List (List (List UInt8))) (h0 : own ≠ []) (hf : Sp.Fine own) (hl : (Sp.nest own).length ≤ 6000000) (w : World) :
    Calls Try.prog 16 #[.string (Sp.bs (Sp.nest own)), pl] w fun e w' => e = .returned (.int .i64 (own.length : Int)) ∧ Below w.heap.size w w' := by
  have h := agains_calls (Sp.nest own) 124 94 126 92 38 (by omega) w
  rwa [Sp.cut_nest h0 hf, List.length_map] at h
theorem nested_parts (own : List (List (List UInt8))) (h0 : own ≠ []) (hf : Sp.Fine own) (hl : (Sp.nest own).length ≤ 6000000) (i : Nat) (L : List (List UInt8)) (hi : own[i]? = some L) (w : World) :
    Calls Try.prog 18 #[.string (Sp.bs (Sp.nest own)), .int .i64 ((i : Int) + 1), pl] w fun e w' => e = .returned (.int .i64 (L.length : Int)) ∧ Below w.heap.size w w' := by
  have h := parts_calls (Sp.nest own) ((i : Int) + 1) 124 94 126 92 38 (by omega) w
  rwa [Sp.parts_nest h0 hf hi] at h
theorem nested_part (own : List (List (List UInt8))) (h0 : own ≠ []) (hf : Sp.Fine own) (hl : (Sp.nest own).length ≤ 6000000) (i : Nat) (L : List (List UInt8)) (hi : own[i]? = some L) (q : Nat) (x : List UInt8) (hx : L[q]? = some x) (w : World) :
    Calls Try.prog 19 #[.string (Sp.bs (Sp.nest own)), .int .i64 ((i : Int) + 1), .int .i64 ((q : Int) + 1), pl] w fun e w' => e = .returned (.tuple #[.string (Sp.bs x), .bool true]) ∧ Below w.heap.size w w' := by
  have h := part_calls (Sp.nest own) ((i : Int) + 1) ((q : Int) + 1) 124 94 126 92 38 (by omega) w
  have hql := (List.getElem?_eq_some_iff.1 hx).1
  rw [Sp.parts_nest h0 hf hi, decide_eq_true (by omega)] at h
  have hp := Sp.pick_at (l := L) (j := q) hql
  rw [hx] at hp
  rwa [← Option.some.inj hp] at h
set_option maxRecDepth 100000 in
set_option maxHeartbeats 8000000 in
theorem nested_calls (A : Option Addr) (n c : Nat) (ls : List (List (List UInt8))) (w : World) (hx : Ls w A n c ls) (ht : Sp.tot2 ls ≤ 1048576) :
    Calls Try.prog 5 #[.slice A n c] w fun e w' => e = .returned (.bool true) ∧ Below w.heap.size w w' := by
  have huD := Try.underlying23
  have hnl := hx.len
  have ht1 := Sp.tot1_le ls
  have hnt : ls.length ≤ Sp.tot2 ls := by
    clear hx hnl ht ht1
    induction ls with
    | nil => simp
    | cons L l ih => rw [Sp.tot2_cons, List.length_cons]; omega
  obtain ⟨i0, hi, hz0, hz1, hz2⟩ := info_parts infoS
  obtain ⟨j0, hj, hy0, hy1, hy2⟩ := info_parts infoSS
  have Hx := Lib.hid hx
  clear hx
  go_enter Try.func5, Try.ntmps5
  go_wp2_with fail
  refine (plain_calls _).mono ?_
  rintro e w1 ⟨rfl, b1⟩
  go_wp2_with fail
  have f5 := Five.new 124 94 126 92 38 w1
  have hB : Below w.heap.size w (w1.alloc (.cells #[.int .u8 124, .int .u8 94, .int .u8 126, .int .u8 92, .int .u8 38] 23)) := b1.alloc b1.size _
  change Five _ _ _ _ _ _ (w1.alloc (.cells #[.int .u8 124, .int .u8 94, .int .u8 126, .int .u8 92, .int .u8 38] 23)) at f5
  generalize (w1.alloc (.cells #[.int .u8 124, .int .u8 94, .int .u8 126, .int .u8 92, .int .u8 38] 23)) = W1 at *
  generalize w1.heap.size = g at *
  clear b1
  go_loopw [5, 6, 8, 9, 27] (fun nv ov _ _ iv wr => ∃ (k : Nat) (own : List (List (List UInt8))), k ≤ n ∧ iv = .int .i64 k ∧ nv = .int .i64 (Sp.tot1 (ls.take k) : Int) ∧ Hid (own = Sp.fine (ls.take k)) ∧ own.length ≤ k ∧ Hid (Ow wr W1.heap.size ov own) ∧ Hid (Below W1.heap.size W1 wr)) (fun _ _ _ _ iv _ => n - (intOf iv).toNat)
  case atStart => exact ⟨0, [], by omega, rfl, rfl, rfl, by simp, Ow.nil _ _, Below.refl _ _⟩
  case round =>
    obtain ⟨k, own, hk, rfl, rfl, hown, hol, how, hbr⟩ := hrel
    by_cases hlt : k < n
    · obtain ⟨L, hL⟩ : ∃ L, ls[k]? = some L := ⟨_, List.getElem?_eq_getElem (by omega)⟩
      obtain ⟨b, o, rfl, hbl, hc⟩ := Hx.out.cells.resolve_left (by omega)
      obtain ⟨a2, m2, c2, hcx, htx⟩ := hc k L hL
      have hbw : Below w.heap.size w wr := stepF hB hbr.out
      have hcx := (hbw.cell (p := ⟨b, o + k, none⟩) hbl).trans hcx
      have htx := htx.below hbw
      have hLl := htx.len
      have hLt := Sp.tot_len L
      have Htk := Lib.hid (Sp.tot1_take ls k L hL)
      have htle := Sp.tot1_take_le ls (k + 1)
      have Hfk := Lib.hid (Sp.fine_take hL)
      have d0 : (0 : Int) ≤ (k : Int) := by omega
      have d1 : (k : Int) < (n : Int) := by omega
      have hT1 : Sp.tot1 (ls.take k) + Sp.tot L ≤ 1048576 := by have := Htk.out; omega
      have hwk : IntKind.i64.wrap ((k : Int) + 1) = (k : Int) + 1 := IntWalk.i64_in _ (by omega)
      have Htx := Lib.hid htx
      clear hL hc htx htle hbw
      go_wp2_with fail
      generalize wr = V at *
      go_loopw [5, 9, 12, 33] (fun nv pv _ jv wr => ∃ q : Nat, q ≤ m2 ∧ jv = .int .i64 q ∧ nv = .int .i64 ((Sp.tot1 (ls.take k) + Sp.tot (L.take q) : Nat) : Int) ∧
        Hid (wr.ownsRowF V.heap.size 9 1 pv (Sp.fineL (L.take q)).length (Sp.vals (Sp.fineL (L.take q)))) ∧ Hid (Below V.heap.size V wr)) (fun _ _ _ jv _ => m2 - (intOf jv).toNat)
      case atStart => exact ⟨0, by omega, rfl, by simp [Sp.tot], World.ownsRowF_nil _ _ _ _, Below.refl _ _⟩
      case round =>
        obtain ⟨q, hq, rfl, rfl, hpo, hbq⟩ := hrel
        by_cases hqm : q < m2
        · obtain ⟨x, hxq⟩ : ∃ x, L[q]? = some x := ⟨_, List.getElem?_eq_getElem (by omega)⟩
          obtain ⟨b2, o2, rfl, hb2, hc2⟩ := Htx.out.cells.resolve_left (by omega)
          have hcx2 := (hbq.out.cell (p := ⟨b2, o2 + q, none⟩) hb2).trans (hc2 q x hxq)
          have htq := Sp.tot_take L q x hxq
          have htq2 := Sp.tot_take_le L (q + 1)
          have Hfq := Lib.hid (Sp.fineL_take hxq)
          have Htq := Lib.hid htq
          have hxl : x.length ≤ 1048576 := by omega
          have hql : (Sp.fineL (L.take q)).length ≤ 1048576 := by
            have := List.length_filter_le Sp.free2 (L.take q)
            have h2 : (L.take q).length ≤ q := by rw [List.length_take]; omega
            unfold Sp.fineL
            omega
          have e0 : (0 : Int) ≤ (q : Int) := by omega
          have e1 : (q : Int) < (m2 : Int) := by omega
          have hwq : IntKind.i64.wrap ((q : Int) + 1) = (q : Int) + 1 := IntWalk.i64_in _ (by omega)
          have hzx := Sp.bs_size x
          have hw1 : IntKind.i64.wrap (1 + (x.length : Int)) = 1 + (x.length : Int) := IntWalk.i64_in _ (by omega)
          obtain ⟨T, hT⟩ : ∃ T : Nat, T = Sp.tot1 (ls.take k) + Sp.tot (L.take q) := ⟨_, rfl⟩
          obtain ⟨T', hT'⟩ : ∃ T' : Nat, T' = Sp.tot1 (ls.take k) + Sp.tot (L.take (q + 1)) := ⟨_, rfl⟩
          have hTT : T' = T + (x.length + 1) := by omega
          have hw2 : IntKind.i64.wrap ((T : Int) + (1 + (x.length : Int))) = (T' : Int) := by rw [IntWalk.i64_in _ (by omega)]; omega
          rw [← hT]
          have HT' := Lib.hid hT'
          clear hxq hc2 htq htq2 hT hT' hTT
          go_wp2_with fail
          go_loop [12, 39] (fun h i => ∃ j : Nat, j ≤ x.length ∧ i = .int .i64 j ∧ h = .bool (Sp.free2 (x.take j))) (fun _ i => x.length - (intOf i).toNat)
          case atStart => exact ⟨0, by omega, rfl, rfl⟩
          case round =>
            obtain ⟨j, hjx, rfl, rfl⟩ := hrel
            by_cases hjl : j < x.length
            · obtain ⟨y, hyj⟩ : ∃ y, x[j]? = some y := ⟨_, List.getElem?_eq_getElem hjl⟩
              have hyk := bs_at hyj
              have g0 : (0 : Int) ≤ (j : Int) := by omega
              have g1 : (j : Int) < (x.length : Int) := by omega
              have hwj : IntKind.i64.wrap ((j : Int) + 1) = (j : Int) + 1 := IntWalk.i64_in _ (by omega)
              have hct : Sp.free2 (x.take (j + 1)) = (Sp.free2 (x.take j) && (y != 126) && (y != 94)) := by
                rw [List.take_add_one, hyj]; exact Sp.free2_snoc _ _
              have hcmp : ∀ v : UInt8, ((y.toNat : Int) != (v.toNat : Int)) = (y != v) := fun v => by
                by_cases hv : y = v
                · subst hv; simp
                · have h1 : ((y.toNat : Int) == (v.toNat : Int)) = false := by
                    rw [beq_eq_false_iff_ne]; intro e; exact hv (UInt8.toNat_inj.1 (by omega))
                  have h2 : (y == v) = false := by rw [beq_eq_false_iff_ne]; exact hv
                  rw [bne, bne, h1, h2]
              have p1 : ((y.toNat : Int) != 126) = (y != 126) := hcmp 126
              have p2 : ((y.toNat : Int) != 94) = (y != 94) := hcmp 94
              clear hcmp hyj
              cases hf : Sp.free2 (x.take j) with
              | false =>
                rw [hf, Bool.false_and, Bool.false_and] at hct
                have Hc := Lib.hid hct
                clear hct hf p1 p2
                go_wp2_with fail
                go_round
                case rel => exact ⟨j + 1, by omega, by go_num, by rw [Hc.out]⟩
                case measure => simp [intOf]; omega
              | true =>
                rw [hf, Bool.true_and] at hct
                cases h1 : (y != 126) with
                | false =>
                  rw [h1, Bool.false_and] at hct
                  rw [h1] at p1
                  have p1' : ((y.toNat : Int) == 126) = true := by rw [bne] at p1; simpa using p1
                  have Hc := Lib.hid hct
                  clear hct hf p2 h1
                  go_wp2_with fail
                  go_round
                  case rel => exact ⟨j + 1, by omega, by go_num, by rw [Hc.out]⟩
                  case measure => simp [intOf]; omega
                | true =>
                  rw [h1, Bool.true_and] at hct
                  rw [h1] at p1
                  have p1' : ((y.toNat : Int) == 126) = false := by rw [bne] at p1; simpa using p1
                  cases h2 : (y != 94) with
                  | false =>
                    rw [h2] at hct p2
                    have p2' : ((y.toNat : Int) == 94) = true := by rw [bne] at p2; simpa using p2
                    have Hc := Lib.hid hct
                    clear hct hf h1 h2
                    go_wp2_with fail
                    go_round
                    case rel => exact ⟨j + 1, by omega, by go_num, by rw [Hc.out]⟩
                    case measure => simp [intOf]; omega
                  | true =>
                    rw [h2] at hct p2
                    have p2' : ((y.toNat : Int) == 94) = false := by rw [bne] at p2; simpa using p2
                    have Hc := Lib.hid hct
                    clear hct hf h1 h2
                    go_wp2_with fail
                    go_round
                    case rel => exact ⟨j + 1, by omega, by go_num, by rw [Hc.out]⟩
                    case measure => simp [intOf]; omega
            · obtain rfl : j = x.length := by omega
              have g1 : ¬ (x.length : Int) < (x.length : Int) := by omega
              rw [List.take_length]
              cases hf : Sp.free2 x with
              | false =>
                have hfq := Hfq.out
                rw [hf, if_neg (by simp), List.append_nil] at hfq
                have Hfq2 := Lib.hid hfq
                clear hfq Hfq hf
                go_wp2_with fail
                go_roundw
                case rel => exact ⟨q + 1, by omega, by go_num, by rw [HT'.out], by rw [Hfq2.out]; exact hpo, hbq⟩
                case measure => simp [intOf]; omega
              | true =>
                have hfq := Hfq.out
                rw [hf, if_pos rfl] at hfq
                have Hfq2 := Lib.hid hfq
                clear hfq Hfq hf
                go_wp2_with (at_builtin; refine Go.wpList_append_ownF _ rfl (.tmp 62) (.tmp 64) 31 rfl V.heap.size 9 i0 (.string ⟨#[]⟩) 1 16 Try.underlying31 hi hz0 hz1 hz2 rfl (by decide) _ (Sp.fineL (L.take q)).length (Sp.vals (Sp.fineL (L.take q))) rfl ?hown _ 1 1 [.string (Sp.bs x)] rfl rfl ?hn ?h1c ?b1 ?b2 ?hbase ?_; (case hown => exact own_below hpo.out ((Below.refl _ _).alloc (Nat.le_refl _) _)); (case hn => exact one_cell _ _ _ _ rfl); (case h1c => (simp [Value.oneCell'])); (case b1 => (simp only [maxLen]; omega)); (case b2 => omega); (case hbase => (have := hbq.out.size; simp; omega)); intro v' w' hown hg hnil)
                have hal := (Below.refl wr.heap.size wr).alloc (Nat.le_refl _) (.cells #[.string (Sp.bs x)] 9)
                have hbn := own_below' (own_below hpo.out hal) hg (hbq.out.alloc hbq.out.size _) (Nat.le_refl _) (Nat.le_refl _)
                go_roundw
                case rel => exact ⟨q + 1, by omega, by go_num, by rw [HT'.out], by
                    rw [Hfq2.out, List.length_append, List.length_singleton, Sp.vals, List.map_append]; exact hown, hbn⟩
                case measure => simp [intOf]; omega
        · obtain rfl : q = m2 := by omega
          have e1 : ¬ (q : Int) < (q : Int) := by omega
          have etl : L.take q = L := List.take_of_length_le (by omega)
          rw [etl] at hpo ⊢
          have hown2 := Lib.hid (how.out.below hbq.out)
          have hbv := Lib.hid (stepF hbr.out hbq.out)
          obtain ⟨T', hT'⟩ : ∃ T' : Nat, T' = Sp.tot1 (ls.take k) + Sp.tot L := ⟨_, rfl⟩
          have HT' : Hid (T' = Sp.tot1 (ls.take (k + 1))) := Lib.hid (by rw [hT', Htk.out])
          rw [← hT']
          clear hT' Htk
          have hqq : (Sp.fineL L).length ≤ 1048576 := by
            have := List.length_filter_le Sp.free2 L
            unfold Sp.fineL
            omega
          by_cases hem : Sp.fineL L = []
          · have hfk := Hfk.out
            rw [if_pos hem, List.append_nil] at hfk
            have Hfk2 := Lib.hid hfk
            rw [hem] at hpo
            obtain ⟨A9, c9, rfl⟩ : ∃ A c, u9 = .slice A 0 c := by
              obtain ⟨A9, c9, h9⟩ := own_slice hpo.out
              exact ⟨A9, c9, by simpa using h9⟩
            clear hpo
            go_wp2_with fail
            go_roundw
            case rel => exact ⟨k + 1, own, by omega, by go_num, by rw [HT'.out], by rw [Hfk2.out]; exact hown, by omega, hown2, hbv⟩
            case measure => simp [intOf]; omega
          · have hfk := Hfk.out
            rw [if_neg hem] at hfk
            have Hfk2 := Lib.hid hfk
            have hp0 : 0 < (Sp.fineL L).length := List.length_pos_iff.2 hem
            have hp1 : (0 : Int) < ((Sp.fineL L).length : Int) := by omega
            obtain ⟨A9, c9, h9⟩ := own_slice hpo.out
            have hpo2 := Lib.hid hpo.out
            clear hpo
            subst h9
            obtain ⟨vs, r1, r2, r3⟩ := hown2.out
            have R1 := Lib.hid r1
            have R3 := Lib.hid r3
            have hsz := hbv.out.size
            clear r1 r3 hem hfk
            go_wp2_with (at_builtin; refine Go.wpList_append_ownF _ rfl (.tmp 70) (.tmp 72) 37 rfl W1.heap.size 31 j0 (.slice none 0 0) 1 24 Try.underlying37 hj hy0 hy1 hy2 rfl (by decide) _ own.length vs rfl ?hown _ 1 1 [.slice A9 (Sp.fineL L).length c9] rfl rfl ?hn ?h1c ?b1 ?b2 ?hbase ?_; (case hown => exact own_below R1.out ((Below.refl _ _).alloc (Nat.le_refl _) _)); (case hn => exact one_cell _ _ _ _ rfl); (case h1c => (simp [Value.oneCell'])); (case b1 => (simp only [maxLen]; omega)); (case b2 => omega); (case hbase => (simp; omega)); intro v' w' hnew hg hnil)
            have hal := (Below.refl wr.heap.size wr).alloc (Nat.le_refl _) (.cells #[.slice A9 (Sp.fineL L).length c9] 31)
            have hOw := Ow.grown (own_below R1.out hal) r2 (fun j M hjM => by
              obtain ⟨u, hu, ho, hr⟩ := R3.out j M hjM
              exact ⟨u, hu, ho, own_below hr hal⟩) rfl (own_mono (own_below hpo2.out hal) hbr.out.size) hnew hg
            have hbn := own_below' (own_below R1.out hal) hg (hbv.out.alloc hbv.out.size _) (Nat.le_refl _) (Nat.le_refl _)
            go_roundw
            case rel => exact ⟨k + 1, own ++ [Sp.fineL L], by omega, by go_num, by rw [HT'.out], Lib.hid (by rw [Hfk2.out, ← hown.out]), by simp; omega, hOw, hbn⟩
            case measure => simp [intOf]; omega
    · obtain rfl : k = n := by omega
      have d1 : ¬ (k : Int) < (k : Int) := by omega
      have etk : ls.take k = ls := List.take_of_length_le (by omega)
      rw [etk] at hown ⊢
      have hfine := Sp.fine_fine ls
      have hft := Sp.fine_tot ls
      have hfl := Sp.fine_len ls
      rw [← hown.out] at hfine hft hfl
      have hB2 := Lib.hid (stepF hB hbr.out)
      have f52 := f5.below hbr.out f5.lt
      obtain ⟨N, hN⟩ : ∃ N : Nat, N = Sp.tot1 ls := ⟨_, rfl⟩
      rw [← hN]
      have hOA : ∃ A9 c9, u6 = .slice A9 own.length c9 := by
        obtain ⟨vs, r1, r2, r3⟩ := how.out
        exact own_slice r1
      obtain ⟨A9, c9, rfl⟩ := hOA
      clear Hx etk
      go_wp2_with fail
      refine (alive_calls _).mono ?_
      rintro e w3 ⟨rfl, b3⟩
      have hB3 := Lib.hid (stepF hB2.out b3)
      have f53 := f52.below b3 f52.lt
      have how3 := Lib.hid (how.out.below b3)
      clear how f52 f5 hB hbr hB2 b3
      by_cases h8 : 800 < N
      · have g8 : (800 : Int) < (N : Int) := by omega
        go_wp2_with fail
        refine (alive_calls _).mono ?_
        rintro e w4 ⟨rfl, b4⟩
        go_wp2_with fail
        go_ret
        exact ⟨rfl, stepF hB3.out b4⟩
      · have g8 : ¬ (800 : Int) < (N : Int) := by omega
        by_cases h0 : own = []
        · subst h0
          go_wp2_with fail
          refine (alive_calls _).mono ?_
          rintro e w4 ⟨rfl, b4⟩
          go_wp2_with fail
          go_ret
          exact ⟨rfl, stepF hB3.out b4⟩
        · have hp := List.length_pos_iff.2 h0
          have g9 : ((own.length : Int) == 0) = false := by rw [beq_eq_false_iff_ne]; omega
          have g9' : ¬ ((own.length : Int) = 0) := by omega
          have Hfine := Lib.hid hfine
          have h0' := Lib.hid h0
          clear hfine h0 hown
          have HLs := Lib.hid (Ow.ls how3.out rfl)
          have hno : ∀ (k : Nat) (L : List (List UInt8)), own[k]? = some L → Sp.tot1 (own.take (k + 1)) = Sp.tot1 (own.take k) + Sp.tot L := fun k L h => Sp.tot1_take own k L h
          have Hno := Lib.hid hno
          have Hnl := Lib.hid (fun k => Sp.nest_len (own.take k))
          have Htl := Lib.hid (fun k => Sp.tot1_take_le own k)
          have Htj := Lib.hid (fun k q L h => Sp.jn_len own k q L h)
          clear hno
          have hft2 : Sp.tot1 own ≤ 1048576 := by omega
          clear hfl hft
          obtain ⟨F, hF⟩ : ∃ F, F = Sp.nest own := ⟨_, rfl⟩
          have HF := Lib.hid hF
          clear hF
          go_wp2_with fail
          go_loop [4, 14, 15, 89] (fun f _ _ i => ∃ k2 : Nat, k2 ≤ own.length ∧ i = .int .i64 k2 ∧ f = .string (Sp.bs (Sp.nest (own.take k2)))) (fun _ _ _ i => own.length - (intOf i).toNat)
          case atStart => exact ⟨0, by omega, rfl, rfl⟩
          case round =>
            obtain ⟨k2, hk2, rfl, rfl⟩ := hrel
            by_cases hlt2 : k2 < own.length
            · obtain ⟨L, hL⟩ : ∃ L, own[k2]? = some L := ⟨_, List.getElem?_eq_getElem hlt2⟩
              obtain ⟨b, o, rfl, hbl, hc⟩ := HLs.out.cells.resolve_left (by omega)
              obtain ⟨a2, m2, c2, hcx, htx⟩ := hc k2 L hL
              have Htx := Lib.hid htx
              have hLl := htx.len
              have d0 : (0 : Int) ≤ (k2 : Int) := by omega
              have d1' : (k2 : Int) < (own.length : Int) := by omega
              have hwk : IntKind.i64.wrap ((k2 : Int) + 1) = (k2 : Int) + 1 := IntWalk.i64_in _ (by omega)
              have Hjl := Lib.hid (fun q => Htj.out k2 q L hL)
              have Hj0 := Lib.hid (Sp.jn_zero own k2)
              have Hj1 := Lib.hid (fun x h => Sp.jn_first own k2 L x hL h)
              have Hjs := Lib.hid (fun q x hq h => Sp.jn_step own k2 L q x hL hq h)
              have Hje := Lib.hid (Sp.jn_end own k2 L hL)
              have hzM := Sp.bs_size (Sp.nest (own.take k2))
              have hM : (Sp.nest (own.take k2)).length ≤ 6000000 := by
                have h1 := Hjl.out 0
                have h2 := Hj0.out
                rw [h2] at h1
                split at h1 <;> (try rw [List.length_append, List.length_singleton] at h1) <;> omega
              have hm2 : m2 ≤ 1048576 := by
                have := Sp.tot_len L
                have := Sp.tot1_take own k2 L hL
                have := Sp.tot1_take_le own (k2 + 1)
                omega
              clear hc htx hL
              obtain ⟨J, hJ⟩ : ∃ J : Nat → List UInt8, J = Sp.jn own k2 := ⟨_, rfl⟩
              rw [← hJ] at Hjl Hj0 Hj1 Hjs Hje
              clear hJ
              by_cases hk0 : k2 = 0
              · have d2 : ¬ (0 : Int) < (k2 : Int) := by omega
                have hJ0 : J 0 = Sp.nest (own.take k2) := by rw [Hj0.out, if_pos hk0]
                rw [← hJ0] at hM hzM ⊢
                clear hJ0 hk0
                go_wp2_with fail
                clear d2 hzM hM
                go_loop [4, 16, 17, 100] (fun f _ _ i => ∃ q : Nat, q ≤ m2 ∧ i = .int .i64 q ∧ f = .string (Sp.bs (J q))) (fun _ _ _ i => m2 - (intOf i).toNat)
                case atStart => exact ⟨0, by omega, rfl, rfl⟩
                case round =>
                  obtain ⟨q, hq, rfl, rfl⟩ := hrel
                  by_cases hqm : q < m2
                  · obtain ⟨x, hxq⟩ : ∃ x, L[q]? = some x := ⟨_, List.getElem?_eq_getElem (by omega)⟩
                    obtain ⟨b2, o2, rfl, hb2, hc2⟩ := Htx.out.cells.resolve_left (by omega)
                    have hcx2 := hc2 q x hxq
                    have e0 : (0 : Int) ≤ (q : Int) := by omega
                    have e1 : (q : Int) < (m2 : Int) := by omega
                    have hwq : IntKind.i64.wrap ((q : Int) + 1) = (q : Int) + 1 := IntWalk.i64_in _ (by omega)
                    have hjq := Hjl.out q
                    have hjq1 := Hjl.out (q + 1)
                    have hzx := Sp.bs_size x
                    have hzq := Sp.bs_size (J q)
                    by_cases hq0 : q = 0
                    · have e2 : ¬ (0 : Int) < (q : Int) := by omega
                      have Hr : Hid (J (q + 1) = J q ++ x) := Lib.hid (by subst hq0; exact Hj1.out x hxq)
                      have hxl : x.length ≤ 6000000 := by have h := Hr.out; have := congrArg List.length h; rw [List.length_append] at this; omega
                      have hxs : (J q).length ≤ 6000000 := by omega
                      have ha2 : Sp.bs (J q) ++ Sp.bs x = Sp.bs (J (q + 1)) := by rw [Hr.out]; exact Sp.bs_append _ _
                      clear hxq hc2 hjq hjq1 hq0
                      go_wp2_with fail
                      go_round
                      case rel => exact ⟨q + 1, by omega, by go_num, rfl⟩
                      case measure => simp [intOf]; omega
                    · have e2 : (0 : Int) < (q : Int) := by omega
                      have Hr : Hid (J (q + 1) = J q ++ [94] ++ x) := Lib.hid (Hjs.out q x (by omega) hxq)
                      have hxl : x.length ≤ 6000000 := by have h := Hr.out; have := congrArg List.length h; rw [List.length_append, List.length_append, List.length_singleton] at this; omega
                      have hxs : (J q).length ≤ 6000000 := by omega
                      have ha1 : Sp.bs (J q) ++ (⟨#[94]⟩ : ByteArray) = Sp.bs (J q ++ [94]) := Sp.bs_append _ [94]
                      have ha2 : Sp.bs (J q ++ [94]) ++ Sp.bs x = Sp.bs (J (q + 1)) := by rw [Hr.out]; exact Sp.bs_append _ _
                      have hz3 : (Sp.bs (J q ++ [94])).size = (J q).length + 1 := by rw [Sp.bs_size, List.length_append, List.length_singleton]
                      clear hxq hc2 hjq hjq1 hq0
                      go_wp2_with fail
                      go_round
                      case rel => exact ⟨q + 1, by omega, by go_num, rfl⟩
                      case measure => simp [intOf]; omega
                  · obtain rfl : q = m2 := by omega
                    have e1 : ¬ (q : Int) < (q : Int) := by omega
                    have hend : J q = Sp.nest (own.take (k2 + 1)) := by rw [← hLl]; exact Hje.out
                    rw [hend]
                    clear hend
                    go_wp2_with fail
                    go_round
                    case rel => exact ⟨k2 + 1, by omega, by go_num, rfl⟩
                    case measure => simp [intOf]; omega
              · have d2 : (0 : Int) < (k2 : Int) := by omega
                have hJ0 : J 0 = Sp.nest (own.take k2) ++ [126] := by rw [Hj0.out, if_neg hk0]
                have ha : Sp.bs (Sp.nest (own.take k2)) ++ (⟨#[126]⟩ : ByteArray) = Sp.bs (J 0) := by rw [hJ0]; exact Sp.bs_append _ [126]
                clear hJ0 hk0
                go_wp2_with fail
                clear d2 hzM hM
                go_loop [4, 16, 17, 100] (fun f _ _ i => ∃ q : Nat, q ≤ m2 ∧ i = .int .i64 q ∧ f = .string (Sp.bs (J q))) (fun _ _ _ i => m2 - (intOf i).toNat)
                case atStart => exact ⟨0, by omega, rfl, rfl⟩
                case round =>
                  obtain ⟨q, hq, rfl, rfl⟩ := hrel
                  by_cases hqm : q < m2
                  · obtain ⟨x, hxq⟩ : ∃ x, L[q]? = some x := ⟨_, List.getElem?_eq_getElem (by omega)⟩
                    obtain ⟨b2, o2, rfl, hb2, hc2⟩ := Htx.out.cells.resolve_left (by omega)
                    have hcx2 := hc2 q x hxq
                    have e0 : (0 : Int) ≤ (q : Int) := by omega
                    have e1 : (q : Int) < (m2 : Int) := by omega
                    have hwq : IntKind.i64.wrap ((q : Int) + 1) = (q : Int) + 1 := IntWalk.i64_in _ (by omega)
                    have hjq := Hjl.out q
                    have hjq1 := Hjl.out (q + 1)
                    have hzx := Sp.bs_size x
                    have hzq := Sp.bs_size (J q)
                    by_cases hq0 : q = 0
                    · have e2 : ¬ (0 : Int) < (q : Int) := by omega
                      have Hr : Hid (J (q + 1) = J q ++ x) := Lib.hid (by subst hq0; exact Hj1.out x hxq)
                      have hxl : x.length ≤ 6000000 := by have h := Hr.out; have := congrArg List.length h; rw [List.length_append] at this; omega
                      have hxs : (J q).length ≤ 6000000 := by omega
                      have ha2 : Sp.bs (J q) ++ Sp.bs x = Sp.bs (J (q + 1)) := by rw [Hr.out]; exact Sp.bs_append _ _
                      clear hxq hc2 hjq hjq1 hq0
                      go_wp2_with fail
                      go_round
                      case rel => exact ⟨q + 1, by omega, by go_num, rfl⟩
                      case measure => simp [intOf]; omega
                    · have e2 : (0 : Int) < (q : Int) := by omega
                      have Hr : Hid (J (q + 1) = J q ++ [94] ++ x) := Lib.hid (Hjs.out q x (by omega) hxq)
                      have hxl : x.length ≤ 6000000 := by have h := Hr.out; have := congrArg List.length h; rw [List.length_append, List.length_append, List.length_singleton] at this; omega
                      have hxs : (J q).length ≤ 6000000 := by omega
                      have ha1 : Sp.bs (J q) ++ (⟨#[94]⟩ : ByteArray) = Sp.bs (J q ++ [94]) := Sp.bs_append _ [94]
                      have ha2 : Sp.bs (J q ++ [94]) ++ Sp.bs x = Sp.bs (J (q + 1)) := by rw [Hr.out]; exact Sp.bs_append _ _
                      have hz3 : (Sp.bs (J q ++ [94])).size = (J q).length + 1 := by rw [Sp.bs_size, List.length_append, List.length_singleton]
                      clear hxq hc2 hjq hjq1 hq0
                      go_wp2_with fail
                      go_round
                      case rel => exact ⟨q + 1, by omega, by go_num, rfl⟩
                      case measure => simp [intOf]; omega
                  · obtain rfl : q = m2 := by omega
                    have e1 : ¬ (q : Int) < (q : Int) := by omega
                    have hend : J q = Sp.nest (own.take (k2 + 1)) := by rw [← hLl]; exact Hje.out
                    rw [hend]
                    clear hend
                    go_wp2_with fail
                    go_round
                    case rel => exact ⟨k2 + 1, by omega, by go_num, rfl⟩
                    case measure => simp [intOf]; omega
            · obtain rfl : k2 = own.length := by omega
              have d1' : ¬ (own.length : Int) < (own.length : Int) := by omega
              rw [List.take_length, ← HF.out]
              have hFl : F.length ≤ 6000000 := by
                rw [HF.out]
                have := Sp.nest_len own
                omega
              have Hag := Lib.hid (fun w => nested_agains own h0'.out Hfine.out (by rw [← HF.out]; exact hFl) w)
              have Hps := Lib.hid (fun i L hi w => nested_parts own h0'.out Hfine.out (by rw [← HF.out]; exact hFl) i L hi w)
              have Hpt := Lib.hid (fun i L hi q x hx w => nested_part own h0'.out Hfine.out (by rw [← HF.out]; exact hFl) i L hi q x hx w)
              rw [← HF.out] at Hag Hps Hpt
              clear HF HLs Htj hFl
              have hc3 := f53.cells
              go_wp2_with fail
              refine (Hag.out _).mono ?_
              rintro e w4 ⟨rfl, b4⟩
              have hB4 := Lib.hid (stepF hB3.out b4)
              have f54 := f53.below b4 f53.lt
              have how4 := Lib.hid (how3.out.below b4)
              clear b4 f53 how3 hB3 Hag hc3
              go_wp2_with fail
              go_loopw [18, 19, 122] (fun _ _ i wr => ∃ k3 : Nat, k3 ≤ own.length ∧ i = .int .i64 k3 ∧ Hid (Below w.heap.size w wr) ∧ Five g 124 94 126 92 38 wr ∧ Hid (Ow wr W1.heap.size (.slice A9 own.length c9) own)) (fun _ _ i _ => own.length - (intOf i).toNat)
              case atStart => exact ⟨0, by omega, rfl, hB4, f54, how4⟩
              case round =>
                obtain ⟨k3, hk3, rfl, hB5, f55, how5⟩ := hrel
                clear hB4 f54 how4
                by_cases hlt3 : k3 < own.length
                · obtain ⟨L, hL⟩ : ∃ L, own[k3]? = some L := ⟨_, List.getElem?_eq_getElem hlt3⟩
                  obtain ⟨b, o, rfl, hbl, hc⟩ := (Ow.ls how5.out rfl).cells.resolve_left (by omega)
                  obtain ⟨a2, m2, c2, hcx, htx⟩ := hc k3 L hL
                  have hLl := htx.len
                  have hm2 : m2 ≤ 1048576 := by
                    have := Sp.tot_len L
                    have := Sp.tot1_take own k3 L hL
                    have := Sp.tot1_take_le own (k3 + 1)
                    omega
                  have d0 : (0 : Int) ≤ (k3 : Int) := by omega
                  have d1 : (k3 : Int) < (own.length : Int) := by omega
                  have hwk : IntKind.i64.wrap ((k3 : Int) + 1) = (k3 : Int) + 1 := IntWalk.i64_in _ (by omega)
                  have Hps1 := Lib.hid (fun w => Hps.out k3 L hL w)
                  have Hpt1 := Lib.hid (fun q x hx w => Hpt.out k3 L hL q x hx w)
                  rw [hLl] at Hps1
                  have hc5 := f55.cells
                  have Htx := Lib.hid htx
                  clear hc htx hL
                  go_wp2_with fail
                  refine (Hps1.out _).mono ?_
                  rintro e w6 ⟨rfl, b6⟩
                  have hB6 := Lib.hid (stepF hB5.out b6)
                  have f56 := f55.below b6 f55.lt
                  have how6 := Lib.hid (how5.out.below b6)
                  have htx6 := Lib.hid (Htx.out.below b6)
                  clear b6 f55 how5 hB5 hc5 Htx Hps1
                  go_wp2_with fail
                  go_loopw [20, 21, 22, 23, 137] (fun _ _ _ _ i wr => ∃ q : Nat, q ≤ m2 ∧ i = .int .i64 q ∧ Hid (Below w.heap.size w wr) ∧ Five g 124 94 126 92 38 wr ∧ Hid (Ow wr W1.heap.size (.slice (some ⟨b, o, none⟩) own.length c9) own) ∧ Hid (Tx wr a2 m2 c2 L)) (fun _ _ _ _ i _ => m2 - (intOf i).toNat)
                  case atStart => exact ⟨0, by omega, rfl, hB6, f56, how6, htx6⟩
                  case round =>
                    obtain ⟨q, hq, rfl, hB7, f57, how7, htx7⟩ := hrel
                    clear hB6 f56 how6 htx6
                    by_cases hqm : q < m2
                    · obtain ⟨x, hxq⟩ : ∃ x, L[q]? = some x := ⟨_, List.getElem?_eq_getElem (by omega)⟩
                      obtain ⟨b2, o2, rfl, hb2, hc2⟩ := htx7.out.cells.resolve_left (by omega)
                      have hcx2 := hc2 q x hxq
                      have e0 : (0 : Int) ≤ (q : Int) := by omega
                      have e1 : (q : Int) < (m2 : Int) := by omega
                      have hwq : IntKind.i64.wrap ((q : Int) + 1) = (q : Int) + 1 := IntWalk.i64_in _ (by omega)
                      have Hp := Lib.hid (fun w => Hpt1.out q x hxq w)
                      have hc7 := f57.cells
                      clear hc2 hxq
                      go_wp2_with fail
                      refine (Hp.out _).mono ?_
                      rintro e w8 ⟨rfl, b8⟩
                      have hB8 := Lib.hid (stepF hB7.out b8)
                      have f58 := f57.below b8 f57.lt
                      have how8 := Lib.hid (how7.out.below b8)
                      have htx8 := Lib.hid (htx7.out.below b8)
                      clear b8 f57 how7 hB7 hc7 htx7 hcx2 Hp
                      go_wp2_with fail
                      go_roundw
                      case rel => exact ⟨q + 1, by omega, by go_num, hB8, f58, how8, htx8⟩
                      case measure => simp [intOf]; omega
                    · obtain rfl : q = m2 := by omega
                      have e1 : ¬ (q : Int) < (q : Int) := by omega
                      go_wp2_with fail
                      go_roundw
                      case rel => exact ⟨k3 + 1, by omega, by go_num, hB7, f57, how7⟩
                      case measure => simp [intOf]; omega
                · obtain rfl : k3 = own.length := by omega
                  go_wp2_with fail
                  go_ret
                  exact ⟨rfl, hB5.out⟩
end Sg
end Go.Proofs.Ytcldnibedimepaa
