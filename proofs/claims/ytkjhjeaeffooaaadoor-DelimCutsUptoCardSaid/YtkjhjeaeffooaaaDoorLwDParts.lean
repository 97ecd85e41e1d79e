/-
  A part of the proof of this seat's laws: DelimParts.
-/
import Derived.Test.YtkjhjeaeffooaaaDoorAl6
import Derived.Test.YtkjhjeaeffooaaaDoorG4
namespace Go.Proofs.YtkjhjeaeffooaaaDoor
set_option linter.unusedVariables false
set_option linter.unusedSimpArgs false
open Go.RowKit Go.Shelf
namespace Sp
theorem cutL_reps (c : UInt8) (s : List UInt8) : ∀ k : Nat, cutL c (s ++ List.replicate k c) = cutL c s ++ List.replicate k []
  | 0 => by simp
  | k + 1 => by
    rw [List.replicate_succ', ← List.append_assoc, List.replicate_succ', ← List.append_assoc, ← cutL_reps c s k]
    rw [cutL_mid c [] (s ++ List.replicate k c)]
    rfl
theorem cutL_bound (c : UInt8) (s : List UInt8) : (cutL c s).length ≤ s.length + 1 := by
  rw [cutL_length]
  have := List.count_le_length (a := c) (l := s)
  omega
theorem cut_lens (c : UInt8) (s : List UInt8) : ∀ t ∈ cutL c s, t.length ≤ s.length := by
  intro t ht
  induction s generalizing t with
  | nil => simp [cutL] at ht; simp [ht]
  | cons x l ih =>
    by_cases hx : x = c
    · rw [cutL_eq l hx] at ht
      rcases List.mem_cons.1 ht with rfl | ht
      · simp
      · exact Nat.le_trans (ih _ ht) (by simp)
    · rw [cutL_other l hx] at ht
      rcases List.mem_cons.1 ht with rfl | ht
      · have h0 := cutL_ne c l
        cases h : cutL c l with
        | nil => exact (h0 h).elim
        | cons a b => have := ih a (by rw [h]; simp); simp; omega
      · exact Nat.le_trans (ih _ (List.mem_of_mem_tail ht)) (by simp)
theorem count_take (c : UInt8) (s : List UInt8) (k : Nat) (x : UInt8) (h : s[k]? = some x) : (s.take (k + 1)).count c = (s.take k).count c + (if x = c then 1 else 0) := by
  rw [List.take_add_one, h, Option.toList_some, List.count_append]
  by_cases hx : x = c <;> simp [hx]
end Sp
namespace Sg
open Ap
set_option maxHeartbeats 4000000
theorem stepC {w a b : World} (h : Below w.heap.size w a) (hb : Below a.heap.size a b) : Below w.heap.size w b := h.trans (hb.mono h.size)
theorem dparts_long (s : List UInt8) (c m : Int) (w : World) (h : 1500 < s.length) (hs : s.length ≤ 140737488351232) :
    Calls Tryd.prog 3 #[.string (Sp.bs s), .int .u8 c, .int .u8 m] w fun e w' => e = .returned (.bool true) ∧ Below w.heap.size w w' := by
  have hz := Sp.bs_size s
  have h1 : (1500 : Int) < (s.length : Int) := by omega
  go_enter Tryd.func3, Tryd.ntmps3
  go_wp2_with fail
  refine (Dl.alive_calls _).mono ?_
  rintro e w1 ⟨rfl, b1⟩
  go_wp2_with fail
  go_ret
  exact ⟨rfl, b1⟩
theorem dparts_in (s : List UInt8) (c : UInt8) (m : Int) (hm : 0 ≤ m ∧ m < 256) (w : World) (hs : s.length ≤ 1500) (hl : Ml w) :
    Calls Tryd.prog 3 #[.string (Sp.bs s), .int .u8 (c.toNat : Int), .int .u8 m] w fun e w' => e = .returned (.bool true) ∧ Below w.heap.size w w' := by
  have hz := Sp.bs_size s
  have hsign := run_sign
  have h1 : ¬ (1500 : Int) < (s.length : Int) := by omega
  have Hl := Lib.hid hl
  clear hl
  go_enter Tryd.func3, Tryd.ntmps3
  go_wp2_with fail
  go_loop [7, 8, 20] (fun n _ i => ∃ k : Nat, k ≤ s.length ∧ i = .int .i64 k ∧ n = .int .i64 (((s.take k).count c + 1 : Nat) : Int)) (fun _ _ i => s.length - (intOf i).toNat)
  case atStart => exact ⟨0, by omega, rfl, rfl⟩
  case round =>
    obtain ⟨k, hk, rfl, rfl⟩ := hrel
    by_cases hlt : k < s.length
    · obtain ⟨x, hx⟩ : ∃ x, s[k]? = some x := ⟨_, List.getElem?_eq_getElem hlt⟩
      have hxk := bs_at hx
      have c0 : (0 : Int) ≤ (k : Int) := by omega
      have c1 : (k : Int) < (s.length : Int) := by omega
      have hw1 : IntKind.i64.wrap ((k : Int) + 1) = (k : Int) + 1 := IntWalk.i64_in _ (by omega)
      have hct := Sp.count_take c s k x hx
      have hcl : (s.take k).count c ≤ k := Nat.le_trans List.count_le_length (by rw [List.length_take]; omega)
      obtain ⟨n, hn⟩ : ∃ n, n = (s.take k).count c + 1 := ⟨_, rfl⟩
      rw [← hn]
      have hw2 : IntKind.i64.wrap ((n : Int) + 1) = (n : Int) + 1 := IntWalk.i64_in _ (by omega)
      by_cases hxc : x = c
      · have hq : ((x.toNat : Int) == (c.toNat : Int)) = true := by rw [hxc]; simp
        rw [if_pos hxc] at hct
        have Hct : Hid ((s.take (k + 1)).count c + 1 = n + 1) := Lib.hid (by omega)
        clear hct hxc hx hn hcl
        go_wp2_with fail
        go_round
        case rel => exact ⟨k + 1, by omega, by go_num, by rw [Hct.out]; go_num⟩
        case measure => simp [intOf]; omega
      · have hq : ((x.toNat : Int) == (c.toNat : Int)) = false := by
          rw [beq_eq_false_iff_ne]
          intro e
          exact hxc (UInt8.toNat_inj.1 (by omega))
        rw [if_neg hxc] at hct
        have Hct : Hid ((s.take (k + 1)).count c + 1 = n) := Lib.hid (by omega)
        clear hct hxc hx hn hcl
        go_wp2_with fail
        go_round
        case rel => exact ⟨k + 1, by omega, by go_num, by rw [Hct.out]⟩
        case measure => simp [intOf]; omega
    · obtain rfl : k = s.length := by omega
      have c1 : ¬ (s.length : Int) < (s.length : Int) := by omega
      rw [List.take_length, ← Sp.cutL_length]
      go_wp2_with fail
      generalize hq : m % 20 = q at *
      obtain ⟨r, rfl⟩ : ∃ r : Nat, q = r := ⟨q.toNat, by omega⟩
      have hr20 : r < 20 := by omega
      have Hq := Lib.hid hq
      clear hq
      go_loopw [9, 34] (fun t i wr => ∃ k : Nat, k ≤ r ∧ i = .int .u8 k ∧ t = .string (Sp.bs (s ++ List.replicate k c)) ∧ Hid (Below w.heap.size w wr)) (fun _ i _ => r - (intOf i).toNat)
      case atStart => exact ⟨0, by omega, rfl, by simp, Below.refl _ _⟩
      case round =>
        obtain ⟨k, hk, rfl, rfl, hbr⟩ := hrel
        by_cases hlt : k < r
        · have c0 : (0 : Int) ≤ (k : Int) := by omega
          have c1 : (k : Int) < (r : Int) := by omega
          have hw1 : IntKind.u8.wrap ((k : Int) + 1) = (k : Int) + 1 := IntWalk.u8_in _ (by omega)
          have ha : Sp.bs (s ++ List.replicate k c) ++ (⟨#[c]⟩ : ByteArray) = Sp.bs (s ++ List.replicate (k + 1) c) := by
            rw [show (⟨#[c]⟩ : ByteArray) = Sp.bs [c] from rfl, Sp.bs_append, List.replicate_succ', List.append_assoc]
          have hzt : (Sp.bs (s ++ List.replicate k c)).size = s.length + k := by rw [Sp.bs_size, List.length_append, List.length_replicate]
          go_wp2_with fail
          go_roundw
          case rel => exact ⟨k + 1, by omega, by go_num, rfl, hbr.out.alloc hbr.out.size _⟩
          case measure => simp [intOf]; omega
        · obtain rfl : k = r := by omega
          have c1 : ¬ (k : Int) < (k : Int) := by omega
          have hcr := Sp.cutL_reps c s k
          have hcb := Sp.cutL_bound c s
          have hcl := Sp.cut_lens c s
          have hlr := Hl.out.below hbr.out
          have H2 := delimCut_calls (s ++ List.replicate k c) c (by rw [List.length_append, List.length_replicate]; omega)
          rw [hcr, List.length_append, List.length_replicate] at H2
          have H1 := Lib.hid (delimCut_calls s c (by omega) wr hlr)
          have H2 := Lib.hid H2
          have Hlr := Lib.hid hlr
          have hlp := Sp.cutL_pos c s
          generalize Sp.cutL c s = L at *
          obtain ⟨N, hN⟩ : ∃ N, N = L.length := ⟨_, rfl⟩
          rw [← hN] at H1 H2 hcb ⊢
          have HN := Lib.hid hN
          clear hN hlr hcr
          go_wp2_with fail
          refine H1.out.mono ?_
          rintro e w1 ⟨A1, C1, rfl, t1, b1⟩
          have hB1 := Lib.hid (stepC hbr.out b1)
          have H2a := Lib.hid (H2.out w1 (Hlr.out.below b1))
          have T1 := Lib.hid t1
          clear b1 t1 H1 H2
          go_wp2_with fail
          refine H2a.out.mono ?_
          rintro e w2 ⟨A2, C2, rfl, t2, b2⟩
          have hB2 := Lib.hid (stepC hB1.out b2)
          have T12 := Lib.hid (T1.out.below b2)
          have T2 := Lib.hid t2
          clear b2 t2 H2a T1 hB1
          go_wp2_with fail
          refine (Dl.alive_calls _).mono ?_
          rintro e w3 ⟨rfl, b3⟩
          have hB3 := Lib.hid (stepC hB2.out b3)
          have T13 := Lib.hid (T12.out.below b3)
          have T23 := Lib.hid (T2.out.below b3)
          clear b3 T12 T2 hB2
          have hq := Hq.out
          have hwN : IntKind.i64.wrap ((N : Int) + (k : Int)) = ((N + k : Nat) : Int) := by rw [IntWalk.i64_in _ (by omega)]; omega
          have hwk : IntKind.i64.wrap (k : Int) = (k : Int) := IntWalk.i64_in _ (by omega)
          go_wp2_with fail
          clear hq
          go_loop [12, 13, 68] (fun _ _ i => ∃ j : Nat, j ≤ N + k ∧ i = .int .i64 j) (fun _ _ i => N + k - (intOf i).toNat)
          case atStart => exact ⟨0, by omega, rfl⟩
          case round =>
            obtain ⟨j, hj, rfl⟩ := hrel
            by_cases hjn : j < N + k
            · obtain ⟨b2, o2, rfl, hb2, hc2⟩ := T23.out.cells.resolve_left (by omega)
              have d0 : (0 : Int) ≤ (j : Int) := by omega
              have d1 : (j : Int) < ((N + k : Nat) : Int) := by omega
              have hwj : IntKind.i64.wrap ((j : Int) + 1) = (j : Int) + 1 := IntWalk.i64_in _ (by omega)
              by_cases hjN : j < N
              · obtain ⟨x, hx⟩ : ∃ x, L[j]? = some x := ⟨_, List.getElem?_eq_getElem (by have := HN.out; omega)⟩
                obtain ⟨b1, o1, rfl, hb1, hc1⟩ := T13.out.cells.resolve_left (by omega)
                have hcx1 := hc1 j x hx
                have hcx2 := hc2 j x (by rw [List.getElem?_append_left (by have := HN.out; omega)]; exact hx)
                have d2 : (j : Int) < (N : Int) := by omega
                have d3 : ¬ (N : Int) ≤ (j : Int) := by omega
                clear hc1 hc2 hx hjn
                go_wp2_with fail
                go_round
                case rel => exact ⟨j + 1, by omega, by go_num⟩
                case measure => simp [intOf]; omega
              · have hcx2 := hc2 j [] (by
                  have := HN.out
                  rw [List.getElem?_append_right (by omega), List.getElem?_replicate, if_pos (by omega)])
                have e0 : Sp.bs [] = (⟨#[]⟩ : ByteArray) := rfl
                rw [e0] at hcx2
                have d2 : ¬ (j : Int) < (N : Int) := by omega
                have d3 : (N : Int) ≤ (j : Int) := by omega
                clear hc2 hjn
                go_wp2_with fail
                go_round
                case rel => exact ⟨j + 1, by omega, by go_num⟩
                case measure => simp [intOf]; omega
            · obtain rfl : j = N + k := by omega
              go_wp2_with fail
              go_ret
              exact ⟨rfl, hB3.out⟩
theorem byte_of {a : Int} (h : 0 ≤ a ∧ a ≤ 255) : ∃ x : UInt8, a = (x.toNat : Int) := ⟨UInt8.ofNat a.toNat, by simp [UInt8.toNat_ofNat]; omega⟩
theorem dparts_at (s : ByteArray) (c m : Int) (w : World) (hs : s.size ≤ 140737488351232) (hc : 0 ≤ c ∧ c ≤ 255) (hm : 0 ≤ m ∧ m ≤ 255) (hl : Ml w) :
    Calls Tryd.prog 3 #[.string s, .int .u8 c, .int .u8 m] w fun e w' => e = .returned (.bool true) ∧ Below w.heap.size w w' := by
  rw [← Sp.bs_data s]
  have hz : s.data.toList.length = s.size := by rw [Array.length_toList]; rfl
  by_cases h : 1500 < s.data.toList.length
  · exact dparts_long _ c m w h (by omega)
  · obtain ⟨x, rfl⟩ := byte_of hc
    exact dparts_in _ x m (by omega) w (by omega) hl
end Sg
end Go.Proofs.YtkjhjeaeffooaaaDoor
