/-
  A part of the proof of this seat's laws: SegmentParts.
-/
import Derived.Test.YtcldnibedimepaaSg9
namespace Go.Proofs.Ytcldnibedimepaa
set_option linter.unusedVariables false
set_option linter.unusedSimpArgs false
open Go.RowKit Go.Shelf
namespace Sg
open Ap
set_option maxHeartbeats 2000000
theorem segParts_long (s : List UInt8) (F P R E U : UInt8) (hs : s.length ≤ 140737488351232) (w : World) (h : 400 < s.length) :
    Calls Try.prog 4 #[.string (Sp.bs s), dv F P R E U] w fun e w' => e = .returned (.bool true) ∧ Below w.heap.size w w' := by
  have huD := Try.underlying23
  have hB : Below w.heap.size w (w.alloc (.cells #[.int .u8 (F.toNat : Int), .int .u8 (P.toNat : Int), .int .u8 (R.toNat : Int), .int .u8 (E.toNat : Int), .int .u8 (U.toNat : Int)] 23)) := (Below.refl _ _).alloc (Nat.le_refl _) _
  have hz := Sp.bs_size s
  have h1 : (400 : Int) < (s.length : Int) := by omega
  go_enter Try.func4, Try.ntmps4
  go_wp2_with fail
  refine (alive_calls _).mono ?_
  rintro e w1 ⟨rfl, b1⟩
  go_wp2_with fail
  go_ret
  exact ⟨rfl, hB.trans (b1.mono hB.size)⟩
theorem segParts_in (s : List UInt8) (F P R E U : UInt8) (w : World) (h : s.length ≤ 400) :
    Calls Try.prog 4 #[.string (Sp.bs s), dv F P R E U] w fun e w' => e = .returned (.bool true) ∧ Below w.heap.size w w' := by
  have huD := Try.underlying23
  have h5 := Five.new F P R E U w
  have hB : Below w.heap.size w (w.alloc (.cells #[.int .u8 (F.toNat : Int), .int .u8 (P.toNat : Int), .int .u8 (R.toNat : Int), .int .u8 (E.toNat : Int), .int .u8 (U.toNat : Int)] 23)) := (Below.refl _ _).alloc (Nat.le_refl _) _
  have hz := Sp.bs_size s
  have h1 : ¬ (400 : Int) < (s.length : Int) := by omega
  have hs : s.length ≤ 140737488351232 := by omega
  have hs2 : s.length ≤ 100000 := by omega
  have Ha := Lib.hid (refAgains_calls s F P R E U hs2)
  have Hg := Lib.hid (agains_calls s F P R E U hs)
  have Hno := Lib.hid (fun n hn w => refParts_no s n F P R E U hs2 w hn)
  have Hyes := Lib.hid (fun j hn w => refParts_yes s j F P R E U hs2 w hn)
  have Hp := Lib.hid (fun n => parts_calls s n F P R E U hs)
  have Hq := Lib.hid (fun r n => part_calls s r n F P R E U hs)
  have hlen := Sp.cutL_length R s
  have hcnt := List.count_le_length (a := R) (l := s)
  have HL : Hid (∀ z : Int, (Sp.parts s z P R).length ≤ 401) := Lib.hid (fun z => by
    unfold Sp.parts
    split
    · have h1 := Sp.cutL_length P (Sp.pick (Sp.cutL R s) z)
      have h2 := List.count_le_length (a := P) (l := Sp.pick (Sp.cutL R s) z)
      have h3 : (Sp.pick (Sp.cutL R s) z).length ≤ s.length := Sp.pick_len
      omega
    · simp)
  have Hpy : Hid (∀ j : Nat, j < (Sp.cutL R s).length → Sp.parts s ((j : Int) + 1) P R = Sp.cutL P (Sp.pick (Sp.cutL R s) ((j : Int) + 1))) := Lib.hid (fun j hj => by
    unfold Sp.parts; rw [if_pos ⟨by omega, by omega⟩])
  have Hpn : Hid (∀ z : Int, ¬(1 ≤ z ∧ z ≤ ((Sp.cutL R s).length : Int)) → Sp.parts s z P R = []) := Lib.hid (fun z hz => by
    unfold Sp.parts; rw [if_neg hz])
  generalize hN : (Sp.cutL R s).length = N at *
  have hN401 : N ≤ 401 := by omega
  have hwN : IntKind.i64.wrap ((N : Int) + 1) = (N : Int) + 1 := IntWalk.i64_in _ (by omega)
  -- what the reference's Parts leaves
  have Hw : Hid (∀ (z : Int) (w : World), Calls Try.prog 17 #[.string (Sp.bs s), .int .i64 z, dv F P R E U] w fun e w' =>
      ∃ A C, e = .returned (.slice A (Sp.parts s z P R).length C) ∧ Mine w' w.heap.size A (Sp.parts s z P R).length C (Sp.vals (Sp.parts s z P R)) ∧ Below w.heap.size w w') := Lib.hid (fun z w => by
    by_cases hin : 1 ≤ z ∧ z ≤ (N : Int)
    · obtain ⟨j, rfl⟩ : ∃ j : Nat, z = (j : Int) + 1 := ⟨(z - 1).toNat, by omega⟩
      rw [Hpy.out j (by omega)]
      exact Hyes.out j (by omega) w
    · rw [Hpn.out z hin]
      refine (Hno.out z hin w).mono ?_
      rintro e w' ⟨rfl, hb⟩
      exact ⟨none, 0, rfl, Mine.nil _ _, hb⟩)
  clear hN hlen hcnt Hno Hyes Hpy Hpn hs2 hs
  go_enter Try.func4, Try.ntmps4
  go_wp2_with fail
  have hc := h5.cells
  generalize (w.alloc (.cells #[.int .u8 (F.toNat : Int), .int .u8 (P.toNat : Int), .int .u8 (R.toNat : Int), .int .u8 (E.toNat : Int), .int .u8 (U.toNat : Int)] 23)) = W at *
  go_wp2_with fail
  refine (Ha.out _).mono ?_
  rintro e w1 ⟨A, C, rfl, hm, hb⟩
  have hB1 := hB.trans (hb.mono hB.size)
  have h51 := h5.below hb h5.lt
  clear h5 hB hb hm hc Ha
  go_wp2_with fail
  refine (alive_calls _).mono ?_
  rintro e w2 ⟨rfl, b2⟩
  have hB2 := hB1.trans (b2.mono hB1.size)
  have h52 := h51.below b2 h51.lt
  have hc2 := h52.cells
  clear h51 hB1 b2
  go_wp2_with fail
  refine (Hg.out _).mono ?_
  rintro e w3 ⟨rfl, b3⟩
  have hB3 := hB2.trans (b3.mono hB2.size)
  have h53 := h52.below b3 h52.lt
  clear h52 hB2 b3 hc2 Hg
  go_wp2_with fail
  go_loopw [6] (fun i wr => (∃ z : Int, -1 ≤ z ∧ z ≤ (N : Int) + 2 ∧ i = .int .i64 z) ∧ Below w.heap.size w wr ∧ Five w.heap.size F P R E U wr) (fun i wr => ((N : Int) + 2 - intOf i).toNat)
  case atStart => exact ⟨⟨-1, by omega, by omega, rfl⟩, hB3, h53⟩
  case round =>
    obtain ⟨⟨z, hz1, hz2, rfl⟩, hBr, h5r⟩ := hrel
    clear hB3 h53
    by_cases hzn : z ≤ (N : Int) + 1
    · have hwz : IntKind.i64.wrap (z + 1) = z + 1 := IntWalk.i64_in _ (by omega)
      have hc4 := h5r.cells
      go_wp2_with fail
      refine (Hw.out z _).mono ?_
      rintro e w4 ⟨A4, C4, rfl, hm4, b4⟩
      have hB4 := hBr.trans (b4.mono hBr.size)
      have h54 := h5r.below b4 h5r.lt
      have hc5 := h54.cells
      have hL := HL.out z
      have hsz := hBr.size
      clear hBr h5r b4 hc4
      have Hqz := Lib.hid (fun n => Hq.out z n)
      have Hpz := Lib.hid (Hp.out z)
      generalize Sp.parts s z P R = ps at *
      generalize hLe : ps.length = L at *
      have hwL : IntKind.i64.wrap ((L : Int) + 1) = (L : Int) + 1 := IntWalk.i64_in _ (by omega)
      have Hm4 := Lib.hid (hm4.mono hsz)
      clear hm4
      go_wp2_with fail
      refine (Hpz.out _).mono ?_
      rintro e w5 ⟨rfl, b5⟩
      have hB5 := hB4.trans (b5.mono hB4.size)
      have h55 := h54.below b5 h54.lt
      have Hm5 := Lib.hid (Hm4.out.below b5)
      clear hB4 h54 b5 hc5 Hm4 Hpz
      go_wp2_with fail
      go_loopw [8] (fun i wr => (∃ y : Int, -1 ≤ y ∧ y ≤ (L : Int) + 2 ∧ i = .int .i64 y) ∧ Below w.heap.size w wr ∧ Five w.heap.size F P R E U wr ∧ Hid (Mine wr w.heap.size A4 L C4 (Sp.vals ps))) (fun i wr => ((L : Int) + 2 - intOf i).toNat)
      case atStart => exact ⟨⟨-1, by omega, by omega, rfl⟩, hB5, h55, Hm5.out⟩
      case round =>
        obtain ⟨⟨y, hy1, hy2, rfl⟩, hBr, h5r, hmr⟩ := hrel
        clear hB5 h55 Hm5
        by_cases hyn : y ≤ (L : Int) + 1
        · have hwy : IntKind.i64.wrap (y + 1) = y + 1 := IntWalk.i64_in _ (by omega)
          have hc6 := h5r.cells
          by_cases hin : 1 ≤ y ∧ y ≤ (L : Int)
          · obtain ⟨j, rfl⟩ : ∃ j : Nat, y = (j : Int) + 1 := ⟨(y - 1).toNat, by omega⟩
            have hjL : j < L := by omega
            have hq := Hqz.out ((j : Int) + 1)
            rw [decide_eq_true hin] at hq
            have hv := Sp.vals_at (l := ps) (j := j) (by omega)
            obtain ⟨g, rfl, hg, hlt, hcell⟩ := hmr.out.cell (by omega)
            have hcj := hcell j _ hv
            rw [Nat.zero_add] at hcj
            have Hq1 := Lib.hid hq
            generalize Sp.pick ps ((j : Int) + 1) = x at *
            have c1 : ¬ ((j : Int) + 1 < 1) := by omega
            have c2 : ¬ ((L : Int) < (j : Int) + 1) := by omega
            have c3 : (j : Int) < (L : Int) := by omega
            have c4 : (0 : Int) ≤ (j : Int) := by omega
            have hwj : IntKind.i64.wrap (j : Int) = (j : Int) := IntWalk.i64_in _ (by omega)
            clear hq hv hcell hin hyn
            go_wp2_with fail
            refine (Hq1.out _).mono ?_
            rintro e w6 ⟨rfl, b6⟩
            have hB6 := hBr.trans (b6.mono hBr.size)
            have h56 := h5r.below b6 h5r.lt
            have Hm6 := Lib.hid (hmr.out.below b6)
            have hcj6 := (b6.cell (p := ⟨g, j, none⟩) hlt).trans hcj
            clear b6 hc6 hcj
            go_wp2_with fail
            go_roundw
            case rel => exact ⟨⟨(j : Int) + 1 + 1, by omega, by omega, rfl⟩, hB6, h56, Hm6⟩
            case measure => simp [intOf]; omega
          · have hq := Hqz.out y
            rw [decide_eq_false hin, Sp.pick_out (by rw [hLe]; exact hin), show Sp.bs [] = ⟨#[]⟩ from rfl] at hq
            have Hq1 := Lib.hid hq
            have Hin := Lib.hid hin
            clear hq hin
            by_cases hy1 : y < 1
            · go_wp2_with fail
              refine (Hq1.out _).mono ?_
              rintro e w6 ⟨rfl, b6⟩
              have hB6 := hBr.trans (b6.mono hBr.size)
              have h56 := h5r.below b6 h5r.lt
              have Hm6 := Lib.hid (hmr.out.below b6)
              clear b6 hc6
              go_wp2_with fail
              go_roundw
              case rel => exact ⟨⟨y + 1, by omega, by omega, rfl⟩, hB6, h56, Hm6⟩
              case measure => simp [intOf]; omega
            · have c2 : (L : Int) < y := by have := Hin.out; omega
              go_wp2_with fail
              refine (Hq1.out _).mono ?_
              rintro e w6 ⟨rfl, b6⟩
              have hB6 := hBr.trans (b6.mono hBr.size)
              have h56 := h5r.below b6 h5r.lt
              have Hm6 := Lib.hid (hmr.out.below b6)
              clear b6 hc6
              go_wp2_with fail
              go_roundw
              case rel => exact ⟨⟨y + 1, by omega, by omega, rfl⟩, hB6, h56, Hm6⟩
              case measure => simp [intOf]; omega
        · go_wp2_with fail
          go_roundw
          case rel => exact ⟨⟨z + 1, by omega, by omega, rfl⟩, hBr, h5r⟩
          case measure => simp [intOf]; omega
    · go_wp2_with fail
      go_ret
      exact ⟨rfl, hBr⟩
theorem segParts_calls (s : List UInt8) (F P R E U : UInt8) (hs : s.length ≤ 140737488351232) (w : World) :
    Calls Try.prog 4 #[.string (Sp.bs s), dv F P R E U] w fun e w' => e = .returned (.bool true) ∧ Below w.heap.size w w' := by
  by_cases h : 400 < s.length
  · exact segParts_long s F P R E U hs w h
  · exact segParts_in s F P R E U w (by omega)
/-- a byte as one -/
theorem byte_of {a : Int} (h : 0 ≤ a ∧ a ≤ 255) : ∃ x : UInt8, a = (x.toNat : Int) := ⟨UInt8.ofNat a.toNat, by simp [UInt8.toNat_ofNat]; omega⟩
theorem segParts_at (s : ByteArray) (a b c d f : Int) (w : World) (hs : s.size ≤ 140737488351232) (ha : 0 ≤ a ∧ a ≤ 255) (hb : 0 ≤ b ∧ b ≤ 255) (hc : 0 ≤ c ∧ c ≤ 255) (hd : 0 ≤ d ∧ d ≤ 255) (hf : 0 ≤ f ∧ f ≤ 255) :
    Calls Try.prog 4 #[.string s, .agg #[.int .u8 a, .int .u8 b, .int .u8 c, .int .u8 d, .int .u8 f]] w fun e w' => e = .returned (.bool true) ∧ Below w.heap.size w w' := by
  obtain ⟨F, rfl⟩ := byte_of ha
  obtain ⟨P, rfl⟩ := byte_of hb
  obtain ⟨R, rfl⟩ := byte_of hc
  obtain ⟨E, rfl⟩ := byte_of hd
  obtain ⟨U, rfl⟩ := byte_of hf
  have h := segParts_calls s.data.toList F P R E U (by rw [Array.length_toList]; exact hs) w
  rwa [Sp.bs_data] at h
end Sg
end Go.Proofs.Ytcldnibedimepaa
