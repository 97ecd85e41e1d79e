/-
  A part of the proof of this seat's laws: EscapeBytes.
-/
import Derived.Test.YtkiloebfjooogaaDoorEp8
import Derived.Test.YtkiloebfjooogaaDoorG6
namespace Go.Proofs.YtkiloebfjooogaaDoor
set_option linter.unusedVariables false
set_option linter.unusedSimpArgs false
open Go.RowKit Go.Shelf
namespace Es
open Ap Mp Sg
set_option maxHeartbeats 8000000
abbrev digB : ByteArray := ⟨#[48, 49, 50, 51, 52, 53, 54, 55, 56, 57, 65, 66, 67, 68, 69, 70]⟩
theorem dig_at (n : Nat) (hn : n < 16) : ∀ h, (digB)[n]'h = Sp.digs.getD n 0 := by
  intro h
  have : n = 0 ∨ n = 1 ∨ n = 2 ∨ n = 3 ∨ n = 4 ∨ n = 5 ∨ n = 6 ∨ n = 7 ∨ n = 8 ∨ n = 9 ∨ n = 10 ∨ n = 11 ∨ n = 12 ∨ n = 13 ∨ n = 14 ∨ n = 15 := by omega
  rcases this with rfl | rfl | rfl | rfl | rfl | rfl | rfl | rfl | rfl | rfl | rfl | rfl | rfl | rfl | rfl | rfl <;> rfl
/-- two bytes as a string -/
theorem run_pair (w : World) (a b : UInt8) : (convert 31 9 (.slice (some ⟨w.heap.size, 0, none⟩) 2 2)).run Tryd.prog (w.alloc (.cells #[.int .u8 (a.toNat : Int), .int .u8 (b.toNat : Int)] 5)).drew = .ok (.string (Sp.bs [a, b])) (w.alloc (.cells #[.int .u8 (a.toNat : Int), .int .u8 (b.toNat : Int)] 5)).drew := by
  have h := run_convert_bytes_back (P := Tryd.prog) (w.alloc (.cells #[.int .u8 (a.toNat : Int), .int .u8 (b.toNat : Int)] 5)).drew 31 9 5 ⟨w.heap.size, 0, none⟩ 2 [a, b] Tryd.underlying31 Tryd.underlying5 Tryd.underlying9 (fun j hj => by
    rw [Addr.add_lit]
    refine (World.cell?_alloc_mark w #[.int .u8 (a.toNat : Int), .int .u8 (b.toNat : Int)] 5 (0, 0) _).trans ?_
    have hj2 : j < 2 := hj
    rcases (by omega : j = 0 ∨ j = 1) with rfl | rfl <;> rfl)
  exact h
set_option maxRecDepth 100000 in
theorem ebytes_in (b ah : List UInt8) (A : Option Addr) (c : Nat) (w : World) (hb : b.length ≤ 300) (hb0 : b ≠ []) (ha : ah.length ≤ 300) (hcl : Sp.clean 124 94 126 92 38 ah = true) (hby : By w A b.length c b) (hml : Ml w) :
    Calls Tryd.prog 4 #[.slice A b.length c, .string (Sp.bs ah)] w fun e w' => e = .returned (.bool true) ∧ Below w.heap.size w w' := by
  have hz := Sp.bs_size ah
  have h1 : ¬ (300 : Int) < (b.length : Int) := by omega
  have h2 : ¬ (300 : Int) < (ah.length : Int) := by omega
  have hp := List.length_pos_iff.2 hb0
  have h3 : ((b.length : Int) == 0) = false := by rw [beq_eq_false_iff_ne]; omega
  have h3' : ¬ ((b.length : Int) = 0) := by omega
  have Hc := Lib.hid (cleanP_calls ah (by omega))
  rw [hcl] at Hc
  have Hml := Lib.hid hml
  have Hby := Lib.hid hby
  have Hcl := Lib.hid hcl
  have Hb0 := Lib.hid hb0
  clear hml hby hcl hb0
  go_enter Tryd.func4, Tryd.ntmps4
  go_wp2_with fail
  refine (plain_calls _).mono ?_
  rintro e w1 ⟨rfl, b1⟩
  have k1 := Lib.hid b1
  clear b1
  go_wp2_with fail
  refine (Hc.out _).mono ?_
  rintro e w2 ⟨rfl, b2⟩
  have k2 := Lib.hid (step k1.out b2)
  clear b2 k1 Hc
  go_wp2_with fail
  go_loopw [5, 6, 8, 9, 47] (fun p q _ _ i wr => ∃ k : Nat, k ≤ b.length ∧ i = .int .i64 k ∧ p = .string (Sp.bs (Sp.hexs (b.take k))) ∧ q = .string (Sp.bs (Sp.each (b.take k))) ∧ Hid (Below w.heap.size w wr)) (fun _ _ _ _ i _ => b.length - (intOf i).toNat)
  case atStart => exact ⟨0, by omega, rfl, rfl, rfl, k2⟩
  case round =>
    obtain ⟨k, hk, rfl, rfl, rfl, hB3⟩ := hrel
    clear k2
    by_cases hlt : k < b.length
    · obtain ⟨x, hx⟩ : ∃ x, b[k]? = some x := ⟨_, List.getElem?_eq_getElem hlt⟩
      obtain ⟨g, o, rfl, hgl, hc⟩ := Hby.out.cells.resolve_left (by omega)
      have hcx := (hB3.out.cell (p := ⟨g, o + k, none⟩) hgl).trans (hc k x hx)
      have c0 : (0 : Int) ≤ (k : Int) := by omega
      have c1 : (k : Int) < (b.length : Int) := by omega
      have hw1 : IntKind.i64.wrap ((k : Int) + 1) = (k : Int) + 1 := IntWalk.i64_in _ (by omega)
      have htk : b.take (k + 1) = b.take k ++ [x] := by rw [List.take_add_one, hx]; rfl
      have Hh := Lib.hid (Sp.hexs_snoc (b.take k) x)
      have He := Lib.hid (Sp.each_snoc (b.take k) x)
      rw [← htk] at Hh He
      have hl1 := Sp.hexs_len (b.take k)
      have hl2 := Sp.each_len (b.take k)
      have htl : (b.take k).length ≤ 300 := by rw [List.length_take]; omega
      have x0 : 0 ≤ (x.toNat : Int) := by omega
      have x1 : (x.toNat : Int) ≤ 255 := by have := x.toNat_lt; omega
      have e0 : 0 ≤ (x.toNat : Int) / 16 := by omega
      have e1 : (x.toNat : Int) / 16 < 16 := by omega
      have e2 : 0 ≤ (x.toNat : Int) % 16 := by omega
      have e3 : (x.toNat : Int) % 16 < 16 := by omega
      have e4 : ((x.toNat : Int) / 16).toNat = x.toNat / 16 := by omega
      have e5 : ((x.toNat : Int) % 16).toNat = x.toNat % 16 := by omega
      have d1 : ∀ h, (⟨#[48, 49, 50, 51, 52, 53, 54, 55, 56, 57, 65, 66, 67, 68, 69, 70]⟩ : ByteArray)[x.toNat / 16]'h = Sp.digs.getD (x.toNat / 16) 0 := dig_at _ (by omega)
      have d2 : ∀ h, (⟨#[48, 49, 50, 51, 52, 53, 54, 55, 56, 57, 65, 66, 67, 68, 69, 70]⟩ : ByteArray)[x.toNat % 16]'h = Sp.digs.getD (x.toNat % 16) 0 := dig_at _ (by omega)
      have hpair := run_pair
      unfold Sp.hexp at Hh He
      generalize Sp.digs.getD (x.toNat / 16) 0 = y1 at *
      generalize Sp.digs.getD (x.toNat % 16) 0 = y2 at *
      generalize Sp.hexs (b.take k) = hs at *
      generalize Sp.each (b.take k) = es at *
      have hpair2 : Hid (∃ P1 : List UInt8, P1 = [y1, y2]) := Lib.hid ⟨_, rfl⟩
      obtain ⟨P1, hP1⟩ := hpair2.out
      obtain ⟨Q1, hQ1⟩ : ∃ Q1 : List UInt8, Q1 = [92, 88] ++ P1 := ⟨_, rfl⟩
      obtain ⟨Q2, hQ2⟩ : ∃ Q2 : List UInt8, Q2 = Q1 ++ [92] := ⟨_, rfl⟩
      obtain ⟨N1, hN1⟩ : ∃ N1 : List UInt8, N1 = hs ++ P1 := ⟨_, rfl⟩
      obtain ⟨N2, hN2⟩ : ∃ N2 : List UInt8, N2 = es ++ Q2 := ⟨_, rfl⟩
      rw [← hP1] at Hh He
      rw [← hQ1, ← hQ2, ← hN2] at He
      rw [← hN1] at Hh
      have hpr : ∀ w : World, (convert 31 9 (.slice (some ⟨w.heap.size, 0, none⟩) 2 2)).run Tryd.prog (w.alloc (.cells #[.int .u8 (y1.toNat : Int), .int .u8 (y2.toNat : Int)] 5)).drew = .ok (.string (Sp.bs P1)) (w.alloc (.cells #[.int .u8 (y1.toNat : Int), .int .u8 (y2.toNat : Int)] 5)).drew := fun w => by rw [hP1]; exact hpair w y1 y2
      have z3 : (Sp.bs P1).size = 2 := by rw [Sp.bs_size, hP1]; rfl
      have z4 : (Sp.bs Q1).size = 4 := by rw [Sp.bs_size, hQ1, hP1]; rfl
      have z5 : (Sp.bs Q2).size = 5 := by rw [Sp.bs_size, hQ2, hQ1, hP1]; rfl
      have a1 : Sp.bs hs ++ Sp.bs P1 = Sp.bs N1 := by rw [hN1]; exact Sp.bs_append _ _
      have a2 : (⟨#[92, 88]⟩ : ByteArray) ++ Sp.bs P1 = Sp.bs Q1 := by rw [hQ1]; exact Sp.bs_append [92, 88] _
      have a3 : Sp.bs Q1 ++ (⟨#[92]⟩ : ByteArray) = Sp.bs Q2 := by rw [hQ2]; exact Sp.bs_append _ [92]
      have a4 : Sp.bs es ++ Sp.bs Q2 = Sp.bs N2 := by rw [hN2]; exact Sp.bs_append _ _
      have z1 := Sp.bs_size hs
      have z2 := Sp.bs_size es
      have l1 : hs.length ≤ 600 := by omega
      have l2 : es.length ≤ 1500 := by omega
      clear hP1 hQ1 hQ2 hN1 hN2 hpair2 hpair
      clear hc hx htk hl1 hl2 htl
      go_wp2_with fail
      go_region
      go_wp2_with fail
      go_roundw
      case rel => exact ⟨k + 1, by omega, by go_num, by rw [Hh.out], by rw [He.out], (hB3.out.alloc hB3.out.size _).drew⟩
      case measure => simp [intOf]; omega
    · obtain rfl : k = b.length := by omega
      have c1 : ¬ (b.length : Int) < (b.length : Int) := by omega
      rw [List.take_length]
      have hah := Sp.clean_free Hcl.out
      have hl1 := Sp.hexs_len b
      have hl2 := Sp.each_len b
      have D1 := Sp.dec_all hah Hb0.out
      have D2 := Sp.dec_each (b := b) hah
      have D3 := Sp.dec_odd (b := b) hah
      have D4 := Sp.dec_empty hah
      have D5 := Sp.dec_open (b := b) hah
      have B1 := fun w hm => decP_calls (ah ++ [92, 88] ++ Sp.hexs b ++ [92]) (by simp; omega) w hm
      have B2 := fun w hm => decP_calls (ah ++ Sp.each b) (by simp; omega) w hm
      have B3 := fun w hm => decP_calls (ah ++ [92, 88] ++ Sp.hexs b ++ [48, 92]) (by simp; omega) w hm
      have B4 := fun w hm => decP_calls (ah ++ [92, 88, 92]) (by simp; omega) w hm
      have B5 := fun w hm => decP_calls (ah ++ [92, 88] ++ Sp.hexs b) (by simp; omega) w hm
      rw [D1] at B1
      rw [D2] at B2
      rw [D3] at B3
      rw [D4] at B4
      rw [D5] at B5
      have H1 := Lib.hid B1
      have H2 := Lib.hid B2
      have H3 := Lib.hid B3
      have H4 := Lib.hid B4
      have H5 := Lib.hid B5
      clear B1 B2 B3 B4 B5 D1 D2 D3 D4 D5 hah
      generalize Sp.hexs b = hs at *
      generalize Sp.each b = es at *
      have t2 : ∃ T2 : List UInt8, T2 = ah ++ [92, 88] := ⟨_, rfl⟩
      obtain ⟨T2, hT2⟩ := t2
      obtain ⟨T3, hT3⟩ : ∃ T3 : List UInt8, T3 = T2 ++ hs := ⟨_, rfl⟩
      obtain ⟨T4, hT4⟩ : ∃ T4 : List UInt8, T4 = T3 ++ [92] := ⟨_, rfl⟩
      obtain ⟨T5, hT5⟩ : ∃ T5 : List UInt8, T5 = ah ++ es := ⟨_, rfl⟩
      obtain ⟨T6, hT6⟩ : ∃ T6 : List UInt8, T6 = T3 ++ [48, 92] := ⟨_, rfl⟩
      obtain ⟨T7, hT7⟩ : ∃ T7 : List UInt8, T7 = ah ++ [92, 88, 92] := ⟨_, rfl⟩
      obtain ⟨T8, hT8⟩ : ∃ T8 : List UInt8, T8 = ah ++ b := ⟨_, rfl⟩
      rw [← hT2, ← hT3] at H1 H3 H5
      rw [← hT4, ← hT8] at H1
      rw [← hT6] at H3
      rw [← hT5, ← hT8] at H2
      rw [← hT7] at H4
      have a1 : Sp.bs ah ++ (⟨#[92, 88]⟩ : ByteArray) = Sp.bs T2 := by rw [hT2]; exact Sp.bs_append _ [92, 88]
      have a2 : Sp.bs T2 ++ Sp.bs hs = Sp.bs T3 := by rw [hT3]; exact Sp.bs_append _ _
      have a3 : Sp.bs T3 ++ (⟨#[92]⟩ : ByteArray) = Sp.bs T4 := by rw [hT4]; exact Sp.bs_append _ [92]
      have a4 : Sp.bs ah ++ Sp.bs es = Sp.bs T5 := by rw [hT5]; exact Sp.bs_append _ _
      have a5 : Sp.bs T3 ++ (⟨#[48, 92]⟩ : ByteArray) = Sp.bs T6 := by rw [hT6]; exact Sp.bs_append _ [48, 92]
      have a6 : Sp.bs ah ++ (⟨#[92, 88, 92]⟩ : ByteArray) = Sp.bs T7 := by rw [hT7]; exact Sp.bs_append _ [92, 88, 92]
      have a7 : Sp.bs ah ++ Sp.bs b = Sp.bs T8 := by rw [hT8]; exact Sp.bs_append _ _
      have z1 := Sp.bs_size hs
      have z2 := Sp.bs_size es
      have z3 := Sp.bs_size T2
      have z4 := Sp.bs_size T3
      have z5 := Sp.bs_size b
      have l3 : T2.length ≤ 302 := by rw [hT2, List.length_append]; simp; omega
      have l1 : hs.length ≤ 600 := by omega
      have l4 : T3.length ≤ 902 := by rw [hT3, List.length_append]; omega
      have l2 : es.length ≤ 1500 := by omega
      clear hT2 hT3 hT4 hT5 hT6 hT7 hT8
      have he : ((Sp.bs T8).toList == (Sp.bs T8).toList) = true := by simp
      clear hl1 hl2
      go_wp2_with fail
      refine (plain_calls _).mono ?_
      rintro e v0 ⟨rfl, b1⟩
      have p0 := Lib.hid (step hB3.out b1)
      have m0 := Lib.hid (Hml.out.below p0.out)
      clear b1 hB3
      go_wp2_with fail
      refine (H1.out _ m0.out).mono ?_
      rintro e u0 ⟨rfl, b2⟩
      have q0 := Lib.hid (step p0.out b2)
      clear b2 p0 m0
      unfold Sp.decV
      go_wp2_with fail
      refine (plain_calls _).mono ?_
      rintro e v1 ⟨rfl, b1⟩
      have p1 := Lib.hid (step q0.out b1)
      have m1 := Lib.hid (Hml.out.below p1.out)
      clear b1 q0
      go_wp2_with fail
      refine (H2.out _ m1.out).mono ?_
      rintro e u1 ⟨rfl, b2⟩
      have q1 := Lib.hid (step p1.out b2)
      clear b2 p1 m1
      unfold Sp.decV
      go_wp2_with fail
      refine (plain_calls _).mono ?_
      rintro e v2 ⟨rfl, b1⟩
      have p2 := Lib.hid (step q1.out b1)
      have m2 := Lib.hid (Hml.out.below p2.out)
      clear b1 q1
      go_wp2_with fail
      refine (H3.out _ m2.out).mono ?_
      rintro e u2 ⟨rfl, b2⟩
      have q2 := Lib.hid (step p2.out b2)
      clear b2 p2 m2
      unfold Sp.decV
      go_wp2_with fail
      refine (plain_calls _).mono ?_
      rintro e v3 ⟨rfl, b1⟩
      have p3 := Lib.hid (step q2.out b1)
      have m3 := Lib.hid (Hml.out.below p3.out)
      clear b1 q2
      go_wp2_with fail
      refine (H4.out _ m3.out).mono ?_
      rintro e u3 ⟨rfl, b2⟩
      have q3 := Lib.hid (step p3.out b2)
      clear b2 p3 m3
      unfold Sp.decV
      go_wp2_with fail
      refine (plain_calls _).mono ?_
      rintro e v4 ⟨rfl, b1⟩
      have p4 := Lib.hid (step q3.out b1)
      have m4 := Lib.hid (Hml.out.below p4.out)
      clear b1 q3
      go_wp2_with fail
      refine (H5.out _ m4.out).mono ?_
      rintro e u4 ⟨rfl, b2⟩
      have q4 := Lib.hid (step p4.out b2)
      clear b2 p4 m4
      unfold Sp.decV
      have m9 := Lib.hid (Hml.out.below q4.out)
      go_wp2_with fail
      refine (alive_calls _ m9.out).mono ?_
      rintro e v9 ⟨rfl, b1⟩
      have q9 := Lib.hid (step q4.out b1)
      have hcv := (Hby.out.below q9.out).conv
      clear b1 q4 m9
      go_wp2_with fail
      go_ret
      exact ⟨rfl, q9.out⟩
set_option maxRecDepth 100000 in
theorem ebytes_many (ah : List UInt8) (A : Option Addr) (n c : Nat) (w : World) (hn : n ≤ 140737488351232) (h : 300 < n) (hml : Ml w) :
    Calls Tryd.prog 4 #[.slice A n c, .string (Sp.bs ah)] w fun e w' => e = .returned (.bool true) ∧ Below w.heap.size w w' := by
  have h1 : (300 : Int) < (n : Int) := by omega
  have Hml := Lib.hid hml
  clear hml h hn
  go_enter Tryd.func4, Tryd.ntmps4
  go_wp2_with fail
  refine (alive_calls _ Hml.out).mono ?_
  rintro e w1 ⟨rfl, b1⟩
  go_wp2_with fail
  go_ret
  exact ⟨rfl, b1⟩
set_option maxRecDepth 100000 in
theorem ebytes_long (ah : List UInt8) (A : Option Addr) (n c : Nat) (w : World) (h : n ≤ 300) (hz2 : ah.length ≤ 140737488351232) (ha : 300 < ah.length) (hml : Ml w) :
    Calls Tryd.prog 4 #[.slice A n c, .string (Sp.bs ah)] w fun e w' => e = .returned (.bool true) ∧ Below w.heap.size w w' := by
  have hz := Sp.bs_size ah
  have h1 : ¬ (300 : Int) < (n : Int) := by omega
  have h2 : (300 : Int) < (ah.length : Int) := by omega
  have Hml := Lib.hid hml
  clear hml
  go_enter Tryd.func4, Tryd.ntmps4
  go_wp2_with fail
  refine (alive_calls _ Hml.out).mono ?_
  rintro e w1 ⟨rfl, b1⟩
  go_wp2_with fail
  go_ret
  exact ⟨rfl, b1⟩
set_option maxRecDepth 100000 in
theorem ebytes_none (ah : List UInt8) (A : Option Addr) (c : Nat) (w : World) (ha : ah.length ≤ 300) (hml : Ml w) :
    Calls Tryd.prog 4 #[.slice A 0 c, .string (Sp.bs ah)] w fun e w' => e = .returned (.bool true) ∧ Below w.heap.size w w' := by
  have hz := Sp.bs_size ah
  have h2 : ¬ (300 : Int) < (ah.length : Int) := by omega
  have Hml := Lib.hid hml
  clear hml
  go_enter Tryd.func4, Tryd.ntmps4
  go_wp2_with fail
  refine (alive_calls _ Hml.out).mono ?_
  rintro e w1 ⟨rfl, b1⟩
  go_wp2_with fail
  go_ret
  exact ⟨rfl, b1⟩
set_option maxRecDepth 100000 in
theorem ebytes_foul (ah : List UInt8) (A : Option Addr) (n c : Nat) (w : World) (h : n ≤ 300) (h0 : 0 < n) (ha : ah.length ≤ 300) (hcl : Sp.clean 124 94 126 92 38 ah = false) (hml : Ml w) :
    Calls Tryd.prog 4 #[.slice A n c, .string (Sp.bs ah)] w fun e w' => e = .returned (.bool true) ∧ Below w.heap.size w w' := by
  have hz := Sp.bs_size ah
  have h1 : ¬ (300 : Int) < (n : Int) := by omega
  have h2 : ¬ (300 : Int) < (ah.length : Int) := by omega
  have h3 : ((n : Int) == 0) = false := by rw [beq_eq_false_iff_ne]; omega
  have h3' : ¬ ((n : Int) = 0) := by omega
  have Hc := Lib.hid (cleanP_calls ah (by omega))
  rw [hcl] at Hc
  have Hml := Lib.hid hml
  clear hml hcl
  go_enter Tryd.func4, Tryd.ntmps4
  go_wp2_with fail
  refine (plain_calls _).mono ?_
  rintro e w1 ⟨rfl, b1⟩
  have k1 := Lib.hid b1
  clear b1
  go_wp2_with fail
  refine (Hc.out _).mono ?_
  rintro e w2 ⟨rfl, b2⟩
  have k2 := Lib.hid (step k1.out b2)
  have m2 := Lib.hid (Hml.out.below k2.out)
  clear b2 k1 Hc
  go_wp2_with fail
  refine (alive_calls _ m2.out).mono ?_
  rintro e w3 ⟨rfl, b3⟩
  go_wp2_with fail
  go_ret
  exact ⟨rfl, step k2.out b3⟩
theorem ebytes_at (A : Option Addr) (n c : Nat) (xs : List Int) (s : ByteArray) (w : World) (hb : Opn.Bytes w A n c xs) (hs : s.size ≤ 140737488351232) (hml : Ml w) :
    Calls Tryd.prog 4 #[.slice A n c, .string s] w fun e w' => e = .returned (.bool true) ∧ Below w.heap.size w w' := by
  rw [← Sp.bs_data s]
  have hz : s.data.toList.length = s.size := by rw [Array.length_toList]; rfl
  obtain ⟨b, hby⟩ := By.of hb
  have hl := hby.len
  by_cases h : 300 < n
  · exact ebytes_many _ A n c w hb.small h hml
  by_cases h2 : 300 < s.data.toList.length
  · exact ebytes_long _ A n c w (by omega) (by omega) h2 hml
  by_cases h0 : n = 0
  · subst h0
    exact ebytes_none _ A c w (by omega) hml
  cases hcl : Sp.clean 124 94 126 92 38 s.data.toList with
  | false => exact ebytes_foul _ A n c w (by omega) (by omega) (by omega) hcl hml
  | true =>
    subst hl
    exact ebytes_in b _ A c w (by omega) (fun e => h0 (by rw [e]; rfl)) (by omega) hcl hby hml
end Es
end Go.Proofs.YtkiloebfjooogaaDoor
