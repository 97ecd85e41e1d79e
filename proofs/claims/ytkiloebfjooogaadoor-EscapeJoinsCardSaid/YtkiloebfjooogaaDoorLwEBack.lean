/-
  A part of the proof of this seat's laws: EscapeBack.
-/
import Derived.Test.YtkiloebfjooogaaDoorAl7
namespace Go.Proofs.YtkiloebfjooogaaDoor
set_option linter.unusedVariables false
set_option linter.unusedSimpArgs false
open Go.RowKit Go.Shelf
namespace Es
open Ap Mp Sg
set_option maxHeartbeats 8000000
theorem eback_long (s : List UInt8) (F P R E U : UInt8) (w : World) (hs : 2000 < s.length) (hm : s.length ≤ 140737488351232) (hml : Ml w) :
    Calls Tryd.prog 3 #[.string (Sp.bs s), dv F P R E U] w fun e w' => e = .returned (.bool true) ∧ Below w.heap.size w w' := by
  have huD := Tryd.underlying23
  have hz := Sp.bs_size s
  have h1 : (2000 : Int) < (s.length : Int) := by omega
  have hB0 : Below w.heap.size w (w.alloc (.cells #[.int .u8 (F.toNat : Int), .int .u8 (P.toNat : Int), .int .u8 (R.toNat : Int), .int .u8 (E.toNat : Int), .int .u8 (U.toNat : Int)] 23)) := (Below.refl _ _).alloc (Nat.le_refl _) _
  have hm0 := Lib.hid (hml.below hB0)
  clear hml
  go_enter Tryd.func3, Tryd.ntmps3
  go_wp2_with fail
  refine (alive_calls _ hm0.out).mono ?_
  rintro e w1 ⟨rfl, b1⟩
  go_wp2_with fail
  go_ret
  exact ⟨rfl, step hB0 b1⟩
theorem eback_no (s : List UInt8) (F P R E U : UInt8) (hr : rtB F P R E U = false) (w : World) (hs : s.length ≤ 2000) (hml : Ml w) :
    Calls Tryd.prog 3 #[.string (Sp.bs s), dv F P R E U] w fun e w' => e = .returned (.bool true) ∧ Below w.heap.size w w' := by
  have huD := Tryd.underlying23
  have hz := Sp.bs_size s
  have h1 : ¬ (2000 : Int) < (s.length : Int) := by omega
  have hB0 : Below w.heap.size w (w.alloc (.cells #[.int .u8 (F.toNat : Int), .int .u8 (P.toNat : Int), .int .u8 (R.toNat : Int), .int .u8 (E.toNat : Int), .int .u8 (U.toNat : Int)] 23)) := (Below.refl _ _).alloc (Nat.le_refl _) _
  have hm0 := Lib.hid (hml.below hB0)
  have f0 := Dl.Five.new (F.toNat : Int) (P.toNat : Int) (R.toNat : Int) (E.toNat : Int) (U.toNat : Int) w
  have hc0 := f0.cells
  have He := Lib.hid (encode_no s F P R E U hr)
  clear hml hr
  go_enter Tryd.func3, Tryd.ntmps3
  go_wp2_with fail
  refine (He.out _).mono ?_
  rintro e w1 ⟨rfl, b1⟩
  have hB1 := Lib.hid (step hB0 b1)
  have hm1 := Lib.hid (hm0.out.below b1)
  clear b1 hc0 hB0 hm0 f0
  go_wp2_with fail
  refine (alive_calls _ hm1.out).mono ?_
  rintro e w2 ⟨rfl, b2⟩
  have hB2 := Lib.hid (step hB1.out b2)
  clear b2 hB1 hm1
  go_wp2_with fail
  go_ret
  exact ⟨rfl, hB2.out⟩
set_option maxRecDepth 100000 in
theorem eback_in (s : List UInt8) (F P R E U : UInt8) (hr : rtB F P R E U = true) (w : World) (hs : s.length ≤ 2000) (hml : Ml w) :
    Calls Tryd.prog 3 #[.string (Sp.bs s), dv F P R E U] w fun e w' => e = .returned (.bool true) ∧ Below w.heap.size w w' := by
  have huD := Tryd.underlying23
  have hz := Sp.bs_size s
  have h1 : ¬ (2000 : Int) < (s.length : Int) := by omega
  have hB0 : Below w.heap.size w (w.alloc (.cells #[.int .u8 (F.toNat : Int), .int .u8 (P.toNat : Int), .int .u8 (R.toNat : Int), .int .u8 (E.toNat : Int), .int .u8 (U.toNat : Int)] 23)) := (Below.refl _ _).alloc (Nat.le_refl _) _
  have hm0 := Lib.hid (hml.below hB0)
  have f0 := Dl.Five.new (F.toNat : Int) (P.toNat : Int) (R.toNat : Int) (E.toNat : Int) (U.toNat : Int) w
  have hc0 := f0.cells
  have rt := Sp.rt_of hr
  have He := Lib.hid (encode_yes s (by omega) F P R E U hr)
  have hal := (Sp.enc_len F P R E U s).2
  have Hd := Lib.hid (fun w hm => decode_yes (Sp.enc F P R E U s) (by omega) F P R E U hr w hm)
  rw [Sp.dec_back rt s] at Hd
  have Hc := Lib.hid (clean_calls s (by omega) F P R E U)
  have Hci := Lib.hid (Sp.clean_iff F P R E U s)
  have Hfree := Lib.hid (Sp.enc_free rt s)
  generalize Sp.enc F P R E U s = a at *
  generalize Sp.clean F P R E U s = cl at *
  have hza := Sp.bs_size a
  clear hml hr rt
  go_enter Tryd.func3, Tryd.ntmps3
  go_wp2_with fail
  refine (He.out _).mono ?_
  rintro e w1 ⟨rfl, b1⟩
  have hB1 := Lib.hid (step hB0 b1)
  have hm1 := Lib.hid (hm0.out.below b1)
  have f1 := Lib.hid (f0.below b1 f0.lt)
  clear b1 hc0 hB0 hm0 f0
  go_wp2_with fail
  go_loop [7, 8, 31] (fun _ _ i => ∃ k : Nat, k ≤ a.length ∧ i = .int .i64 k) (fun _ _ i => a.length - (intOf i).toNat)
  case atStart => exact ⟨0, by omega, rfl⟩
  case round =>
    obtain ⟨k, hk, rfl⟩ := hrel
    by_cases hlt : k < a.length
    · obtain ⟨c, hc⟩ : ∃ c, a[k]? = some c := ⟨_, List.getElem?_eq_getElem hlt⟩
      have hck := bs_at hc
      have c0 : (0 : Int) ≤ (k : Int) := by omega
      have c1 : (k : Int) < (a.length : Int) := by omega
      have hw1 : IntKind.i64.wrap ((k : Int) + 1) = (k : Int) + 1 := IntWalk.i64_in _ (by omega)
      obtain ⟨n1, n2, n3, n4, n5, n6, n7⟩ := Hfree.out c (List.mem_of_getElem? hc)
      have key : ∀ v : UInt8, c ≠ v → ((c.toNat : Int) == (v.toNat : Int)) = false := fun v hv => by
        rw [beq_eq_false_iff_ne]; intro e; exact hv (UInt8.toNat_inj.1 (by omega))
      have q1 := key F n1
      have q2 := key P n2
      have q3 := key R n3
      have q4 := key U n4
      have q5 : ((c.toNat : Int) == 11) = false := key 11 n5
      have q6 : ((c.toNat : Int) == 13) = false := key 13 n6
      have q7 : ((c.toNat : Int) == 28) = false := key 28 n7
      have hc1 := f1.out.cells
      clear key n1 n2 n3 n4 n5 n6 n7 hc
      go_wp2_with fail
      go_round
      case rel => exact ⟨k + 1, by omega, by go_num⟩
      case measure => simp [intOf]; omega
    · obtain rfl : k = a.length := by omega
      have c1 : ¬ (a.length : Int) < (a.length : Int) := by omega
      have hc1 := f1.out.cells
      go_wp2_with fail
      refine (Hd.out _ hm1.out).mono ?_
      rintro e w2 ⟨rfl, b2⟩
      have hB2 := Lib.hid (step hB1.out b2)
      have hm2 := Lib.hid (hm1.out.below b2)
      have f2 := Lib.hid (f1.out.below b2 f1.out.lt)
      clear b2 hB1 hm1 f1 hc1
      unfold Sp.decV
      go_wp2_with fail
      refine (alive_calls _ hm2.out).mono ?_
      rintro e w3 ⟨rfl, b3⟩
      have hB3 := Lib.hid (step hB2.out b3)
      have f3 := Lib.hid (f2.out.below b3 f2.out.lt)
      have hc3 := f3.out.cells
      have he1 : ((Sp.bs s).toList == (Sp.bs s).toList) = true := by simp
      clear b3 hB2 hm2 f2
      go_wp2_with fail
      refine (Hc.out _).mono ?_
      rintro e w4 ⟨rfl, b4⟩
      have hB4 := Lib.hid (step hB3.out b4)
      clear b4 hB3 f3 hc3
      have he2 : ((Sp.bs a).toList == (Sp.bs s).toList) = cl := by
        rw [Sp.bs_toList, Sp.bs_toList]
        have := Hci.out
        cases cl with
        | true => rw [beq_iff_eq]; exact this.1 rfl
        | false =>
          rw [beq_eq_false_iff_ne]
          intro e
          exact absurd (this.2 e) (by decide)
      have he3 : (cl == cl) = true := by simp
      clear Hci
      go_wp2_with fail
      go_ret
      exact ⟨rfl, hB4.out⟩
theorem byte_of {a : Int} (h : 0 ≤ a ∧ a ≤ 255) : ∃ x : UInt8, a = (x.toNat : Int) := ⟨UInt8.ofNat a.toNat, by simp [UInt8.toNat_ofNat]; omega⟩
theorem eback_at (s : ByteArray) (a b c d f : Int) (w : World) (hs : s.size ≤ 140737488351232) (ha : 0 ≤ a ∧ a ≤ 255) (hb : 0 ≤ b ∧ b ≤ 255) (hc : 0 ≤ c ∧ c ≤ 255) (hd : 0 ≤ d ∧ d ≤ 255) (hf : 0 ≤ f ∧ f ≤ 255) (hml : Ml w) :
    Calls Tryd.prog 3 #[.string s, .agg #[.int .u8 a, .int .u8 b, .int .u8 c, .int .u8 d, .int .u8 f]] w fun e w' => e = .returned (.bool true) ∧ Below w.heap.size w w' := by
  obtain ⟨F, rfl⟩ := byte_of ha
  obtain ⟨P, rfl⟩ := byte_of hb
  obtain ⟨R, rfl⟩ := byte_of hc
  obtain ⟨E, rfl⟩ := byte_of hd
  obtain ⟨U, rfl⟩ := byte_of hf
  rw [← Sp.bs_data s]
  have hz : s.data.toList.length = s.size := by rw [Array.length_toList]; rfl
  by_cases h : 2000 < s.data.toList.length
  · exact eback_long _ F P R E U w h (by omega) hml
  · cases hr : rtB F P R E U with
    | false => exact eback_no _ F P R E U hr w (by omega) hml
    | true => exact eback_in _ F P R E U hr w (by omega) hml
end Es
end Go.Proofs.YtkiloebfjooogaaDoor
