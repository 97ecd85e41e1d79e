/-
  A part of the proof of this seat's laws: EscapeJoins.
-/
import Derived.Test.YtkiloebfjooogaaDoorEp9
import Derived.Test.YtkiloebfjooogaaDoorLwEBack
namespace Go.Proofs.YtkiloebfjooogaaDoor
set_option linter.unusedVariables false
set_option linter.unusedSimpArgs false
open Go.RowKit Go.Shelf
namespace Es
open Ap Mp Sg
set_option maxHeartbeats 8000000
theorem ejoins_long (s t : List UInt8) (F P R E U : UInt8) (w : World) (hs : s.length ≤ 140737488351232) (ht : t.length ≤ 140737488351232) (h : 800 < s.length) (hml : Ml w) :
    Calls Tryd.prog 6 #[.string (Sp.bs s), .string (Sp.bs t), dv F P R E U] w fun e w' => e = .returned (.bool true) ∧ Below w.heap.size w w' := by
  have huD := Tryd.underlying23
  have hz := Sp.bs_size s
  have hzt := Sp.bs_size t
  have hB0 : Below w.heap.size w (w.alloc (.cells #[.int .u8 (F.toNat : Int), .int .u8 (P.toNat : Int), .int .u8 (R.toNat : Int), .int .u8 (E.toNat : Int), .int .u8 (U.toNat : Int)] 23)) := (Below.refl _ _).alloc (Nat.le_refl _) _
  have hm0 := Lib.hid (hml.below hB0)
  have f0 := Lib.hid (Dl.Five.new (F.toNat : Int) (P.toNat : Int) (R.toNat : Int) (E.toNat : Int) (U.toNat : Int) w)
  have k0 := Lib.hid hB0
  have h1 : (800 : Int) < (s.length : Int) := by omega
  clear hml hB0
  go_enter Tryd.func6, Tryd.ntmps6
  have hc0 := f0.out.cells
  go_wp2_with fail
  refine (alive_calls _ hm0.out).mono ?_
  rintro e v0 ⟨rfl, b⟩
  have k1 := Lib.hid (step k0.out b)
  have m1 := Lib.hid (hm0.out.below b)
  have hm1 := m1
  have f1 := Lib.hid (Dl.Five.below f0.out b f0.out.lt)
  clear b hc0 k0 hm0 m1 f0
  go_wp2_with fail
  go_ret
  exact ⟨rfl, k1.out⟩
theorem ejoins_long2 (s t : List UInt8) (F P R E U : UInt8) (w : World) (hs : s.length ≤ 800) (ht : t.length ≤ 140737488351232) (h : 800 < t.length) (hml : Ml w) :
    Calls Tryd.prog 6 #[.string (Sp.bs s), .string (Sp.bs t), dv F P R E U] w fun e w' => e = .returned (.bool true) ∧ Below w.heap.size w w' := by
  have huD := Tryd.underlying23
  have hz := Sp.bs_size s
  have hzt := Sp.bs_size t
  have hB0 : Below w.heap.size w (w.alloc (.cells #[.int .u8 (F.toNat : Int), .int .u8 (P.toNat : Int), .int .u8 (R.toNat : Int), .int .u8 (E.toNat : Int), .int .u8 (U.toNat : Int)] 23)) := (Below.refl _ _).alloc (Nat.le_refl _) _
  have hm0 := Lib.hid (hml.below hB0)
  have f0 := Lib.hid (Dl.Five.new (F.toNat : Int) (P.toNat : Int) (R.toNat : Int) (E.toNat : Int) (U.toNat : Int) w)
  have k0 := Lib.hid hB0
  have h1 : ¬ (800 : Int) < (s.length : Int) := by omega
  have h2 : (800 : Int) < (t.length : Int) := by omega
  clear hml hB0
  go_enter Tryd.func6, Tryd.ntmps6
  have hc0 := f0.out.cells
  go_wp2_with fail
  refine (alive_calls _ hm0.out).mono ?_
  rintro e v0 ⟨rfl, b⟩
  have k1 := Lib.hid (step k0.out b)
  have m1 := Lib.hid (hm0.out.below b)
  have hm1 := m1
  have f1 := Lib.hid (Dl.Five.below f0.out b f0.out.lt)
  clear b hc0 k0 hm0 m1 f0
  go_wp2_with fail
  go_ret
  exact ⟨rfl, k1.out⟩
theorem ejoins_no (s t : List UInt8) (F P R E U : UInt8) (hr : rtB F P R E U = false) (w : World) (hs : s.length ≤ 800) (ht : t.length ≤ 800) (hml : Ml w) :
    Calls Tryd.prog 6 #[.string (Sp.bs s), .string (Sp.bs t), dv F P R E U] w fun e w' => e = .returned (.bool true) ∧ Below w.heap.size w w' := by
  have huD := Tryd.underlying23
  have hz := Sp.bs_size s
  have hzt := Sp.bs_size t
  have hB0 : Below w.heap.size w (w.alloc (.cells #[.int .u8 (F.toNat : Int), .int .u8 (P.toNat : Int), .int .u8 (R.toNat : Int), .int .u8 (E.toNat : Int), .int .u8 (U.toNat : Int)] 23)) := (Below.refl _ _).alloc (Nat.le_refl _) _
  have hm0 := Lib.hid (hml.below hB0)
  have f0 := Lib.hid (Dl.Five.new (F.toNat : Int) (P.toNat : Int) (R.toNat : Int) (E.toNat : Int) (U.toNat : Int) w)
  have k0 := Lib.hid hB0
  have h1 : ¬ (800 : Int) < (s.length : Int) := by omega
  have h2 : ¬ (800 : Int) < (t.length : Int) := by omega
  obtain ⟨st, hst⟩ : ∃ st, st = s ++ t := ⟨_, rfl⟩
  have hstl : st.length = s.length + t.length := by rw [hst, List.length_append]
  have ha : Sp.bs s ++ Sp.bs t = Sp.bs st := by rw [hst]; exact Sp.bs_append _ _
  have He := Lib.hid (fun s => encode_no s F P R E U hr)
  have Hd := Lib.hid (fun s => decode_no s F P R E U hr)
  have e0 : (⟨#[]⟩ : ByteArray) ++ (⟨#[]⟩ : ByteArray) = ⟨#[]⟩ := rfl
  clear hml hB0 hr hst hstl
  go_enter Tryd.func6, Tryd.ntmps6
  have hc0 := f0.out.cells
  go_wp2_with fail
  refine (He.out _ _).mono ?_
  rintro e v0 ⟨rfl, b⟩
  have k1 := Lib.hid (step k0.out b)
  have m1 := Lib.hid (hm0.out.below b)
  have hm1 := m1
  have f1 := Lib.hid (Dl.Five.below f0.out b f0.out.lt)
  clear b hc0 k0 hm0 m1 f0
  have hc1 := f1.out.cells
  go_wp2_with fail
  refine (He.out _ _).mono ?_
  rintro e v1 ⟨rfl, b⟩
  have k2 := Lib.hid (step k1.out b)
  have m2 := Lib.hid (hm1.out.below b)
  have hm2 := m2
  have f2 := Lib.hid (Dl.Five.below f1.out b f1.out.lt)
  clear b hc1 k1 hm1 m2 f1
  have hc2 := f2.out.cells
  go_wp2_with fail
  refine (He.out _ _).mono ?_
  rintro e v2 ⟨rfl, b⟩
  have k3 := Lib.hid (step k2.out b)
  have m3 := Lib.hid (hm2.out.below b)
  have hm3 := m3
  have f3 := Lib.hid (Dl.Five.below f2.out b f2.out.lt)
  clear b hc2 k2 hm2 m3 f2
  have hc3 := f3.out.cells
  go_wp2_with fail
  refine (alive_calls _ hm3.out).mono ?_
  rintro e v3 ⟨rfl, b⟩
  have k4 := Lib.hid (step k3.out b)
  have m4 := Lib.hid (hm3.out.below b)
  have hm4 := m4
  have f4 := Lib.hid (Dl.Five.below f3.out b f3.out.lt)
  clear b hc3 k3 hm3 m4 f3
  have hc4 := f4.out.cells
  go_wp2_with fail
  refine (Hd.out _ _).mono ?_
  rintro e v4 ⟨rfl, b⟩
  have k5 := Lib.hid (step k4.out b)
  have m5 := Lib.hid (hm4.out.below b)
  have hm5 := m5
  have f5 := Lib.hid (Dl.Five.below f4.out b f4.out.lt)
  clear b hc4 k4 hm4 m5 f4
  have hc5 := f5.out.cells
  go_wp2_with fail
  refine (Hd.out _ _).mono ?_
  rintro e v5 ⟨rfl, b⟩
  have k6 := Lib.hid (step k5.out b)
  have m6 := Lib.hid (hm5.out.below b)
  have hm6 := m6
  have f6 := Lib.hid (Dl.Five.below f5.out b f5.out.lt)
  clear b hc5 k5 hm5 m6 f5
  go_wp2_with fail
  go_ret
  exact ⟨rfl, k6.out⟩
set_option maxRecDepth 100000 in
theorem ejoins_in (s t : List UInt8) (F P R E U : UInt8) (hr : rtB F P R E U = true) (w : World) (hs : s.length ≤ 800) (ht : t.length ≤ 800) (hml : Ml w) :
    Calls Tryd.prog 6 #[.string (Sp.bs s), .string (Sp.bs t), dv F P R E U] w fun e w' => e = .returned (.bool true) ∧ Below w.heap.size w w' := by
  have huD := Tryd.underlying23
  have hz := Sp.bs_size s
  have hzt := Sp.bs_size t
  have hB0 : Below w.heap.size w (w.alloc (.cells #[.int .u8 (F.toNat : Int), .int .u8 (P.toNat : Int), .int .u8 (R.toNat : Int), .int .u8 (E.toNat : Int), .int .u8 (U.toNat : Int)] 23)) := (Below.refl _ _).alloc (Nat.le_refl _) _
  have hm0 := Lib.hid (hml.below hB0)
  have f0 := Lib.hid (Dl.Five.new (F.toNat : Int) (P.toNat : Int) (R.toNat : Int) (E.toNat : Int) (U.toNat : Int) w)
  have k0 := Lib.hid hB0
  have h1 : ¬ (800 : Int) < (s.length : Int) := by omega
  have h2 : ¬ (800 : Int) < (t.length : Int) := by omega
  obtain ⟨st, hst⟩ : ∃ st, st = s ++ t := ⟨_, rfl⟩
  have hstl : st.length = s.length + t.length := by rw [hst, List.length_append]
  have ha : Sp.bs s ++ Sp.bs t = Sp.bs st := by rw [hst]; exact Sp.bs_append _ _
  have He := Lib.hid (fun s hs => encode_yes s hs F P R E U hr)
  have Hd := Lib.hid (fun s hs w hm => decode_yes s hs F P R E U hr w hm)
  have l1 := Sp.enc_len F P R E U s
  have l2 := Sp.enc_len F P R E U t
  have happ := Sp.enc_app (F := F) (P := P) (R := R) (E := E) (U := U) s t
  rw [← hst] at happ
  obtain ⟨a, hA⟩ : ∃ a, a = Sp.enc F P R E U s := ⟨_, rfl⟩
  obtain ⟨b, hB⟩ : ∃ b, b = Sp.enc F P R E U t := ⟨_, rfl⟩
  obtain ⟨c, hC⟩ : ∃ c, c = Sp.enc F P R E U st := ⟨_, rfl⟩
  have He1 := He.out s (by omega)
  have He2 := He.out t (by omega)
  have He3 := He.out st (by omega)
  rw [← hA] at He1 l1
  rw [← hB] at He2 l2
  rw [← hC] at He3
  rw [← hA, ← hB, ← hC] at happ
  have H1 := Lib.hid He1
  have H2 := Lib.hid He2
  have H3 := Lib.hid He3
  have a1 : Sp.bs a ++ Sp.bs b = Sp.bs c := by rw [happ]; exact Sp.bs_append _ _
  have a2 : ((Sp.bs c).toList == (Sp.bs c).toList) = true := by simp
  have za := Sp.bs_size a
  have zb := Sp.bs_size b
  have D1 := Lib.hid (Hd.out s (by omega))
  have D2 := Lib.hid (Hd.out t (by omega))
  have D3 := Lib.hid (Hd.out st (by omega))
  have Hst := Lib.hid hst
  clear hml hB0 hr He1 He2 He3 He Hd happ hA hB hC hst
  go_enter Tryd.func6, Tryd.ntmps6
  have hc0 := f0.out.cells
  go_wp2_with fail
  refine (H1.out _).mono ?_
  rintro e v0 ⟨rfl, b⟩
  have k1 := Lib.hid (step k0.out b)
  have m1 := Lib.hid (hm0.out.below b)
  have hm1 := m1
  have f1 := Lib.hid (Dl.Five.below f0.out b f0.out.lt)
  clear b hc0 k0 hm0 m1 f0
  have hc1 := f1.out.cells
  go_wp2_with fail
  refine (H2.out _).mono ?_
  rintro e v1 ⟨rfl, b⟩
  have k2 := Lib.hid (step k1.out b)
  have m2 := Lib.hid (hm1.out.below b)
  have hm2 := m2
  have f2 := Lib.hid (Dl.Five.below f1.out b f1.out.lt)
  clear b hc1 k1 hm1 m2 f1
  have hc2 := f2.out.cells
  go_wp2_with fail
  refine (H3.out _).mono ?_
  rintro e v2 ⟨rfl, b⟩
  have k3 := Lib.hid (step k2.out b)
  have m3 := Lib.hid (hm2.out.below b)
  have hm3 := m3
  have f3 := Lib.hid (Dl.Five.below f2.out b f2.out.lt)
  clear b hc2 k2 hm2 m3 f2
  have hc3 := f3.out.cells
  go_wp2_with fail
  refine (alive_calls _ hm3.out).mono ?_
  rintro e v3 ⟨rfl, b⟩
  have k4 := Lib.hid (step k3.out b)
  have m4 := Lib.hid (hm3.out.below b)
  have hm4 := m4
  have f4 := Lib.hid (Dl.Five.below f3.out b f3.out.lt)
  clear b hc3 k3 hm3 m4 f3
  cases hx : Sp.dec F P R E U s with
  | error i =>
    rw [hx] at D1
    cases hy : Sp.dec F P R E U t with
    | error j =>
      rw [hy] at D2
      unfold Sp.decV at D1 D2
      have hc4 := f4.out.cells
      go_wp2_with fail
      refine (D1.out _ hm4.out).mono ?_
      rintro e v4 ⟨rfl, b⟩
      have k5 := Lib.hid (step k4.out b)
      have m5 := Lib.hid (hm4.out.below b)
      have hm5 := m5
      have f5 := Lib.hid (Dl.Five.below f4.out b f4.out.lt)
      clear b hc4 k4 hm4 m5 f4
      have hc5 := f5.out.cells
      go_wp2_with fail
      refine (D2.out _ hm5.out).mono ?_
      rintro e v5 ⟨rfl, b⟩
      have k6 := Lib.hid (step k5.out b)
      have m6 := Lib.hid (hm5.out.below b)
      have hm6 := m6
      have f6 := Lib.hid (Dl.Five.below f5.out b f5.out.lt)
      clear b hc5 k5 hm5 m6 f5
      go_wp2_with fail
      go_ret
      exact ⟨rfl, k6.out⟩
    | ok y =>
      rw [hy] at D2
      unfold Sp.decV at D1 D2
      have hc4 := f4.out.cells
      go_wp2_with fail
      refine (D1.out _ hm4.out).mono ?_
      rintro e v4 ⟨rfl, b⟩
      have k5 := Lib.hid (step k4.out b)
      have m5 := Lib.hid (hm4.out.below b)
      have hm5 := m5
      have f5 := Lib.hid (Dl.Five.below f4.out b f4.out.lt)
      clear b hc4 k4 hm4 m5 f4
      have hc5 := f5.out.cells
      go_wp2_with fail
      refine (D2.out _ hm5.out).mono ?_
      rintro e v5 ⟨rfl, b⟩
      have k6 := Lib.hid (step k5.out b)
      have m6 := Lib.hid (hm5.out.below b)
      have hm6 := m6
      have f6 := Lib.hid (Dl.Five.below f5.out b f5.out.lt)
      clear b hc5 k5 hm5 m6 f5
      go_wp2_with fail
      go_ret
      exact ⟨rfl, k6.out⟩
  | ok x =>
    rw [hx] at D1
    cases hy : Sp.dec F P R E U t with
    | error j =>
      rw [hy] at D2
      unfold Sp.decV at D1 D2
      have hc4 := f4.out.cells
      go_wp2_with fail
      refine (D1.out _ hm4.out).mono ?_
      rintro e v4 ⟨rfl, b⟩
      have k5 := Lib.hid (step k4.out b)
      have m5 := Lib.hid (hm4.out.below b)
      have hm5 := m5
      have f5 := Lib.hid (Dl.Five.below f4.out b f4.out.lt)
      clear b hc4 k4 hm4 m5 f4
      have hc5 := f5.out.cells
      go_wp2_with fail
      refine (D2.out _ hm5.out).mono ?_
      rintro e v5 ⟨rfl, b⟩
      have k6 := Lib.hid (step k5.out b)
      have m6 := Lib.hid (hm5.out.below b)
      have hm6 := m6
      have f6 := Lib.hid (Dl.Five.below f5.out b f5.out.lt)
      clear b hc5 k5 hm5 m6 f5
      go_wp2_with fail
      go_ret
      exact ⟨rfl, k6.out⟩
    | ok y =>
      have hxy := Sp.dec_app hx hy
      have lx := Sp.dec_len hx
      have ly := Sp.dec_len hy
      rw [← Hst.out] at hxy
      rw [hy] at D2
      rw [hxy] at D3
      obtain ⟨z, hz3⟩ : ∃ z, z = x ++ y := ⟨_, rfl⟩
      rw [← hz3] at D3
      unfold Sp.decV at D1 D2 D3
      have b1 : Sp.bs x ++ Sp.bs y = Sp.bs z := by rw [hz3]; exact Sp.bs_append _ _
      have b2 : ((Sp.bs z).toList == (Sp.bs z).toList) = true := by simp
      have zx := Sp.bs_size x
      have zy := Sp.bs_size y
      have hw1 : IntKind.i64.wrap ((s.length : Int) + (t.length : Int)) = (s.length : Int) + (t.length : Int) := IntWalk.i64_in _ (by omega)
      have hw2 : (st.length : Int) = (s.length : Int) + (t.length : Int) := by omega
      have hw3 : ((st.length : Int) == (s.length : Int) + (t.length : Int)) = true := by rw [hw2]; simp
      rw [hw2] at D3
      have hw4 : (((s.length : Int) + (t.length : Int)) == ((s.length : Int) + (t.length : Int))) = true := by simp
      clear hx hy hxy hz3 hw2 hstl
      have hc4 := f4.out.cells
      go_wp2_with fail
      refine (D1.out _ hm4.out).mono ?_
      rintro e v4 ⟨rfl, b⟩
      have k5 := Lib.hid (step k4.out b)
      have m5 := Lib.hid (hm4.out.below b)
      have hm5 := m5
      have f5 := Lib.hid (Dl.Five.below f4.out b f4.out.lt)
      clear b hc4 k4 hm4 m5 f4
      have hc5 := f5.out.cells
      go_wp2_with fail
      refine (D2.out _ hm5.out).mono ?_
      rintro e v5 ⟨rfl, b⟩
      have k6 := Lib.hid (step k5.out b)
      have m6 := Lib.hid (hm5.out.below b)
      have hm6 := m6
      have f6 := Lib.hid (Dl.Five.below f5.out b f5.out.lt)
      clear b hc5 k5 hm5 m6 f5
      have hc6 := f6.out.cells
      go_wp2_with fail
      refine (D3.out _ hm6.out).mono ?_
      rintro e v6 ⟨rfl, b⟩
      have k7 := Lib.hid (step k6.out b)
      have m7 := Lib.hid (hm6.out.below b)
      have hm7 := m7
      have f7 := Lib.hid (Dl.Five.below f6.out b f6.out.lt)
      clear b hc6 k6 hm6 m7 f6
      go_wp2_with fail
      go_ret
      exact ⟨rfl, k7.out⟩
theorem ejoins_at (s t : ByteArray) (a b c d f : Int) (w : World) (hs : s.size ≤ 140737488351232) (ht : t.size ≤ 140737488351232) (ha : 0 ≤ a ∧ a ≤ 255) (hb : 0 ≤ b ∧ b ≤ 255) (hc : 0 ≤ c ∧ c ≤ 255) (hd : 0 ≤ d ∧ d ≤ 255) (hf : 0 ≤ f ∧ f ≤ 255) (hml : Ml w) :
    Calls Tryd.prog 6 #[.string s, .string t, .agg #[.int .u8 a, .int .u8 b, .int .u8 c, .int .u8 d, .int .u8 f]] w fun e w' => e = .returned (.bool true) ∧ Below w.heap.size w w' := by
  obtain ⟨F, rfl⟩ := byte_of ha
  obtain ⟨P, rfl⟩ := byte_of hb
  obtain ⟨R, rfl⟩ := byte_of hc
  obtain ⟨E, rfl⟩ := byte_of hd
  obtain ⟨U, rfl⟩ := byte_of hf
  rw [← Sp.bs_data s, ← Sp.bs_data t]
  have hz : s.data.toList.length = s.size := by rw [Array.length_toList]; rfl
  have hz2 : t.data.toList.length = t.size := by rw [Array.length_toList]; rfl
  by_cases h : 800 < s.data.toList.length
  · exact ejoins_long _ _ F P R E U w (by omega) (by omega) h hml
  by_cases h2 : 800 < t.data.toList.length
  · exact ejoins_long2 _ _ F P R E U w (by omega) (by omega) h2 hml
  · cases hr : rtB F P R E U with
    | false => exact ejoins_no _ _ F P R E U hr w (by omega) (by omega) hml
    | true => exact ejoins_in _ _ F P R E U hr w (by omega) (by omega) hml
end Es
end Go.Proofs.YtkiloebfjooogaaDoor
