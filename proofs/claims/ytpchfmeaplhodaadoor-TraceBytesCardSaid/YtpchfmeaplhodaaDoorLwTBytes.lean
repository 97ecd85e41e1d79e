/-
  A part of the proof of this seat's laws: TraceBytes.
-/
import Derived.Test.YtpchfmeaplhodaaDoorTr20
namespace Go.Proofs.YtpchfmeaplhodaaDoor
set_option linter.unusedVariables false
set_option linter.unusedSimpArgs false
open Go.RowKit Go.Shelf
namespace Tr
open Ap Sg
set_option maxHeartbeats 2000000
/-- the bytes of a text, in whatever way -/
theorem bytes_all {w : World} {s : List UInt8} {e : Ending} {w' : World} (h : BytesRet w s e w') : ∃ A n c, e = .returned (.tuple #[.slice A n c, .bool (Sp.bytesT s).isSome]) ∧ By w' A n c ((Sp.bytesT s).getD []) ∧ Below w.heap.size w w' := by
  cases hb : Sp.bytesT s with
  | none => exact ⟨none, 0, 0, h.1 hb, By.nil _, h.2.2⟩
  | some t =>
    obtain ⟨A, n, c, he, hby, hA⟩ := h.2.1 t hb
    exact ⟨A, n, c, he, hby, h.2.2⟩
theorem str_self (t : List UInt8) : ((Sp.bs t).toList == (Sp.bs t).toList) = true := by rw [str_eq]; simp
set_option maxRecDepth 100000 in
theorem tb_small (A : Option Addr) (n c : Nat) (b s : List UInt8) (w : World) (hb : n ≤ 1500) (hs : s.length ≤ 1500) (hby : By w A n c b) (hg : Gl w) :
    Calls Tryd.prog 3 #[.slice A n c, .string (Sp.bs s)] w fun e w' => e = .returned (.bool true) ∧ Below w.heap.size w w' := by
  have hz := Sp.bs_size s
  have h1 : ¬ (1500 : Int) < (n : Int) := by omega
  have h2 : ¬ (1500 : Int) < (s.length : Int) := by omega
  have hT := Sp.bytesT_hexT b
  have hTl := Sp.hexT_len b
  have hbl := hby.len
  have HHx := Lib.hid (fun W h => hex_calls A n c b (by omega) W h)
  have HRx := Lib.hid (fun W h => rhex_calls A n c b (by omega) W h)
  obtain ⟨T, hTT⟩ : ∃ T, T = Sp.hexT b := ⟨_, rfl⟩
  rw [← hTT] at hT hTl HHx HRx
  have HBt := Lib.hid (fun W => bytes_calls T (by omega) W)
  have HBs := Lib.hid (fun W => bytes_calls s (by omega) W)
  have HRs := Lib.hid (fun W => rbytes_calls s (by omega) W)
  have HT := Lib.hid hT
  have Hby := Lib.hid hby
  have Hg := Lib.hid hg
  have Hself := str_self T
  obtain ⟨D, hD⟩ : ∃ D, D = (Sp.bytesT s).getD [] := ⟨_, rfl⟩
  obtain ⟨bk, hbk⟩ : ∃ bk, bk = (Sp.bytesT s).isSome := ⟨_, rfl⟩
  have HD := Lib.hid hD
  have Hbk := Lib.hid hbk
  have HselfD := str_self D
  have Hselfb := str_self b
  clear hT hTl hbl hTT hby hg hD hbk
  go_enter Tryd.func3, Tryd.ntmps3
  go_wp2_with fail
  refine (HHx.out _ Hby.out).mono ?_
  rintro e w1 ⟨rfl, b1⟩
  have B1 := Lib.hid b1
  clear b1
  go_wp2_with fail
  refine (HBt.out _).mono ?_
  rintro e w2 hr2
  obtain ⟨A2, n2, c2, rfl, hb2, b2⟩ := bytes_all hr2
  rw [show (Sp.bytesT T).isSome = true by rw [HT.out]; rfl]
  have hb2' : By w2 A2 n2 c2 b := by rw [HT.out] at hb2; exact hb2
  have B2 := Lib.hid (step B1.out b2)
  have HB2 := Lib.hid hb2'
  clear hr2 hb2 hb2' b2
  go_wp2_with fail
  refine (HBs.out _).mono ?_
  rintro e w3 hr3
  obtain ⟨A3, n3, c3, rfl, hb3, b3⟩ := bytes_all hr3
  rw [← Hbk.out]
  rw [← HD.out] at hb3
  have B3 := Lib.hid (step B2.out b3)
  have HB23 := Lib.hid (HB2.out.below b3)
  have HB3 := Lib.hid hb3
  clear hr3 hb3 b3
  go_wp2_with fail
  refine (HRs.out _).mono ?_
  rintro e w4 hr4
  obtain ⟨A4, n4, c4, rfl, hb4, b4⟩ := bytes_all hr4
  rw [← Hbk.out]
  rw [← HD.out] at hb4
  have B4 := Lib.hid (step B3.out b4)
  have HB24 := Lib.hid (HB23.out.below b4)
  have HB34 := Lib.hid (HB3.out.below b4)
  have HB4 := Lib.hid hb4
  clear hr4 hb4 b4
  have HAl := Lib.hid (alive_calls w4 (Hg.out.below B4.out))
  go_wp2_with fail
  refine HAl.out.mono ?_
  rintro e w5 ⟨rfl, b5⟩
  have B5 := Lib.hid (step B4.out b5)
  have HB25 := Lib.hid (HB24.out.below b5)
  have HB35 := Lib.hid (HB34.out.below b5)
  have HB45 := Lib.hid (HB4.out.below b5)
  have HBb5 := Lib.hid (Hby.out.below B5.out)
  clear b5
  go_wp2_with fail
  refine (HRx.out _ HBb5.out).mono ?_
  rintro e w6 ⟨rfl, q, rfl⟩
  have bq : Below w5.heap.size w5 (w5.drewN q) := below_drewN (Below.refl _ _) q
  have k1 := (HBb5.out.below bq).conv
  have k2 := (HB25.out.below bq).conv
  have k3 := (HB35.out.below bq).conv
  have k4 := (HB45.out.below bq).conv
  have B6 := Lib.hid (step B5.out bq)
  clear bq
  cases bk with
  | true =>
    go_wp2_with fail
    go_ret
    exact ⟨rfl, B6.out⟩
  | false =>
    go_wp2_with fail
    go_ret
    exact ⟨rfl, B6.out⟩
set_option maxRecDepth 100000 in
theorem tb_big (A : Option Addr) (n c : Nat) (s : ByteArray) (w : World) (hb : 1500 < n ∨ 1500 < s.size) (hn : n ≤ 140737488351232) (hs : s.size ≤ 140737488351232) (hg : Gl w) :
    Calls Tryd.prog 3 #[.slice A n c, .string s] w fun e w' => e = .returned (.bool true) ∧ Below w.heap.size w w' := by
  have HAl := Lib.hid (alive_calls w hg)
  by_cases h : 1500 < n
  · have h1 : (1500 : Int) < (n : Int) := by omega
    clear hg hb h
    go_enter Tryd.func3, Tryd.ntmps3
    go_wp2_with fail
    refine HAl.out.mono ?_
    rintro e w5 ⟨rfl, b5⟩
    go_wp2_with fail
    go_ret
    exact ⟨rfl, b5⟩
  · have h1 : ¬ (1500 : Int) < (n : Int) := by omega
    have h2 : (1500 : Int) < (s.size : Int) := by omega
    clear hg hb h
    go_enter Tryd.func3, Tryd.ntmps3
    go_wp2_with fail
    refine HAl.out.mono ?_
    rintro e w5 ⟨rfl, b5⟩
    go_wp2_with fail
    go_ret
    exact ⟨rfl, b5⟩
theorem tbytes_in (A : Option Addr) (n c : Nat) (xs : List Int) (s : ByteArray) (w : World) (hx : Opn.Bytes w A n c xs) (hs : s.size ≤ 140737488351232) (hg : Gl w) :
    Calls Tryd.prog 3 #[.slice A n c, .string s] w fun e w' => e = .returned (.bool true) ∧ Below w.heap.size w w' := by
  by_cases hb : 1500 < n ∨ 1500 < s.size
  · exact tb_big A n c s w hb hx.small hs hg
  · obtain ⟨b, hby⟩ := By.of hx
    have h := tb_small A n c b s.data.toList w (by omega) (by have : s.data.size = s.size := rfl; rw [Array.length_toList]; omega) hby hg
    rw [Sp.bs_data] at h
    exact h
end Tr
end Go.Proofs.YtpchfmeaplhodaaDoor
