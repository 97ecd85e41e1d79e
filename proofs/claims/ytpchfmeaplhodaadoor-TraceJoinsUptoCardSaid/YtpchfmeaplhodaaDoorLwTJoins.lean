/-
  A part of the proof of this seat's laws: TraceJoins.
-/
import Derived.Test.YtpchfmeaplhodaaDoorLwTBack
import Derived.Test.YtpchfmeaplhodaaDoorTr26
namespace Go.Proofs.YtpchfmeaplhodaaDoor
set_option linter.unusedVariables false
set_option linter.unusedSimpArgs false
open Go.RowKit Go.Shelf
namespace Tr
open Ap Sg
set_option maxHeartbeats 4000000
set_option maxRecDepth 100000 in
theorem tjoins_big1 (A : Option Addr) (n c : Nat) (A' : Option Addr) (n' c' : Nat) (a b : List Sp.Stp) (w : World) (hs : Sts w A n c a) (hs' : Sts w A' n' c' b) (hw : Sp.wts a ≤ 1048576) (hg : Gl w) (hb : 1500 < Sp.wts a) :
    Calls Tryd.prog 8 #[.slice A n c, .slice A' n' c'] w fun e w' => e = .returned (.bool true) ∧ Below w.heap.size w w' := by
  have HA := Lib.hid (alive_calls w hg)
  have HG := Lib.hid (fun W h => great_calls A n c a W h (by omega))
  rw [decide_eq_true hb] at HG
  have Hs := Lib.hid hs
  have Hs' := Lib.hid hs'
  have Hg := Lib.hid hg
  clear hs hs' hg
  go_enter Tryd.func8, Tryd.ntmps8
  go_wp2_with fail
  refine HA.out.mono ?_
  rintro e w1 ⟨rfl, b1⟩
  have B1 := Lib.hid b1
  clear b1
  go_wp2_with fail
  refine (HG.out _ (Hs.out.below B1.out)).mono ?_
  rintro e w2 ⟨rfl, b2⟩
  have B2 := Lib.hid (step B1.out b2)
  clear b2
  have HA2 := Lib.hid (alive_calls _ (Hg.out.below B2.out))
  go_wp2_with fail
  refine HA2.out.mono ?_
  rintro e w3 ⟨rfl, b3⟩
  have B3 := Lib.hid (step B2.out b3)
  clear b3
  go_wp2_with fail
  go_ret
  exact ⟨rfl, B3.out⟩
set_option maxRecDepth 100000 in
theorem tjoins_big2 (A : Option Addr) (n c : Nat) (A' : Option Addr) (n' c' : Nat) (a b : List Sp.Stp) (w : World) (hs : Sts w A n c a) (hs' : Sts w A' n' c' b) (hw : Sp.wts a ≤ 1500) (hw' : Sp.wts b ≤ 1048576) (hg : Gl w) (hb : 1500 < Sp.wts b) :
    Calls Tryd.prog 8 #[.slice A n c, .slice A' n' c'] w fun e w' => e = .returned (.bool true) ∧ Below w.heap.size w w' := by
  have HA := Lib.hid (alive_calls w hg)
  have HG := Lib.hid (fun W h => great_calls A n c a W h (by omega))
  rw [decide_eq_false (by omega)] at HG
  have HG' := Lib.hid (fun W h => great_calls A' n' c' b W h (by omega))
  rw [decide_eq_true hb] at HG'
  have Hs := Lib.hid hs
  have Hs' := Lib.hid hs'
  have Hg := Lib.hid hg
  clear hs hs' hg
  go_enter Tryd.func8, Tryd.ntmps8
  go_wp2_with fail
  refine HA.out.mono ?_
  rintro e w1 ⟨rfl, b1⟩
  have B1 := Lib.hid b1
  clear b1
  go_wp2_with fail
  refine (HG.out _ (Hs.out.below B1.out)).mono ?_
  rintro e w2 ⟨rfl, b2⟩
  have B2 := Lib.hid (step B1.out b2)
  clear b2
  go_wp2_with fail
  refine (HG'.out _ (Hs'.out.below B2.out)).mono ?_
  rintro e w3 ⟨rfl, b3⟩
  have B3 := Lib.hid (step B2.out b3)
  clear b3
  have HA2 := Lib.hid (alive_calls _ (Hg.out.below B3.out))
  go_wp2_with fail
  refine HA2.out.mono ?_
  rintro e w4 ⟨rfl, b4⟩
  have B4 := Lib.hid (step B3.out b4)
  clear b4
  go_wp2_with fail
  go_ret
  exact ⟨rfl, B4.out⟩
set_option maxRecDepth 100000 in
theorem tjoins_e1 (A : Option Addr) (n c : Nat) (A' : Option Addr) (n' c' : Nat) (a b : List Sp.Stp) (w : World) (hs : Sts w A n c a) (hs' : Sts w A' n' c' b) (hn : ∀ x ∈ a, Sp.nums x) (hn' : ∀ x ∈ b, Sp.nums x) (hw : Sp.wts a ≤ 1500) (hw' : Sp.wts b ≤ 1500) (hg : Gl w) (d : Int) (hf : Sp.fmtT a = .error d) :
    Calls Tryd.prog 8 #[.slice A n c, .slice A' n' c'] w fun e w' => e = .returned (.bool true) ∧ Below w.heap.size w w' := by
  have HA := Lib.hid (alive_calls w hg)
  have HG := Lib.hid (fun W h => great_calls A n c a W h (by omega))
  rw [decide_eq_false (by omega)] at HG
  have HG' := Lib.hid (fun W h => great_calls A' n' c' b W h (by omega))
  rw [decide_eq_false (by omega)] at HG'
  have HF := Lib.hid (fun W h h' => fmt_calls A n c a W h hn (by omega) h')
  have HF' := Lib.hid (fun W h h' => fmt_calls A' n' c' b W h hn' (by omega) h')
  rw [hf] at HF
  simp only [Sp.evV] at HF
  rw [Sp.evV_eq] at HF'
  generalize Sp.evTx (Sp.fmtT b) = T' at *
  generalize Sp.evCo (Sp.fmtT b) = C' at *
  have hdd := fmt_code hf
  have hd : (d != 0) = true := by rw [bne_iff_ne]; omega
  clear hf hdd hn hn'
  have Hs := Lib.hid hs
  have Hs' := Lib.hid hs'
  have Hg := Lib.hid hg
  clear hs hs' hg
  go_enter Tryd.func8, Tryd.ntmps8
  go_wp2_with fail
  refine HA.out.mono ?_
  rintro e w1 ⟨rfl, b1⟩
  have B1 := Lib.hid b1
  clear b1
  go_wp2_with fail
  refine (HG.out _ (Hs.out.below B1.out)).mono ?_
  rintro e w2 ⟨rfl, b2⟩
  have B2 := Lib.hid (step B1.out b2)
  clear b2
  go_wp2_with fail
  refine (HG'.out _ (Hs'.out.below B2.out)).mono ?_
  rintro e w3 ⟨rfl, b3⟩
  have B3 := Lib.hid (step B2.out b3)
  clear b3
  go_wp2_with fail
  refine (HF.out _ (Hs.out.below B3.out) (Hg.out.below B3.out)).mono ?_
  rintro e w4 ⟨rfl, b4⟩
  have B4 := Lib.hid (step B3.out b4)
  clear b4
  go_wp2_with fail
  refine (HF'.out _ (Hs'.out.below B4.out) (Hg.out.below B4.out)).mono ?_
  rintro e w5 ⟨rfl, b5⟩
  have B5 := Lib.hid (step B4.out b5)
  clear b5
  go_wp2_with fail
  go_ret
  exact ⟨rfl, B5.out⟩
set_option maxRecDepth 100000 in
theorem tjoins_e2 (A : Option Addr) (n c : Nat) (A' : Option Addr) (n' c' : Nat) (a b : List Sp.Stp) (w : World) (hs : Sts w A n c a) (hs' : Sts w A' n' c' b) (hn : ∀ x ∈ a, Sp.nums x) (hn' : ∀ x ∈ b, Sp.nums x) (hw : Sp.wts a ≤ 1500) (hw' : Sp.wts b ≤ 1500) (hg : Gl w) (t : List UInt8) (hf : Sp.fmtT a = .ok t) (d : Int) (hf' : Sp.fmtT b = .error d) :
    Calls Tryd.prog 8 #[.slice A n c, .slice A' n' c'] w fun e w' => e = .returned (.bool true) ∧ Below w.heap.size w w' := by
  have HA := Lib.hid (alive_calls w hg)
  have HG := Lib.hid (fun W h => great_calls A n c a W h (by omega))
  rw [decide_eq_false (by omega)] at HG
  have HG' := Lib.hid (fun W h => great_calls A' n' c' b W h (by omega))
  rw [decide_eq_false (by omega)] at HG'
  have HF := Lib.hid (fun W h h' => fmt_calls A n c a W h hn (by omega) h')
  have HF' := Lib.hid (fun W h h' => fmt_calls A' n' c' b W h hn' (by omega) h')
  rw [hf] at HF
  rw [hf'] at HF'
  simp only [Sp.evV] at HF HF'
  have hdd := fmt_code hf'
  have hd : (d != 0) = true := by rw [bne_iff_ne]; omega
  clear hf hf' hdd hn hn'
  have Hs := Lib.hid hs
  have Hs' := Lib.hid hs'
  have Hg := Lib.hid hg
  clear hs hs' hg
  go_enter Tryd.func8, Tryd.ntmps8
  go_wp2_with fail
  refine HA.out.mono ?_
  rintro e w1 ⟨rfl, b1⟩
  have B1 := Lib.hid b1
  clear b1
  go_wp2_with fail
  refine (HG.out _ (Hs.out.below B1.out)).mono ?_
  rintro e w2 ⟨rfl, b2⟩
  have B2 := Lib.hid (step B1.out b2)
  clear b2
  go_wp2_with fail
  refine (HG'.out _ (Hs'.out.below B2.out)).mono ?_
  rintro e w3 ⟨rfl, b3⟩
  have B3 := Lib.hid (step B2.out b3)
  clear b3
  go_wp2_with fail
  refine (HF.out _ (Hs.out.below B3.out) (Hg.out.below B3.out)).mono ?_
  rintro e w4 ⟨rfl, b4⟩
  have B4 := Lib.hid (step B3.out b4)
  clear b4
  go_wp2_with fail
  refine (HF'.out _ (Hs'.out.below B4.out) (Hg.out.below B4.out)).mono ?_
  rintro e w5 ⟨rfl, b5⟩
  have B5 := Lib.hid (step B4.out b5)
  clear b5
  go_wp2_with fail
  go_ret
  exact ⟨rfl, B5.out⟩
theorem psC_cases (s : List UInt8) : Sp.psC s = 0 ∨ Sp.psC s = 10 := by
  unfold Sp.psC
  cases Sp.parseS s with
  | ok l => exact .inl rfl
  | error i => exact .inr rfl
set_option maxRecDepth 100000 in
theorem tjoins_n0 (A : Option Addr) (n c : Nat) (A' : Option Addr) (n' c' : Nat) (a b : List Sp.Stp) (w : World) (hs : Sts w A n c a) (hs' : Sts w A' n' c' b) (hn : ∀ x ∈ a, Sp.nums x) (hn' : ∀ x ∈ b, Sp.nums x) (hw : Sp.wts a ≤ 1500) (hw' : Sp.wts b ≤ 1500) (hg : Gl w) (s t : List UInt8) (hf : Sp.fmtT a = .ok s) (hf' : Sp.fmtT b = .ok t) (hp : Sp.psC (s ++ t) = 10) (hp2 : Sp.psC s = 0) :
    Calls Tryd.prog 8 #[.slice A n c, .slice A' n' c'] w fun e w' => e = .returned (.bool true) ∧ Below w.heap.size w w' := by
  have HA := Lib.hid (alive_calls w hg)
  have HG := Lib.hid (fun W h => great_calls A n c a W h (by omega))
  rw [decide_eq_false (by omega)] at HG
  have HG' := Lib.hid (fun W h => great_calls A' n' c' b W h (by omega))
  rw [decide_eq_false (by omega)] at HG'
  have HF := Lib.hid (fun W h h' => fmt_calls A n c a W h hn (by omega) h')
  have HF' := Lib.hid (fun W h h' => fmt_calls A' n' c' b W h hn' (by omega) h')
  rw [hf] at HF
  rw [hf'] at HF'
  simp only [Sp.evV] at HF HF'
  have hfj : Sp.fmtT (a ++ b) = .ok (s ++ t) := by rw [Sp.fmtT_app b a s hf, hf']
  have hnj : ∀ x ∈ a ++ b, Sp.nums x := fun x hx => by
    rcases List.mem_append.1 hx with hx | hx
    · exact hn x hx
    · exact hn' x hx
  have hwj := Sp.wts_app a b
  have hsl := Sp.fmtT_len hf hn
  have htl := Sp.fmtT_len hf' hn'
  have hsl2 : s.length ≤ 105000 := by omega
  have htl2 : t.length ≤ 105000 := by omega
  have hzs := Sp.bs_size s
  have hzt := Sp.bs_size t
  have happ : Sp.bs s ++ Sp.bs t = Sp.bs (s ++ t) := Sp.bs_append _ _
  have HP1 := Lib.hid (fun W h => parse_calls (s ++ t) (by rw [List.length_append]; omega) (Sp.fmt_lines_len hfj hnj (by omega)) W h)
  have HP2 := Lib.hid (fun W h => parse_calls s (by omega) (Sp.fmt_lines_len hf hn (by omega)) W h)
  have HP3 := Lib.hid (fun W h => parse_calls t (by omega) (Sp.fmt_lines_len hf' hn' (by omega)) W h)
  have H1 := Lib.hid hp
  have H2 := Lib.hid hp2
  clear hf hf' hfj hnj hwj hsl htl hn hn' hp hp2
  have Hs := Lib.hid hs
  have Hs' := Lib.hid hs'
  have Hg := Lib.hid hg
  clear hs hs' hg
  go_enter Tryd.func8, Tryd.ntmps8
  go_wp2_with fail
  refine HA.out.mono ?_
  rintro e w1 ⟨rfl, b1⟩
  have B1 := Lib.hid b1
  clear b1
  go_wp2_with fail
  refine (HG.out _ (Hs.out.below B1.out)).mono ?_
  rintro e w2 ⟨rfl, b2⟩
  have B2 := Lib.hid (step B1.out b2)
  clear b2
  go_wp2_with fail
  refine (HG'.out _ (Hs'.out.below B2.out)).mono ?_
  rintro e w3 ⟨rfl, b3⟩
  have B3 := Lib.hid (step B2.out b3)
  clear b3
  go_wp2_with fail
  refine (HF.out _ (Hs.out.below B3.out) (Hg.out.below B3.out)).mono ?_
  rintro e w4 ⟨rfl, b4⟩
  have B4 := Lib.hid (step B3.out b4)
  clear b4
  go_wp2_with fail
  refine (HF'.out _ (Hs'.out.below B4.out) (Hg.out.below B4.out)).mono ?_
  rintro e w5 ⟨rfl, b5⟩
  have B5 := Lib.hid (step B4.out b5)
  clear b5
  go_wp2_with fail
  refine (HP1.out _ (Hg.out.below B5.out)).mono ?_
  rintro e w6 hr6
  obtain ⟨A6, n6, c6, rfl, -, b6⟩ := parse_all hr6
  have B6 := Lib.hid (step B5.out b6)
  clear hr6 b6
  rw [H1.out]
  generalize (Sp.psN (s ++ t) : Int) = N1 at *
  go_wp2_with fail
  refine (HP2.out _ (Hg.out.below B6.out)).mono ?_
  rintro e w7 hr7
  obtain ⟨A7, n7, c7, rfl, -, b7⟩ := parse_all hr7
  have B7 := Lib.hid (step B6.out b7)
  clear hr7 b7
  rw [H2.out]
  generalize (Sp.psN s : Int) = N2 at *
  go_wp2_with fail
  refine (HP3.out _ (Hg.out.below B7.out)).mono ?_
  rintro e w8 hr8
  obtain ⟨A8, n8, c8, rfl, -, b8⟩ := parse_all hr8
  have B8 := Lib.hid (step B7.out b8)
  clear hr8 b8
  generalize (Sp.psN t : Int) = N3 at *
  generalize Sp.psC t = C3 at *
  go_wp2_with fail
  go_ret
  exact ⟨rfl, B8.out⟩
set_option maxRecDepth 100000 in
theorem tjoins_n1 (A : Option Addr) (n c : Nat) (A' : Option Addr) (n' c' : Nat) (a b : List Sp.Stp) (w : World) (hs : Sts w A n c a) (hs' : Sts w A' n' c' b) (hn : ∀ x ∈ a, Sp.nums x) (hn' : ∀ x ∈ b, Sp.nums x) (hw : Sp.wts a ≤ 1500) (hw' : Sp.wts b ≤ 1500) (hg : Gl w) (s t : List UInt8) (hf : Sp.fmtT a = .ok s) (hf' : Sp.fmtT b = .ok t) (hp : Sp.psC (s ++ t) = 10) (hp2 : Sp.psC s = 10) (hp3 : Sp.psC t = 0) :
    Calls Tryd.prog 8 #[.slice A n c, .slice A' n' c'] w fun e w' => e = .returned (.bool true) ∧ Below w.heap.size w w' := by
  have HA := Lib.hid (alive_calls w hg)
  have HG := Lib.hid (fun W h => great_calls A n c a W h (by omega))
  rw [decide_eq_false (by omega)] at HG
  have HG' := Lib.hid (fun W h => great_calls A' n' c' b W h (by omega))
  rw [decide_eq_false (by omega)] at HG'
  have HF := Lib.hid (fun W h h' => fmt_calls A n c a W h hn (by omega) h')
  have HF' := Lib.hid (fun W h h' => fmt_calls A' n' c' b W h hn' (by omega) h')
  rw [hf] at HF
  rw [hf'] at HF'
  simp only [Sp.evV] at HF HF'
  have hfj : Sp.fmtT (a ++ b) = .ok (s ++ t) := by rw [Sp.fmtT_app b a s hf, hf']
  have hnj : ∀ x ∈ a ++ b, Sp.nums x := fun x hx => by
    rcases List.mem_append.1 hx with hx | hx
    · exact hn x hx
    · exact hn' x hx
  have hwj := Sp.wts_app a b
  have hsl := Sp.fmtT_len hf hn
  have htl := Sp.fmtT_len hf' hn'
  have hsl2 : s.length ≤ 105000 := by omega
  have htl2 : t.length ≤ 105000 := by omega
  have hzs := Sp.bs_size s
  have hzt := Sp.bs_size t
  have happ : Sp.bs s ++ Sp.bs t = Sp.bs (s ++ t) := Sp.bs_append _ _
  have HP1 := Lib.hid (fun W h => parse_calls (s ++ t) (by rw [List.length_append]; omega) (Sp.fmt_lines_len hfj hnj (by omega)) W h)
  have HP2 := Lib.hid (fun W h => parse_calls s (by omega) (Sp.fmt_lines_len hf hn (by omega)) W h)
  have HP3 := Lib.hid (fun W h => parse_calls t (by omega) (Sp.fmt_lines_len hf' hn' (by omega)) W h)
  have H1 := Lib.hid hp
  have H2 := Lib.hid hp2
  have H3 := Lib.hid hp3
  clear hf hf' hfj hnj hwj hsl htl hn hn' hp hp2 hp3
  have Hs := Lib.hid hs
  have Hs' := Lib.hid hs'
  have Hg := Lib.hid hg
  clear hs hs' hg
  go_enter Tryd.func8, Tryd.ntmps8
  go_wp2_with fail
  refine HA.out.mono ?_
  rintro e w1 ⟨rfl, b1⟩
  have B1 := Lib.hid b1
  clear b1
  go_wp2_with fail
  refine (HG.out _ (Hs.out.below B1.out)).mono ?_
  rintro e w2 ⟨rfl, b2⟩
  have B2 := Lib.hid (step B1.out b2)
  clear b2
  go_wp2_with fail
  refine (HG'.out _ (Hs'.out.below B2.out)).mono ?_
  rintro e w3 ⟨rfl, b3⟩
  have B3 := Lib.hid (step B2.out b3)
  clear b3
  go_wp2_with fail
  refine (HF.out _ (Hs.out.below B3.out) (Hg.out.below B3.out)).mono ?_
  rintro e w4 ⟨rfl, b4⟩
  have B4 := Lib.hid (step B3.out b4)
  clear b4
  go_wp2_with fail
  refine (HF'.out _ (Hs'.out.below B4.out) (Hg.out.below B4.out)).mono ?_
  rintro e w5 ⟨rfl, b5⟩
  have B5 := Lib.hid (step B4.out b5)
  clear b5
  go_wp2_with fail
  refine (HP1.out _ (Hg.out.below B5.out)).mono ?_
  rintro e w6 hr6
  obtain ⟨A6, n6, c6, rfl, -, b6⟩ := parse_all hr6
  have B6 := Lib.hid (step B5.out b6)
  clear hr6 b6
  rw [H1.out]
  generalize (Sp.psN (s ++ t) : Int) = N1 at *
  go_wp2_with fail
  refine (HP2.out _ (Hg.out.below B6.out)).mono ?_
  rintro e w7 hr7
  obtain ⟨A7, n7, c7, rfl, -, b7⟩ := parse_all hr7
  have B7 := Lib.hid (step B6.out b7)
  clear hr7 b7
  rw [H2.out]
  generalize (Sp.psN s : Int) = N2 at *
  go_wp2_with fail
  refine (HP3.out _ (Hg.out.below B7.out)).mono ?_
  rintro e w8 hr8
  obtain ⟨A8, n8, c8, rfl, -, b8⟩ := parse_all hr8
  have B8 := Lib.hid (step B7.out b8)
  clear hr8 b8
  rw [H3.out]
  generalize (Sp.psN t : Int) = N3 at *
  go_wp2_with fail
  go_ret
  exact ⟨rfl, B8.out⟩
set_option maxRecDepth 100000 in
theorem tjoins_n2 (A : Option Addr) (n c : Nat) (A' : Option Addr) (n' c' : Nat) (a b : List Sp.Stp) (w : World) (hs : Sts w A n c a) (hs' : Sts w A' n' c' b) (hn : ∀ x ∈ a, Sp.nums x) (hn' : ∀ x ∈ b, Sp.nums x) (hw : Sp.wts a ≤ 1500) (hw' : Sp.wts b ≤ 1500) (hg : Gl w) (s t : List UInt8) (hf : Sp.fmtT a = .ok s) (hf' : Sp.fmtT b = .ok t) (hp : Sp.psC (s ++ t) = 10) (hp2 : Sp.psC s = 10) (hp3 : Sp.psC t = 10) :
    Calls Tryd.prog 8 #[.slice A n c, .slice A' n' c'] w fun e w' => e = .returned (.bool true) ∧ Below w.heap.size w w' := by
  have HA := Lib.hid (alive_calls w hg)
  have HG := Lib.hid (fun W h => great_calls A n c a W h (by omega))
  rw [decide_eq_false (by omega)] at HG
  have HG' := Lib.hid (fun W h => great_calls A' n' c' b W h (by omega))
  rw [decide_eq_false (by omega)] at HG'
  have HF := Lib.hid (fun W h h' => fmt_calls A n c a W h hn (by omega) h')
  have HF' := Lib.hid (fun W h h' => fmt_calls A' n' c' b W h hn' (by omega) h')
  rw [hf] at HF
  rw [hf'] at HF'
  simp only [Sp.evV] at HF HF'
  have hfj : Sp.fmtT (a ++ b) = .ok (s ++ t) := by rw [Sp.fmtT_app b a s hf, hf']
  have hnj : ∀ x ∈ a ++ b, Sp.nums x := fun x hx => by
    rcases List.mem_append.1 hx with hx | hx
    · exact hn x hx
    · exact hn' x hx
  have hwj := Sp.wts_app a b
  have hsl := Sp.fmtT_len hf hn
  have htl := Sp.fmtT_len hf' hn'
  have hsl2 : s.length ≤ 105000 := by omega
  have htl2 : t.length ≤ 105000 := by omega
  have hzs := Sp.bs_size s
  have hzt := Sp.bs_size t
  have happ : Sp.bs s ++ Sp.bs t = Sp.bs (s ++ t) := Sp.bs_append _ _
  have HP1 := Lib.hid (fun W h => parse_calls (s ++ t) (by rw [List.length_append]; omega) (Sp.fmt_lines_len hfj hnj (by omega)) W h)
  have HP2 := Lib.hid (fun W h => parse_calls s (by omega) (Sp.fmt_lines_len hf hn (by omega)) W h)
  have HP3 := Lib.hid (fun W h => parse_calls t (by omega) (Sp.fmt_lines_len hf' hn' (by omega)) W h)
  have H1 := Lib.hid hp
  have H2 := Lib.hid hp2
  have H3 := Lib.hid hp3
  clear hf hf' hfj hnj hwj hsl htl hn hn' hp hp2 hp3
  have Hs := Lib.hid hs
  have Hs' := Lib.hid hs'
  have Hg := Lib.hid hg
  clear hs hs' hg
  go_enter Tryd.func8, Tryd.ntmps8
  go_wp2_with fail
  refine HA.out.mono ?_
  rintro e w1 ⟨rfl, b1⟩
  have B1 := Lib.hid b1
  clear b1
  go_wp2_with fail
  refine (HG.out _ (Hs.out.below B1.out)).mono ?_
  rintro e w2 ⟨rfl, b2⟩
  have B2 := Lib.hid (step B1.out b2)
  clear b2
  go_wp2_with fail
  refine (HG'.out _ (Hs'.out.below B2.out)).mono ?_
  rintro e w3 ⟨rfl, b3⟩
  have B3 := Lib.hid (step B2.out b3)
  clear b3
  go_wp2_with fail
  refine (HF.out _ (Hs.out.below B3.out) (Hg.out.below B3.out)).mono ?_
  rintro e w4 ⟨rfl, b4⟩
  have B4 := Lib.hid (step B3.out b4)
  clear b4
  go_wp2_with fail
  refine (HF'.out _ (Hs'.out.below B4.out) (Hg.out.below B4.out)).mono ?_
  rintro e w5 ⟨rfl, b5⟩
  have B5 := Lib.hid (step B4.out b5)
  clear b5
  go_wp2_with fail
  refine (HP1.out _ (Hg.out.below B5.out)).mono ?_
  rintro e w6 hr6
  obtain ⟨A6, n6, c6, rfl, -, b6⟩ := parse_all hr6
  have B6 := Lib.hid (step B5.out b6)
  clear hr6 b6
  rw [H1.out]
  generalize (Sp.psN (s ++ t) : Int) = N1 at *
  go_wp2_with fail
  refine (HP2.out _ (Hg.out.below B6.out)).mono ?_
  rintro e w7 hr7
  obtain ⟨A7, n7, c7, rfl, -, b7⟩ := parse_all hr7
  have B7 := Lib.hid (step B6.out b7)
  clear hr7 b7
  rw [H2.out]
  generalize (Sp.psN s : Int) = N2 at *
  go_wp2_with fail
  refine (HP3.out _ (Hg.out.below B7.out)).mono ?_
  rintro e w8 hr8
  obtain ⟨A8, n8, c8, rfl, -, b8⟩ := parse_all hr8
  have B8 := Lib.hid (step B7.out b8)
  clear hr8 b8
  rw [H3.out]
  generalize (Sp.psN t : Int) = N3 at *
  go_wp2_with fail
  go_ret
  exact ⟨rfl, B8.out⟩
set_option maxRecDepth 100000 in
theorem tjoins_y (A : Option Addr) (n c : Nat) (A' : Option Addr) (n' c' : Nat) (a b : List Sp.Stp) (w : World) (hs : Sts w A n c a) (hs' : Sts w A' n' c' b) (hn : ∀ x ∈ a, Sp.nums x) (hn' : ∀ x ∈ b, Sp.nums x) (hw : Sp.wts a ≤ 1500) (hw' : Sp.wts b ≤ 1500) (hg : Gl w) (s t : List UInt8) (hf : Sp.fmtT a = .ok s) (hf' : Sp.fmtT b = .ok t) (l : List Sp.Stp) (hp : Sp.parseS (s ++ t) = .ok l) :
    Calls Tryd.prog 8 #[.slice A n c, .slice A' n' c'] w fun e w' => e = .returned (.bool true) ∧ Below w.heap.size w w' := by
  have HA := Lib.hid (alive_calls w hg)
  have HG := Lib.hid (fun W h => great_calls A n c a W h (by omega))
  rw [decide_eq_false (by omega)] at HG
  have HG' := Lib.hid (fun W h => great_calls A' n' c' b W h (by omega))
  rw [decide_eq_false (by omega)] at HG'
  have HF := Lib.hid (fun W h h' => fmt_calls A n c a W h hn (by omega) h')
  have HF' := Lib.hid (fun W h h' => fmt_calls A' n' c' b W h hn' (by omega) h')
  rw [hf] at HF
  rw [hf'] at HF'
  simp only [Sp.evV] at HF HF'
  have hfj : Sp.fmtT (a ++ b) = .ok (s ++ t) := by rw [Sp.fmtT_app b a s hf, hf']
  have hnj : ∀ x ∈ a ++ b, Sp.nums x := fun x hx => by
    rcases List.mem_append.1 hx with hx | hx
    · exact hn x hx
    · exact hn' x hx
  have hwj := Sp.wts_app a b
  have hsl := Sp.fmtT_len hf hn
  have htl := Sp.fmtT_len hf' hn'
  have hsl2 : s.length ≤ 105000 := by omega
  have htl2 : t.length ≤ 105000 := by omega
  have hzs := Sp.bs_size s
  have hzt := Sp.bs_size t
  have happ : Sp.bs s ++ Sp.bs t = Sp.bs (s ++ t) := Sp.bs_append _ _
  have HP1 := Lib.hid (fun W h => parse_calls (s ++ t) (by rw [List.length_append]; omega) (Sp.fmt_lines_len hfj hnj (by omega)) W h)
  have HP2 := Lib.hid (fun W h => parse_calls s (by omega) (Sp.fmt_lines_len hf hn (by omega)) W h)
  have HP3 := Lib.hid (fun W h => parse_calls t (by omega) (Sp.fmt_lines_len hf' hn' (by omega)) W h)
  have hall := Sp.all_small hfj hp
  have hle := Sp.parse_same hfj hp
  subst hle
  have hsa : ∀ x ∈ a, Sp.smallN x := fun x hx => hall x (by simp [hx])
  have hsb : ∀ x ∈ b, Sp.smallN x := fun x hx => hall x (by simp [hx])
  have hp2 := Sp.parse_fmt hf hsa
  have hp3 := Sp.parse_fmt hf' hsb
  have hk1 : (Sp.cutL 10 (s ++ t)).length - 1 = ((Sp.cutL 10 s).length - 1) + ((Sp.cutL 10 t).length - 1) := by
    rw [Sp.cut_fmt hfj, Sp.cut_fmt hf, Sp.cut_fmt hf', Sp.lnS_app]
    simp
  have hk2 : (Sp.cutL 10 s).length - 1 ≤ 105000 := by
    have h1 := Sp.cutL_length 10 s
    have h2 := List.count_le_length (a := (10 : UInt8)) (l := s)
    omega
  have hk3 : (Sp.cutL 10 t).length - 1 ≤ 105000 := by
    have h1 := Sp.cutL_length 10 t
    have h2 := List.count_le_length (a := (10 : UInt8)) (l := t)
    omega
  have hsh : s ≠ [] → Sp.parseS s.dropLast = .error ((Sp.cutL 10 s).length - 1 - 1) ∧ 1 ≤ (Sp.cutL 10 s).length - 1 := fun h0 => by
    refine ⟨Sp.parse_short hf hsa h0, ?_⟩
    rw [Sp.cut_fmt hf]
    cases hl : Sp.lnS a with
    | nil =>
      have := (Sp.fmtT_lines hf).1
      rw [hl] at this
      exact absurd this h0
    | cons x y => simp
  have hln : ∀ x ∈ Sp.cutL 10 s.dropLast, x.length ≤ 50000 := by
    intro x hx
    by_cases h0 : s = []
    · subst h0
      simp [Sp.cutL] at hx
      subst hx
      simp
    · have hM := Sp.fmtT_lines hf
      rcases List.eq_nil_or_concat (Sp.lnS a) with h1 | ⟨ls, y, h1⟩
      · rw [h1] at hM; exact absurd hM.1 h0
      · rw [List.concat_eq_append] at h1
        have hc := Sp.cut_short (ls := ls) (x := y) (by rw [← h1]; exact hM.2)
        rw [← h1, ← hM.1, h1] at hc
        rw [hc] at hx
        have := Sp.lnS_len hn x (by rw [h1]; exact hx)
        omega
  have HPd := Lib.hid (fun W h => parse_calls s.dropLast (by rw [List.length_dropLast]; omega) hln W h)
  have hsub : (Sp.bs s).extract 0 (s.length - 1) = Sp.bs s.dropLast := by
    rw [Sp.bs_extract, List.drop_zero, List.dropLast_eq_take]; rfl
  have hwa := Sp.wts_len a
  have hwb := Sp.wts_len b
  have hla := hs.len
  have hlb := hs'.len
  have hob : ∀ x ∈ a ++ b, x.outs.length ≤ 1000000 := fun x hx => by
    have h3 := Sp.wts_mem hx
    have h4 := Sp.owts_len x.outs
    unfold Sp.swt at h3
    omega
  have hn6 : n ≤ 1500 := by omega
  have hn6' : n' ≤ 1500 := by omega
  have hlj : (a ++ b).length = n + n' := by rw [List.length_append]; omega
  have Hlj := Lib.hid hlj
  have Hob := Lib.hid hob
  have Hsh := Lib.hid hsh
  have H1 := Lib.hid hp
  have H2 := Lib.hid hp2
  have H3 := Lib.hid hp3
  obtain ⟨i0, hi, hz0, hz1, hz2⟩ := info_parts infoSt
  have Hla := Lib.hid hla
  have Hlb := Lib.hid hlb
  obtain ⟨K2, hK2⟩ : ∃ K, (Sp.cutL 10 s).length - 1 = K := ⟨_, rfl⟩
  obtain ⟨K3, hK3⟩ : ∃ K, (Sp.cutL 10 t).length - 1 = K := ⟨_, rfl⟩
  rw [hK2] at hk1 hk2 Hsh
  rw [hK3] at hk1 hk3
  have HK1 := Lib.hid hk1
  have HK2 := Lib.hid hK2
  have HK3 := Lib.hid hK3
  have hwk : IntKind.i64.wrap ((K2 : Int) + (K3 : Int)) = (K2 : Int) + (K3 : Int) := IntWalk.i64_in _ (by omega)
  have hwk2 : IntKind.i64.wrap ((K2 : Int) - 1) = (K2 : Int) - 1 := IntWalk.i64_in _ (by omega)
  clear hf hf' hfj hnj hwj hsl htl hn hn' hp hall hsa hsb hp2 hp3 hk1 hsh hln hwa hwb hla hlb hob hlj hK2 hK3
  have Hs := Lib.hid hs
  have Hs' := Lib.hid hs'
  have Hg := Lib.hid hg
  clear hs hs' hg
  go_enter Tryd.func8, Tryd.ntmps8
  go_wp2_with fail
  refine HA.out.mono ?_
  rintro e w1 ⟨rfl, b1⟩
  have B1 := Lib.hid b1
  clear b1
  go_wp2_with fail
  refine (HG.out _ (Hs.out.below B1.out)).mono ?_
  rintro e w2 ⟨rfl, b2⟩
  have B2 := Lib.hid (step B1.out b2)
  clear b2
  go_wp2_with fail
  refine (HG'.out _ (Hs'.out.below B2.out)).mono ?_
  rintro e w3 ⟨rfl, b3⟩
  have B3 := Lib.hid (step B2.out b3)
  clear b3
  go_wp2_with fail
  refine (HF.out _ (Hs.out.below B3.out) (Hg.out.below B3.out)).mono ?_
  rintro e w4 ⟨rfl, b4⟩
  have B4 := Lib.hid (step B3.out b4)
  clear b4
  go_wp2_with fail
  refine (HF'.out _ (Hs'.out.below B4.out) (Hg.out.below B4.out)).mono ?_
  rintro e w5 ⟨rfl, b5⟩
  have B5 := Lib.hid (step B4.out b5)
  clear b5
  go_wp2_with fail
  refine (HP1.out _ (Hg.out.below B5.out)).mono ?_
  rintro e w6 ⟨-, hy6, b6⟩
  obtain ⟨A6, n6, c6, rfl, hs6⟩ := hy6 _ H1.out
  rw [HK1.out]
  have B6 := Lib.hid (step B5.out b6)
  have S6 := Lib.hid hs6
  clear hy6 hs6
  clear b6
  go_wp2_with fail
  refine (HP2.out _ (Hg.out.below B6.out)).mono ?_
  rintro e w7 ⟨-, hy7, b7⟩
  obtain ⟨A7, n7, c7, rfl, hs7⟩ := hy7 _ H2.out
  rw [HK2.out]
  have B7 := Lib.hid (step B6.out b7)
  have S7 := Lib.hid hs7
  clear hy7 hs7
  have S67 := Lib.hid (S6.out.below b7)
  clear b7
  go_wp2_with fail
  refine (HP3.out _ (Hg.out.below B7.out)).mono ?_
  rintro e w8 ⟨-, hy8, b8⟩
  obtain ⟨A8, n8, c8, rfl, hs8⟩ := hy8 _ H3.out
  rw [HK3.out]
  have B8 := Lib.hid (step B7.out b8)
  have S8 := Lib.hid hs8
  clear hy8 hs8
  have S68 := Lib.hid (S67.out.below b8)
  have S78 := Lib.hid (S7.out.below b8)
  clear b8
  have hn7 := S7.out.len
  have hn8 := S8.out.len
  have hna : n7 = n := by have := Hla.out; omega
  have hnb : n8 = n' := by have := Hlb.out; omega
  subst hna hnb
  clear hn7 hn8
  by_cases h0 : s = []
  · have c9 : ¬ (0 : Int) < (s.length : Int) := by rw [h0]; simp
    clear h0
    obtain ⟨va, hva, hvl, hvc⟩ := S78.out.news
    obtain ⟨vb, hvb, hul, huc⟩ := S8.out.news
    have hbn : Below w8.heap.size w8 (w8.alloc (.cells #[] 42)) := (Below.refl _ _).alloc (Nat.le_refl _) _
    have hown0 : (w8.alloc (.cells #[] 42)).ownsRow w8.heap.size 42 6 (.slice (some ⟨w8.heap.size, 0, none⟩) 0 0) 0 [] := World.ownsRow_lit w8 #[] 0 (Nat.le_refl _) (by decide) rfl
    have HB1 : Hid (∀ q, (w8.alloc (.cells #[] 42)).grownBy q (Value.slice (some ⟨w8.heap.size, 0, none⟩) 0 0).ownBlock → Below w8.heap.size w8 q) := Lib.hid (fun q hg1 => hbn.grown hg1 hbn.size (fun k hk => by
      have : w8.heap.size = k := by simpa [Value.ownBlock] using hk
      omega))
    have Hvc := Lib.hid (hvc _ hbn)
    have Hown0 := Lib.hid hown0
    have Hone := Lib.hid (StepsV.one_cell hva)
    have Hone' := Lib.hid (StepsV.one_cell hvb)
    have Hvl := Lib.hid hvl
    have Hul := Lib.hid hul
    have Hva := Lib.hid hva
    have Hvb := Lib.hid hvb
    have Huc := Lib.hid huc
    have hsz1 : w8.heap.size ≤ (w8.alloc (.cells #[] 42)).heap.size := hbn.size
    clear hva hvl hvc hvb hul huc hbn hown0
    go_wp2_with (first | (at_builtin; refine wpList_append_any _ (by simp [Region.wanted, yielded]) (.tmp 108) (.tmp 109) 43 rfl w8.heap.size 42 i0 _ 6 80 Tryd.underlying43 hi hz0 hz1 hz2 rfl (by decide) (some ⟨w8.heap.size, 0, none⟩) 0 0 [] rfl Hown0.out A7 n7 c7 va rfl Hvl.out Hvc.out Hone.out (by simp only [maxLen]; omega) (by omega) hsz1 ?_; intro A1 d1 q1 hr1 hg1; simp only [Nat.zero_add, List.nil_append] at hr1; have hb1 := HB1.out q1 hg1; have hu1 := Huc.out q1 hb1; have HR1 := Lib.hid hr1; have HU1 := Lib.hid hu1; have HBq := Lib.hid hb1; have hsz2 := hb1.size; clear hr1 hg1 hu1 hb1) | (at_builtin; refine wpList_append_any _ (by simp [Region.wanted, yielded]) (.tmp 110) (.tmp 111) 43 rfl w8.heap.size 42 i0 _ 6 80 Tryd.underlying43 hi hz0 hz1 hz2 rfl (by decide) A1 n7 d1 va rfl HR1.out A8 n8 c8 vb rfl Hul.out HU1.out Hone'.out (by simp only [maxLen]; omega) (by omega) hsz2 ?_; intro A2 d2 q2 hr2 hg2; have HR2 := Lib.hid hr2; have HG2 := Lib.hid hg2; clear hr2 hg2))
    have hbq : Below w8.heap.size w8 q2 := HBq.out.grown HG2.out hsz2 (fun k hk => (HR1.out.lt k hk).1)
    have hst := sts_of_owns HR2.out (StepsV.app (StepsV.high hbq (Nat.le_refl _) Hvb.out) (StepsV.high hbq (Nat.le_refl _) Hva.out)) Hlj.out
    refine (same_calls _ _ _ _ _ _ _ q2 (S68.out.below hbq) hst (by have := Hlj.out; omega) Hob.out).mono ?_
    rintro e w9 ⟨rfl, b9⟩
    go_wp2_with fail
    go_ret
    exact ⟨rfl, (step B8.out hbq).trans (b9.mono (by have := B8.out.size; have := hbq.size; omega))⟩
  · have c9 : (0 : Int) < (s.length : Int) := by have := List.length_pos_iff.2 h0; omega
    obtain ⟨hpd, hK21⟩ := Hsh.out h0
    obtain ⟨q, rfl⟩ : ∃ q, K2 = q + 1 := ⟨K2 - 1, by omega⟩
    rw [Nat.add_sub_cancel] at hpd
    have HPD := Lib.hid hpd
    have hwl : IntKind.i64.wrap ((s.length : Int) - 1) = (s.length : Int) - 1 := IntWalk.i64_in _ (by omega)
    have hwq : IntKind.i64.wrap ((q : Int) + 1 - 1) = (q : Int) := by
      rw [show (q : Int) + 1 - 1 = (q : Int) by omega]; exact IntWalk.i64_in _ (by omega)
    have hwq2 : IntKind.i64.wrap (q : Int) = (q : Int) := IntWalk.i64_in _ (by omega)
    clear h0 hpd hK21 hwk2
    go_wp2_with fail
    refine (HPd.out _ (Hg.out.below B8.out)).mono ?_
    rintro e w10 ⟨hno, -, b10⟩
    obtain rfl := hno q HPD.out
    have B10 := Lib.hid (step B8.out b10)
    have S610 := Lib.hid (S68.out.below b10)
    have S710 := Lib.hid (S78.out.below b10)
    have S810 := Lib.hid (S8.out.below b10)
    clear hno b10
    obtain ⟨va, hva, hvl, hvc⟩ := S710.out.news
    obtain ⟨vb, hvb, hul, huc⟩ := S810.out.news
    have hbn : Below w10.heap.size w10 (w10.alloc (.cells #[] 42)) := (Below.refl _ _).alloc (Nat.le_refl _) _
    have hown0 : (w10.alloc (.cells #[] 42)).ownsRow w10.heap.size 42 6 (.slice (some ⟨w10.heap.size, 0, none⟩) 0 0) 0 [] := World.ownsRow_lit w10 #[] 0 (Nat.le_refl _) (by decide) rfl
    have HB1 : Hid (∀ q, (w10.alloc (.cells #[] 42)).grownBy q (Value.slice (some ⟨w10.heap.size, 0, none⟩) 0 0).ownBlock → Below w10.heap.size w10 q) := Lib.hid (fun q hg1 => hbn.grown hg1 hbn.size (fun k hk => by
      have : w10.heap.size = k := by simpa [Value.ownBlock] using hk
      omega))
    have Hvc := Lib.hid (hvc _ hbn)
    have Hown0 := Lib.hid hown0
    have Hone := Lib.hid (StepsV.one_cell hva)
    have Hone' := Lib.hid (StepsV.one_cell hvb)
    have Hvl := Lib.hid hvl
    have Hul := Lib.hid hul
    have Hva := Lib.hid hva
    have Hvb := Lib.hid hvb
    have Huc := Lib.hid huc
    have hsz1 : w10.heap.size ≤ (w10.alloc (.cells #[] 42)).heap.size := hbn.size
    clear hva hvl hvc hvb hul huc hbn hown0
    go_wp2_with (first | (at_builtin; refine wpList_append_any _ (by simp [Region.wanted, yielded]) (.tmp 108) (.tmp 109) 43 rfl w10.heap.size 42 i0 _ 6 80 Tryd.underlying43 hi hz0 hz1 hz2 rfl (by decide) (some ⟨w10.heap.size, 0, none⟩) 0 0 [] rfl Hown0.out A7 n7 c7 va rfl Hvl.out Hvc.out Hone.out (by simp only [maxLen]; omega) (by omega) hsz1 ?_; intro A1 d1 q1 hr1 hg1; simp only [Nat.zero_add, List.nil_append] at hr1; have hb1 := HB1.out q1 hg1; have hu1 := Huc.out q1 hb1; have HR1 := Lib.hid hr1; have HU1 := Lib.hid hu1; have HBq := Lib.hid hb1; have hsz2 := hb1.size; clear hr1 hg1 hu1 hb1) | (at_builtin; refine wpList_append_any _ (by simp [Region.wanted, yielded]) (.tmp 110) (.tmp 111) 43 rfl w10.heap.size 42 i0 _ 6 80 Tryd.underlying43 hi hz0 hz1 hz2 rfl (by decide) A1 n7 d1 va rfl HR1.out A8 n8 c8 vb rfl Hul.out HU1.out Hone'.out (by simp only [maxLen]; omega) (by omega) hsz2 ?_; intro A2 d2 q2 hr2 hg2; have HR2 := Lib.hid hr2; have HG2 := Lib.hid hg2; clear hr2 hg2))
    have hbq : Below w10.heap.size w10 q2 := HBq.out.grown HG2.out hsz2 (fun k hk => (HR1.out.lt k hk).1)
    have hst := sts_of_owns HR2.out (StepsV.app (StepsV.high hbq (Nat.le_refl _) Hvb.out) (StepsV.high hbq (Nat.le_refl _) Hva.out)) Hlj.out
    refine (same_calls _ _ _ _ _ _ _ q2 (S610.out.below hbq) hst (by have := Hlj.out; omega) Hob.out).mono ?_
    rintro e w9 ⟨rfl, b9⟩
    go_wp2_with fail
    go_ret
    exact ⟨rfl, (step B10.out hbq).trans (b9.mono (by have := B10.out.size; have := hbq.size; omega))⟩
theorem tjoins_in (A : Option Addr) (n c : Nat) (a : List Sp.Stp) (A' : Option Addr) (n' c' : Nat) (b : List Sp.Stp) (w : World) (hs : Sts w A n c a) (hn : ∀ x ∈ a, Sp.nums x) (hw : Sp.wts a ≤ 1048576) (hs' : Sts w A' n' c' b) (hn' : ∀ x ∈ b, Sp.nums x) (hw' : Sp.wts b ≤ 1048576) (hg : Gl w) :
    Calls Tryd.prog 8 #[.slice A n c, .slice A' n' c'] w fun e w' => e = .returned (.bool true) ∧ Below w.heap.size w w' := by
  by_cases h1 : 1500 < Sp.wts a
  · exact tjoins_big1 A n c A' n' c' a b w hs hs' hw hg h1
  by_cases h2 : 1500 < Sp.wts b
  · exact tjoins_big2 A n c A' n' c' a b w hs hs' (by omega) hw' hg h2
  cases hf : Sp.fmtT a with
  | error d => exact tjoins_e1 A n c A' n' c' a b w hs hs' hn hn' (by omega) (by omega) hg d hf
  | ok s =>
    cases hf' : Sp.fmtT b with
    | error d => exact tjoins_e2 A n c A' n' c' a b w hs hs' hn hn' (by omega) (by omega) hg s hf d hf'
    | ok t =>
      cases hp : Sp.parseS (s ++ t) with
      | ok l => exact tjoins_y A n c A' n' c' a b w hs hs' hn hn' (by omega) (by omega) hg s t hf hf' l hp
      | error i =>
        have hc : Sp.psC (s ++ t) = 10 := by unfold Sp.psC; rw [hp]
        rcases psC_cases s with h3 | h3
        · exact tjoins_n0 A n c A' n' c' a b w hs hs' hn hn' (by omega) (by omega) hg s t hf hf' hc h3
        · rcases psC_cases t with h4 | h4
          · exact tjoins_n1 A n c A' n' c' a b w hs hs' hn hn' (by omega) (by omega) hg s t hf hf' hc h3 h4
          · exact tjoins_n2 A n c A' n' c' a b w hs hs' hn hn' (by omega) (by omega) hg s t hf hf' hc h3 h4
end Tr
end Go.Proofs.YtpchfmeaplhodaaDoor
