/-
  A part of the proof of this seat's laws: TraceTexts.
-/
import Derived.Test.YtpchfmeaplhodaaDoorLwTLines
import Derived.Test.YtpchfmeaplhodaaDoorLwTEvents
import Derived.Test.YtpchfmeaplhodaaDoorTr19
namespace Go.Proofs.YtpchfmeaplhodaaDoor
set_option linter.unusedVariables false
set_option linter.unusedSimpArgs false
open Go.RowKit Go.Shelf
namespace Sp
/-- the steps of a text, in whatever way -/
def psL (s : List UInt8) : List Stp := match parseS s with
  | .ok l => l
  | .error _ => []
def psN (s : List UInt8) : Nat := match parseS s with
  | .ok _ => (cutL 10 s).length - 1
  | .error i => i
def psC (s : List UInt8) : Int := match parseS s with
  | .ok _ => 0
  | .error _ => 10
theorem psL_big (s : List UInt8) : (psL s).length ≤ s.length + 1 ∧ ∀ x ∈ psL s, x.outs.length ≤ s.length + 1 := by
  unfold psL
  cases h : parseS s with
  | ok l => exact parse_big h
  | error i => exact ⟨Nat.zero_le _, fun x hx => by cases hx⟩
end Sp
namespace Tr
open Ap Sg
set_option maxHeartbeats 2000000
theorem parse_all {w : World} {s : List UInt8} {e : Ending} {w' : World} (h : ParseRet w s e w') : ∃ A n c, e = .returned (.tuple #[.slice A n c, .int .i64 (Sp.psN s : Int), .int .i64 (Sp.psC s)]) ∧ Sts w' A n c (Sp.psL s) ∧ Below w.heap.size w w' := by
  unfold Sp.psL Sp.psN Sp.psC
  cases hp : Sp.parseS s with
  | error i => exact ⟨none, 0, 0, h.1 i hp, Sts.nil _, h.2.2⟩
  | ok l =>
    obtain ⟨A, n, c, he, hs⟩ := h.2.1 l hp
    exact ⟨A, n, c, he, hs, h.2.2⟩
set_option maxRecDepth 100000 in
theorem ttexts_great (A : Option Addr) (n c : Nat) (l : List Sp.Stp) (s : ByteArray) (w : World) (hs : Sts w A n c l) (hw : Sp.wts l ≤ 1048576) (hg : Gl w) (hb : 1500 < Sp.wts l) :
    Calls Tryd.prog 6 #[.slice A n c, .string s] w fun e w' => e = .returned (.bool true) ∧ Below w.heap.size w w' := by
  have HA := Lib.hid (alive_calls w hg)
  have HG := Lib.hid (fun W h => great_calls A n c l W h (by omega))
  rw [decide_eq_true hb] at HG
  have Hs := Lib.hid hs
  have Hg := Lib.hid hg
  clear hs hg hb hw
  go_enter Tryd.func6, Tryd.ntmps6
  go_wp2_with fail
  refine HA.out.mono ?_
  rintro e w1 ⟨rfl, b1⟩
  have B1 := Lib.hid b1
  clear b1
  go_wp2_with fail
  refine (HG.out _ (Hs.out.below B1.out)).mono ?_
  rintro e w2 ⟨rfl, b2⟩
  have B2 := Lib.hid (step B1.out b2)
  clear b2
  have HA2 := Lib.hid (alive_calls w2 (Hg.out.below B2.out))
  go_wp2_with fail
  refine HA2.out.mono ?_
  rintro e w3 ⟨rfl, b3⟩
  go_wp2_with fail
  go_ret
  exact ⟨rfl, step B2.out b3⟩
set_option maxRecDepth 100000 in
theorem ttexts_long (A : Option Addr) (n c : Nat) (l : List Sp.Stp) (s : ByteArray) (w : World) (hs : Sts w A n c l) (hw : Sp.wts l ≤ 1500) (hg : Gl w) (hb : 2000 < s.size) (hsz : s.size ≤ 1048576) :
    Calls Tryd.prog 6 #[.slice A n c, .string s] w fun e w' => e = .returned (.bool true) ∧ Below w.heap.size w w' := by
  have HA := Lib.hid (alive_calls w hg)
  have HG := Lib.hid (fun W h => great_calls A n c l W h (by omega))
  rw [decide_eq_false (by omega)] at HG
  have h2 : (2000 : Int) < (s.size : Int) := by omega
  have Hs := Lib.hid hs
  have Hg := Lib.hid hg
  clear hs hg hb hw
  go_enter Tryd.func6, Tryd.ntmps6
  go_wp2_with fail
  refine HA.out.mono ?_
  rintro e w1 ⟨rfl, b1⟩
  have B1 := Lib.hid b1
  clear b1
  go_wp2_with fail
  refine (HG.out _ (Hs.out.below B1.out)).mono ?_
  rintro e w2 ⟨rfl, b2⟩
  have B2 := Lib.hid (step B1.out b2)
  clear b2
  have HA2 := Lib.hid (alive_calls w2 (Hg.out.below B2.out))
  go_wp2_with fail
  refine HA2.out.mono ?_
  rintro e w3 ⟨rfl, b3⟩
  go_wp2_with fail
  go_ret
  exact ⟨rfl, step B2.out b3⟩
set_option maxRecDepth 100000 in
theorem ttexts_small (A : Option Addr) (n c : Nat) (l : List Sp.Stp) (s : List UInt8) (w : World) (hs : Sts w A n c l) (hn : ∀ x ∈ l, Sp.nums x) (hw : Sp.wts l ≤ 1500) (hg : Gl w) (hl : s.length ≤ 2000) :
    Calls Tryd.prog 6 #[.slice A n c, .string (Sp.bs s)] w fun e w' => e = .returned (.bool true) ∧ Below w.heap.size w w' := by
  have HA := Lib.hid (alive_calls w hg)
  have HG := Lib.hid (fun W h => great_calls A n c l W h (by omega))
  rw [decide_eq_false (by omega)] at HG
  have hz := Sp.bs_size s
  have h2 : ¬ (2000 : Int) < (s.length : Int) := by omega
  have HF := Lib.hid (fun W h h' => fmt_calls A n c l W h hn (by omega) h')
  have HR := Lib.hid (fun W h => rfmt_calls A n c l W h hn (by omega))
  rw [Sp.evV_eq] at HF HR
  generalize Sp.evTx (Sp.fmtT l) = T at *
  generalize Sp.evCo (Sp.fmtT l) = C at *
  have hself := str_same T
  have HP := Lib.hid (fun W h => parse_calls s (by omega) (fun x hx => Nat.le_trans (Sp.cutL_le 10 s x hx) (by omega)) W h)
  have HQ := Lib.hid (fun W => rparse_calls s (by omega) W)
  have hbig := Sp.psL_big s
  have Hbig := Lib.hid hbig
  have Hs := Lib.hid hs
  have Hg := Lib.hid hg
  have Hl := Lib.hid hl
  clear hs hg hw hn hbig
  go_enter Tryd.func6, Tryd.ntmps6
  go_wp2_with fail
  refine HA.out.mono ?_
  rintro e w1 ⟨rfl, b1⟩
  have B1 := Lib.hid b1
  clear b1
  go_wp2_with fail
  refine (HG.out _ (Hs.out.below B1.out)).mono ?_
  rintro e w2 ⟨rfl, b2⟩
  have B2 := Lib.hid (step B1.out b2)
  clear b2
  go_wp2_with fail
  refine (HF.out _ (Hs.out.below B2.out) (Hg.out.below B2.out)).mono ?_
  rintro e w3 ⟨rfl, b3⟩
  have B3 := Lib.hid (step B2.out b3)
  clear b3
  go_wp2_with fail
  refine (HR.out _ (Hs.out.below B3.out)).mono ?_
  rintro e w4 ⟨rfl, b4⟩
  have B4 := Lib.hid (step B3.out b4)
  clear b4
  go_wp2_with fail
  refine (HP.out _ (Hg.out.below B4.out)).mono ?_
  rintro e w5 hr5
  obtain ⟨A5, n5, c5, rfl, hs5, b5⟩ := parse_all hr5
  have B5 := Lib.hid (step B4.out b5)
  have Hs5 := Lib.hid hs5
  clear hr5 hs5 b5
  go_wp2_with fail
  refine (HQ.out _).mono ?_
  rintro e w6 hr6
  obtain ⟨A6, n6, c6, rfl, hs6, b6⟩ := parse_all hr6
  have B6 := Lib.hid (step B5.out b6)
  have HSa := Lib.hid (same_calls A5 n5 c5 A6 n6 c6 _ w6 (Hs5.out.below b6) hs6 (by have := Hbig.out.1; have := Hl.out; omega) (fun x hx => by have := Hbig.out.2 x hx; have := Hl.out; omega))
  generalize Sp.psN s = PN at *
  generalize Sp.psC s = PC at *
  clear hr6 hs6 b6
  go_wp2_with fail
  refine HSa.out.mono ?_
  rintro e w7 ⟨rfl, b7⟩
  go_wp2_with fail
  go_ret
  exact ⟨rfl, step B6.out b7⟩
theorem ttexts_in (A : Option Addr) (n c : Nat) (l : List Sp.Stp) (s : ByteArray) (w : World) (hs : Sts w A n c l) (hn : ∀ x ∈ l, Sp.nums x) (hw : Sp.wts l ≤ 1048576) (hsz : s.size ≤ 1048576) (hg : Gl w) :
    Calls Tryd.prog 6 #[.slice A n c, .string s] w fun e w' => e = .returned (.bool true) ∧ Below w.heap.size w w' := by
  by_cases hb : 1500 < Sp.wts l
  · exact ttexts_great A n c l s w hs hw hg hb
  · by_cases h2 : 2000 < s.size
    · exact ttexts_long A n c l s w hs (by omega) hg h2 hsz
    · have h := ttexts_small A n c l s.data.toList w hs hn (by omega) hg (by have : s.data.size = s.size := rfl; rw [Array.length_toList]; omega)
      rw [Sp.bs_data] at h
      exact h
end Tr
end Go.Proofs.YtpchfmeaplhodaaDoor
