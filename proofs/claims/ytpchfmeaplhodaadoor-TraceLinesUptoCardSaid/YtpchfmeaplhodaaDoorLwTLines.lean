/-
  A part of the proof of this seat's laws: TraceLines.
-/
import Derived.Test.YtpchfmeaplhodaaDoorTr20
import Derived.Test.YtpchfmeaplhodaaDoorTr23
import Derived.Test.YtpchfmeaplhodaaDoorTr24
import Derived.Test.YtpchfmeaplhodaaDoorTp14
namespace Go.Proofs.YtpchfmeaplhodaaDoor
set_option linter.unusedVariables false
set_option linter.unusedSimpArgs false
open Go.RowKit Go.Shelf
namespace Tr
open Ap Sg
set_option maxHeartbeats 2000000
set_option maxRecDepth 100000 in
theorem tlines_big (A : Option Addr) (n c : Nat) (l : List Sp.Stp) (w : World) (hs : Sts w A n c l) (hw : Sp.wts l ≤ 1048576) (hg : Gl w) (hb : 1500 < Sp.wts l) :
    Calls Tryd.prog 9 #[.slice A n c] w fun e w' => e = .returned (.bool true) ∧ Below w.heap.size w w' := by
  have HA := Lib.hid (alive_calls w hg)
  have HG := Lib.hid (fun W h => great_calls A n c l W h (by omega))
  rw [decide_eq_true hb] at HG
  have Hs := Lib.hid hs
  have Hg := Lib.hid hg
  clear hs hg hb hw
  go_enter Tryd.func9, Tryd.ntmps9
  go_wp2_with fail
  refine HA.out.mono ?_
  rintro e w1 ⟨rfl, b1⟩
  have B1 := Lib.hid b1
  clear b1
  go_wp2_with fail
  refine (HG.out _ (Hs.out.below B1.out)).mono ?_
  rintro e w2 ⟨rfl, b2⟩
  have B2 := Lib.hid (step B1.out b2)
  clear b2
  have HA2 := Lib.hid (alive_calls w2 (Hg.out.below B2.out))
  go_wp2_with fail
  refine HA2.out.mono ?_
  rintro e w3 ⟨rfl, b3⟩
  go_wp2_with fail
  go_ret
  exact ⟨rfl, step B2.out b3⟩
set_option maxRecDepth 100000 in
theorem tlines_err (A : Option Addr) (n c : Nat) (l : List Sp.Stp) (w : World) (hs : Sts w A n c l) (hn : ∀ s ∈ l, Sp.nums s) (hw : Sp.wts l ≤ 1500) (hg : Gl w) (d : Int) (hf : Sp.fmtT l = .error d) (hd0 : d = 17 ∨ d = 10) :
    Calls Tryd.prog 9 #[.slice A n c] w fun e w' => e = .returned (.bool true) ∧ Below w.heap.size w w' := by
  have HA := Lib.hid (alive_calls w hg)
  have HG := Lib.hid (fun W h => great_calls A n c l W h (by omega))
  rw [decide_eq_false (by omega)] at HG
  have HF := Lib.hid (fun W h h' => fmt_calls A n c l W h hn (by omega) h')
  rw [hf] at HF
  simp only [Sp.evV] at HF
  have hd : (d != 0) = true := by rw [bne_iff_ne]; omega
  have he : (⟨#[]⟩ : ByteArray).toList.isEmpty = true := (str_emp []).trans (by simp)
  have Hs := Lib.hid hs
  have Hg := Lib.hid hg
  clear hs hg hw hn hf hd0
  go_enter Tryd.func9, Tryd.ntmps9
  go_wp2_with fail
  refine HA.out.mono ?_
  rintro e w1 ⟨rfl, b1⟩
  have B1 := Lib.hid b1
  clear b1
  go_wp2_with fail
  refine (HG.out _ (Hs.out.below B1.out)).mono ?_
  rintro e w2 ⟨rfl, b2⟩
  have B2 := Lib.hid (step B1.out b2)
  clear b2
  go_wp2_with fail
  refine (HF.out _ (Hs.out.below B2.out) (Hg.out.below B2.out)).mono ?_
  rintro e w3 ⟨rfl, b3⟩
  have B3 := Lib.hid (step B2.out b3)
  clear b3
  go_wp2_with fail
  go_ret
  exact ⟨rfl, B3.out⟩
set_option maxRecDepth 100000 in
theorem tlines_ok (A : Option Addr) (n c : Nat) (l : List Sp.Stp) (w : World) (hs : Sts w A n c l) (hn : ∀ s ∈ l, Sp.nums s) (hw : Sp.wts l ≤ 1500) (hg : Gl w) (t : List UInt8) (hf : Sp.fmtT l = .ok t) :
    Calls Tryd.prog 9 #[.slice A n c] w fun e w' => e = .returned (.bool true) ∧ Below w.heap.size w w' := by
  have huS := Tryd.underlying42
  have HA := Lib.hid (alive_calls w hg)
  have HG := Lib.hid (fun W h => great_calls A n c l W h (by omega))
  rw [decide_eq_false (by omega)] at HG
  have HF := Lib.hid (fun W h h' => fmt_calls A n c l W h hn (by omega) h')
  rw [hf] at HF
  simp only [Sp.evV] at HF
  have hll := hs.len
  have hlw := Sp.wts_len l
  have hn6 : n ≤ 1500 := by omega
  have hcn := Sp.fmt_count hf
  have htl := Sp.fmtT_len hf hn
  have htl2 : t.length ≤ 105000 := by omega
  have hlN := Sp.lnsN_le l
  obtain ⟨N, hN⟩ : ∃ N, N = Sp.lnsN l := ⟨_, rfl⟩
  have hN6 : N ≤ 3000 := by omega
  have Hcn := Lib.hid hcn
  have HN := Lib.hid hN
  have Hll := Lib.hid hll
  have hzt := Sp.bs_size t
  have Hs := Lib.hid hs
  have Hg := Lib.hid hg
  have Hw := Lib.hid hw
  clear hs hg hw hn hf hll hlw hcn htl hlN hN
  go_enter Tryd.func9, Tryd.ntmps9
  go_wp2_with fail
  refine HA.out.mono ?_
  rintro e w1 ⟨rfl, b1⟩
  have B1 := Lib.hid b1
  clear b1
  go_wp2_with fail
  refine (HG.out _ (Hs.out.below B1.out)).mono ?_
  rintro e w2 ⟨rfl, b2⟩
  have B2 := Lib.hid (step B1.out b2)
  clear b2
  go_wp2_with fail
  refine (HF.out _ (Hs.out.below B2.out) (Hg.out.below B2.out)).mono ?_
  rintro e w3 ⟨rfl, b3⟩
  have B3 := Lib.hid (step B2.out b3)
  clear b3
  go_wp2_with fail
  go_loopw [5, 28] (fun sv iv wr => ∃ (k T : Nat), k ≤ n ∧ iv = .int .i64 (k : Int) ∧ sv = .int .i64 (T : Int) ∧ Hid (T = Sp.lnsN (l.take k)) ∧ Hid (Below w.heap.size w wr)) (fun _ iv _ => n - (intOf iv).toNat)
  case atStart => exact ⟨0, 0, by omega, rfl, rfl, rfl, B3⟩
  case round =>
    obtain ⟨k, T, hk, rfl, rfl, hT, hb⟩ := hrel
    have hTl : T ≤ 3000 := by
      have h1 := Sp.lnsN_take l k
      have h2 := Sp.lnsN_le l
      have := Hw.out
      have := hT.out
      omega
    by_cases hlt : k < n
    · have c1 : (k : Int) < (n : Int) := by omega
      have c0 : (0 : Int) ≤ (k : Int) := by omega
      have hw1 : IntKind.i64.wrap ((k : Int) + 1) = (k : Int) + 1 := IntWalk.i64_in _ (by omega)
      obtain ⟨x, hx⟩ : ∃ x, l[k]? = some x := ⟨_, List.getElem?_eq_getElem (by have := Hll.out; omega)⟩
      obtain ⟨b, o, Ad, nd, cd, Ao, no, co, hA, hbl, hcs, hby, hou⟩ := Hs.out.get hx
      subst hA
      have hc6 := st6 (P := fun i u => wr.cell? ⟨b, o + k * 6 + i, none⟩ = some u) (fun i u hi => (hb.out.cell (p := ⟨b, o + k * 6 + i, none⟩) hbl).trans (hcs i u hi))
      simp only [Nat.add_zero] at hc6
      have hbw := Nat.lt_of_lt_of_le hbl hb.out.size
      have hwx := Sp.wts_mem (List.mem_of_getElem? hx)
      have Hww := Hw.out
      have hsw : Sp.swt x = 1 + x.ev.data.length + Sp.owts x.outs := rfl
      have hol := hou.len
      have hno := Sp.owts_len x.outs
      have hTn := Sp.lnsN_snoc hx
      have hTk := hT.out
      have hno6 : no ≤ 1500 := by omega
      have hwa : IntKind.i64.wrap (1 + (no : Int)) = 1 + (no : Int) := IntWalk.i64_in _ (by omega)
      obtain ⟨T1, hT1⟩ : ∃ T1, T1 = T + (1 + no) := ⟨_, rfl⟩
      have hT1l : T1 ≤ 10000 := by omega
      have hwb : IntKind.i64.wrap ((T : Int) + (1 + (no : Int))) = (T1 : Int) := by rw [IntWalk.i64_in _ (by omega)]; omega
      have hwc : IntKind.i64.wrap ((T1 : Int) + 1) = (T1 : Int) + 1 := IntWalk.i64_in _ (by omega)
      have HBn : Hid (Below w.heap.size w (wr.alloc (.cells #[.int .i64 x.ev.kind, .int .i64 x.ev.n, .int .i64 x.ev.keep, .slice Ad nd cd, .slice Ao no co, .bool x.gone] 42))) := Lib.hid (step hb.out ((Below.refl _ _).alloc (Nat.le_refl _) _))
      have HE : Hid (T1 + (if x.gone = true then 1 else 0) = Sp.lnsN (l.take (k + 1))) := Lib.hid (by rw [hTn]; unfold Sp.lnN; omega)
      generalize hev : x.ev = EV at *
      generalize hgn : x.gone = gn at *
      clear hx hcs hby hou hwx Hww hsw hol hno hTn hTk hT1 hev hgn
      cases gn with
      | true =>
        go_wp2_with fail
        go_roundw
        case rel => exact ⟨k + 1, T1 + 1, by omega, by go_num, rfl, HE, HBn⟩
        case measure => simp [intOf]; omega
      | false =>
        go_wp2_with fail
        go_roundw
        case rel => exact ⟨k + 1, T1, by omega, by go_num, rfl, HE, HBn⟩
        case measure => simp [intOf]; omega
    · obtain rfl : k = n := by omega
      have c1 : ¬ (k : Int) < (k : Int) := by omega
      have hLt : l.take k = l := List.take_of_length_le (by have := Hll.out; omega)
      have hTw : T = N := by rw [hT.out, hLt]; exact HN.out.symm
      subst hTw
      clear hLt hT
      go_wp2_with fail
      go_loopw [6, 45] (fun sv iv wr2 => ∃ (j C : Nat), j ≤ t.length ∧ iv = .int .i64 (j : Int) ∧ sv = .int .i64 (C : Int) ∧ Hid (C = (t.take j).count 10) ∧ Hid (Below w.heap.size w wr2)) (fun _ iv _ => t.length - (intOf iv).toNat)
      case atStart => exact ⟨0, 0, by omega, rfl, rfl, rfl, hb⟩
      case round =>
        obtain ⟨j, C, hj, rfl, rfl, hC, hb2⟩ := hrel
        have hCl : C ≤ 105000 := by
          have h1 := List.count_le_length (a := (10 : UInt8)) (l := t.take j)
          rw [List.length_take] at h1
          have := hC.out
          omega
        by_cases hjl : j < t.length
        · have d1 : (j : Int) < (t.length : Int) := by omega
          have d0 : (0 : Int) ≤ (j : Int) := by omega
          have hwj : IntKind.i64.wrap ((j : Int) + 1) = (j : Int) + 1 := IntWalk.i64_in _ (by omega)
          have hwC : IntKind.i64.wrap ((C : Int) + 1) = (C : Int) + 1 := IntWalk.i64_in _ (by omega)
          obtain ⟨y, hy⟩ : ∃ y, t[j]? = some y := ⟨_, List.getElem?_eq_getElem hjl⟩
          have hyk := bs_at hy
          have htk := Sp.take_snoc hy
          by_cases hy10 : y = 10
          · have hq : ((y.toNat : Int) == 10) = true := by rw [hy10]; rfl
            have HE : Hid (C + 1 = (t.take (j + 1)).count 10) := Lib.hid (by rw [htk, List.count_append, ← hC.out, hy10]; rfl)
            clear hy htk hy10
            go_wp2_with fail
            go_roundw
            case rel => exact ⟨j + 1, C + 1, by omega, by go_num, by go_num, HE, hb2⟩
            case measure => simp [intOf]; omega
          · have hq : ((y.toNat : Int) == 10) = false := by
              rw [beq_eq_false_iff_ne]
              intro e
              exact hy10 (UInt8.toNat_inj.1 (by show y.toNat = 10; omega))
            have HE : Hid (C = (t.take (j + 1)).count 10) := Lib.hid (by rw [htk, List.count_append, ← hC.out, List.count_singleton]; simp [hy10])
            clear hy htk hy10
            go_wp2_with fail
            go_roundw
            case rel => exact ⟨j + 1, C, by omega, by go_num, rfl, HE, hb2⟩
            case measure => simp [intOf]; omega
        · obtain rfl : j = t.length := by omega
          have d1 : ¬ (t.length : Int) < (t.length : Int) := by omega
          have hCT : C = T := by rw [hC.out, List.take_length, Hcn.out.1]; exact HN.out.symm
          subst hCT
          have hCC : ((C : Int) == (C : Int)) = true := by simp
          have emp := str_emp t
          rcases Hcn.out.2 with h0 | ⟨u, hu⟩
          · rw [decide_eq_true h0] at emp
            subst h0
            go_wp2_with fail
            go_ret
            exact ⟨rfl, hb2.out⟩
          · have hne : t ≠ [] := by rw [hu]; simp
            rw [decide_eq_false hne] at emp
            have hul : t.length = u.length + 1 := by rw [hu]; simp
            have hlast : t[t.length - 1]? = some 10 := by
              rw [hul, Nat.add_sub_cancel, hu]; simp
            have hyk := bs_at hlast
            have htp : 0 < t.length := by omega
            have hwq : IntKind.i64.wrap ((t.length : Int) - 1) = (t.length : Int) - 1 := IntWalk.i64_in _ (by omega)
            clear hlast hu hul hne
            go_wp2_with fail
            go_ret
            exact ⟨rfl, hb2.out⟩
theorem fmt_code {l : List Sp.Stp} {d : Int} (h : Sp.fmtT l = .error d) : d = 17 ∨ d = 10 := by
  induction l with
  | nil => cases h
  | cons s l ih =>
    unfold Sp.fmtT at h
    cases hs : Sp.stepT s with
    | error c => rw [hs] at h; cases h; exact Sp.stepT_code hs
    | ok u =>
      rw [hs] at h
      cases hl : Sp.fmtT l with
      | error c => simp only [hl] at h; cases h; exact ih hl
      | ok v => simp only [hl] at h; cases h
theorem tlines_in (A : Option Addr) (n c : Nat) (l : List Sp.Stp) (w : World) (hs : Sts w A n c l) (hn : ∀ s ∈ l, Sp.nums s) (hw : Sp.wts l ≤ 1048576) (hg : Gl w) :
    Calls Tryd.prog 9 #[.slice A n c] w fun e w' => e = .returned (.bool true) ∧ Below w.heap.size w w' := by
  by_cases hb : 1500 < Sp.wts l
  · exact tlines_big A n c l w hs hw hg hb
  · cases hf : Sp.fmtT l with
    | error d => exact tlines_err A n c l w hs hn (by omega) hg d hf (fmt_code hf)
    | ok t => exact tlines_ok A n c l w hs hn (by omega) hg t hf
end Tr
end Go.Proofs.YtpchfmeaplhodaaDoor
