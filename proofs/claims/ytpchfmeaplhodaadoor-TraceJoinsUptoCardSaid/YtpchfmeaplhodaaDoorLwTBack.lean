/-
  A part of the proof of this seat's laws: TraceBack.
-/
import Derived.Test.YtpchfmeaplhodaaDoorLwTTexts
namespace Go.Proofs.YtpchfmeaplhodaaDoor
set_option linter.unusedVariables false
set_option linter.unusedSimpArgs false
open Go.RowKit Go.Shelf
namespace Sp
theorem hexT_ge (d : List UInt8) : d.length ≤ (hexT d).length := by
  unfold hexT
  split
  · rename_i h; rw [h]; simp
  · rw [hexs_len]; omega
theorem evT_ge {e : Evt} {t : List UInt8} (h : evT e = .ok t) : e.data.length ≤ t.length := by
  unfold evT at h
  split at h
  · cases h
  · split at h
    · cases h
    · rename_i hg
      cases h
      rw [not_or] at hg
      have h1 := hg.1
      have h2 := hexT_ge e.data
      cases hk : kd e.kind.toNat with
      | true => simp only [List.length_append, List.length_cons, if_true]; omega
      | false =>
        have h3 : e.data = [] := by
          cases hd : e.data with
          | nil => rfl
          | cons a b => exact absurd ⟨hk, by rw [hd]; simp⟩ h1
        rw [h3]; simp
theorem outsT_ge (l : List Out) : owts l ≤ (outsT l).length := by
  induction l with
  | nil => simp [owts]
  | cons o l ih =>
    rw [outsT_cons, owts_cons, List.length_append, List.length_append, List.length_singleton, owt]
    have h1 := hexT_ge o.data
    have h2 : (hexT o.data).length ≤ (outT o).length := by unfold outT; rw [List.length_append]; omega
    omega
theorem fmtT_ge : ∀ {l : List Stp} {t : List UInt8}, fmtT l = .ok t → wts l ≤ t.length
  | [], t, h => by simp [wts]
  | s :: l, t, h => by
    unfold fmtT at h
    cases he : evT s.ev with
    | error c => unfold stepT at h; rw [he] at h; cases h
    | ok u =>
      have hs : stepT s = .ok (u ++ 10 :: (outsT s.outs ++ goneT s.gone)) := by unfold stepT; rw [he]
      rw [hs] at h
      cases hl : fmtT l with
      | error c => simp only [hl] at h; cases h
      | ok v =>
        simp only [hl] at h
        cases h
        have h1 := evT_ge he
        have h2 := outsT_ge s.outs
        have h3 := fmtT_ge hl
        rw [wts_cons, swt]
        simp only [List.length_append, List.length_cons]
        omega
theorem small_nums {s : Stp} (h : smallN s) : nums s := ⟨small_i64 h.1, small_i64 h.2⟩
/-- a number that is too great -/
def bigN (n : Int) : Prop := 576460752303423488 < n ∨ n < -576460752303423488
theorem not_big {n : Int} (h : ¬ bigN n) : small n := by
  unfold bigN at h
  unfold small
  omega
end Sp
namespace Tr
open Ap Sg
set_option maxHeartbeats 4000000
theorem big_yes (n : Int) (w : World) (h : Sp.bigN n) : Calls Tryd.prog 25 #[.int .i64 n] w fun e w' => e = .returned (.bool true) ∧ w' = w := by
  rcases h with h | h
  · go_enter Tryd.func25, Tryd.ntmps25
    go_wp2_with fail
    go_ret
    exact ⟨rfl, rfl⟩
  · have h1 : ¬ (576460752303423488 < n) := by omega
    go_enter Tryd.func25, Tryd.ntmps25
    go_wp2_with fail
    go_ret
    exact ⟨rfl, rfl⟩
theorem big_no (n : Int) (w : World) (h : ¬ Sp.bigN n) : Calls Tryd.prog 25 #[.int .i64 n] w fun e w' => e = .returned (.bool false) ∧ w' = w := by
  have h1 : ¬ (576460752303423488 < n) := fun e => h (.inl e)
  have h2 : ¬ (n < -576460752303423488) := fun e => h (.inr e)
  clear h
  go_enter Tryd.func25, Tryd.ntmps25
  go_wp2_with fail
  go_ret
  exact ⟨rfl, rfl⟩
set_option maxRecDepth 100000 in
theorem tback_great (A : Option Addr) (n c : Nat) (l : List Sp.Stp) (s : ByteArray) (w : World) (hs : Sts w A n c l) (hw : Sp.wts l ≤ 1048576) (hg : Gl w) (hb : 1500 < Sp.wts l) :
    Calls Tryd.prog 7 #[.slice A n c, .string s] w fun e w' => e = .returned (.bool true) ∧ Below w.heap.size w w' := by
  have HA := Lib.hid (alive_calls w hg)
  have HG := Lib.hid (fun W h => great_calls A n c l W h (by omega))
  rw [decide_eq_true hb] at HG
  have Hs := Lib.hid hs
  have Hg := Lib.hid hg
  clear hs hg hb hw
  go_enter Tryd.func7, Tryd.ntmps7
  go_wp2_with fail
  refine HA.out.mono ?_
  rintro e w1 ⟨rfl, b1⟩
  have B1 := Lib.hid b1
  clear b1
  go_wp2_with fail
  refine (HG.out _ (Hs.out.below B1.out)).mono ?_
  rintro e w2 ⟨rfl, b2⟩
  have B2 := Lib.hid (step B1.out b2)
  clear b2
  have HA2 := Lib.hid (alive_calls w2 (Hg.out.below B2.out))
  go_wp2_with fail
  refine HA2.out.mono ?_
  rintro e w3 ⟨rfl, b3⟩
  go_wp2_with fail
  go_ret
  exact ⟨rfl, step B2.out b3⟩
set_option maxRecDepth 100000 in
theorem tback_long (A : Option Addr) (n c : Nat) (l : List Sp.Stp) (s : ByteArray) (w : World) (hs : Sts w A n c l) (hw : Sp.wts l ≤ 1500) (hg : Gl w) (hb : 2000 < s.size) (hsz : s.size ≤ 1048576) :
    Calls Tryd.prog 7 #[.slice A n c, .string s] w fun e w' => e = .returned (.bool true) ∧ Below w.heap.size w w' := by
  have HA := Lib.hid (alive_calls w hg)
  have HG := Lib.hid (fun W h => great_calls A n c l W h (by omega))
  rw [decide_eq_false (by omega)] at HG
  have h2 : (2000 : Int) < (s.size : Int) := by omega
  have Hs := Lib.hid hs
  have Hg := Lib.hid hg
  clear hs hg hb hw
  go_enter Tryd.func7, Tryd.ntmps7
  go_wp2_with fail
  refine HA.out.mono ?_
  rintro e w1 ⟨rfl, b1⟩
  have B1 := Lib.hid b1
  clear b1
  go_wp2_with fail
  refine (HG.out _ (Hs.out.below B1.out)).mono ?_
  rintro e w2 ⟨rfl, b2⟩
  have B2 := Lib.hid (step B1.out b2)
  clear b2
  have HA2 := Lib.hid (alive_calls w2 (Hg.out.below B2.out))
  go_wp2_with fail
  refine HA2.out.mono ?_
  rintro e w3 ⟨rfl, b3⟩
  go_wp2_with fail
  go_ret
  exact ⟨rfl, step B2.out b3⟩
set_option maxRecDepth 100000 in
theorem tback_small (A : Option Addr) (n c : Nat) (l : List Sp.Stp) (s : List UInt8) (w : World) (hs : Sts w A n c l) (hn : ∀ x ∈ l, Sp.nums x) (hw : Sp.wts l ≤ 1500) (hg : Gl w) (hl : s.length ≤ 2000) :
    Calls Tryd.prog 7 #[.slice A n c, .string (Sp.bs s)] w fun e w' => e = .returned (.bool true) ∧ Below w.heap.size w w' := by
  have huS := Tryd.underlying42
  have huE := Tryd.underlying29
  have HA := Lib.hid (alive_calls w hg)
  have HG := Lib.hid (fun W h => great_calls A n c l W h (by omega))
  rw [decide_eq_false (by omega)] at HG
  have hz := Sp.bs_size s
  have h2 : ¬ (2000 : Int) < (s.length : Int) := by omega
  have HF := Lib.hid (fun W h h' => fmt_calls A n c l W h hn (by omega) h')
  have hself := str_same s
  have HP := Lib.hid (fun W h => parse_calls s (by omega) (fun x hx => Nat.le_trans (Sp.cutL_le 10 s x hx) (by omega)) W h)
  have hll := hs.len
  have hlw := Sp.wts_len l
  have hn6 : n ≤ 1500 := by omega
  have hob : ∀ x ∈ l, x.outs.length ≤ 1000000 := fun x hx => by
    have h3 := Sp.wts_mem hx
    have h4 := Sp.owts_len x.outs
    unfold Sp.swt at h3
    omega
  have Hob := Lib.hid hob
  have Hll := Lib.hid hll
  have Hs := Lib.hid hs
  have Hg := Lib.hid hg
  have Hl := Lib.hid hl
  have Hn := Lib.hid hn
  have Hw := Lib.hid hw
  clear hs hg hw hn hll hlw hob
  go_enter Tryd.func7, Tryd.ntmps7
  go_wp2_with fail
  refine HA.out.mono ?_
  rintro e w1 ⟨rfl, b1⟩
  have B1 := Lib.hid b1
  clear b1
  go_wp2_with fail
  refine (HG.out _ (Hs.out.below B1.out)).mono ?_
  rintro e w2 ⟨rfl, b2⟩
  have B2 := Lib.hid (step B1.out b2)
  clear b2
  go_wp2_with fail
  go_loopw [32] (fun iv wr => ∃ k : Nat, k ≤ n ∧ iv = .int .i64 (k : Int) ∧ Hid (∀ x ∈ l.take k, Sp.smallN x) ∧ Hid (Below w.heap.size w wr)) (fun iv _ => n - (intOf iv).toNat)
  case atStart => exact ⟨0, by omega, rfl, Lib.hid (fun x hx => by simp at hx), B2⟩
  case round =>
    obtain ⟨k, hk, rfl, hsm, hb⟩ := hrel
    by_cases hlt : k < n
    · have c1 : (k : Int) < (n : Int) := by omega
      have c0 : (0 : Int) ≤ (k : Int) := by omega
      have hw1 : IntKind.i64.wrap ((k : Int) + 1) = (k : Int) + 1 := IntWalk.i64_in _ (by omega)
      obtain ⟨x, hx⟩ : ∃ x, l[k]? = some x := ⟨_, List.getElem?_eq_getElem (by have := Hll.out; omega)⟩
      obtain ⟨b, o, Ad, nd, cd, Ao, no, co, hA, hbl, hcs, hby, hou⟩ := Hs.out.get hx
      subst hA
      have hc6 := st6 (P := fun i u => wr.cell? ⟨b, o + k * 6 + i, none⟩ = some u) (fun i u hi => (hb.out.cell (p := ⟨b, o + k * 6 + i, none⟩) hbl).trans (hcs i u hi))
      simp only [Nat.add_zero] at hc6
      have hbw := Nat.lt_of_lt_of_le hbl hb.out.size
      have HBn : Hid (Below w.heap.size w (wr.alloc (.cells #[.int .i64 x.ev.kind, .int .i64 x.ev.n, .int .i64 x.ev.keep, .slice Ad nd cd, .slice Ao no co, .bool x.gone] 42))) := Lib.hid (step hb.out ((Below.refl _ _).alloc (Nat.le_refl _) _))
      have HTk := Lib.hid (Sp.take_snoc hx)
      by_cases h1 : Sp.bigN x.ev.n
      · have HC := Lib.hid (fun W => big_yes x.ev.n W h1)
        clear hx hcs hby hou h1
        go_wp2_with fail
        refine (HC.out _).mono ?_
        rintro e w4 ⟨rfl, rfl⟩
        go_wp2_with fail
        (try rw [Exit.noGoto_ret])
        go_ret
        exact ⟨rfl, HBn.out⟩
      · by_cases h2 : Sp.bigN x.ev.keep
        · have HC := Lib.hid (fun W => big_no x.ev.n W h1)
          have HD := Lib.hid (fun W => big_yes x.ev.keep W h2)
          clear hx hcs hby hou h1 h2
          go_wp2_with fail
          refine (HC.out _).mono ?_
          rintro e w4 ⟨rfl, rfl⟩
          go_wp2_with fail
          refine (HD.out _).mono ?_
          rintro e w5 ⟨rfl, rfl⟩
          go_wp2_with fail
          (try rw [Exit.noGoto_ret])
          go_ret
          exact ⟨rfl, HBn.out⟩
        · have HC := Lib.hid (fun W => big_no x.ev.n W h1)
          have HD := Lib.hid (fun W => big_no x.ev.keep W h2)
          have HSm : Hid (∀ y ∈ l.take (k + 1), Sp.smallN y) := Lib.hid (fun y hy => by
            rw [HTk.out] at hy
            rcases List.mem_append.1 hy with hy | hy
            · exact hsm.out y hy
            · simp only [List.mem_singleton] at hy
              rw [hy]
              exact ⟨Sp.not_big h1, Sp.not_big h2⟩)
          clear hx hcs hby hou h1 h2
          go_wp2_with fail
          refine (HC.out _).mono ?_
          rintro e w4 ⟨rfl, rfl⟩
          go_wp2_with fail
          refine (HD.out _).mono ?_
          rintro e w5 ⟨rfl, rfl⟩
          go_wp2_with fail
          go_roundw
          case rel => exact ⟨k + 1, by omega, by go_num, HSm, HBn⟩
          case measure => simp [intOf]; omega
    · obtain rfl : k = n := by omega
      have c1 : ¬ (k : Int) < (k : Int) := by omega
      have hLt : l.take k = l := List.take_of_length_le (by have := Hll.out; omega)
      rw [hLt] at hsm
      have HFr := Lib.hid (HF.out wr (Hs.out.below hb.out) (Hg.out.below hb.out))
      clear hLt
      cases hf : Sp.fmtT l with
      | error d =>
        rw [hf] at HFr
        simp only [Sp.evV] at HFr
        have hdd := fmt_code hf
        have hd : (d == 0) = false := by rw [beq_eq_false_iff_ne]; omega
        clear hf hdd
        go_wp2_with fail
        refine HFr.out.mono ?_
        rintro e w3 ⟨rfl, b3⟩
        have BQ := Lib.hid (step hb.out b3)
        clear b3
        go_wp2_with fail
        cases hp : Sp.parseS s with
        | error i =>
          have HE := Lib.hid hp
          clear hp
          refine (HP.out _ (Hg.out.below BQ.out)).mono ?_
          rintro e w6 ⟨hno, -, b6⟩
          obtain rfl := hno i HE.out
          have B6 := Lib.hid (step BQ.out b6)
          clear hno b6
          go_wp2_with fail
          go_ret
          exact ⟨rfl, B6.out⟩
        | ok m =>
          have HE := Lib.hid hp
          have hfm := Sp.fmt_parse hp
          have hsm := Sp.all_small hfm hp
          have hwm := Sp.fmtT_ge hfm
          have hmn : ∀ x ∈ m, Sp.nums x := fun x hx => Sp.small_nums (hsm x hx)
          have hw2 : Sp.wts m ≤ 5000 := by have := Hl.out; omega
          clear hp hsm hwm
          refine (HP.out _ (Hg.out.below BQ.out)).mono ?_
          rintro e w6 ⟨-, hyes, b6⟩
          obtain ⟨A6, n6, c6, rfl, hs6⟩ := hyes m HE.out
          have B6 := Lib.hid (step BQ.out b6)
          have HFm := Lib.hid (fmt_calls A6 n6 c6 m w6 hs6 hmn hw2 (Hg.out.below B6.out))
          rw [hfm] at HFm
          simp only [Sp.evV] at HFm
          clear hyes hs6 b6 hfm hmn hw2
          go_wp2_with fail
          refine HFm.out.mono ?_
          rintro e w7 ⟨rfl, b7⟩
          go_wp2_with fail
          go_ret
          exact ⟨rfl, step B6.out b7⟩
      | ok t =>
        rw [hf] at HFr
        simp only [Sp.evV] at HFr
        have htl := Sp.fmtT_len hf Hn.out
        have hww := Hw.out
        have HPt := Lib.hid (fun W h => parse_calls t (by omega) (Sp.fmt_lines_len hf Hn.out (by omega)) W h)
        have HPf := Lib.hid (Sp.parse_fmt hf hsm.out)
        clear hf htl hww
        go_wp2_with fail
        refine HFr.out.mono ?_
        rintro e w3 ⟨rfl, b3⟩
        have B3 := Lib.hid (step hb.out b3)
        clear b3
        go_wp2_with fail
        refine (HPt.out _ (Hg.out.below B3.out)).mono ?_
        rintro e w4 ⟨-, hyes, b4⟩
        obtain ⟨A4, n4, c4, rfl, hs4⟩ := hyes l HPf.out
        have B4 := Lib.hid (step B3.out b4)
        have HSa := Lib.hid (same_calls A k c A4 n4 c4 l w4 (Hs.out.below B4.out) hs4 (by have := Hll.out; omega) Hob.out)
        generalize (((Sp.cutL 10 t).length - 1 : Nat) : Int) = PN at *
        clear hyes hs4 b4
        go_wp2_with fail
        refine HSa.out.mono ?_
        rintro e w5 ⟨rfl, b5⟩
        have BQ := Lib.hid (step B4.out b5)
        clear b5
        go_wp2_with fail
        cases hp : Sp.parseS s with
        | error i =>
          have HE := Lib.hid hp
          clear hp
          refine (HP.out _ (Hg.out.below BQ.out)).mono ?_
          rintro e w6 ⟨hno, -, b6⟩
          obtain rfl := hno i HE.out
          have B6 := Lib.hid (step BQ.out b6)
          clear hno b6
          go_wp2_with fail
          go_ret
          exact ⟨rfl, B6.out⟩
        | ok m =>
          have HE := Lib.hid hp
          have hfm := Sp.fmt_parse hp
          have hsm := Sp.all_small hfm hp
          have hwm := Sp.fmtT_ge hfm
          have hmn : ∀ x ∈ m, Sp.nums x := fun x hx => Sp.small_nums (hsm x hx)
          have hw2 : Sp.wts m ≤ 5000 := by have := Hl.out; omega
          clear hp hsm hwm
          refine (HP.out _ (Hg.out.below BQ.out)).mono ?_
          rintro e w6 ⟨-, hyes, b6⟩
          obtain ⟨A6, n6, c6, rfl, hs6⟩ := hyes m HE.out
          have B6 := Lib.hid (step BQ.out b6)
          have HFm := Lib.hid (fmt_calls A6 n6 c6 m w6 hs6 hmn hw2 (Hg.out.below B6.out))
          rw [hfm] at HFm
          simp only [Sp.evV] at HFm
          clear hyes hs6 b6 hfm hmn hw2
          go_wp2_with fail
          refine HFm.out.mono ?_
          rintro e w7 ⟨rfl, b7⟩
          go_wp2_with fail
          go_ret
          exact ⟨rfl, step B6.out b7⟩
theorem tback_in (A : Option Addr) (n c : Nat) (l : List Sp.Stp) (s : ByteArray) (w : World) (hs : Sts w A n c l) (hn : ∀ x ∈ l, Sp.nums x) (hw : Sp.wts l ≤ 1048576) (hsz : s.size ≤ 1048576) (hg : Gl w) :
    Calls Tryd.prog 7 #[.slice A n c, .string s] w fun e w' => e = .returned (.bool true) ∧ Below w.heap.size w w' := by
  by_cases hb : 1500 < Sp.wts l
  · exact tback_great A n c l s w hs hw hg hb
  · by_cases h2 : 2000 < s.size
    · exact tback_long A n c l s w hs (by omega) hg h2 hsz
    · have h := tback_small A n c l s.data.toList w hs hn (by omega) hg (by have : s.data.size = s.size := rfl; rw [Array.length_toList]; omega)
      rw [Sp.bs_data] at h
      exact h
end Tr
end Go.Proofs.YtpchfmeaplhodaaDoor
