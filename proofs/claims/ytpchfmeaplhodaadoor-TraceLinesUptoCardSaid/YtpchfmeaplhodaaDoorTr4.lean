/-
  A part of the proof of this seat's laws: what the package-level variables hold; numbers' texts, both sides.
-/
import Derived.Test.YtpchfmeaplhodaaDoorTr2
import Derived.Test.YtpchfmeaplhodaaDoorTp2
import Derived.Test.YtpchfmeaplhodaaDoorG4s
import Derived.Lib.LaidTab
import Derived.Lib.AtoiErrMem
namespace Go.Proofs.YtpchfmeaplhodaaDoor
set_option linter.unusedVariables false
set_option linter.unusedSimpArgs false
open Go.RowKit Go.Shelf
namespace Tr
open Ap Sg
set_option maxHeartbeats 8000000
theorem run_lt {w : World} {a : Addr} {v : Value} (h : w.cell? a = some v) : a.block < w.heap.size := World.block_lt_of_cell? _ _ h
theorem grow_below (w : World) (k : Nat) (os : Array Obj) : Below w.heap.size w (Go.Sort.grow (w.drewN k) os) := by
  refine ⟨rfl, rfl, rfl, ?_, ?_⟩
  · show w.heap.size ≤ (w.heap ++ os).size
    rw [Array.size_append]; omega
  · intro i hi
    show (w.heap ++ os)[i]? = w.heap[i]?
    rw [Array.getElem?_append_left hi]
/-- an error's variable -/
def Ev (w : World) (g : Nat) : Prop := ∃ ev, w.cell? ⟨g, 0, none⟩ = some ev ∧ (ev = .nilIface ∨ ∃ te pe, ev = .iface te pe)
theorem Ev.below {w w' : World} {g : Nat} (h : Ev w g) (hb : Below w.heap.size w w') : Ev w' g := by
  obtain ⟨ev, hv, he⟩ := h
  exact ⟨ev, (hb.cell (p := ⟨g, 0, none⟩) (run_lt hv)).trans hv, he⟩
theorem tab_below {w w' : World} {name : String} {k : IntKind} {zs : List Int} (h : Lib.TabIs Tryd.prog w name k zs) (hb : Below w.heap.size w w') : Lib.TabIs Tryd.prog w' name k zs := by
  unfold Lib.TabIs World.var? at *
  cases hg : Tryd.prog.globalNamed name with
  | none => simp [hg] at h
  | some g =>
    simp only [hg, Option.bind_some] at h ⊢
    have hlt : g < w.heap.size := by
      rcases Nat.lt_or_ge g w.heap.size with h' | h'
      · exact h'
      · rw [Array.getElem?_eq_none h'] at h; simp at h
    rw [hb.block g hlt]
    exact h
/-- the numbers' own variables -/
structure Nv (w : World) : Prop where
  tab : Lib.TabIs Tryd.prog w "internal/strconv.uint64pow10" .u64 Lib.pow10Tab
  syn : Ev w 3
  rng : Ev w 4
theorem Nv.below {w w' : World} (h : Nv w) (hb : Below w.heap.size w w') : Nv w' := ⟨tab_below h.tab hb, h.syn.below hb, h.rng.below hb⟩
theorem atoi_calls (s : List UInt8) (hs : s.length ≤ 100000) (w : World) (hg : Nv w) :
    Calls Tryd.prog 59 #[.string (Sp.bs s)] w fun e w' => (∃ (v : Int) (ev : Value), e = .returned (.tuple #[.int .i64 v, ev]) ∧ ((ev = .nilIface ∧ Lib.atoiAll s = .ok v) ∨ ((∃ t N, ev = .iface t (.pointer (some ⟨N, 0, none⟩))) ∧ ∀ v, Lib.atoiAll s ≠ .ok v))) ∧ Below w.heap.size w w' := by
  have hl : (Sp.bs s).data.toList = s := Sp.bs_list s
  have hz := Sp.bs_size s
  obtain ⟨e1, h1, h1'⟩ := hg.syn
  obtain ⟨e2, h2, h2'⟩ := hg.rng
  cases h : Lib.atoiAll s
  · rename_i v
    refine (Tryd.strconv_Atoi_ok (Sp.bs s) (by omega) v (by rw [hl]; exact h) w).mono ?_
    rintro e w' ⟨rfl, hw⟩
    refine ⟨⟨v, .nilIface, rfl, .inl ⟨rfl, rfl⟩⟩, ?_⟩
    rcases hw with rfl | ⟨t, rfl⟩
    · exact Below.refl _ _
    · exact Lib.bytesWorld_below _ _ _
  · refine (Any.strconv_Atoi_syntax Tryd.laysC172 (Sp.bs s) (by omega) (by rw [hl]; exact h) e1 w h1 h1').mono ?_
    rintro e w' ⟨N, rfl, -, -, hb⟩
    exact ⟨⟨_, _, rfl, .inr ⟨⟨_, _, rfl⟩, fun v hv => by cases hv⟩⟩, hb⟩
  · refine (Tryd.strconv_Atoi_range (Sp.bs s) (by omega) (by rw [hl]; exact h) e2 w h2 h2').mono ?_
    rintro e w' ⟨N, rfl, -, -, hb⟩
    exact ⟨⟨_, _, rfl, .inr ⟨⟨_, _, rfl⟩, fun v hv => by cases hv⟩⟩, hb⟩
theorem itoa_calls (n : Int) (h0 : -9223372036854775808 ≤ n) (h1 : n ≤ 9223372036854775807) (w : World) (hg : Nv w) :
    Calls Tryd.prog 30 #[.int .i64 n] w fun e w' => e = .returned (.string (Sp.bs (Lib.itoa n))) ∧ Below w.heap.size w w' := by
  refine (Tryd.strconv_Itoa n h0 h1 w hg.tab).mono ?_
  rintro e w' ⟨rfl, k, os, rfl⟩
  exact ⟨rfl, grow_below _ _ _⟩
theorem trim_calls (s : List UInt8) (w : World) : Calls Tryd.prog 60 #[.string (Sp.bs s), .string ⟨#[45]⟩] w fun e w' => e = .returned (.string (Sp.bs (Lib.trimPrefix s [45]))) ∧ w' = w := by
  have h := Tryd.strings_TrimPrefix (Sp.bs s) ⟨#[45]⟩ w
  rw [Sp.bs_list] at h
  exact h
/-- what the number of a text is told as -/
def NumRet (w : World) (s : List UInt8) (e : Ending) (w' : World) : Prop :=
  (Sp.numT s = none → e = .returned (.tuple #[.int .i64 0, .bool false])) ∧
  (∀ n, Sp.numT s = some n → e = .returned (.tuple #[.int .i64 n, .bool true])) ∧ Below w.heap.size w w'
theorem NumRet.no {w w' : World} {s : List UInt8} (h : Sp.numT s = none) (hb : Below w.heap.size w w') : NumRet w s (.returned (.tuple #[.int .i64 0, .bool false])) w' :=
  ⟨fun _ => rfl, (fun t h' => by rw [h] at h'; cases h'), hb⟩
theorem NumRet.yes {w w' : World} {s : List UInt8} {n : Int} (h : Sp.numT s = some n) (hb : Below w.heap.size w w') : NumRet w s (.returned (.tuple #[.int .i64 n, .bool true])) w' :=
  ⟨(fun h' => by rw [h] at h'; cases h'), (fun t' h' => by rw [h] at h'; cases h'; rfl), hb⟩
set_option maxRecDepth 100000 in
theorem number_calls (s : List UInt8) (hs : s.length ≤ 100000) (w : World) (hg : Nv w) :
    Calls Tryd.prog 48 #[.string (Sp.bs s)] w fun e w' => NumRet w s e w' := by
  have hz := Sp.bs_size s
  have Ha := Lib.hid (atoi_calls s hs w hg)
  have Hg := Lib.hid hg
  clear hg
  go_enter Tryd.func48, Tryd.ntmps48
  go_wp2_with fail
  refine Ha.out.mono ?_
  rintro e w1 ⟨⟨v, ev, rfl, hc⟩, b1⟩
  rcases hc with ⟨rfl, hv⟩ | ⟨⟨t, N, rfl⟩, hv⟩
  · have hvb := Lib.atoiAll_bounds hv
    have Hi := Lib.hid (itoa_calls v hvb.1 hvb.2 w1 (Hg.out.below b1))
    have B1 := Lib.hid b1
    have hi1 : ((Sp.bs (Lib.itoa v)).toList == (Sp.bs s).toList) = decide (Lib.itoa v = s) := by
      rw [Sp.bs_toList, Sp.bs_toList]
      by_cases h : Lib.itoa v = s
      · rw [decide_eq_true h, h]; simp
      · rw [decide_eq_false h, beq_eq_false_iff_ne]; exact h
    have hnum : Sp.numT s = if Lib.itoa v = s ∧ (Lib.trimPrefix s [45]).length ≤ 18 then some v else none := by unfold Sp.numT; rw [hv]
    by_cases h1 : Lib.itoa v = s
    · rw [decide_eq_true h1] at hi1
      have Ht := Lib.hid (trim_calls s)
      have htl := Sp.bs_size (Lib.trimPrefix s [45])
      by_cases h2 : (Lib.trimPrefix s [45]).length ≤ 18
      · have HQ := Lib.hid (fun w' hb => NumRet.yes (w := w) (w' := w') (s := s) (n := v) (by rw [hnum, if_pos ⟨h1, h2⟩]) hb)
        have c2 : ¬ (18 : Int) < ((Lib.trimPrefix s [45]).length : Int) := by omega
        clear hnum h1 h2 hv hvb b1
        go_wp2_with fail
        refine Hi.out.mono ?_
        rintro e w2 ⟨rfl, b2⟩
        go_wp2_with fail
        refine (Ht.out _).mono ?_
        rintro e w3 ⟨rfl, rfl⟩
        go_wp2_with fail
        go_ret2
        exact HQ.out _ (step B1.out b2)
      · have HQ := Lib.hid (fun w' hb => NumRet.no (w := w) (w' := w') (s := s) (by rw [hnum, if_neg (fun h => h2 h.2)]) hb)
        have c2 : (18 : Int) < ((Lib.trimPrefix s [45]).length : Int) := by omega
        clear hnum h1 h2 hv hvb b1
        go_wp2_with fail
        refine Hi.out.mono ?_
        rintro e w2 ⟨rfl, b2⟩
        go_wp2_with fail
        refine (Ht.out _).mono ?_
        rintro e w3 ⟨rfl, rfl⟩
        go_wp2_with fail
        go_ret2
        exact HQ.out _ (step B1.out b2)
    · rw [decide_eq_false h1] at hi1
      have HQ := Lib.hid (fun w' hb => NumRet.no (w := w) (w' := w') (s := s) (by rw [hnum, if_neg (fun h => h1 h.1)]) hb)
      clear hnum h1 hv hvb b1
      go_wp2_with fail
      refine Hi.out.mono ?_
      rintro e w2 ⟨rfl, b2⟩
      go_wp2_with fail
      go_ret2
      exact HQ.out _ (step B1.out b2)
  · have HQ := Lib.hid (NumRet.no (w := w) (w' := w1) (s := s) (by
      unfold Sp.numT
      split
      · rename_i m hm; exact absurd hm (hv m)
      · rfl) b1)
    clear hv b1
    go_wp2_with fail
    go_ret2
    exact HQ.out
end Tr
end Go.Proofs.YtpchfmeaplhodaaDoor
