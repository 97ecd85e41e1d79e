/-
  A part of the proof of this seat's laws: the reference's repetitions and components.
-/
import Derived.Deep.RegionWith
import Derived.Test.YtcldnibedimepaaSg8
namespace Go.Proofs.Ytcldnibedimepaa
set_option linter.unusedVariables false
set_option linter.unusedSimpArgs false
open Go.RowKit Go.Shelf
namespace Sp
theorem pick_out {l : List (List UInt8)} {n : Int} (h : ¬(1 ≤ n ∧ n ≤ (l.length : Int))) : pick l n = [] := by
  unfold pick
  split
  · rw [List.getElem?_eq_none (by omega)]; rfl
  · rfl
theorem pick_at {l : List (List UInt8)} {j : Nat} (h : j < l.length) : l[j]? = some (pick l ((j : Int) + 1)) := by
  unfold pick
  rw [if_pos (by omega)]
  have : ((j : Int) + 1 - 1).toNat = j := by omega
  rw [this, List.getElem?_eq_getElem h]; rfl
theorem vals_at {l : List (List UInt8)} {j : Nat} (h : j < l.length) : (vals l)[j]? = some (.string (bs (pick l ((j : Int) + 1)))) := by
  rw [List.getElem?_map, pick_at h]; rfl
end Sp
namespace Sg
open Ap
set_option maxHeartbeats 2000000
theorem refAgains_calls (s : List UInt8) (F P R E U : UInt8) (hs : s.length ≤ 100000) (w : World) :
    Calls Try.prog 15 #[.string (Sp.bs s), dv F P R E U] w fun e w' =>
      ∃ A C, e = .returned (.slice A (Sp.cutL R s).length C) ∧ Mine w' w.heap.size A (Sp.cutL R s).length C (Sp.vals (Sp.cutL R s)) ∧ Below w.heap.size w w' := by
  have huD := Try.underlying23
  have h5 := Five.new F P R E U w
  have hB : Below w.heap.size w (w.alloc (.cells #[.int .u8 (F.toNat : Int), .int .u8 (P.toNat : Int), .int .u8 (R.toNat : Int), .int .u8 (E.toNat : Int), .int .u8 (U.toNat : Int)] 23)) := (Below.refl _ _).alloc (Nat.le_refl _) _
  have Hc := Lib.hid (refCut_calls s R hs)
  go_enter Try.func15, Try.ntmps15
  go_wp2_with fail
  have hc := h5.cells
  generalize (w.alloc (.cells #[.int .u8 (F.toNat : Int), .int .u8 (P.toNat : Int), .int .u8 (R.toNat : Int), .int .u8 (E.toNat : Int), .int .u8 (U.toNat : Int)] 23)) = W at *
  go_wp2_with fail
  refine (Hc.out _).mono ?_
  rintro e w' ⟨A, C, rfl, hm, hb⟩
  go_wp2_with fail
  go_ret
  exact ⟨_, _, rfl, hm.mono hB.size, hB.trans (hb.mono hB.size)⟩
theorem refParts_no (s : List UInt8) (n : Int) (F P R E U : UInt8) (hs : s.length ≤ 100000) (w : World) (hn : ¬(1 ≤ n ∧ n ≤ ((Sp.cutL R s).length : Int))) :
    Calls Try.prog 17 #[.string (Sp.bs s), .int .i64 n, dv F P R E U] w fun e w' => e = .returned (.slice none 0 0) ∧ Below w.heap.size w w' := by
  have huD := Try.underlying23
  have h5 := Five.new F P R E U w
  have hB : Below w.heap.size w (w.alloc (.cells #[.int .u8 (F.toNat : Int), .int .u8 (P.toNat : Int), .int .u8 (R.toNat : Int), .int .u8 (E.toNat : Int), .int .u8 (U.toNat : Int)] 23)) := (Below.refl _ _).alloc (Nat.le_refl _) _
  have Hc := Lib.hid (refAgains_calls s F P R E U hs)
  generalize (Sp.cutL R s).length = N at *
  have Hn := Lib.hid hn
  clear hn
  go_enter Try.func17, Try.ntmps17
  go_wp2_with fail
  have hc := h5.cells
  generalize (w.alloc (.cells #[.int .u8 (F.toNat : Int), .int .u8 (P.toNat : Int), .int .u8 (R.toNat : Int), .int .u8 (E.toNat : Int), .int .u8 (U.toNat : Int)] 23)) = W at *
  go_wp2_with fail
  refine (Hc.out _).mono ?_
  rintro e w' ⟨A, C, rfl, hm, hb⟩
  have hbb := hB.trans (hb.mono hB.size)
  clear hm hb hB hc h5
  by_cases h1 : n < 1
  · go_wp2_with fail
    go_ret
    exact ⟨rfl, hbb⟩
  · have h2 : (N : Int) < n := by have := Hn.out; omega
    go_wp2_with fail
    go_ret
    exact ⟨rfl, hbb⟩
theorem refParts_yes (s : List UInt8) (j : Nat) (F P R E U : UInt8) (hs : s.length ≤ 100000) (w : World) (hn : j < (Sp.cutL R s).length) :
    Calls Try.prog 17 #[.string (Sp.bs s), .int .i64 ((j : Int) + 1), dv F P R E U] w fun e w' =>
      ∃ A C, e = .returned (.slice A (Sp.cutL P (Sp.pick (Sp.cutL R s) ((j : Int) + 1))).length C) ∧ Mine w' w.heap.size A (Sp.cutL P (Sp.pick (Sp.cutL R s) ((j : Int) + 1))).length C (Sp.vals (Sp.cutL P (Sp.pick (Sp.cutL R s) ((j : Int) + 1)))) ∧ Below w.heap.size w w' := by
  have huD := Try.underlying23
  have h5 := Five.new F P R E U w
  have hB : Below w.heap.size w (w.alloc (.cells #[.int .u8 (F.toNat : Int), .int .u8 (P.toNat : Int), .int .u8 (R.toNat : Int), .int .u8 (E.toNat : Int), .int .u8 (U.toNat : Int)] 23)) := (Below.refl _ _).alloc (Nat.le_refl _) _
  have Hc := Lib.hid (refAgains_calls s F P R E U hs)
  have Hcut := Lib.hid (refCut_calls (Sp.pick (Sp.cutL R s) ((j : Int) + 1)) P (Nat.le_trans Sp.pick_len hs))
  have hv := Sp.vals_at hn
  have hlen := Sp.cutL_length R s
  have hcnt := List.count_le_length (a := R) (l := s)
  generalize Sp.pick (Sp.cutL R s) ((j : Int) + 1) = x at *
  generalize Sp.cutL P x = ys at *
  generalize hvs : Sp.vals (Sp.cutL R s) = vs at *
  generalize (Sp.cutL R s).length = N at *
  have hwj : IntKind.i64.wrap (j : Int) = (j : Int) := IntWalk.i64_in _ (by omega)
  have c1 : ¬ ((j : Int) + 1 < 1) := by omega
  have c2 : ¬ ((N : Int) < (j : Int) + 1) := by omega
  have c3 : (j : Int) < (N : Int) := by omega
  have c4 : (0 : Int) ≤ (j : Int) := by omega
  clear hlen hcnt hn
  have Hv := Lib.hid hv
  clear hv
  go_enter Try.func17, Try.ntmps17
  go_wp2_with fail
  have hc := h5.cells
  generalize (w.alloc (.cells #[.int .u8 (F.toNat : Int), .int .u8 (P.toNat : Int), .int .u8 (R.toNat : Int), .int .u8 (E.toNat : Int), .int .u8 (U.toNat : Int)] 23)) = W at *
  go_wp2_with fail
  refine (Hc.out _).mono ?_
  rintro e w' ⟨A, C, rfl, hm, hb⟩
  obtain ⟨g, rfl, hg, hlt, hcell⟩ := hm.cell (by omega)
  have hcj := hcell j _ Hv.out
  rw [Nat.zero_add] at hcj
  have hbb := hB.trans (hb.mono hB.size)
  have h52 := h5.below hb h5.lt
  have hc2 := h52.cells
  clear hm hb hB hc h5 hcell
  go_wp2_with fail
  go_region_with (go_at_call 32; refine (Hcut.out _).mono ?_; rintro e w4 ⟨A4, C4, rfl, hm4, hb4⟩)
  all_goals
    go_wp2_with fail
    go_ret
    exact ⟨_, _, rfl, hm4.mono hbb.size, hbb.trans ((Below.refl _ _).drew.trans (hb4.mono hbb.size))⟩
end Sg
end Go.Proofs.Ytcldnibedimepaa
