/-
  A part of the proof of this seat's laws: how much steps are.
-/
import Derived.Test.YtpchfmeaplhodaaDoorTr12
import Derived.Test.YtpchfmeaplhodaaDoorTpM
import Derived.Test.YtpchfmeaplhodaaDoorTr22
import Derived.Test.YtpchfmeaplhodaaDoorTr13
namespace Go.Proofs.YtpchfmeaplhodaaDoor
set_option linter.unusedVariables false
set_option linter.unusedSimpArgs false
open Go.RowKit Go.Shelf
namespace Sp
theorem wts_snoc {l : List Stp} {k : Nat} {x : Stp} (h : l[k]? = some x) : wts (l.take (k + 1)) = wts (l.take k) + swt x := by
  rw [take_snoc h, wts_app]; simp [wts]
theorem owts_snoc {l : List Out} {k : Nat} {x : Out} (h : l[k]? = some x) : owts (l.take (k + 1)) = owts (l.take k) + owt x := by
  rw [take_snoc h, owts_app]; simp [owts]
end Sp
namespace Tr
open Ap Sg
set_option maxHeartbeats 2000000
set_option maxRecDepth 100000 in
theorem great_calls (A : Option Addr) (n c : Nat) (l : List Sp.Stp) (w : World) (hs : Sts w A n c l) (hw : Sp.wts l ≤ 100000000) :
    Calls Tryd.prog 20 #[.slice A n c] w fun e w' => e = .returned (.bool (decide (1500 < Sp.wts l))) ∧ Below w.heap.size w w' := by
  have huS := Tryd.underlying42
  have huE := Tryd.underlying29
  have huO := Tryd.underlying56
  have hll := hs.len
  have hlw := Sp.wts_len l
  have hn6 : n ≤ 100000000 := by omega
  have Hs := Lib.hid hs
  have Hw := Lib.hid hw
  have Hll := Lib.hid hll
  clear hs hw hll hlw
  go_enter Tryd.func20, Tryd.ntmps20
  go_wp2_with fail
  go_loopw [3, 10] (fun sv iv wr => ∃ (k T : Nat), k ≤ n ∧ iv = .int .i64 (k : Int) ∧ sv = .int .i64 (T : Int) ∧ Hid (T = Sp.wts (l.take k)) ∧ Hid (Below w.heap.size w wr)) (fun _ iv _ => n - (intOf iv).toNat)
  case atStart => exact ⟨0, 0, by omega, rfl, rfl, rfl, Below.refl _ _⟩
  case round =>
    obtain ⟨k, T, hk, rfl, rfl, hT, hb⟩ := hrel
    have hTl : T ≤ 100000000 := by
      have h2 := Sp.wts_take l k
      have := Hw.out
      have := hT.out
      omega
    by_cases hlt : k < n
    · have c1 : (k : Int) < (n : Int) := by omega
      have c0 : (0 : Int) ≤ (k : Int) := by omega
      have hw1 : IntKind.i64.wrap ((k : Int) + 1) = (k : Int) + 1 := IntWalk.i64_in _ (by omega)
      obtain ⟨x, hx⟩ : ∃ x, l[k]? = some x := ⟨_, List.getElem?_eq_getElem (by have := Hll.out; omega)⟩
      obtain ⟨b, o, Ad, nd, cd, Ao, no, co, hA, hbl, hcs, hby, hou⟩ := Hs.out.get hx
      subst hA
      have hc6 := st6 (P := fun i u => wr.cell? ⟨b, o + k * 6 + i, none⟩ = some u) (fun i u hi => (hb.out.cell (p := ⟨b, o + k * 6 + i, none⟩) hbl).trans (hcs i u hi))
      simp only [Nat.add_zero] at hc6
      have hbw := Nat.lt_of_lt_of_le hbl hb.out.size
      have hwx := Sp.wts_mem (List.mem_of_getElem? hx)
      have Hww := Hw.out
      have hsw : Sp.swt x = 1 + x.ev.data.length + Sp.owts x.outs := rfl
      have hdl := hby.len
      have hol := hou.len
      have hno := Sp.owts_len x.outs
      have hTn := Sp.wts_snoc hx
      have hT2 := Sp.wts_take l (k + 1)
      have hTk := hT.out
      have hnd : nd ≤ 100000000 := by omega
      have hno6 : no ≤ 100000000 := by omega
      have hsum : T + (1 + nd) + Sp.owts x.outs ≤ 100000000 := by omega
      have HN : Hid (T + (1 + nd) + Sp.owts x.outs = Sp.wts (l.take (k + 1))) := Lib.hid (by omega)
      have hwa : IntKind.i64.wrap (1 + (nd : Int)) = 1 + (nd : Int) := IntWalk.i64_in _ (by omega)
      obtain ⟨T1, hT1⟩ : ∃ T1, T1 = T + (1 + nd) := ⟨_, rfl⟩
      have hwb : IntKind.i64.wrap ((T : Int) + (1 + (nd : Int))) = (T1 : Int) := by rw [IntWalk.i64_in _ (by omega)]; omega
      rw [← hT1] at hsum HN
      have HT1 := Lib.hid hT1
      have Hou := Lib.hid hou
      have Hol := Lib.hid hol
      have Hbn : Hid (Below w.heap.size w (wr.alloc (.cells #[.int .i64 x.ev.kind, .int .i64 x.ev.n, .int .i64 x.ev.keep, .slice Ad nd cd, .slice Ao no co, .bool x.gone] 42))) := Lib.hid (step hb.out ((Below.refl _ _).alloc (Nat.le_refl _) _))
      generalize hL : x.outs = L at *
      generalize hev : x.ev = EV at *
      generalize hgn : x.gone = gn at *
      clear hx hcs hby hou hwx Hww hsw hdl hol hno hTn hT2 hTk hT1 hL hev hgn
      go_wp2_with fail
      go_loopw [3, 24] (fun sv iv wr2 => ∃ (j T2 : Nat), j ≤ no ∧ iv = .int .i64 (j : Int) ∧ sv = .int .i64 (T2 : Int) ∧ Hid (T2 = T1 + Sp.owts (L.take j)) ∧ Hid (Below w.heap.size w wr2)) (fun _ iv _ => no - (intOf iv).toNat)
      case atStart => exact ⟨0, T1, by omega, rfl, rfl, by simp [Hid, Sp.owts], Hbn⟩
      case round =>
        obtain ⟨j, T2, hj, rfl, rfl, hT2, hb2⟩ := hrel
        clear Hbn
        have hT2l : T2 ≤ 100000000 := by
          have h2 := Sp.owts_take L j
          have := hT2.out
          omega
        by_cases hjl : j < no
        · have d1 : (j : Int) < (no : Int) := by omega
          have d0 : (0 : Int) ≤ (j : Int) := by omega
          have hwj : IntKind.i64.wrap ((j : Int) + 1) = (j : Int) + 1 := IntWalk.i64_in _ (by omega)
          obtain ⟨y, hy⟩ : ∃ y, L[j]? = some y := ⟨_, List.getElem?_eq_getElem (by have := Hol.out; omega)⟩
          obtain ⟨b2, o2, A', n', c', hAo, hbl2, k1, k2, hB⟩ := Hou.out.get hy
          subst hAo
          have k1' := (hb2.out.cell (p := ⟨b2, o2 + j * 2, none⟩) hbl2).trans k1
          have k2' := (hb2.out.cell (p := ⟨b2, o2 + j * 2 + 1, none⟩) hbl2).trans k2
          have hbw2 := Nat.lt_of_lt_of_le hbl2 hb2.out.size
          have hyn := hB.by_.len
          have hyo := Sp.owts_snoc hy
          have hyt := Sp.owts_take L (j + 1)
          have hyw : Sp.owt y = 1 + y.data.length := rfl
          have hTq := hT2.out
          have hn' : n' ≤ 100000000 := by omega
          have hwc : IntKind.i64.wrap (1 + (n' : Int)) = 1 + (n' : Int) := IntWalk.i64_in _ (by omega)
          obtain ⟨T3, hT3⟩ : ∃ T3, T3 = T2 + (1 + n') := ⟨_, rfl⟩
          have hwd : IntKind.i64.wrap ((T2 : Int) + (1 + (n' : Int))) = (T3 : Int) := by rw [IntWalk.i64_in _ (by omega)]; omega
          have HN3 : Hid (T3 = T1 + Sp.owts (L.take (j + 1))) := Lib.hid (by omega)
          have HB3 := Lib.hid (step hb2.out ((Below.refl _ _).alloc (Nat.le_refl _) (.cells #[.bool y.back, .slice A' n' c'] 56)))
          generalize y.back = bk at *
          clear hy k1 k2 hB hyn hyo hyt hyw hTq hT3
          go_wp2_with fail
          go_roundw
          case rel => exact ⟨j + 1, T3, by omega, by go_num, rfl, HN3, HB3⟩
          case measure => simp [intOf]; omega
        · obtain rfl : j = no := by omega
          have d1 : ¬ (j : Int) < (j : Int) := by omega
          have hLt : L.take j = L := List.take_of_length_le (by have := Hol.out; omega)
          have HE : Hid (T2 = Sp.wts (l.take (k + 1))) := Lib.hid (by rw [hT2.out, hLt]; exact HN.out)
          clear hLt
          go_wp2_with fail
          go_roundw
          case rel => exact ⟨k + 1, T2, by omega, by go_num, rfl, HE, hb2⟩
          case measure => simp [intOf]; omega
    · obtain rfl : k = n := by omega
      have c1 : ¬ (k : Int) < (k : Int) := by omega
      have hLt : l.take k = l := List.take_of_length_le (by have := Hll.out; omega)
      have HTw : Hid (T = Sp.wts l) := Lib.hid (by rw [hT.out, hLt])
      clear hLt
      by_cases hg : 1500 < T
      · have c2 : (1500 : Int) < (T : Int) := by omega
        have HG : Hid (decide (1500 < T) = true) := Lib.hid (decide_eq_true hg)
        clear hg
        go_wp2_with fail
        go_ret
        exact ⟨by rw [← HTw.out, HG.out]; rfl, hb.out⟩
      · have c2 : ¬ (1500 : Int) < (T : Int) := by omega
        have HG : Hid (decide (1500 < T) = false) := Lib.hid (decide_eq_false hg)
        clear hg
        go_wp2_with fail
        go_ret
        exact ⟨by rw [← HTw.out, HG.out]; rfl, hb.out⟩
end Tr
end Go.Proofs.YtpchfmeaplhodaaDoor
