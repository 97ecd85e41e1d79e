/-
  A part of the proof of this seat's laws: steps' text, the reference's.
-/
import Derived.Test.YtpchfmeaplhodaaDoorTr21
namespace Go.Proofs.YtpchfmeaplhodaaDoor
set_option linter.unusedVariables false
set_option linter.unusedSimpArgs false
open Go.RowKit Go.Shelf
namespace Tr
open Ap Sg
set_option maxHeartbeats 2000000
theorem st6 {P : Nat → Value → Prop} {s : Sp.Stp} {Ad : Option Addr} {nd cd : Nat} {Ao : Option Addr} {no co : Nat} (h : ∀ i u, (stV s Ad nd cd Ao no co)[i]? = some u → P i u) :
    P 0 (.int .i64 s.ev.kind) ∧ P 1 (.int .i64 s.ev.n) ∧ P 2 (.int .i64 s.ev.keep) ∧ P 3 (.slice Ad nd cd) ∧ P 4 (.slice Ao no co) ∧ P 5 (.bool s.gone) :=
  ⟨h 0 _ rfl, h 1 _ rfl, h 2 _ rfl, h 3 _ rfl, h 4 _ rfl, h 5 _ rfl⟩
set_option maxRecDepth 100000 in
theorem rfmt_calls (A : Option Addr) (n c : Nat) (l : List Sp.Stp) (w : World) (hs : Sts w A n c l) (hn : ∀ s ∈ l, Sp.nums s) (hw : Sp.wts l ≤ 5000) :
    Calls Tryd.prog 22 #[.slice A n c] w fun e w' => e = .returned (Sp.evV (Sp.fmtT l)) ∧ Below w.heap.size w w' := by
  have huS := Tryd.underlying42
  have hll := hs.len
  have hlw := Sp.wts_len l
  have hn6 : n ≤ 5000 := by omega
  have Hs := Lib.hid hs
  have Hn := Lib.hid hn
  have Hw := Lib.hid hw
  have Hll := Lib.hid hll
  clear hs hn hw hll hlw
  go_enter Tryd.func22, Tryd.ntmps22
  go_wp2_with fail
  go_loopw [4, 5] (fun sv iv wr => ∃ (k : Nat) (S : List UInt8), k ≤ n ∧ iv = .int .i64 (k : Int) ∧ sv = .string (Sp.bs S) ∧ Hid (Sp.fmtT (l.take k) = .ok S) ∧ Hid (Below w.heap.size w wr)) (fun _ iv _ => n - (intOf iv).toNat)
  case atStart => exact ⟨0, [], by omega, rfl, rfl, rfl, Below.refl _ _⟩
  case round =>
    obtain ⟨k, S, hk, rfl, rfl, hS, hb⟩ := hrel
    have hSl : S.length ≤ 400000 := by
      have h1 := Sp.fmtT_len hS.out (fun x hx => Hn.out x ((List.take_sublist _ _).subset hx))
      have h2 := Sp.wts_take l k
      have := Hw.out
      omega
    have hzS := Sp.bs_size S
    by_cases hlt : k < n
    · have c1 : (k : Int) < (n : Int) := by omega
      have c0 : (0 : Int) ≤ (k : Int) := by omega
      have hw1 : IntKind.i64.wrap ((k : Int) + 1) = (k : Int) + 1 := IntWalk.i64_in _ (by omega)
      obtain ⟨x, hx⟩ : ∃ x, l[k]? = some x := ⟨_, List.getElem?_eq_getElem (by have := Hll.out; omega)⟩
      have hsw := hb.out
      obtain ⟨b, o, Ad, nd, cd, Ao, no, co, hA, hbl, hcs, hby, hou⟩ := (Hs.out.below hb.out).get hx
      subst hA
      have hc6 := st6 hcs
      have hxm := List.mem_of_getElem? hx
      have hxw : Sp.swt x ≤ 50000 := by have := Sp.wts_mem hxm; have := Hw.out; omega
      have HSt := Lib.hid (rstep_calls x Ad nd cd Ao no co wr hby hou (Hn.out x hxm) hxw)
      simp only [Nat.add_zero] at hc6
      cases hst : Sp.stepT x with
      | error d =>
        have HF := Lib.hid (Sp.fmtT_err hS.out hx hst)
        have hdd := Sp.stepT_code hst
        have hd : (d != 0) = true := by rw [bne_iff_ne]; omega
        rw [hst] at HSt
        simp only [Sp.evV] at HSt
        clear hx hsw hcs hby hou hxm hxw hdd hst
        go_wp2_with fail
        refine HSt.out.mono ?_
        rintro e w5 ⟨rfl, b5⟩
        have B5 := Lib.hid (step hb.out b5)
        clear b5
        go_wp2_with fail
        go_ret2
        exact ⟨by rw [HF.out]; rfl, B5.out⟩
      | ok u =>
        have HF := Lib.hid (Sp.fmtT_snoc hS.out hst)
        rw [← Sp.take_snoc hx] at HF
        have hul : u.length ≤ 400000 := by
          have h1 := Sp.stepT_len hst (Hn.out x hxm)
          have := Sp.wts_mem hxm
          have := Hw.out
          omega
        have hzu := Sp.bs_size u
        have happ : Sp.bs S ++ Sp.bs u = Sp.bs (S ++ u) := Sp.bs_append _ _
        rw [hst] at HSt
        simp only [Sp.evV] at HSt
        clear hx hsw hcs hby hou hxm hxw hst
        go_wp2_with fail
        refine HSt.out.mono ?_
        rintro e w5 ⟨rfl, b5⟩
        have B5 := Lib.hid (step hb.out b5)
        clear b5
        go_wp2_with fail
        go_roundw
        case rel => exact ⟨k + 1, S ++ u, by omega, by go_num, rfl, HF, B5⟩
        case measure => simp [intOf]; omega
    · obtain rfl : k = n := by omega
      have c1 : ¬ (k : Int) < (k : Int) := by omega
      have hLt : l.take k = l := List.take_of_length_le (by have := Hll.out; omega)
      rw [hLt] at hS
      clear hLt
      go_wp2_with fail
      go_ret2
      exact ⟨by rw [hS.out]; rfl, hb.out⟩
end Tr
end Go.Proofs.YtpchfmeaplhodaaDoor
