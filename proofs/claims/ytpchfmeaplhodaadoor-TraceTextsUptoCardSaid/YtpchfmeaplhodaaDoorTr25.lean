/-
  A part of the proof of this seat's laws: steps are told to be the same.
-/
import Derived.Test.YtpchfmeaplhodaaDoorTr22
import Derived.Test.YtpchfmeaplhodaaDoorTr13
import Derived.Test.YtpchfmeaplhodaaDoorQr
import Derived.Deep.QuietTactic
import Derived.BigQuiet
namespace Go.Proofs.YtpchfmeaplhodaaDoor
set_option linter.unusedVariables false
set_option linter.unusedSimpArgs false
open Go.RowKit Go.Shelf
namespace Tr
open Ap Sg
set_option maxHeartbeats 2000000
theorem str_same (t : List UInt8) : ((Sp.bs t).toList == (Sp.bs t).toList) = true := by rw [str_eq]; simp
set_option maxRecDepth 100000 in
theorem same_calls (A : Option Addr) (n c : Nat) (A' : Option Addr) (n' c' : Nat) (l : List Sp.Stp) (w : World) (hs : Sts w A n c l) (hs' : Sts w A' n' c' l) (hl : l.length ≤ 1000000) (hL : ∀ s ∈ l, s.outs.length ≤ 1000000) :
    Calls Tryd.prog 19 #[.slice A n c, .slice A' n' c'] w fun e w' => e = .returned (.bool true) ∧ Below w.heap.size w w' := by
  have huS := Tryd.underlying42
  have huE := Tryd.underlying29
  have huO := Tryd.underlying56
  obtain rfl : n' = n := hs'.len.symm.trans hs.len
  have hll := hs.len
  have hn6 : n' ≤ 1000000 := by omega
  have Hs := Lib.hid hs
  have Hs' := Lib.hid hs'
  have Hll := Lib.hid hll
  have HL := Lib.hid hL
  clear hs hs' hll hl hL
  go_enter Tryd.func19, Tryd.ntmps19
  go_wp2_with fail
  go_loopw [5] (fun iv wr => ∃ k : Nat, k ≤ n' ∧ iv = .int .i64 (k : Int) ∧ Hid (Below w.heap.size w wr)) (fun iv _ => n' - (intOf iv).toNat)
  case atStart => exact ⟨0, by omega, rfl, Below.refl _ _⟩
  case round =>
    obtain ⟨k, hk, rfl, hb⟩ := hrel
    by_cases hlt : k < n'
    · have c1 : (k : Int) < (n' : Int) := by omega
      have c0 : (0 : Int) ≤ (k : Int) := by omega
      have hw1 : IntKind.i64.wrap ((k : Int) + 1) = (k : Int) + 1 := IntWalk.i64_in _ (by omega)
      obtain ⟨x, hx⟩ : ∃ x, l[k]? = some x := ⟨_, List.getElem?_eq_getElem (by have := Hll.out; omega)⟩
      obtain ⟨b, o, Ad, nd, cd, Ao, no, co, hA, hbl, hcs, hby, hou⟩ := Hs.out.get hx
      obtain ⟨b', o', Ad', nd', cd', Ao', no', co', hA', hbl', hcs', hby', hou'⟩ := Hs'.out.get hx
      subst hA hA'
      obtain rfl : no' = no := hou'.len.symm.trans hou.len
      have hc6 := st6 (P := fun i u => wr.cell? ⟨b, o + k * 6 + i, none⟩ = some u) (fun i u hi => (hb.out.cell (p := ⟨b, o + k * 6 + i, none⟩) hbl).trans (hcs i u hi))
      have hc6' := st6 (P := fun i u => wr.cell? ⟨b', o' + k * 6 + i, none⟩ = some u) (fun i u hi => (hb.out.cell (p := ⟨b', o' + k * 6 + i, none⟩) hbl').trans (hcs' i u hi))
      simp only [Nat.add_zero] at hc6 hc6'
      have hbw := Nat.lt_of_lt_of_le hbl hb.out.size
      have hbw' := Nat.lt_of_lt_of_le hbl' hb.out.size
      have hn1 : Below wr.heap.size wr (wr.alloc (.cells #[.int .i64 x.ev.kind, .int .i64 x.ev.n, .int .i64 x.ev.keep, .slice Ad nd cd, .slice Ao no' co, .bool x.gone] 42)) := (Below.refl _ _).alloc (Nat.le_refl _) _
      have hn2 : Below (wr.alloc (.cells #[.int .i64 x.ev.kind, .int .i64 x.ev.n, .int .i64 x.ev.keep, .slice Ad nd cd, .slice Ao no' co, .bool x.gone] 42)).heap.size (wr.alloc (.cells #[.int .i64 x.ev.kind, .int .i64 x.ev.n, .int .i64 x.ev.keep, .slice Ad nd cd, .slice Ao no' co, .bool x.gone] 42)) ((wr.alloc (.cells #[.int .i64 x.ev.kind, .int .i64 x.ev.n, .int .i64 x.ev.keep, .slice Ad nd cd, .slice Ao no' co, .bool x.gone] 42)).alloc (.cells #[.int .i64 x.ev.kind, .int .i64 x.ev.n, .int .i64 x.ev.keep, .slice Ad' nd' cd', .slice Ao' no' co', .bool x.gone] 42)) := (Below.refl _ _).alloc (Nat.le_refl _) _
      have hB2 := step hb.out (step hn1 hn2)
      have g1 := (Blk.new wr #[.int .i64 x.ev.kind, .int .i64 x.ev.n, .int .i64 x.ev.keep, .slice Ad nd cd, .slice Ao no' co, .bool x.gone] 42).below hn2
      have g2 := Blk.new (wr.alloc (.cells #[.int .i64 x.ev.kind, .int .i64 x.ev.n, .int .i64 x.ev.keep, .slice Ad nd cd, .slice Ao no' co, .bool x.gone] 42)) #[.int .i64 x.ev.kind, .int .i64 x.ev.n, .int .i64 x.ev.keep, .slice Ad' nd' cd', .slice Ao' no' co', .bool x.gone] 42
      rw [World.size_alloc] at g2
      have v1 := (hby.below hB2).conv
      have v2 := (hby'.below hB2).conv
      have hself := str_same x.ev.data
      have Hou := Lib.hid hou
      have Hou' := Lib.hid hou'
      have hol := hou.len
      have Hol := Lib.hid hol
      have hno6 : no' ≤ 1000000 := by have := HL.out x (List.mem_of_getElem? hx); omega
      have HB2 := Lib.hid hB2
      have G1 := Lib.hid g1
      have G2 := Lib.hid g2
      generalize hLx : x.outs = L at *
      generalize hev : x.ev = EV at *
      generalize hgn : x.gone = gn at *
      clear hx hcs hcs' hby hby' hou hou' hol hn1 hn2 hB2 g1 g2 hLx hev hgn
      go_wp2_with fail
      generalize ((wr.alloc (.cells #[.int .i64 EV.kind, .int .i64 EV.n, .int .i64 EV.keep, .slice Ad nd cd, .slice Ao no' co, .bool gn] 42)).alloc (.cells #[.int .i64 EV.kind, .int .i64 EV.n, .int .i64 EV.keep, .slice Ad' nd' cd', .slice Ao' no' co', .bool gn] 42)) = W2 at *
      generalize wr.heap.size = H6 at *
      clear hc6 hc6' v1 v2 hself
      go_loopw [8] (fun jv wr3 => ∃ j : Nat, j ≤ no' ∧ jv = .int .i64 (j : Int) ∧ Hid (Below W2.heap.size W2 wr3)) (fun jv _ => no' - (intOf jv).toNat)
      case atStart => exact ⟨0, by omega, rfl, Below.refl _ _⟩
      case round =>
        obtain ⟨j, hj, rfl, hb3⟩ := hrel
        have g1 := (G1.out.below hb3.out).cells6
        have g2 := (G2.out.below hb3.out).cells6
        have hlow := step HB2.out hb3.out
        have Hlow := Lib.hid hlow
        by_cases hjl : j < no'
        · have d1 : (j : Int) < (no' : Int) := by omega
          have d0 : (0 : Int) ≤ (j : Int) := by omega
          have hwj : IntKind.i64.wrap ((j : Int) + 1) = (j : Int) + 1 := IntWalk.i64_in _ (by omega)
          obtain ⟨y, hy⟩ : ∃ y, L[j]? = some y := ⟨_, List.getElem?_eq_getElem (by have := Hol.out; omega)⟩
          obtain ⟨b2, o2, A2, n2, c2, hAo, hbl2, k1, k2, hB⟩ := (Hou.out.below hlow).get hy
          obtain ⟨b3, o3, A3, n3, c3, hAo', hbl3, k3, k4, hB'⟩ := (Hou'.out.below hlow).get hy
          subst hAo hAo'
          have hs1 := str_same y.data
          have l1 := (G1.out.below hb3.out).lt
          have l2 := (G2.out.below hb3.out).lt
          generalize y.back = bk at *
          obtain ⟨S, hS⟩ : ∃ S : World → Prop, S = fun w' => Below wr.heap.size wr w' := ⟨_, rfl⟩
          have hl : ∀ x : Qr.In S, x.w.cell? ⟨H6, 4, none⟩ = some (.slice (some ⟨b2, o2, none⟩) no' co) ∧ x.w.cell? ⟨H6 + 1, 4, none⟩ = some (.slice (some ⟨b3, o3, none⟩) no' co') ∧
              x.w.cell? ⟨b2, o2 + j * 2, none⟩ = some (.bool bk) ∧ x.w.cell? ⟨b2, o2 + j * 2 + 1, none⟩ = some (.slice A2 n2 c2) ∧
              x.w.cell? ⟨b3, o3 + j * 2, none⟩ = some (.bool bk) ∧ x.w.cell? ⟨b3, o3 + j * 2 + 1, none⟩ = some (.slice A3 n3 c3) ∧
              (convert 22 9 (.slice A2 n2 c2)).run Tryd.prog x.w = .ok (.string (Sp.bs y.data)) x.w ∧ (convert 22 9 (.slice A3 n3 c3)).run Tryd.prog x.w = .ok (.string (Sp.bs y.data)) x.w := fun x => by
            have hx : Below wr.heap.size wr x.w := (congrFun hS x.w).mp x.h
            exact ⟨(hx.cell (p := ⟨H6, 4, none⟩) l1).trans g1.2.2.2.2.1, (hx.cell (p := ⟨H6 + 1, 4, none⟩) l2).trans g2.2.2.2.2.1, (hx.cell (p := ⟨b2, o2 + j * 2, none⟩) hbl2).trans k1, (hx.cell (p := ⟨b2, o2 + j * 2 + 1, none⟩) hbl2).trans k2,
              (hx.cell (p := ⟨b3, o3 + j * 2, none⟩) hbl3).trans k3, (hx.cell (p := ⟨b3, o3 + j * 2 + 1, none⟩) hbl3).trans k4, (hB.by_.below hx).conv, (hB'.by_.below hx).conv⟩
          have h7 : S wr := by rw [hS]; exact Below.refl _ _
          have h7d : S wr.drew := by rw [hS]; exact (Below.refl _ _).drew
          have h7dd : S wr.drew.drew := by rw [hS]; exact (Below.refl _ _).drew.drew
          have hne : Nonempty (Qr.In S) := ⟨⟨_, h7⟩⟩
          have HS := Lib.hid hS
          clear hy hB hB' hlow hS k1 k2 k3 k4
          cases bk with
          | true =>
            go_wp2_with fail
            refine Qr.region_in (S := S) (by kernel_rfl) (by kernel_rfl) (by first | exact h7d | exact h7dd | exact h7) ?_
            repeat (go_big_quiet_step (fail))
            refine wpQuiet_nil ?_
            rintro W8 ⟨x8, hx8⟩
            have h9 : Below wr.heap.size wr W8 := by rw [hx8]; exact (congrFun HS.out x8.w).mp x8.h
            have H9 := Lib.hid (step hb3.out h9)
            clear hl h7 h7d h7dd hne hx8 x8 h9
            go_wp2_with fail
            go_roundw
            case rel => exact ⟨j + 1, by omega, by go_num, H9⟩
            case measure => simp [intOf]; omega
          | false =>
            go_wp2_with fail
            refine Qr.region_in (S := S) (by kernel_rfl) (by kernel_rfl) (by first | exact h7d | exact h7dd | exact h7) ?_
            repeat (go_big_quiet_step (fail))
            refine wpQuiet_nil ?_
            rintro W8 ⟨x8, hx8⟩
            have h9 : Below wr.heap.size wr W8 := by rw [hx8]; exact (congrFun HS.out x8.w).mp x8.h
            have H9 := Lib.hid (step hb3.out h9)
            clear hl h7 h7d h7dd hne hx8 x8 h9
            go_wp2_with fail
            go_roundw
            case rel => exact ⟨j + 1, by omega, by go_num, H9⟩
            case measure => simp [intOf]; omega
        · obtain rfl : j = no' := by omega
          have d1 : ¬ (j : Int) < (j : Int) := by omega
          go_wp2_with fail
          go_roundw
          case rel => exact ⟨k + 1, by omega, by go_num, Hlow⟩
          case measure => simp [intOf]; omega
    · obtain rfl : k = n' := by omega
      have c1 : ¬ (k : Int) < (k : Int) := by omega
      go_wp2_with fail
      go_ret
      exact ⟨rfl, hb.out⟩
end Tr
end Go.Proofs.YtpchfmeaplhodaaDoor
