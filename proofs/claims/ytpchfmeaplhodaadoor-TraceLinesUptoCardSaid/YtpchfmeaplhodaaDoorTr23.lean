/-
  A part of the proof of this seat's laws: steps' text, the program's.
-/
import Derived.Test.YtpchfmeaplhodaaDoorTr22
import Derived.Test.YtpchfmeaplhodaaDoorTr13
import Derived.Test.YtpchfmeaplhodaaDoorEvM
import Derived.Lib.OthersKept
namespace Go.Proofs.YtpchfmeaplhodaaDoor
set_option linter.unusedVariables false
set_option linter.unusedSimpArgs false
open Go.RowKit Go.Shelf
namespace Tr
open Ap Sg
set_option maxHeartbeats 2000000
/-- a block beside a builder -/
theorem Blk.beside {w w' : World} {b g : Nat} {cs : Array Value} {T : TypeId} (h : Blk w g cs T) (hk : Lib.OthersKept 5 (some b) w w') (hg : g ≠ b) (hT : T ≠ 5) : Blk w' g cs T :=
  hk g _ h (fun e => hg (by cases e; rfl)) (fun c fz e => hT (by cases e; rfl))
/-- the state of Format -/
structure Fst (w wr : World) (S : List UInt8) : Prop where
  bd : Lib.IsBuilder 59 5 w.heap.size w.heap.size (Lib.byteCells S) wr
  lt : w.heap.size < wr.heap.size
  low : Below w.heap.size w wr
theorem Fst.step {w wr w' : World} {S : List UInt8} (h : Fst w wr S) (hb : Below wr.heap.size wr w') : Fst w w' S :=
  ⟨Bd.stays h.bd hb, Nat.lt_of_lt_of_le h.lt hb.size, Tr.step h.low hb⟩
theorem Fst.write {w wr : World} {S T : List UInt8} (h : Fst w wr S) (hl : S.length + T.length ≤ 10000000) :
    Calls Tryd.prog 38 #[.pointer (some ⟨w.heap.size, 0, none⟩), .string (Sp.bs T)] wr fun e w' => e = .returned (.tuple #[.int .i64 (Sp.bs T).size, .nilIface]) ∧ Fst w w' (S ++ T) ∧ Lib.OthersKept 5 (some w.heap.size) wr w' := by
  have hlt := h.lt
  refine (Bd.writeString_k w.heap.size w.heap.size (Lib.byteCells S) (Sp.bs T) wr h.bd (by rw [Lib.byteCells_length, Sp.bs_size]; omega) (by omega)).mono ?_
  rintro e w' ⟨he, hbd, hb, hk⟩
  rw [cells_str, ← cells_app] at hbd
  exact ⟨he, ⟨.inr hbd, Nat.lt_of_lt_of_le hlt hb.size, h.low.trans hb⟩, hk⟩
set_option maxRecDepth 100000 in
theorem fmt_calls (A : Option Addr) (n c : Nat) (l : List Sp.Stp) (w : World) (hs : Sts w A n c l) (hn : ∀ s ∈ l, Sp.nums s) (hw : Sp.wts l ≤ 5000) (hg : Gl w) :
    Calls Tryd.prog 21 #[.slice A n c] w fun e w' => e = .returned (Sp.evV (Sp.fmtT l)) ∧ Below w.heap.size w w' := by
  have huS := Tryd.underlying42
  have huE := Tryd.underlying29
  have huO := Tryd.underlying56
  have hll := hs.len
  have hlw := Sp.wts_len l
  have hn6 : n ≤ 5000 := by omega
  have HF0 : Hid (Fst w (w.alloc (.cells #[.pointer none, .slice none 0 0] 59)) []) := ⟨newB w, by rw [World.size_alloc]; exact Nat.lt_succ_self _, (Below.refl _ _).alloc (Nat.le_refl _) _⟩
  have Hs := Lib.hid hs
  have Hn := Lib.hid hn
  have Hw := Lib.hid hw
  have Hll := Lib.hid hll
  have Hg := Lib.hid hg
  clear hs hn hw hll hlw hg
  go_enter Tryd.func21, Tryd.ntmps21
  go_wp2_with fail
  generalize (w.alloc (.cells #[.pointer none, .slice none 0 0] 59)) = W at *
  go_loopw [14] (fun iv wr => ∃ (k : Nat) (S : List UInt8), k ≤ n ∧ iv = .int .i64 (k : Int) ∧ Hid (Sp.fmtT (l.take k) = .ok S) ∧ Hid (Fst w wr S)) (fun iv _ => n - (intOf iv).toNat)
  case atStart => exact ⟨0, [], by omega, rfl, rfl, HF0⟩
  case round =>
    obtain ⟨k, S, hk, rfl, hS, hf⟩ := hrel
    clear HF0
    have hSl : S.length ≤ 400000 := by
      have h1 := Sp.fmtT_len hS.out (fun x hx => Hn.out x ((List.take_sublist _ _).subset hx))
      have h2 := Sp.wts_take l k
      have := Hw.out
      omega
    by_cases hlt : k < n
    · have c1 : (k : Int) < (n : Int) := by omega
      have c0 : (0 : Int) ≤ (k : Int) := by omega
      have hw1 : IntKind.i64.wrap ((k : Int) + 1) = (k : Int) + 1 := IntWalk.i64_in _ (by omega)
      obtain ⟨x, hx⟩ : ∃ x, l[k]? = some x := ⟨_, List.getElem?_eq_getElem (by have := Hll.out; omega)⟩
      obtain ⟨b, o, Ad, nd, cd, Ao, no, co, hA, hbl, hcs, hby, hou⟩ := Hs.out.get hx
      subst hA
      have hc6 := st6 (P := fun i u => wr.cell? ⟨b, o + k * 6 + i, none⟩ = some u) (fun i u hi => (hf.out.low.cell (p := ⟨b, o + k * 6 + i, none⟩) hbl).trans (hcs i u hi))
      simp only [Nat.add_zero] at hc6
      have hbw := Nat.lt_trans hbl hf.out.lt
      have hxm := List.mem_of_getElem? hx
      have hxw := Sp.wts_mem hxm
      have hxn := Hn.out x hxm
      have hbn : Below wr.heap.size wr (wr.alloc (.cells #[.int .i64 x.ev.kind, .int .i64 x.ev.n, .int .i64 x.ev.keep, .slice Ad nd cd, .slice Ao no co, .bool x.gone] 42)) := (Below.refl _ _).alloc (Nat.le_refl _) _
      have hf1 := hf.out.step hbn
      have hb1 := Blk.new wr #[.int .i64 x.ev.kind, .int .i64 x.ev.n, .int .i64 x.ev.keep, .slice Ad nd cd, .slice Ao no co, .bool x.gone] 42
      have hdl := hby.len
      have hol := hou.len
      have Hww := Hw.out
      have hsw : Sp.swt x = 1 + x.ev.data.length + Sp.owts x.outs := rfl
      have hno := Sp.owts_len x.outs
      have HEv := Lib.hid (event_calls x.ev.kind x.ev.n x.ev.keep Ad nd cd x.ev.data _ (Hg.out.below hf1.low) (hby.below hf1.low) (by omega) hxn.1.1 hxn.1.2 hxn.2.1 hxn.2.2)
      rw [show (⟨x.ev.kind, x.ev.n, x.ev.keep, x.ev.data⟩ : Sp.Evt) = x.ev from rfl] at HEv
      cases he : Sp.evT x.ev with
      | error d =>
        have HF := Lib.hid (Sp.fmtT_err hS.out hx (Sp.stepT_err he))
        have hdd := Sp.evT_code he
        have hd : (d != 0) = true := by rw [bne_iff_ne]; omega
        rw [he] at HEv
        simp only [Sp.evV] at HEv
        have Hlow := Lib.hid hf1.low
        clear hx hcs hby hou hxm hxw hxn hbn hf1 hb1 hdl hol Hww hsw hno hdd he
        go_wp2_with fail
        refine HEv.out.mono ?_
        rintro e w5 ⟨rfl, b5⟩
        have B5 := Lib.hid (step Hlow.out b5)
        clear b5
        go_wp2_with fail
        go_ret2
        exact ⟨by rw [HF.out]; rfl, B5.out⟩
      | ok t =>
        rw [he] at HEv
        simp only [Sp.evV] at HEv
        have HF := Lib.hid (Sp.fmtT_snoc hS.out (Sp.stepT_ok he))
        rw [← Sp.take_snoc hx] at HF
        have htl := Sp.evT_len he hxn.1 hxn.2
        have htl2 : t.length ≤ 20000 := by omega
        have hpl : ∀ j, (Sp.pre t (x.outs.take j)).length ≤ 1000000 := fun j => by
          unfold Sp.pre
          have h1 := Sp.outsT_len (x.outs.take j)
          have h2 := Sp.owts_take x.outs j
          rw [List.length_append, List.length_cons]
          omega
        have Hpl := Lib.hid hpl
        have hsz : ∀ (j : Nat) (y : Sp.Out), x.outs[j]? = some y → y.data.length ≤ 10000 := fun j y hj => by
          have h1 := Sp.owts_mem (List.mem_of_getElem? hj)
          unfold Sp.owt at h1
          omega
        have Hsz := Lib.hid hsz
        have hno6 : no ≤ 100000 := by omega
        have hzt := Sp.bs_size t
        have hpre0 : Sp.bs t ++ (⟨#[10]⟩ : ByteArray) = Sp.bs (t ++ [10]) := Sp.bs_append t [10]
        generalize hT1 : t ++ [10] = T1 at *
        have hT1l : T1.length ≤ 20001 := by rw [← hT1]; simp; omega
        have HP0 : Hid (Sp.pre t (x.outs.take 0) = T1) := Lib.hid (by rw [← hT1]; rfl)
        have Hou := Lib.hid hou
        have Hhf1 := Lib.hid hf1
        have Hb1 := Lib.hid hb1
        have Hol := Lib.hid hol
        have hw6 := hf.out.lt
        generalize hgn : x.gone = gn at *
        generalize hL : x.outs = L at *
        generalize x.ev = EV at *
        clear hx hcs hby hou hxm hxw hxn hbn hf1 hb1 hdl hol Hww hsw hno he htl hpl hsz hgn hL hT1
        go_wp2_with fail
        refine HEv.out.mono ?_
        rintro e w5 ⟨rfl, b5⟩
        have Hf5 := Lib.hid (Hhf1.out.step b5)
        have Hb5 := Lib.hid (Hb1.out.below b5)
        clear b5
        go_wp2_with fail
        refine (Hf5.out.write (T := T1) (by omega)).mono ?_
        rintro e w6 ⟨rfl, hf6, hk6⟩
        have hb6 := Hb5.out.beside hk6 (by omega) (by decide)
        have hc6 := hb6.cells6
        have Hb6 := Lib.hid hb6
        have Hf6 : Hid (Fst w w6 (S ++ Sp.pre t (L.take 0))) := Lib.hid (by rw [HP0.out]; exact hf6)
        clear hf6 hk6 hb6
        go_wp2_with fail
        generalize wr.heap.size = H6 at *
        go_loopw [33] (fun iv wr => ∃ (j : Nat) (S2 : List UInt8), j ≤ no ∧ iv = .int .i64 (j : Int) ∧ Hid (S2 = S ++ Sp.pre t (L.take j)) ∧ Hid (Fst w wr S2) ∧ Hid (Blk wr H6 #[.int .i64 EV.kind, .int .i64 EV.n, .int .i64 EV.keep, .slice Ad nd cd, .slice Ao no co, .bool gn] 42)) (fun iv _ => no - (intOf iv).toNat)
        case atStart => exact ⟨0, _, by omega, rfl, rfl, Hf6, Hb6⟩
        case round =>
          obtain ⟨j, S2, hj, rfl, hS2, hf2, hb2⟩ := hrel
          clear Hf6 Hb6 Hf5 Hb5 hc6
          have hS2l : S2.length ≤ 2000000 := by
            have h1 := hS2.out
            have h2 := Hpl.out j
            rw [h1, List.length_append]
            omega
          by_cases hjl : j < no
          · have d1 : (j : Int) < (no : Int) := by omega
            have d0 : (0 : Int) ≤ (j : Int) := by omega
            have hwj : IntKind.i64.wrap ((j : Int) + 1) = (j : Int) + 1 := IntWalk.i64_in _ (by omega)
            obtain ⟨y, hy⟩ : ∃ y, L[j]? = some y := ⟨_, List.getElem?_eq_getElem (by have := Hol.out; omega)⟩
            obtain ⟨b2, o2, A', n', c', hAo, hbl2, k1, k2, hB⟩ := Hou.out.get hy
            subst hAo
            have k1' := (hf2.out.low.cell (p := ⟨b2, o2 + j * 2, none⟩) hbl2).trans k1
            have k2' := (hf2.out.low.cell (p := ⟨b2, o2 + j * 2 + 1, none⟩) hbl2).trans k2
            have hbw2 := Nat.lt_trans hbl2 hf2.out.lt
            have hyl := Hsz.out j y hy
            have hyn := hB.by_.len
            have hps := Sp.pre_snoc t (L.take j) y
            rw [← Sp.take_snoc hy, Sp.outT_word] at hps
            have hbn : Below wr.heap.size wr (wr.alloc (.cells #[.bool y.back, .slice A' n' c'] 56)) := (Below.refl _ _).alloc (Nat.le_refl _) _
            have hf3 := hf2.out.step hbn
            have HHx := Lib.hid (hex_calls A' n' c' y.data (by omega) _ (hB.by_.below hf3.low))
            have Hf3 := Lib.hid hf3
            have Hb3 := Lib.hid (hb2.out.below hbn)
            have hX : (Sp.hexT y.data).length ≤ 30000 := by have := Sp.hexT_len y.data; omega
            generalize Sp.hexT y.data = X at *
            have hzX := Sp.bs_size X
            cases hbk : y.back with
            | true =>
              rw [hbk] at k1 k1' HHx Hf3 Hb3 hps
              have a1 : (⟨#[98, 97, 99, 107, 32]⟩ : ByteArray) ++ Sp.bs X = Sp.bs ([98, 97, 99, 107, 32] ++ X) := Sp.bs_append _ _
              generalize hY1 : [98, 97, 99, 107, 32] ++ X = Y1 at *
              have hz1 : (Sp.bs Y1).size = X.length + 5 := by rw [Sp.bs_size, ← hY1]; simp
              have a2 : Sp.bs Y1 ++ (⟨#[10]⟩ : ByteArray) = Sp.bs (Y1 ++ [10]) := Sp.bs_append _ _
              have HPS : Hid (S ++ Sp.pre t (L.take (j + 1)) = S2 ++ (Y1 ++ [10])) := Lib.hid (by rw [hps, hS2.out, ← hY1]; simp [Sp.word])
              have hY2l : (Y1 ++ [10]).length ≤ 40000 := by rw [← hY1]; simp; omega
              generalize Y1 ++ [10] = Y2 at *
              clear hy k1 k2 hB hyl hyn hps hbn hf3 hbk hY1
              go_wp2_with fail
              refine HHx.out.mono ?_
              rintro e w7 ⟨rfl, b7⟩
              have Hf7 := Lib.hid (Hf3.out.step b7)
              have Hb7 := Lib.hid (Hb3.out.below b7)
              clear b7
              go_wp2_with fail
              refine (Hf7.out.write (T := Y2) (by omega)).mono ?_
              rintro e w8 ⟨rfl, hf8, hk8⟩
              have Hb8 := Lib.hid (Hb7.out.beside hk8 (by omega) (by decide))
              have Hf8 := Lib.hid hf8
              clear hf8 hk8
              go_wp2_with fail
              go_roundw
              case rel => exact ⟨j + 1, _, by omega, by go_num, Lib.hid HPS.out.symm, Hf8, Hb8⟩
              case measure => simp [intOf]; omega
            | false =>
              rw [hbk] at k1 k1' HHx Hf3 Hb3 hps
              have a1 : (⟨#[111, 110, 32]⟩ : ByteArray) ++ Sp.bs X = Sp.bs ([111, 110, 32] ++ X) := Sp.bs_append _ _
              generalize hY1 : [111, 110, 32] ++ X = Y1 at *
              have hz1 : (Sp.bs Y1).size = X.length + 3 := by rw [Sp.bs_size, ← hY1]; simp
              have a2 : Sp.bs Y1 ++ (⟨#[10]⟩ : ByteArray) = Sp.bs (Y1 ++ [10]) := Sp.bs_append _ _
              have HPS : Hid (S ++ Sp.pre t (L.take (j + 1)) = S2 ++ (Y1 ++ [10])) := Lib.hid (by rw [hps, hS2.out, ← hY1]; simp [Sp.word])
              have hY2l : (Y1 ++ [10]).length ≤ 40000 := by rw [← hY1]; simp; omega
              generalize Y1 ++ [10] = Y2 at *
              clear hy k1 k2 hB hyl hyn hps hbn hf3 hbk hY1
              go_wp2_with fail
              refine HHx.out.mono ?_
              rintro e w7 ⟨rfl, b7⟩
              have Hf7 := Lib.hid (Hf3.out.step b7)
              have Hb7 := Lib.hid (Hb3.out.below b7)
              clear b7
              go_wp2_with fail
              refine (Hf7.out.write (T := Y2) (by omega)).mono ?_
              rintro e w8 ⟨rfl, hf8, hk8⟩
              have Hb8 := Lib.hid (Hb7.out.beside hk8 (by omega) (by decide))
              have Hf8 := Lib.hid hf8
              clear hf8 hk8
              go_wp2_with fail
              go_roundw
              case rel => exact ⟨j + 1, _, by omega, by go_num, Lib.hid HPS.out.symm, Hf8, Hb8⟩
              case measure => simp [intOf]; omega
          · obtain rfl : j = no := by omega
            have d1 : ¬ (j : Int) < (j : Int) := by omega
            have hLt : L.take j = L := List.take_of_length_le (by have := Hol.out; omega)
            rw [hLt] at hS2
            clear hLt
            have hcc := hb2.out.cells6
            cases gn with
            | true =>
              go_wp2_with fail
              refine (hf2.out.write (T := [103, 111, 110, 101, 10]) (by simp; omega)).mono ?_
              rintro e w8 ⟨rfl, hf8, hk8⟩
              have HE : Hid (Sp.fmtT (l.take (k + 1)) = .ok (S2 ++ [103, 111, 110, 101, 10])) := Lib.hid (by rw [HF.out, hS2.out]; simp [Sp.goneT])
              have Hf8 := Lib.hid hf8
              clear hf8 hk8
              go_wp2_with fail
              go_roundw
              case rel => exact ⟨k + 1, _, by omega, by go_num, HE, Hf8⟩
              case measure => simp [intOf]; omega
            | false =>
              have HE : Hid (Sp.fmtT (l.take (k + 1)) = .ok S2) := Lib.hid (by rw [HF.out, hS2.out]; simp [Sp.goneT])
              go_wp2_with fail
              go_roundw
              case rel => exact ⟨k + 1, _, by omega, by go_num, HE, hf2⟩
              case measure => simp [intOf]; omega
    · obtain rfl : k = n := by omega
      have c1 : ¬ (k : Int) < (k : Int) := by omega
      have hLt : l.take k = l := List.take_of_length_le (by have := Hll.out; omega)
      rw [hLt] at hS
      clear hLt
      have Hst := Lib.hid (Tryd.Builder_String_any _ _ _ wr hf.out.bd (by have := hf.out.lt; omega))
      go_wp2_with fail
      refine Hst.out.mono ?_
      rintro e w4 ⟨rfl, b4⟩
      go_wp2_with fail
      go_ret2
      exact ⟨by rw [hS.out]; rfl, hf.out.low.trans b4⟩
end Tr
end Go.Proofs.YtpchfmeaplhodaaDoor
