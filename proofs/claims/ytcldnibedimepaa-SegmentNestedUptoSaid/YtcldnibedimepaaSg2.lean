/-
  A part of the proof of this seat's laws: the iterator over texts between a sign.
-/
import Derived.RangeFuncNested
import Derived.RangeFuncBound
import Derived.RangeFuncCalls
import Derived.RangeFuncLeaves
import Derived.Shelf.Abstract
import Derived.WalkKit
import Derived.OwnWalkIn
import Derived.TacticsInMore
import Derived.LoopNIn
import Derived.LoopIn
import Derived.Laws.BytesArg
import Derived.Laws.IdiomStrings
import Derived.Test.YtcldnibedimepaaSg1
namespace Go.Proofs.Ytcldnibedimepaa
set_option linter.unusedVariables false
set_option linter.unusedSimpArgs false
open Go.RowKit Go.Shelf
namespace Sg
attribute [local go_sem] Oper.semAt_some
/-- what the iterator and the loop's own book-keeping turn: block Bs, blocks that hold no cells from base on, new ones -/
structure Turn (base Bs : Nat) (W W' : World) : Prop where
  os : W'.os = W.os
  tape : W'.tape = W.tape
  output : W'.output = W.output
  size : W.heap.size ≤ W'.heap.size
  cells : ∀ (k : Nat) (o : Obj), k ≠ Bs → W.heap[k]? = some o → o.isCells = true → W'.heap[k]? = some o
  block : ∀ (k : Nat), k ≠ Bs → k < base → k < W.heap.size → W'.heap[k]? = W.heap[k]?
theorem Turn.alloc (base Bs : Nat) (W : World) (X : Obj) : Turn base Bs W (W.alloc X) :=
  ⟨rfl, rfl, rfl, by simp, fun k o _ h _ => (Below.heap_alloc W X k (Array.getElem?_eq_some_iff.1 h).1).trans h, fun k _ _ h => Below.heap_alloc W X k h⟩
theorem Turn.put (base Bs : Nat) {W : World} {r : Nat} {o : Obj} (o' : Obj) (hr : base ≤ r) (h : W.heap[r]? = some o) (ho : o.isCells = false) : Turn base Bs W (W.putObj r o') :=
  ⟨rfl, rfl, rfl, by simp, fun k o2 _ h2 h3 => by
    have hk : k ≠ r := fun e => by subst e; rw [h] at h2; cases h2; rw [ho] at h3; cases h3
    exact (World.putObj_heap_other hk).trans h2, fun k _ hk _ => World.putObj_heap_other (by omega)⟩
theorem Turn.below {base Bs B0 : Nat} {W0 W W' : World} (h : Turn base Bs W W') (hb : Below B0 W0 W) (h1 : B0 ≤ base) (h2 : B0 ≤ Bs) (h3 : B0 ≤ W0.heap.size) : Below B0 W0 W' :=
  ⟨h.os.trans hb.os, h.tape.trans hb.tape, h.output.trans hb.output, Nat.le_trans hb.size h.size, fun k hk => (h.block k (by omega) (by omega) (by have := hb.size; omega)).trans (hb.block k hk)⟩
/-- what the iterator itself turns: block Bs, new ones -/
structure Own1 (Bs : Nat) (W W' : World) : Prop where
  os : W'.os = W.os
  tape : W'.tape = W.tape
  output : W'.output = W.output
  size : W.heap.size ≤ W'.heap.size
  block : ∀ k, k ≠ Bs → k < W.heap.size → W'.heap[k]? = W.heap[k]?
theorem Own1.turn {Bs : Nat} {W W' : World} (h : Own1 Bs W W') (base : Nat) : Turn base Bs W W' :=
  ⟨h.os, h.tape, h.output, h.size, fun k o hk ho _ => (h.block k hk (Array.getElem?_eq_some_iff.1 ho).1).trans ho, fun k hk _ h2 => h.block k hk h2⟩
theorem Own1.trans {Bs : Nat} {A B C : World} (h : Own1 Bs A B) (k : Own1 Bs B C) : Own1 Bs A C :=
  ⟨k.os.trans h.os, k.tape.trans h.tape, k.output.trans h.output, Nat.le_trans h.size k.size, fun i hi hs => (k.block i hi (Nat.lt_of_lt_of_le hs h.size)).trans (h.block i hi hs)⟩
theorem Own1.alloc (Bs : Nat) (W : World) (X : Obj) : Own1 Bs W (W.alloc X) := ⟨rfl, rfl, rfl, by simp, fun k _ hs => Below.heap_alloc W X k hs⟩
theorem Own1.drewN (Bs : Nat) (W : World) (n : Nat) : Own1 Bs W (W.drewN n) := ⟨rfl, rfl, rfl, Nat.le_refl _, fun _ _ _ => rfl⟩
theorem Own1.set (Bs : Nat) (W : World) (i : Nat) (v : Value) : Own1 Bs W (W.setCell ⟨Bs, i, none⟩ v) :=
  ⟨rfl, rfl, rfl, by simp [World.setCell], fun k hk _ => Below.heap_setCell W ⟨Bs, i, none⟩ v k hk⟩
/-- a box: a block of one cell -/
abbrev Box (W : World) (B : Nat) (t : TypeId) (v : Value) : Prop := W.heap[B]? = some (.cells #[v] t (0, 0))
theorem Box.cell {W : World} {B : Nat} {t : TypeId} {v : Value} (h : Box W B t v) : W.cell? ⟨B, 0, none⟩ = some v ∧ W.frozen? ⟨B, 0, none⟩ = false := by
  constructor <;> simp [World.cell?, World.frozen?, h]
theorem Box.new (W : World) (t : TypeId) (v : Value) : Box (W.alloc (.cells #[v] t)) W.heap.size t v := by
  show (W.heap.push _)[W.heap.size]? = _
  simp
theorem Box.alloc {W : World} {B : Nat} {t : TypeId} {v : Value} (h : Box W B t v) (X : Obj) : Box (W.alloc X) B t v :=
  (Below.heap_alloc W X B (Array.getElem?_eq_some_iff.1 h).1).trans h
theorem Box.set {W : World} {B : Nat} {t : TypeId} {v : Value} (h : Box W B t v) (u : Value) : Box (W.setCell ⟨B, 0, none⟩ u) B t u := by
  simp [Box, World.setCell, Array.getElem?_modify, h]
theorem Box.other {W : World} {B : Nat} {t : TypeId} {v : Value} (h : Box W B t v) {B' : Nat} (hne : B ≠ B') (u : Value) : Box (W.setCell ⟨B', 0, none⟩ u) B t v :=
  (Below.heap_setCell W ⟨B', 0, none⟩ u B hne).trans h
theorem Box.turn {W W' : World} {base B Bs : Nat} {t : TypeId} {v : Value} (h : Box W B t v) (ht : Turn base Bs W W') (hne : B ≠ Bs) : Box W' B t v := ht.cells B _ hne h rfl
theorem Box.below {W W' : World} {B : Nat} {t : TypeId} {v : Value} (h : Box W B t v) (hb : Below W.heap.size W W') : Box W' B t v :=
  (hb.block B (Array.getElem?_eq_some_iff.1 h).1).trans h
/-- one byte as a string -/
theorem run_sign (w : World) (c : UInt8) : (convert 39 9 (.slice (some ⟨w.heap.size, 0, none⟩) 1 1)).run Try.prog (w.alloc (.cells #[.int .u8 (c.toNat : Int)] 5)) = .ok (.string ⟨#[c]⟩) (w.alloc (.cells #[.int .u8 (c.toNat : Int)] 5)) := by
  have h := run_convert_bytes_back (P := Try.prog) (w.alloc (.cells #[.int .u8 (c.toNat : Int)] 5)) 39 9 5 ⟨w.heap.size, 0, none⟩ 1 [c] Try.underlying39 Try.underlying5 Try.underlying9 (fun j hj => by
    obtain rfl : j = 0 := by simpa using hj
    rw [Addr.add_lit]
    exact World.cell?_alloc_mark w #[.int .u8 (c.toNat : Int)] 5 (0, 0) 0)
  exact h
theorem between_calls (s : ByteArray) (c : Int) (w : World) : Calls Try.prog 35 #[.string s, .int .u8 c] w fun e w' =>
    e = .returned (.func (.func 40) #[] #[.pointer (some ⟨w.heap.size, 0, none⟩), .pointer (some ⟨w.heap.size + 1, 0, none⟩)]) ∧ w' = (w.alloc (.cells #[.string s] 9)).alloc (.cells #[.int .u8 c] 5) := by
  go_enter Try.func35, Try.ntmps35
  go_wp2
  go_ret
  exact ⟨rfl, rfl⟩
/-- how long the text in the box still is -/
def left (Bs : Nat) (W : World) : Nat := match W.cell? ⟨Bs, 0, none⟩ with
  | some (.string s) => s.size
  | _ => 0
theorem left_eq {Bs : Nat} {W : World} {l : List UInt8} (h : Box W Bs 9 (.string (Sp.bs l))) : left Bs W = l.length := by
  unfold left
  rw [h.cell.1]
  exact Sp.bs_size l
set_option maxRecDepth 100000 in
set_option maxHeartbeats 2000000 in
theorem between1_in (n : Nat) (hn : 4 ≤ n) (l Bs Bc : Nat) (c : UInt8) (hne : Bc ≠ Bs) (s : List UInt8) (hs : s.length ≤ 140737488351232) (J : List (List UInt8) → World → Prop)
    (hJ : ∀ pre W W', J pre W → Own1 Bs W W' → J pre W')
    (hY : ∀ pre x post r W, Sp.cutL c s = pre ++ x :: post → J pre W → Box W Bs 9 (.string (Sp.bs r)) → Box W Bc 5 (.int .u8 (c.toNat : Int)) →
      YieldAt Fence.wide (n - 1) Try.prog l #[.string (Sp.bs x)] W fun e W' => e = .returned (.bool true) ∧ J (pre ++ [x]) W' ∧ Box W' Bs 9 (.string (Sp.bs r)) ∧ Box W' Bc 5 (.int .u8 (c.toNat : Int)))
    (W : World) (hBs : Box W Bs 9 (.string (Sp.bs s))) (hBc : Box W Bc 5 (.int .u8 (c.toNat : Int))) (h0 : J [] W) :
    CallsIn Fence.wide n Try.prog 40 #[.func (.yield l) #[] #[], .pointer (some ⟨Bs, 0, none⟩), .pointer (some ⟨Bc, 0, none⟩)] W fun e W' => (∃ v, e = .returned v) ∧ J (Sp.cutL c s) W' := by
  have hsign := run_sign
  have HJ := Lib.hid hJ
  have HY := Lib.hid hY
  clear hJ hY
  refine callsIn_of_wp Try.func40 rfl trivial ?_ rfl
  simp only [Try.ntmps40, List.size_toArray, List.length_cons, List.length_nil, Nat.reduceAdd, Nat.reduceSub, Array.replicate_succ, Array.replicate_zero, List.push_toArray, List.append_toArray, List.nil_append, List.cons_append]
  gi_wp2
  gi_loopw [4] (fun _ wr => ∃ (pre : List (List UInt8)) (rest : List UInt8), Hid (Sp.cutL c s = pre ++ Sp.cutL c rest) ∧ rest.length ≤ 140737488351232 ∧ Box wr Bs 9 (.string (Sp.bs rest)) ∧ Box wr Bc 5 (.int .u8 (c.toNat : Int)) ∧ J pre wr)
    (fun _ wr => left Bs wr)
  case atStart =>
    exact ⟨[], s, rfl, hs, hBs, hBc, h0⟩
  case round =>
    obtain ⟨pre, rest, hcut, hlen, hb1, hb2, hj⟩ := hrel
    have q1 := hb1.cell
    have q2 := hb2.cell
    have hf1 : Fence.wide.fn 38 := trivial
    have hn1 : 1 ≤ n := by omega
    have hj2 : ∀ m : Nat, J pre ((wr.alloc (.cells #[.int .u8 (c.toNat : Int)] 5)).drewN m) := fun m => HJ.out _ _ _ hj ((Own1.alloc Bs wr _).trans (Own1.drewN Bs _ m))
    have hb3 : ∀ m : Nat, Box ((wr.alloc (.cells #[.int .u8 (c.toNat : Int)] 5)).drewN m) Bs 9 (.string (Sp.bs rest)) := fun m => hb1.alloc _
    have hb4 : ∀ m : Nat, Box ((wr.alloc (.cells #[.int .u8 (c.toNat : Int)] 5)).drewN m) Bc 5 (.int .u8 (c.toNat : Int)) := fun m => hb2.alloc _
    have Hj2 := Lib.hid hj2
    have Hb3 := Lib.hid hb3
    have Hb4 := Lib.hid hb4
    clear hj2 hb3 hb4
    by_cases hm : Lib.indexByte rest c = -1
    · have Hc := Lib.hid (fun w => cut_no rest c w hm)
      have hcut' : Hid (Sp.cutL c s = pre ++ [rest]) := Lib.hid (by rw [hcut, Sp.cutL_miss c rest hm])
      have hyy : ∀ m, _ := fun m => HY.out pre rest [] rest _ hcut'.out (Hj2.out m) (Hb3.out m) (Hb4.out m)
      have HYY := Lib.hid hyy
      clear hm hyy
      gi_wp2_with (gi_at_call 38; refine (callsIn_wide.2 (Hc.out _)).mono ?_; rintro e W2 ⟨rfl, m, rfl⟩; obtain ⟨fn, tmps, assign, body, hy, hR⟩ := HYY.out m)
      refine hR.mono ?_
      rintro e W3 ⟨rfl, hJ3, -, -⟩
      gi_wp2
      refine bodyPost_ret (results_none rfl _ _ _) rfl ?_
      refine ⟨⟨_, rfl⟩, ?_⟩
      rw [hcut'.out]
      exact hJ3
    · obtain ⟨i, hi⟩ : ∃ i : Nat, Lib.indexByte rest c = i := ⟨(Lib.indexByte rest c).toNat, by have := Lib.indexByte_ge rest c; omega⟩
      have hil : i < rest.length := by have h := (Lib.indexByte_some hi).1; exact (List.getElem?_eq_some_iff.1 h).1
      have Hc := Lib.hid (fun w => cut_yes rest c i w hi hil hlen)
      have hcut' : Hid (Sp.cutL c s = (pre ++ [rest.take i]) ++ Sp.cutL c (rest.drop (i + 1))) := Lib.hid (by rw [hcut, Sp.cutL_hit c rest i hi]; simp)
      have hyy : ∀ m, _ := fun m => HY.out pre (rest.take i) (Sp.cutL c (rest.drop (i + 1))) rest _ (by rw [hcut'.out]; simp) (Hj2.out m) (Hb3.out m) (Hb4.out m)
      have HYY := Lib.hid hyy
      have hl1 : (rest.drop (i + 1)).length < rest.length := by rw [List.length_drop]; omega
      clear hm hyy hi
      gi_wp2_with (gi_at_call 38; refine (callsIn_wide.2 (Hc.out _)).mono ?_; rintro e W2 ⟨rfl, m, rfl⟩; obtain ⟨fn, tmps, assign, body, hy, hR⟩ := HYY.out m)
      refine hR.mono ?_
      rintro e W3 ⟨rfl, hJ3, hb5, hb6⟩
      have q3 := hb5.cell
      gi_wp2
      go_roundw
      case rel => exact ⟨_, _, hcut', Nat.le_trans (Nat.le_of_lt hl1) hlen, hb5.set _, hb6.other hne _, HJ.out _ _ _ hJ3 (Own1.set Bs _ _ _)⟩
      case measure => rw [left_eq (hb5.set _), left_eq hb1]; exact hl1
end Sg
end Go.Proofs.Ytcldnibedimepaa
