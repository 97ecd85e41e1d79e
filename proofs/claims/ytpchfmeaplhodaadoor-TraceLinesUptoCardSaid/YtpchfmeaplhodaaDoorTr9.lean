/-
  A part of the proof of this seat's laws: the words of an event's text, one by one.
-/
import Derived.Test.YtpchfmeaplhodaaDoorEvM
namespace Go.Proofs.YtpchfmeaplhodaaDoor
set_option linter.unusedVariables false
set_option linter.unusedSimpArgs false
open Go.RowKit Go.Shelf
namespace Tr
open Ap Sg
set_option maxHeartbeats 8000000
/-- all that was there is kept, but for one block -/
structure Kt (b : Nat) (w w' : World) : Prop where
  os : w'.os = w.os
  tape : w'.tape = w.tape
  output : w'.output = w.output
  size : w.heap.size ≤ w'.heap.size
  block : ∀ i, i < w.heap.size → i ≠ b → w'.heap[i]? = w.heap[i]?
theorem Kt.refl (b : Nat) (w : World) : Kt b w w := ⟨rfl, rfl, rfl, Nat.le_refl _, fun _ _ _ => rfl⟩
theorem Kt.of {b : Nat} {w w' : World} (h : Below w.heap.size w w') : Kt b w w' := ⟨h.os, h.tape, h.output, h.size, fun i hi _ => h.block i hi⟩
theorem Kt.trans {b : Nat} {w w' w'' : World} (h : Kt b w w') (h' : Kt b w' w'') : Kt b w w'' :=
  ⟨h'.os.trans h.os, h'.tape.trans h.tape, h'.output.trans h.output, Nat.le_trans h.size h'.size, fun i hi hn => (h'.block i (Nat.lt_of_lt_of_le hi h.size) hn).trans (h.block i hi hn)⟩
theorem Kt.other {b g : Nat} {w w' w'' : World} (h : Kt b w w') (h' : Kt g w' w'') (hg : w.heap.size ≤ g) : Kt b w w'' :=
  ⟨h'.os.trans h.os, h'.tape.trans h.tape, h'.output.trans h.output, Nat.le_trans h.size h'.size, fun i hi hn => (h'.block i (Nat.lt_of_lt_of_le hi h.size) (by omega)).trans (h.block i hi hn)⟩
theorem Kt.put (b i : Nat) (w : World) (v : Value) : Kt b w (w.setCell ⟨b, i, none⟩ v) :=
  ⟨rfl, rfl, rfl, by simp [World.setCell], fun k hk hn => Below.heap_setCell _ _ _ _ hn⟩
theorem Kt.step {b : Nat} {w w' w'' : World} (h : Kt b w w') (h' : Below w'.heap.size w' w'') : Kt b w w'' := h.trans (Kt.of h')
theorem Kt.low {b B : Nat} {w w' : World} (h : Kt b w w') (hB : B ≤ w.heap.size) (hb : B ≤ b) : Below B w w' :=
  ⟨h.os, h.tape, h.output, h.size, fun i hi => h.block i (by omega) (by omega)⟩
theorem Kt.blk {b i : Nat} {w w' : World} {cs : Array Value} {T : TypeId} (h : Kt b w w') (hb : Blk w i cs T) (hn : i ≠ b) : Blk w' i cs T := (h.block i hb.lt hn).trans hb
/-- words in cells -/
structure Wd (w : World) (gt o : Nat) (ws : List (List UInt8)) : Prop where
  lt : gt < w.heap.size
  at_ : ∀ j x, ws[j]? = some x → w.cell? ⟨gt, o + j, none⟩ = some (.string (Sp.bs x))
theorem Wd.kt {b : Nat} {w w' : World} {gt o : Nat} {ws : List (List UInt8)} (h : Wd w gt o ws) (hk : Kt b w w') (hn : gt ≠ b) : Wd w' gt o ws :=
  ⟨Nat.lt_of_lt_of_le h.lt hk.size, fun j x hj => (World.cell?_of_block (a := ⟨gt, o + j, none⟩) (hk.block gt h.lt hn)).trans (h.at_ j x hj)⟩
theorem Wd.below {w w' : World} {gt o : Nat} {ws : List (List UInt8)} (h : Wd w gt o ws) (hb : Below w.heap.size w w') : Wd w' gt o ws :=
  ⟨Nat.lt_of_lt_of_le h.lt hb.size, fun j x hj => (hb.cell (p := ⟨gt, o + j, none⟩) h.lt).trans (h.at_ j x hj)⟩
theorem Wd.tail {w : World} {gt o : Nat} {x : List UInt8} {ws : List (List UInt8)} (h : Wd w gt o (x :: ws)) : Wd w gt (o + 1) ws :=
  ⟨h.lt, fun j y hj => by rw [Nat.add_assoc, Nat.add_comm 1 j]; exact h.at_ (j + 1) y (by simpa using hj)⟩
/-- the words that are left, in a block of their own -/
def Lw (w : World) (g gt : Nat) (ws : List (List UInt8)) : Prop := ∃ o c, ws.length ≤ c ∧ Blk w g #[.slice (some ⟨gt, o, none⟩) ws.length c] 75 ∧ Wd w gt o ws
set_option maxRecDepth 100000 in
theorem next_calls (g gt : Nat) (ws : List (List UInt8)) (w : World) (hne : g ≠ gt) (hl : ws.length ≤ 100000) (h : Lw w g gt ws) :
    Calls Tryd.prog 47 #[.pointer (some ⟨g, 0, none⟩)] w fun e w' => e = .returned (.string (Sp.bs (ws.headD []))) ∧ Lw w' g gt ws.tail ∧ Kt g w w' := by
  obtain ⟨o, c, hc, hb, hw⟩ := h
  have hcell : w.cell? ⟨g, 0, none⟩ = some (.slice (some ⟨gt, o, none⟩) ws.length c) := hb.cell 0 _ rfl
  have hfro := hb.frozen 0
  have Hb := Lib.hid hb
  have Hw := Lib.hid hw
  cases ws with
  | nil =>
    clear hb hw
    go_enter Tryd.func47, Tryd.ntmps47
    go_wp2_with fail
    go_ret
    exact ⟨rfl, ⟨o, c, hc, Hb.out, Hw.out⟩, Kt.refl _ _⟩
  | cons x r =>
    have hx := hw.at_ 0 x rfl
    rw [Nat.add_zero] at hx
    obtain ⟨n, hn⟩ : ∃ n, n = r.length := ⟨_, rfl⟩
    have hn1 : (x :: r).length = n + 1 := by rw [hn]; rfl
    rw [hn1] at hcell hc hl
    have Hn := Lib.hid hn
    have c0 : (0 : Int) < (n : Int) + 1 := by omega
    have c1 : (1 : Int) ≤ (n : Int) + 1 := by omega
    have c2 : (n : Int) + 1 ≤ (c : Int) := by omega
    clear hb hw hn hn1
    have Hcl := Lib.hid hl
    by_cases hc1 : c = 1
    · subst hc1
      obtain rfl : n = 0 := by omega
      go_enter Tryd.func47, Tryd.ntmps47
      go_wp2_with fail
      go_region
      go_wp2
      go_ret
      refine ⟨rfl, ⟨o, 0, ?_, ?_, ?_⟩, (Kt.put g 0 w _).step (Below.refl _ _).drew⟩
      · show r.length ≤ 0
        rw [← Hn.out]; exact Nat.le_refl _
      · show Blk _ g #[.slice (some ⟨gt, o, none⟩) r.length 0] _
        rw [← Hn.out]
        exact Blk.below (Hb.out.set 0 _) (Below.refl _ _).drew
      · have hr : r = [] := List.eq_nil_of_length_eq_zero Hn.out.symm
        subst hr
        exact ⟨by show gt < (w.setCell _ _).heap.size; rw [Deep.nblk_setCell]; exact Hw.out.lt, fun j y hj => by simp at hj⟩
    · have c3 : ¬ (c : Int) = 1 := by omega
      go_enter Tryd.func47, Tryd.ntmps47
      go_wp2_with fail
      go_region
      go_wp2
      go_ret
      refine ⟨rfl, ⟨o + 1, c - 1, ?_, ?_, ?_⟩, (Kt.put g 0 w _).step (Below.refl _ _).drew⟩
      · show r.length ≤ c - 1
        rw [← Hn.out]; omega
      · show Blk _ g #[.slice (some ⟨gt, o + 1, none⟩) r.length (c - 1)] _
        rw [← Hn.out]
        exact Blk.below (Hb.out.set 0 _) (Below.refl _ _).drew
      · exact (Hw.out.tail.kt (Kt.put g 0 w _) (fun e => hne e.symm)).below (Below.refl _ _).drew
end Tr
end Go.Proofs.YtpchfmeaplhodaaDoor
