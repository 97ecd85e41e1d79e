/-
  A part of the proof of this seat's laws: a range over the texts between a sign.
-/
import Derived.RangeFuncKeeps
import Derived.Test.YtcldnibedimepaaSg2
namespace Go.Proofs.Ytcldnibedimepaa
set_option linter.unusedVariables false
set_option linter.unusedSimpArgs false
open Go.RowKit Go.Shelf
namespace Sg
/-- how a round may be left: off its end alone -/
def betPost (Bs Bc : Nat) (I : List (List UInt8) → World → Prop) (xs : List (List UInt8)) (W : World) : Exit → Act → World → Prop
  | .normal, _, W' => KeepsOthers W W' ∧ W'.heap[Bs]? = W.heap[Bs]? ∧ W'.heap[Bc]? = W.heap[Bc]? ∧ I xs W'
  | _, _, _ => False
theorem wpIn_between {n : Nat} (hn : 6 ≤ n) {g : Operand} {ps : Array Tmp} {assign body : Code} {Q : Exit → Act → World → Prop} {a : Act} {w : World}
    (Bs Bc : Nat) (hne : Bc ≠ Bs) (c : UInt8) (s : List UInt8) (hs : s.length ≤ 140737488351232)
    (hg : a.eval g = .func (.func 40) #[] #[.pointer (some ⟨Bs, 0, none⟩), .pointer (some ⟨Bc, 0, none⟩)])
    (hB1 : Box w Bs 9 (.string (Sp.bs s))) (hB2 : Box w Bc 5 (.int .u8 (c.toNat : Int))) (hps : ps.size = 1)
    (I : List (List UInt8) → World → Prop) (hI : ∀ pre W W', I pre W → Turn w.heap.size Bs W W' → I pre W') (h0 : I [] w) (a₁ : List UInt8 → Act)
    (hassign : ∀ (l : Nat) (x : List UInt8) (W : World) (K : Act → World → Prop), K (a₁ x) W →
      assign.wpIn (Fence.wide.inRound l) (n - 1 - 1) Try.prog (Exit.then K (fun _ _ _ => False)) { tmps := (ps.zip #[.string (Sp.bs x)]).foldl (fun t (p, v) => t.setIfInBounds p v) a.tmps, defers := [] } W)
    (hbody : ∀ (l : Nat) (pre post : List (List UInt8)) (x : List UInt8) (W : World), Sp.cutL c s = pre ++ x :: post → I pre W → body.wpIn (Fence.wide.inRound l) (n - 1 - 1) Try.prog (betPost Bs Bc I (pre ++ [x]) W) (a₁ x) W)
    (hdone : ∀ (D : Nat) (W : World), w.heap.size ≤ D → I (Sp.cutL c s) W → W.heap[D]? = some (.deferred (some [])) → Q .normal { a with defers := { target := .collected D, args := #[] } :: a.defers } W) :
    (Code.rangeFunc g ps assign body).wpIn Fence.wide n Try.prog Q a w := by
  refine wpIn_rangeFunc ?_
  intro fn hfn
  rw [show Fence.wide.round = none from rfl]
  obtain ⟨rec, hrec⟩ : ∃ rec : LoopState → Option Code → Loop, rec = fun st pe => { state := st, pending := pe, fn, tmps := a.tmps, params := ps, assign, body, defers := w.heap.size } := ⟨_, rfl⟩
  obtain ⟨W1, hW1⟩ : ∃ W1, (w.alloc (.deferred (some []))).alloc (.loop (rec .ready none)) = W1 := ⟨_, rfl⟩
  have hL1 : W1.heap[w.heap.size + 1]? = some (.loop (rec .ready none)) := by
    rw [← hW1]; have := World.alloc_heap_new (w.alloc (.deferred (some []))) (.loop (rec .ready none)); rwa [World.size_alloc] at this
  have hK1 : W1.heap[w.heap.size]? = some (.deferred (some [])) := by
    rw [← hW1]; exact (Below.heap_alloc _ _ _ (by simp)).trans (World.alloc_heap_new w _)
  have hI1 : I [] W1 := by rw [← hW1]; exact hI _ _ _ (hI _ _ _ h0 (Turn.alloc _ Bs w _)) (Turn.alloc _ Bs _ _)
  have hc1 : Box W1 Bs 9 (.string (Sp.bs s)) := by rw [← hW1]; exact (hB1.alloc _).alloc _
  have hc2 : Box W1 Bc 5 (.int .u8 (c.toNat : Int)) := by rw [← hW1]; exact (hB2.alloc _).alloc _
  have hl1 : Bs < w.heap.size := (Array.getElem?_eq_some_iff.1 hB1).1
  have hl2 : Bc < w.heap.size := (Array.getElem?_eq_some_iff.1 hB2).1
  refine ⟨w.heap.size + 1, [{ target := .collected w.heap.size, args := #[] }], W1, { target := .fn (.func 40) #[.pointer (some ⟨Bs, 0, none⟩), .pointer (some ⟨Bc, 0, none⟩)], args := #[.func (.yield (w.heap.size + 1)) #[] #[]] }, W1, 40,
    #[.func (.yield (w.heap.size + 1)) #[] #[], .pointer (some ⟨Bs, 0, none⟩), .pointer (some ⟨Bc, 0, none⟩)], W1, ?_, ?_, ?_, ?_, fun _ => by omega, ?_⟩
  · rw [← hW1, hrec]; exact run_enterLoop_outer _ _ _ _ _
  · simp only [resolve, hg]
    simp [go_sem]
  · intro f' hf'; exact trivial
  · have eg := enters_of (P := Try.prog) Try.func40 (by kernel_rfl) rfl
    simp [invoke, go_sem, eg]
  · refine (between1_in (n - 1) (by omega) (w.heap.size + 1) Bs Bc c hne s hs
      (fun pre W => I pre W ∧ W.heap[w.heap.size + 1]? = some (.loop (rec .ready none)) ∧ W.heap[w.heap.size]? = some (.deferred (some [])))
      ?_ ?_ W1 hc1 hc2 ⟨hI1, hL1, hK1⟩).mono ?_
    · rintro pre W W' ⟨hi, hl, hk⟩ ht
      exact ⟨hI _ _ _ hi (ht.turn _), (ht.block _ (by omega) (Array.getElem?_eq_some_iff.1 hl).1).trans hl, (ht.block _ (by omega) (Array.getElem?_eq_some_iff.1 hk).1).trans hk⟩
    · rintro pre x post r W hcut ⟨hi, hl, hk⟩ hb1 hb2
      have hlt : w.heap.size + 1 < W.heap.size := (Array.getElem?_eq_some_iff.1 hl).1
      have hy := run_yield (P := Try.prog) (args := #[.string (Sp.bs x)]) hl (by rw [hrec]; simpa using hps.symm)
      rw [hrec] at hy
      refine ⟨fn, _, assign, body, hy, roundIn_of_wpIn hfn (hassign _ x W _ ⟨_, run_beginRound hl (by rw [hrec]), ?_⟩)⟩
      have hl2' : (W.putObj (w.heap.size + 1) (.loop { rec .ready none with state := .busy })).heap[w.heap.size + 1]? = some (.loop { rec .ready none with state := .busy }) := World.putObj_heap_same hlt
      have hk2 : (W.putObj (w.heap.size + 1) (.loop { rec .ready none with state := .busy })).heap[w.heap.size]? = some (.deferred (some [])) := (World.putObj_heap_other (by omega)).trans hk
      refine wpIn_mono (hbody _ pre post x _ hcut (hI _ _ _ hi (Turn.put _ Bs _ (by omega) hl rfl))) ?_
      rintro e a3 W3 hp
      cases e with
      | normal =>
        obtain ⟨hk3, hp1, hp2, hi3⟩ := hp
        have hl3 := hk3.same _ _ hl2' rfl
        have hr := run_endRound (P := Try.prog) none hl3
        rw [hrec] at hr
        refine ⟨_, _, hr, rfl, ⟨hI _ _ _ hi3 (Turn.put _ Bs _ (by omega) hl3 rfl), ?_, ?_⟩, ?_, ?_⟩
        · rw [hrec]; exact World.putObj_heap_same (Array.getElem?_eq_some_iff.1 hl3).1
        · exact (World.putObj_heap_other (by omega)).trans (hk3.same _ _ hk2 rfl)
        · exact (World.putObj_heap_other (by omega)).trans (hp1.trans ((World.putObj_heap_other (by omega)).trans hb1))
        · exact (World.putObj_heap_other (by omega)).trans (hp2.trans ((World.putObj_heap_other (by omega)).trans hb2))
      | ret => exact hp.elim
      | exit id => exact hp.elim
      | goto t => exact hp.elim
      | panic ch => exact hp.elim
      | outgrown => exact hp.elim
    · rintro e W2 ⟨⟨v, rfl⟩, hi, hl, hk⟩
      exact ⟨none, _, by have := run_endLoop (P := Try.prog) hl (by rw [hrec]; simp); rw [hrec] at this; exact this, hdone _ _ (Nat.le_refl _) (hI _ _ _ hi (Turn.put _ Bs _ (by omega) hl rfl)) ((World.putObj_heap_other (by omega)).trans hk)⟩
end Sg
end Go.Proofs.Ytcldnibedimepaa
