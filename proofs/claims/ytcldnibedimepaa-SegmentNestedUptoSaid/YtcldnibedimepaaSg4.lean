/-
  A part of the proof of this seat's laws: the nth text between a sign.
-/
import Derived.IntWalk
import Derived.ControlIn
import Derived.Test.YtcldnibedimepaaSg3
namespace Go.Proofs.Ytcldnibedimepaa
set_option linter.unusedVariables false
set_option linter.unusedSimpArgs false
open Go.RowKit Go.Shelf
namespace Sp
/-- the nth from 1 on; none: no text -/
def pick (l : List (List UInt8)) (n : Int) : List UInt8 := if 1 ≤ n then (l[(n - 1).toNat]?).getD [] else []
theorem pick_nil (n : Int) : pick [] n = [] := by unfold pick; split <;> rfl
theorem pick_hit {pre : List (List UInt8)} {n : Int} (x : List UInt8) (h : (pre.length : Int) + 1 = n) : pick (pre ++ [x]) n = x := by
  unfold pick
  have h1 : (n - 1).toNat = pre.length := by omega
  rw [if_pos (by omega), h1]; simp
theorem pick_other {pre : List (List UInt8)} {n : Int} (x : List UInt8) (h : (pre.length : Int) + 1 ≠ n) : pick (pre ++ [x]) n = pick pre n := by
  unfold pick
  split
  · rw [List.getElem?_append]
    split
    · rfl
    · rw [List.getElem?_eq_none (by simp; omega), List.getElem?_eq_none (by omega)]
  · rfl
end Sp
namespace Sg
attribute [local go_sem] Oper.semAt_some
set_option maxRecDepth 100000 in
set_option maxHeartbeats 2000000 in
theorem nth_calls (s : List UInt8) (c : UInt8) (n : Int) (hs : s.length ≤ 140737488351232) (w : World) :
    Calls Try.prog 33 #[.string (Sp.bs s), .int .u8 (c.toNat : Int), .int .i64 n] w fun e w' =>
      e = .returned (.tuple #[.string (Sp.bs (Sp.pick (Sp.cutL c s) n)), .int .i64 ((Sp.cutL c s).length : Int)]) ∧ Below w.heap.size w w' := by
  refine (callsIn_wide (n := 20)).1 ?_
  have hf1 : Fence.wide.fn 35 := trivial
  refine callsIn_of_wp_marks Try.func33 rfl trivial ?_ rfl
  simp only [Try.ntmps33, List.size_toArray, List.length_cons, List.length_nil, Nat.reduceAdd, Nat.reduceSub, Array.replicate_succ, Array.replicate_zero, List.push_toArray, List.append_toArray, List.nil_append, List.cons_append]
  gi_wp2_with (gi_at_call 35; refine (callsIn_wide.2 (between_calls _ _ _)).mono ?_; rintro e w' ⟨rfl, rfl⟩)
  have b0 := ((((Box.new w 3 (.int .i64 n)).alloc (.cells #[.string ⟨#[]⟩] 9)).alloc (.cells #[.int .i64 0] 3)).alloc (.cells #[.string (Sp.bs s)] 9)).alloc (.cells #[.int .u8 (c.toNat : Int)] 5)
  have b1 := (((Box.new (w.alloc (.cells #[.int .i64 n] 3)) 9 (.string ⟨#[]⟩)).alloc (.cells #[.int .i64 0] 3)).alloc (.cells #[.string (Sp.bs s)] 9)).alloc (.cells #[.int .u8 (c.toNat : Int)] 5)
  have b2 := ((Box.new ((w.alloc (.cells #[.int .i64 n] 3)).alloc (.cells #[.string ⟨#[]⟩] 9)) 3 (.int .i64 0)).alloc (.cells #[.string (Sp.bs s)] 9)).alloc (.cells #[.int .u8 (c.toNat : Int)] 5)
  have b3 := (Box.new (((w.alloc (.cells #[.int .i64 n] 3)).alloc (.cells #[.string ⟨#[]⟩] 9)).alloc (.cells #[.int .i64 0] 3)) 9 (.string (Sp.bs s))).alloc (.cells #[.int .u8 (c.toNat : Int)] 5)
  have b4 := Box.new ((((w.alloc (.cells #[.int .i64 n] 3)).alloc (.cells #[.string ⟨#[]⟩] 9)).alloc (.cells #[.int .i64 0] 3)).alloc (.cells #[.string (Sp.bs s)] 9)) 5 (.int .u8 (c.toNat : Int))
  have bw : Below w.heap.size w (((((w.alloc (.cells #[.int .i64 n] 3)).alloc (.cells #[.string ⟨#[]⟩] 9)).alloc (.cells #[.int .i64 0] 3)).alloc (.cells #[.string (Sp.bs s)] 9)).alloc (.cells #[.int .u8 (c.toNat : Int)] 5)) :=
    (((((Below.refl _ w).alloc (Nat.le_refl _) _).alloc (by simp) _).alloc (by simp; omega) _).alloc (by simp; omega) _).alloc (by simp; omega) _
  have bz : (((((w.alloc (.cells #[.int .i64 n] 3)).alloc (.cells #[.string ⟨#[]⟩] 9)).alloc (.cells #[.int .i64 0] 3)).alloc (.cells #[.string (Sp.bs s)] 9)).alloc (.cells #[.int .u8 (c.toNat : Int)] 5)).heap.size = w.heap.size + 5 := by simp
  simp only [World.size_alloc] at b0 b1 b2 b3 b4
  generalize (((((w.alloc (.cells #[.int .i64 n] 3)).alloc (.cells #[.string ⟨#[]⟩] 9)).alloc (.cells #[.int .i64 0] 3)).alloc (.cells #[.string (Sp.bs s)] 9)).alloc (.cells #[.int .u8 (c.toNat : Int)] 5)) = W0 at *
  have hlen := Sp.cutL_length c s
  have hcnt := List.count_le_length (a := c) (l := s)
  refine wpIn_between (by omega) (w.heap.size + 1 + 1 + 1) (w.heap.size + 1 + 1 + 1 + 1) (by omega) c s hs rfl b3 b4 rfl
    (fun pre W => Below w.heap.size w W ∧ Box W w.heap.size 3 (.int .i64 n) ∧ Box W (w.heap.size + 1) 9 (.string (Sp.bs (Sp.pick pre n))) ∧ Box W (w.heap.size + 1 + 1) 3 (.int .i64 (pre.length : Int)))
    (fun pre W W' ⟨h1, h2, h3, h4⟩ ht => ⟨ht.below h1 (by omega) (by omega) (Nat.le_refl _), h2.turn ht (by omega), h3.turn ht (by omega), h4.turn ht (by omega)⟩)
    ⟨bw, b0, by rw [Sp.pick_nil]; exact b1, b2⟩
    (fun x => { tmps := #[.string (Sp.bs s), .int .u8 (c.toNat : Int), .int .i64 n, undef, undef, .pointer (some ⟨w.heap.size, 0, none⟩), .string ⟨#[]⟩, .int .i64 0, .pointer (some ⟨w.heap.size + 1, 0, none⟩), .pointer (some ⟨w.heap.size + 1 + 1, 0, none⟩), .string (Sp.bs x), .string (Sp.bs s), .int .u8 (c.toNat : Int),
      .func (.func 40) #[] #[.pointer (some ⟨w.heap.size + 1 + 1 + 1, 0, none⟩), .pointer (some ⟨w.heap.size + 1 + 1 + 1 + 1, 0, none⟩)], .string (Sp.bs x), undef, undef, undef, undef, undef, undef, undef, undef], defers := [] }) ?assign ?body ?done
  case assign =>
    intro l x W K hK
    gi_wp2
    exact hK
  case body =>
    rintro l pre post x W hcut ⟨h1, h2, h3, h4⟩
    have c0 := h2.cell
    have c1 := h3.cell
    have c2 := h4.cell
    have hw : IntKind.i64.wrap ((pre.length : Int) + 1) = (pre.length : Int) + 1 := IntWalk.i64_in _ (by
      have := congrArg List.length hcut
      simp at this
      omega)
    have e1 : ((pre ++ [x]).length : Int) = (pre.length : Int) + 1 := by simp
    have c3 := (h4.set (.int .i64 ((pre.length : Int) + 1))).cell
    have c4 := (h2.other (by omega : w.heap.size ≠ w.heap.size + 1 + 1) (.int .i64 ((pre.length : Int) + 1))).cell
    clear hlen hcnt
    gi_wp2
    · rename_i hx
      have hx : (pre.length : Int) + 1 = n := eq_of_beq hx
      refine ⟨(KeepsOthers.setCell _ _ _).trans (KeepsOthers.setCell _ _ _), ?_, ?_, (h1.setCell (p := ⟨w.heap.size + 1 + 1, 0, none⟩) (by simp <;> omega) _).setCell (p := ⟨w.heap.size + 1, 0, none⟩) (by simp <;> omega) _, ?_, ?_, ?_⟩
      · exact (Below.heap_setCell _ _ _ _ (by simp <;> omega)).trans (Below.heap_setCell _ _ _ _ (by simp <;> omega))
      · exact (Below.heap_setCell _ _ _ _ (by simp <;> omega)).trans (Below.heap_setCell _ _ _ _ (by simp <;> omega))
      · exact (h2.other (by omega) _).other (by omega) _
      · rw [Sp.pick_hit x hx]; exact (h3.other (by omega) _).set _
      · rw [e1]; exact (h4.set _).other (by omega) _
    · rename_i hx
      have hx : (pre.length : Int) + 1 ≠ n := by simpa using hx
      refine ⟨KeepsOthers.setCell _ _ _, ?_, ?_, h1.setCell (p := ⟨w.heap.size + 1 + 1, 0, none⟩) (by simp <;> omega) _, ?_, ?_, ?_⟩
      · exact Below.heap_setCell _ _ _ _ (by simp <;> omega)
      · exact Below.heap_setCell _ _ _ _ (by simp <;> omega)
      · exact h2.other (by omega) _
      · rw [Sp.pick_other x hx]; exact h3.other (by omega) _
      · rw [e1]; exact h4.set _
  case done =>
    rintro D W hD ⟨h1, h2, h3, h4⟩ hK
    have c1 := h3.cell
    have c2 := h4.cell
    clear hlen hcnt
    gi_wp2
    refine wpIn_wide.2 ?_
    go_region
    gi_wp2
    have hK' : W.drew.heap[D]? = some (.deferred (some [])) := hK
    refine ⟨by simp, .inl ⟨_, _, rfl, run_takeDeferred hK', ?_⟩⟩
    refine ⟨_, by simp [results, Try.f33, go_sem], rfl, ?_⟩
    exact h1.drew.grown (grownBy_putObj' _ D (.deferred none)) (by show w.heap.size ≤ W.heap.size; exact h1.size) (fun k e => by cases e; omega)
end Sg
end Go.Proofs.Ytcldnibedimepaa
