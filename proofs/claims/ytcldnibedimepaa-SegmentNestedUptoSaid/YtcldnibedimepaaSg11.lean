/-
  A part of the proof of this seat's laws: a message's segments.
-/
import Derived.Lib.BufStepsIn
import Derived.Test.YtcldnibedimepaaSg10
namespace Go.Proofs.Ytcldnibedimepaa
set_option linter.unusedVariables false
set_option linter.unusedSimpArgs false
open Go.RowKit Go.Shelf
namespace Sp
/-- a message's segments -/
def split (s : List UInt8) : List (List UInt8) := if (cutL 13 s).getLast? = some [] then (cutL 13 s).dropLast else cutL 13 s
theorem split_of {s : List UInt8} {init : List (List UInt8)} {last : List UInt8} (h : cutL 13 s = init ++ [last]) : split s = if last = [] then init else init ++ [last] := by
  unfold split
  rw [h]; simp
end Sp
namespace Sg
open Ap
attribute [local go_sem] Oper.semAt_some
theorem own_turn {W W' : World} {base Bs bs : Nat} {e : TypeId} {v : Value} {n : Nat} {xs : List Value} (h : W.ownsRowF base e 1 v n xs) (ht : Turn bs Bs W W') (hB : Bs < base) : W'.ownsRowF base e 1 v n xs := by
  refine ⟨h.1, ?_⟩
  rcases h.2 with h0 | ⟨g, cap, cur, fz, rfl, hb, hg, r⟩
  · exact .inl h0
  · exact .inr ⟨g, cap, cur, fz, rfl, hb, ht.cells g _ (by omega) hg rfl, r⟩
theorem own_set {W : World} {base B : Nat} {e : TypeId} {v : Value} {n : Nat} {xs : List Value} (h : W.ownsRowF base e 1 v n xs) (hB : B < base) (u : Value) : (W.setCell ⟨B, 0, none⟩ u).ownsRowF base e 1 v n xs := by
  refine ⟨h.1, ?_⟩
  rcases h.2 with h0 | ⟨g, cap, cur, fz, rfl, hb, hg, r⟩
  · exact .inl h0
  · exact .inr ⟨g, cap, cur, fz, rfl, hb, (Below.heap_setCell _ _ _ _ (by simp; omega)).trans hg, r⟩
theorem own_below {W W' : World} {base : Nat} {e : TypeId} {v : Value} {n : Nat} {xs : List Value} (h : W.ownsRowF base e 1 v n xs) (hb : Below W.heap.size W W') : W'.ownsRowF base e 1 v n xs := by
  refine ⟨h.1, ?_⟩
  rcases h.2 with h0 | ⟨g, cap, cur, fz, rfl, hb', hg, r⟩
  · exact .inl h0
  · exact .inr ⟨g, cap, cur, fz, rfl, hb', (hb.block g (Array.getElem?_eq_some_iff.1 hg).1).trans hg, r⟩
theorem own_form {W : World} {base : Nat} {e : TypeId} {v : Value} {n : Nat} {xs : List Value} (h : W.ownsRowF base e 1 v n xs) (hn : 0 < n) : ∃ g cap, v = .slice (some ⟨g, 0, none⟩) n cap ∧ base ≤ g ∧ g < W.heap.size ∧ n ≤ cap ∧ ∀ j u, xs[j]? = some u → W.cell? ⟨g, j, none⟩ = some u := by
  have h' := h
  rcases h.2 with ⟨-, h0⟩ | ⟨g, cap, cur, fz, rfl, hb, hg, hf, hnc, r⟩
  · omega
  · refine ⟨g, cap, rfl, hb, (Array.getElem?_eq_some_iff.1 hg).1, hnc, fun j u hj => ?_⟩
    have := h'.cells (g := g) rfl j u hj
    rwa [Addr.add_lit, Nat.zero_add] at this
theorem own_ne {W : World} {base : Nat} {e : TypeId} {v : Value} {n : Nat} {xs : List Value} (h : W.ownsRowF base e 1 v n xs) {B : Nat} (hB : B < base) : some B ≠ v.ownBlock := fun e => by
  have := (h.lt B e.symm).1
  omega
theorem own_others {W W' : World} {base : Nat} {e : TypeId} {v : Value} {n : Nat} {xs : List Value} (h : W.ownsRowF base e 1 v n xs) (hg : W.grownBy W' v.ownBlock) : KeepsOthers W W' := by
  refine ⟨hg.size, fun k o hk ho => ?_⟩
  refine (hg.block k (Array.getElem?_eq_some_iff.1 hk).1 fun e => ?_).trans hk
  rcases h.2 with ⟨rfl, -⟩ | ⟨g, cap, cur, fz, rfl, hb, hgg, r⟩
  · cases e
  · simp only [Value.ownBlock, Option.some.injEq] at e
    subst e
    rw [hgg] at hk
    cases hk
    cases ho
theorem own_below' {W W' W0 : World} {base B0 : Nat} {e : TypeId} {v : Value} {n : Nat} {xs : List Value} (h : W.ownsRowF base e 1 v n xs) (hg : W.grownBy W' v.ownBlock) (hb : Below B0 W0 W) (hB : B0 ≤ base) (hB2 : B0 ≤ W0.heap.size) : Below B0 W0 W' :=
  hb.grown hg (Nat.le_trans hB2 hb.size) (fun k hk => by have := (h.lt k hk).1; omega)
set_option maxRecDepth 100000 in
set_option maxHeartbeats 4000000 in
theorem split_calls (s : List UInt8) (hs : s.length ≤ 4194304) (A : Option Addr) (n c : Nat) (w : World)
    (hconv : ∀ w', Below w.heap.size w w' → (convert 39 9 (.slice A n c)).run Try.prog w' = .ok (.string (Sp.bs s)) w') :
    Calls Try.prog 23 #[.slice A n c] w fun e w' =>
      ∃ A' C', e = .returned (.slice A' (Sp.split s).length C') ∧ Tx w' A' (Sp.split s).length C' (Sp.split s) ∧ Below w.heap.size w w' := by
  refine (callsIn_wide (n := 20)).1 ?_
  have hf1 : Fence.wide.fn 35 := trivial
  obtain ⟨i0, hi, hz0, hz1, hz2⟩ := info_parts infoS
  have hcv := hconv (w.alloc (.cells #[.slice none 0 0] 31)) ((Below.refl _ _).alloc (Nat.le_refl _) _)
  clear hconv
  refine callsIn_of_wp_marks Try.func23 rfl trivial ?_ rfl
  simp only [Try.ntmps23, List.size_toArray, List.length_cons, List.length_nil, Nat.reduceAdd, Nat.reduceSub, Array.replicate_succ, Array.replicate_zero, List.push_toArray, List.append_toArray, List.nil_append, List.cons_append]
  gi_wp2_with (gi_at_call 35; refine (callsIn_wide.2 (between_calls _ _ _)).mono ?_; rintro e w' ⟨rfl, rfl⟩)
  clear hcv
  have b0 := ((Box.new w 31 (.slice none 0 0)).alloc (.cells #[.string (Sp.bs s)] 9)).alloc (.cells #[.int .u8 13] 5)
  have b1 := (Box.new (w.alloc (.cells #[.slice none 0 0] 31)) 9 (.string (Sp.bs s))).alloc (.cells #[.int .u8 13] 5)
  have b2 := Box.new ((w.alloc (.cells #[.slice none 0 0] 31)).alloc (.cells #[.string (Sp.bs s)] 9)) 5 (.int .u8 13)
  have bw : Below w.heap.size w (((w.alloc (.cells #[.slice none 0 0] 31)).alloc (.cells #[.string (Sp.bs s)] 9)).alloc (.cells #[.int .u8 13] 5)) :=
    (((Below.refl _ w).alloc (Nat.le_refl _) _).alloc (by simp) _).alloc (by simp; omega) _
  have bz : (((w.alloc (.cells #[.slice none 0 0] 31)).alloc (.cells #[.string (Sp.bs s)] 9)).alloc (.cells #[.int .u8 13] 5)).heap.size = w.heap.size + 3 := by simp
  simp only [World.size_alloc] at b0 b1 b2
  generalize (((w.alloc (.cells #[.slice none 0 0] 31)).alloc (.cells #[.string (Sp.bs s)] 9)).alloc (.cells #[.int .u8 13] 5)) = W0 at *
  have hlen := Sp.cutL_length 13 s
  have hcnt := List.count_le_length (a := 13) (l := s)
  refine wpIn_between (by omega) (w.heap.size + 1) (w.heap.size + 1 + 1) (by omega) 13 s (by omega) rfl b1 b2 rfl
    (fun pre W => Below w.heap.size w W ∧ w.heap.size + 3 ≤ W.heap.size ∧ ∃ v, Box W w.heap.size 31 v ∧ W.ownsRowF (w.heap.size + 3) 9 1 v pre.length (Sp.vals pre))
    (fun pre W W' ⟨h1, h2, v, h3, h4⟩ ht => ⟨ht.below h1 (by omega) (by omega) (Nat.le_refl _), Nat.le_trans h2 ht.size, v, h3.turn ht (by omega), own_turn h4 ht (by omega)⟩)
    ⟨bw, by omega, _, b0, World.ownsRowF_nil _ _ _ _⟩
    (fun x => { tmps := #[.slice A n c, undef, .slice none 0 0, .pointer (some ⟨w.heap.size, 0, none⟩), .string (Sp.bs x), undef, .slice A n c, .string (Sp.bs s),
      .func (.func 40) #[] #[.pointer (some ⟨w.heap.size + 1, 0, none⟩), .pointer (some ⟨w.heap.size + 1 + 1, 0, none⟩)], .string (Sp.bs x), undef, undef, undef, undef, undef, undef, undef, undef, undef, undef, undef, undef, undef, undef, undef, undef], defers := [] }) ?assign ?body ?done
  case assign =>
    intro l x W K hK
    gi_wp2
    exact hK
  case body =>
    rintro l pre post x W hcut ⟨h1, h2, v, h3, h4⟩
    have c1 := h3.cell
    have hpl : pre.length + 1 ≤ 4194305 := by
      have := congrArg List.length hcut
      simp at this
      omega
    clear hlen hcnt
    gi_wp2_with (gi_at_builtin; refine wpListIn_append_ownF _ rfl (.tmp 10) (.tmp 12) 31 rfl (w.heap.size + 3) 9 i0 (.string ⟨#[]⟩) 1 16 Try.underlying31 hi hz0 hz1 hz2 rfl (by decide) v pre.length (Sp.vals pre) rfl ?hown _ 1 1 [.string (Sp.bs x)] rfl rfl ?hn ?h1c ?b1 ?b2 ?hbase ?_; (case hown => exact own_below h4 ((Below.refl _ _).alloc (Nat.le_refl _) _)); (case hn => exact one_cell _ _ _ _ rfl); (case h1c => (simp [Value.oneCell'])); (case b1 => (simp only [maxLen]; omega)); (case b2 => omega); (case hbase => (simp; omega)); intro v' w' hown hg hnil; obtain ⟨g', cap', rfl, -⟩ := own_form hown (by omega); have hx3 := h3.alloc (.cells #[.string (Sp.bs x)] 9); have hy3 : Box w' w.heap.size 31 v := (hg.block _ (Array.getElem?_eq_some_iff.1 hx3).1 (own_ne h4 (by omega))).trans hx3; have hcy := hy3.cell)
    have hal := (Below.refl W.heap.size W).alloc (Nat.le_refl _) (.cells #[.string (Sp.bs x)] 9)
    have h4' := own_below h4 hal
    have hlt1 : w.heap.size + 1 < W.heap.size := by omega
    have hlt2 : w.heap.size + 1 + 1 < W.heap.size := by omega
    refine ⟨(KeepsOthers.alloc W _).trans ((own_others h4' hg).trans (KeepsOthers.setCell _ _ _)), ?_, ?_, ?_, ?_, _, hy3.set _, ?_⟩
    · exact (Below.heap_setCell _ _ _ _ (by simp <;> omega)).trans ((hg.block _ (by simp; omega) (own_ne h4 (by omega))).trans (Below.heap_alloc _ _ _ hlt1))
    · exact (Below.heap_setCell _ _ _ _ (by simp <;> omega)).trans ((hg.block _ (by simp; omega) (own_ne h4 (by omega))).trans (Below.heap_alloc _ _ _ hlt2))
    · exact (own_below' h4' hg (h1.alloc (by omega) _) (by omega) (Nat.le_refl _)).setCell (p := ⟨w.heap.size, 0, none⟩) (Nat.le_refl _) _
    · have := hg.size
      simp [World.setCell] at this ⊢
      omega
    · have e1 : (pre ++ [x]).length = pre.length + 1 := by simp
      have e2 : Sp.vals (pre ++ [x]) = Sp.vals pre ++ [.string (Sp.bs x)] := by rw [Sp.vals, List.map_append]; rfl
      rw [e1, e2]
      exact own_set hown (by omega) _
  case done =>
    rintro D W hD ⟨h1, h2, v, h3, h4⟩ hK
    obtain ⟨init, last, hil⟩ := Sp.cutL_last 13 s
    have hspl := Sp.split_of hil
    rw [hil] at h4
    rw [hil, List.length_append, List.length_singleton] at hlen
    have e2 : Sp.vals (init ++ [last]) = Sp.vals init ++ [.string (Sp.bs last)] := by rw [Sp.vals, List.map_append]; rfl
    rw [e2, List.length_append, List.length_singleton] at h4
    obtain ⟨g', cap', rfl, hg1, hg2, hnc, hcell⟩ := own_form h4 (by omega)
    have hcl := hcell init.length (.string (Sp.bs last)) (by rw [List.getElem?_append_right (by simp)]; simp)
    have c1 := h3.cell
    have hN : init.length ≤ 4194304 := by omega
    have hw : IntKind.i64.wrap ((init.length : Int) + 1 - 1) = (init.length : Int) := by
      rw [show (init.length : Int) + 1 - 1 = (init.length : Int) by omega]; exact IntWalk.i64_in _ (by omega)
    have hw2 : IntKind.i64.wrap (init.length : Int) = (init.length : Int) := IntWalk.i64_in _ (by omega)
    have k0 : (0 : Int) ≤ (init.length : Int) := by omega
    have k1 : (init.length : Int) < (init.length : Int) + 1 := by omega
    have k2 : (init.length : Int) ≤ (cap' : Int) := by omega
    have hT : ∀ W' : World, W.heap.size ≤ W'.heap.size → W'.heap[g']? = W.heap[g']? → ∀ m (ys : List (List UInt8)), ys <+: init ++ [last] → ys.length = m → Tx W' (some ⟨g', 0, none⟩) m cap' ys := by
      intro W' hsz hb m ys hp hm
      refine ⟨by have := hp.length_le; simp at this; omega, hm, .inr ⟨g', 0, rfl, Nat.lt_of_lt_of_le hg2 hsz, fun j x hj => ?_⟩⟩
      obtain ⟨r, hr⟩ := hp
      have := hcell j (.string (Sp.bs x)) (by rw [← e2, ← hr, List.getElem?_map, List.getElem?_append_left (List.getElem?_eq_some_iff.1 hj).1, hj]; rfl)
      rw [Nat.zero_add]
      exact (World.cell?_of_block (a := ⟨g', j, none⟩) hb).trans this
    have hgD : g' ≠ D := fun e => by subst e; simp [World.cell?, hK] at hcl
    have HgD := Lib.hid hgD
    clear hgD
    have HT := Lib.hid hT
    clear hlen hcnt hcell hT hil
    by_cases hl : last = []
    · subst hl
      have hq : ((Sp.bs []).toList == []) = true := by rw [Sp.bs_toList]; rfl
      rw [if_pos rfl] at hspl
      have Hs := Lib.hid hspl
      clear hspl
      have hs2 := (h3.set (.slice (some ⟨g', 0, none⟩) init.length cap')).cell
      gi_wp2
      have hK' : (W.setCell ⟨w.heap.size, 0, none⟩ (.slice (some ⟨g', 0, none⟩) init.length cap')).heap[D]? = some (.deferred (some [])) :=
        (Below.heap_setCell _ _ _ _ (by simp; omega)).trans hK
      refine ⟨by simp, .inl ⟨_, _, rfl, run_takeDeferred hK', ?_⟩⟩
      refine ⟨_, by simp [results, Try.f23, go_sem]; rfl, ?_⟩
      rw [Hs.out]
      refine ⟨_, _, rfl, HT.out _ (by simp [World.setCell]) ?_ _ _ ⟨[[]], rfl⟩ rfl, ?_⟩
      · exact (World.putObj_heap_other HgD.out).trans (Below.heap_setCell _ _ _ _ (by simp; omega))
      · exact (h1.setCell (p := ⟨w.heap.size, 0, none⟩) (Nat.le_refl _) _).grown (grownBy_putObj' _ D (.deferred none)) (by have := h1.size; simp [World.setCell]; exact this) (fun k e => by cases e; omega)
    · have hq : ((Sp.bs last).toList == []) = false := by rw [Sp.bs_toList, beq_eq_false_iff_ne]; exact hl
      rw [if_neg hl] at hspl
      have Hs := Lib.hid hspl
      clear hspl hl
      gi_wp2
      refine ⟨by simp, .inl ⟨_, _, rfl, run_takeDeferred hK, ?_⟩⟩
      refine ⟨_, by simp [results, Try.f23, go_sem]; rfl, ?_⟩
      rw [Hs.out]
      refine ⟨_, _, by rw [List.length_append, List.length_singleton], HT.out _ (by simp) (World.putObj_heap_other HgD.out) _ _ (List.prefix_refl _) rfl, ?_⟩
      exact h1.grown (grownBy_putObj' _ D (.deferred none)) h1.size (fun k e => by cases e; omega)
end Sg
end Go.Proofs.Ytcldnibedimepaa
