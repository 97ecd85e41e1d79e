/-
  A part of the proof of this seat's laws: an event's fields of words, the program's.
-/
import Derived.Test.YtpchfmeaplhodaaDoorTr9
import Derived.Test.YtpchfmeaplhodaaDoorTpM
namespace Go.Proofs.YtpchfmeaplhodaaDoor
set_option linter.unusedVariables false
set_option linter.unusedSimpArgs false
open Go.RowKit Go.Shelf
namespace Tr
open Ap Sg
set_option maxHeartbeats 8000000
/-- what the fields of words are told as -/
def FillRet (K : Int) (r : Option Sp.Evt) (b : Nat) (w : World) (e : Ending) (w' : World) : Prop :=
  Kt b w w' ∧ (r = none → e = .returned (.bool false)) ∧
  (∀ ev, r = some ev → e = .returned (.bool true) ∧ ∃ A n c, Blk w' b (evC K ev.n ev.keep A n c) 29 ∧ By w' A n c ev.data ∧ ∀ g o, A = some ⟨g, o, none⟩ → w.heap.size ≤ g)
theorem FillRet.no {K : Int} {r : Option Sp.Evt} {b : Nat} {w w' : World} (hr : r = none) (hk : Kt b w w') : FillRet K r b w (.returned (.bool false)) w' :=
  ⟨hk, fun _ => rfl, (fun ev h => by rw [hr] at h; cases h)⟩
theorem FillRet.yes {K : Int} {r : Option Sp.Evt} {b : Nat} {w w' : World} {ev : Sp.Evt} {A : Option Addr} {n c : Nat} (hr : r = some ev) (hk : Kt b w w') (hb : Blk w' b (evC K ev.n ev.keep A n c) 29) (hd : By w' A n c ev.data) (hA : ∀ g o, A = some ⟨g, o, none⟩ → w.heap.size ≤ g) : FillRet K r b w (.returned (.bool true)) w' :=
  ⟨hk, (fun h => by rw [hr] at h; cases h), (fun ev' h => by rw [hr] at h; cases h; exact ⟨rfl, A, n, c, hb, hd, hA⟩)⟩
theorem Lw.mk {w : World} {g gt o c : Nat} {ws : List (List UInt8)} (h1 : ws.length ≤ c) (h2 : Blk w g #[.slice (some ⟨gt, o, none⟩) ws.length c] 75) (h3 : Wd w gt o ws) : Lw w g gt ws := ⟨o, c, h1, h2, h3⟩
theorem Lw.of {w : World} {g gt : Nat} {ws : List (List UInt8)} (h : Lw w g gt ws) : ∃ o c, w.cell? ⟨g, 0, none⟩ = some (.slice (some ⟨gt, o, none⟩) ws.length c) := by
  obtain ⟨o, c, -, hb, -⟩ := h
  exact ⟨o, c, hb.cell 0 _ rfl⟩
theorem Lw.kt {b : Nat} {w w' : World} {g gt : Nat} {ws : List (List UInt8)} (h : Lw w g gt ws) (hk : Kt b w w') (h1 : g ≠ b) (h2 : gt ≠ b) : Lw w' g gt ws := by
  obtain ⟨o, c, h3, hb, hw⟩ := h
  exact ⟨o, c, h3, hk.blk hb h1, hw.kt hk h2⟩
theorem Lw.below {w w' : World} {g gt : Nat} {ws : List (List UInt8)} (h : Lw w g gt ws) (hb : Below w.heap.size w w') : Lw w' g gt ws := by
  obtain ⟨o, c, h3, hk, hw⟩ := h
  exact ⟨o, c, h3, hk.below hb, hw.below hb⟩
theorem By.kt {b : Nat} {w w' : World} {A : Option Addr} {n c : Nat} {t : List UInt8} (h : By w A n c t) (hk : Kt b w w') (hA : ∀ g o, A = some ⟨g, o, none⟩ → g ≠ b) : By w' A n c t := by
  refine ⟨h.cap, h.len, ?_⟩
  rcases h.cells with h0 | ⟨g, o, hA', hl, hc⟩
  · exact .inl h0
  · exact .inr ⟨g, o, hA', Nat.lt_of_lt_of_le hl hk.size, fun j x hj => (World.cell?_of_block (a := ⟨g, o + j, none⟩) (hk.block g hl (hA g o hA'))).trans (hc j x hj)⟩
set_option maxRecDepth 100000 in
theorem fillD_calls (K : Int) (kb : ByteArray) (b gt o c : Nat) (ws : List (List UInt8)) (w : World) (hb : Blk w b (evC K 0 0 none 0 0) 29) (hne : gt ≠ b) (hw : Wd w gt o ws) (hc : ws.length ≤ c) (hl : ws.length ≤ 100000) (hx : (ws.headD []).length ≤ 100000) (hy : (ws.tail.headD []).length ≤ 100000) (hnv : ∀ w', Kt b w w' → Nv w') :
    Calls Tryd.prog 33 #[.agg #[.string kb, .bool true, .bool false, .bool false], .pointer (some ⟨b, 0, none⟩), .slice (some ⟨gt, o, none⟩) ws.length c] w fun e w' => FillRet K (Sp.fillD K ws) b w e w' := by
  have huE := Tryd.underlying29
  have huK := Tryd.underlying68
  have hbl := hb.lt
  have hgl := hw.lt
  obtain ⟨W0, hW0⟩ : ∃ W0, W0 = w.alloc (.cells #[.string kb, .bool true, .bool false, .bool false] 68) := ⟨_, rfl⟩
  have hs0 : W0.heap.size = w.heap.size + 1 := by rw [hW0]; exact World.size_alloc _ _
  have b0 : Below w.heap.size w W0 := by rw [hW0]; exact (Below.refl _ _).alloc (Nat.le_refl _) _
  have k0 : Blk W0 w.heap.size #[.string kb, .bool true, .bool false, .bool false] 68 := by rw [hW0]; exact Blk.new _ _ _
  have hg1 := Blk.new W0 #[.slice (some ⟨gt, o, none⟩) ws.length c] 75
  have b1 : Below W0.heap.size W0 (W0.alloc (.cells #[.slice (some ⟨gt, o, none⟩) ws.length c] 75)) := (Below.refl _ _).alloc (Nat.le_refl _) _
  have B1 := Lib.hid (step b0 b1)
  have K1 := Lib.hid (k0.below b1)
  have E1 := Lib.hid ((hb.below b0).below b1)
  rw [hs0] at hg1
  have hw1 := (hw.below b0).below b1
  have L1 := Lib.hid (Lw.mk hc hg1 hw1)
  have T1 := Lib.hid (Kt.of (b := b) B1.out)
  rw [hW0] at B1 K1 E1 L1 T1
  have Hnv := Lib.hid hnv
  have N1 := next_calls (w.heap.size + 1) gt ws _ (by omega) hl L1.out
  obtain ⟨x0, hx0⟩ : ∃ x0, x0 = ws.headD [] := ⟨_, rfl⟩
  obtain ⟨r0, hr0⟩ : ∃ r0, r0 = ws.tail := ⟨_, rfl⟩
  obtain ⟨y0, hy0⟩ : ∃ y0, y0 = ws.tail.headD [] := ⟨_, rfl⟩
  obtain ⟨z0, hz0⟩ : ∃ z0, z0 = ws.tail.tail := ⟨_, rfl⟩
  rw [← hx0, ← hr0] at N1
  rw [← hx0] at hx
  rw [← hy0] at hy
  have hrl : r0.length ≤ 100000 := by rw [hr0, List.length_tail]; omega
  have HN1 := Lib.hid N1
  have Hx0 := Lib.hid hx0
  have Hr0 := Lib.hid hr0
  have Hy0 := Lib.hid hy0
  have Hz0 := Lib.hid hz0
  clear N1 hx0 hr0 hy0 hz0
  clear hb hw hw1 hnv hg1 b1 b0 k0 hW0 hs0 W0
  go_enter Tryd.func33, Tryd.ntmps33
  go_wp2_with fail
  clear B1
  refine HN1.out.mono ?_
  rintro e w2 ⟨rfl, l2, t2⟩
  have L2 := Lib.hid l2
  have T2 := Lib.hid (T1.out.other t2 (Nat.le_succ _))
  have K2 := Lib.hid (t2.blk K1.out (by omega))
  have E2 := Lib.hid (t2.blk E1.out (by omega))
  have kc2 := K2.out.cells4
  clear HN1 l2 t2 L1 T1 K1 E1
  go_wp2_with fail
  refine (bytes_calls x0 hx _).mono ?_
  rintro e w3 ⟨r1, r2, b3⟩
  have E2l := Lib.hid E2.out.lt
  have S2 := Lib.hid T2.out.size
  have L3 := Lib.hid (L2.out.below b3)
  have T3 := Lib.hid (T2.out.step b3)
  have K3 := Lib.hid (K2.out.below b3)
  have E3 := Lib.hid (E2.out.below b3)
  have kc3 := K3.out.cells4
  obtain ⟨o3, c3, hg3⟩ := L3.out.of
  clear b3 L2 T2 K2 E2 kc2
  have hf3 := E3.out.frozen 3
  have hce3 := E3.out.cell 3 _ rfl
  cases hbt : Sp.bytesT x0 with
  | none =>
    rw [r1 hbt]
    have HQ := Lib.hid (fun w' hk => FillRet.no (K := K) (r := Sp.fillD K ws) (b := b) (w := w) (w' := w') (by unfold Sp.fillD; rw [← Hx0.out, ← Hr0.out, hbt]; rfl) hk)
    clear r1 r2 hbt
    go_wp2_with fail
    go_ret
    exact HQ.out _ (T3.out.trans (Kt.put _ _ _ _))
  | some t =>
    obtain ⟨A, n, c', rfl, hby, hAl⟩ := r2 t hbt
    have Hby := Lib.hid hby
    have E4 := Lib.hid (E3.out.set 3 (.slice A n c'))
    by_cases ht : r0 = []
    · have HQ := Lib.hid (fun w' hk hb' hd hA => FillRet.yes (K := K) (r := Sp.fillD K ws) (b := b) (w := w) (w' := w') (ev := ⟨K, 0, 0, t⟩) (A := A) (n := n) (c := c') (by unfold Sp.fillD; rw [← Hx0.out, ← Hr0.out, hbt, Option.bind_some, if_pos ht]) hk hb' hd hA)
      rw [ht] at hg3
      clear r1 r2 hbt hby ht
      go_wp2_with fail
      go_ret
      exact HQ.out _ (T3.out.trans (Kt.put _ _ _ _)) E4.out (By.kt Hby.out (Kt.put _ _ _ _) (fun g o' e => by have := hAl g o' e; have := E2l.out; omega)) (fun g o' e => by have := hAl g o' e; have := S2.out; omega)
    · have HQ := Lib.hid (fun w' hk => FillRet.no (K := K) (r := Sp.fillD K ws) (b := b) (w := w) (w' := w') (by unfold Sp.fillD; rw [← Hx0.out, ← Hr0.out, hbt, Option.bind_some, if_neg ht]) hk)
      have hlp := List.length_pos_iff.2 ht
      generalize r0.length = rl at *
      have q0 : ((rl : Int) == 0) = false := by rw [beq_eq_false_iff_ne]; omega
      clear r1 r2 hbt hby ht
      go_wp2_with fail
      go_ret
      exact HQ.out _ (T3.out.trans (Kt.put _ _ _ _))
set_option maxRecDepth 100000 in
theorem fillC_calls (K : Int) (kb : ByteArray) (b gt o c : Nat) (ws : List (List UInt8)) (w : World) (hb : Blk w b (evC K 0 0 none 0 0) 29) (hne : gt ≠ b) (hw : Wd w gt o ws) (hc : ws.length ≤ c) (hl : ws.length ≤ 100000) (hx : (ws.headD []).length ≤ 100000) (hy : (ws.tail.headD []).length ≤ 100000) (hnv : ∀ w', Kt b w w' → Nv w') :
    Calls Tryd.prog 33 #[.agg #[.string kb, .bool false, .bool true, .bool false], .pointer (some ⟨b, 0, none⟩), .slice (some ⟨gt, o, none⟩) ws.length c] w fun e w' => FillRet K (Sp.fillC K ws) b w e w' := by
  have huE := Tryd.underlying29
  have huK := Tryd.underlying68
  have hbl := hb.lt
  have hgl := hw.lt
  obtain ⟨W0, hW0⟩ : ∃ W0, W0 = w.alloc (.cells #[.string kb, .bool false, .bool true, .bool false] 68) := ⟨_, rfl⟩
  have hs0 : W0.heap.size = w.heap.size + 1 := by rw [hW0]; exact World.size_alloc _ _
  have b0 : Below w.heap.size w W0 := by rw [hW0]; exact (Below.refl _ _).alloc (Nat.le_refl _) _
  have k0 : Blk W0 w.heap.size #[.string kb, .bool false, .bool true, .bool false] 68 := by rw [hW0]; exact Blk.new _ _ _
  have hg1 := Blk.new W0 #[.slice (some ⟨gt, o, none⟩) ws.length c] 75
  have b1 : Below W0.heap.size W0 (W0.alloc (.cells #[.slice (some ⟨gt, o, none⟩) ws.length c] 75)) := (Below.refl _ _).alloc (Nat.le_refl _) _
  have B1 := Lib.hid (step b0 b1)
  have K1 := Lib.hid (k0.below b1)
  have E1 := Lib.hid ((hb.below b0).below b1)
  rw [hs0] at hg1
  have hw1 := (hw.below b0).below b1
  have L1 := Lib.hid (Lw.mk hc hg1 hw1)
  have T1 := Lib.hid (Kt.of (b := b) B1.out)
  rw [hW0] at B1 K1 E1 L1 T1
  have Hnv := Lib.hid hnv
  have N1 := next_calls (w.heap.size + 1) gt ws _ (by omega) hl L1.out
  obtain ⟨x0, hx0⟩ : ∃ x0, x0 = ws.headD [] := ⟨_, rfl⟩
  obtain ⟨r0, hr0⟩ : ∃ r0, r0 = ws.tail := ⟨_, rfl⟩
  obtain ⟨y0, hy0⟩ : ∃ y0, y0 = ws.tail.headD [] := ⟨_, rfl⟩
  obtain ⟨z0, hz0⟩ : ∃ z0, z0 = ws.tail.tail := ⟨_, rfl⟩
  rw [← hx0, ← hr0] at N1
  rw [← hx0] at hx
  rw [← hy0] at hy
  have hrl : r0.length ≤ 100000 := by rw [hr0, List.length_tail]; omega
  have HN1 := Lib.hid N1
  have Hx0 := Lib.hid hx0
  have Hr0 := Lib.hid hr0
  have Hy0 := Lib.hid hy0
  have Hz0 := Lib.hid hz0
  clear N1 hx0 hr0 hy0 hz0
  clear hb hw hw1 hnv hg1 b1 b0 k0 hW0 hs0 W0
  go_enter Tryd.func33, Tryd.ntmps33
  go_wp2_with fail
  clear B1
  refine HN1.out.mono ?_
  rintro e w2 ⟨rfl, l2, t2⟩
  have L2 := Lib.hid l2
  have T2 := Lib.hid (T1.out.other t2 (Nat.le_succ _))
  have K2 := Lib.hid (t2.blk K1.out (by omega))
  have E2 := Lib.hid (t2.blk E1.out (by omega))
  have kc2 := K2.out.cells4
  clear HN1 l2 t2 L1 T1 K1 E1
  go_wp2_with fail
  refine (number_calls x0 hx _ (Hnv.out _ T2.out)).mono ?_
  rintro e w3 ⟨r1, r2, b3⟩
  have L3 := Lib.hid (L2.out.below b3)
  have T3 := Lib.hid (T2.out.step b3)
  have K3 := Lib.hid (K2.out.below b3)
  have E3 := Lib.hid (E2.out.below b3)
  have kc3 := K3.out.cells4
  obtain ⟨o3, c3, hg3⟩ := L3.out.of
  clear b3 L2 T2 K2 E2 kc2
  have hf3 := E3.out.frozen 1
  have hce3 := E3.out.cell 1 _ rfl
  cases hbt : Sp.numT x0 with
  | none =>
    rw [r1 hbt]
    have HQ := Lib.hid (fun w' hk => FillRet.no (K := K) (r := Sp.fillC K ws) (b := b) (w := w) (w' := w') (by unfold Sp.fillC; rw [← Hx0.out, ← Hr0.out, hbt]; rfl) hk)
    clear r1 r2 hbt
    go_wp2_with fail
    go_ret
    exact HQ.out _ (T3.out.trans (Kt.put _ _ _ _))
  | some n =>
    rw [r2 n hbt]
    have E4 := Lib.hid (E3.out.set 1 (.int .i64 n))
    by_cases ht : r0 = []
    · have HQ := Lib.hid (fun w' hk hb' hd hA => FillRet.yes (K := K) (r := Sp.fillC K ws) (b := b) (w := w) (w' := w') (ev := ⟨K, n, 0, []⟩) (A := none) (n := 0) (c := 0) (by unfold Sp.fillC; rw [← Hx0.out, ← Hr0.out, hbt, Option.bind_some, if_pos ht]) hk hb' hd hA)
      rw [ht] at hg3
      clear r1 r2 hbt ht
      go_wp2_with fail
      go_ret
      exact HQ.out _ (T3.out.trans (Kt.put _ _ _ _)) E4.out (By.nil _) (fun g o h => by cases h)
    · have HQ := Lib.hid (fun w' hk => FillRet.no (K := K) (r := Sp.fillC K ws) (b := b) (w := w) (w' := w') (by unfold Sp.fillC; rw [← Hx0.out, ← Hr0.out, hbt, Option.bind_some, if_neg ht]) hk)
      have hlp := List.length_pos_iff.2 ht
      generalize r0.length = rl at *
      have q0 : ((rl : Int) == 0) = false := by rw [beq_eq_false_iff_ne]; omega
      clear r1 r2 hbt ht
      go_wp2_with fail
      go_ret
      exact HQ.out _ (T3.out.trans (Kt.put _ _ _ _))
set_option maxRecDepth 100000 in
theorem fillK_calls (K : Int) (kb : ByteArray) (b gt o c : Nat) (ws : List (List UInt8)) (w : World) (hb : Blk w b (evC K 0 0 none 0 0) 29) (hne : gt ≠ b) (hw : Wd w gt o ws) (hc : ws.length ≤ c) (hl : ws.length ≤ 100000) (hx : (ws.headD []).length ≤ 100000) (hy : (ws.tail.headD []).length ≤ 100000) (hnv : ∀ w', Kt b w w' → Nv w') :
    Calls Tryd.prog 33 #[.agg #[.string kb, .bool false, .bool false, .bool true], .pointer (some ⟨b, 0, none⟩), .slice (some ⟨gt, o, none⟩) ws.length c] w fun e w' => FillRet K (Sp.fillK K ws) b w e w' := by
  have huE := Tryd.underlying29
  have huK := Tryd.underlying68
  have hbl := hb.lt
  have hgl := hw.lt
  obtain ⟨W0, hW0⟩ : ∃ W0, W0 = w.alloc (.cells #[.string kb, .bool false, .bool false, .bool true] 68) := ⟨_, rfl⟩
  have hs0 : W0.heap.size = w.heap.size + 1 := by rw [hW0]; exact World.size_alloc _ _
  have b0 : Below w.heap.size w W0 := by rw [hW0]; exact (Below.refl _ _).alloc (Nat.le_refl _) _
  have k0 : Blk W0 w.heap.size #[.string kb, .bool false, .bool false, .bool true] 68 := by rw [hW0]; exact Blk.new _ _ _
  have hg1 := Blk.new W0 #[.slice (some ⟨gt, o, none⟩) ws.length c] 75
  have b1 : Below W0.heap.size W0 (W0.alloc (.cells #[.slice (some ⟨gt, o, none⟩) ws.length c] 75)) := (Below.refl _ _).alloc (Nat.le_refl _) _
  have B1 := Lib.hid (step b0 b1)
  have K1 := Lib.hid (k0.below b1)
  have E1 := Lib.hid ((hb.below b0).below b1)
  rw [hs0] at hg1
  have hw1 := (hw.below b0).below b1
  have L1 := Lib.hid (Lw.mk hc hg1 hw1)
  have T1 := Lib.hid (Kt.of (b := b) B1.out)
  rw [hW0] at B1 K1 E1 L1 T1
  have Hnv := Lib.hid hnv
  have N1 := next_calls (w.heap.size + 1) gt ws _ (by omega) hl L1.out
  obtain ⟨x0, hx0⟩ : ∃ x0, x0 = ws.headD [] := ⟨_, rfl⟩
  obtain ⟨r0, hr0⟩ : ∃ r0, r0 = ws.tail := ⟨_, rfl⟩
  obtain ⟨y0, hy0⟩ : ∃ y0, y0 = ws.tail.headD [] := ⟨_, rfl⟩
  obtain ⟨z0, hz0⟩ : ∃ z0, z0 = ws.tail.tail := ⟨_, rfl⟩
  rw [← hx0, ← hr0] at N1
  rw [← hx0] at hx
  rw [← hy0] at hy
  have hrl : r0.length ≤ 100000 := by rw [hr0, List.length_tail]; omega
  have HN1 := Lib.hid N1
  have Hx0 := Lib.hid hx0
  have Hr0 := Lib.hid hr0
  have Hy0 := Lib.hid hy0
  have Hz0 := Lib.hid hz0
  clear N1 hx0 hr0 hy0 hz0
  clear hb hw hw1 hnv hg1 b1 b0 k0 hW0 hs0 W0
  go_enter Tryd.func33, Tryd.ntmps33
  go_wp2_with fail
  clear B1
  refine HN1.out.mono ?_
  rintro e w2 ⟨rfl, l2, t2⟩
  have L2 := Lib.hid l2
  have T2 := Lib.hid (T1.out.other t2 (Nat.le_succ _))
  have K2 := Lib.hid (t2.blk K1.out (by omega))
  have E2 := Lib.hid (t2.blk E1.out (by omega))
  have kc2 := K2.out.cells4
  clear HN1 l2 t2 L1 T1 K1 E1
  go_wp2_with fail
  refine (number_calls x0 hx _ (Hnv.out _ T2.out)).mono ?_
  rintro e w3 ⟨r1, r2, b3⟩
  have L3 := Lib.hid (L2.out.below b3)
  have T3 := Lib.hid (T2.out.step b3)
  have K3 := Lib.hid (K2.out.below b3)
  have E3 := Lib.hid (E2.out.below b3)
  have kc3 := K3.out.cells4
  obtain ⟨o3, c3, hg3⟩ := L3.out.of
  clear b3 L2 T2 K2 E2 kc2
  have hf3 := E3.out.frozen 2
  have hce3 := E3.out.cell 2 _ rfl
  cases hbt : Sp.numT x0 with
  | none =>
    rw [r1 hbt]
    have HQ := Lib.hid (fun w' hk => FillRet.no (K := K) (r := Sp.fillK K ws) (b := b) (w := w) (w' := w') (by unfold Sp.fillK; rw [← Hx0.out, ← Hr0.out, hbt]; rfl) hk)
    clear r1 r2 hbt
    go_wp2_with fail
    go_ret
    exact HQ.out _ (T3.out.trans (Kt.put _ _ _ _))
  | some n =>
    rw [r2 n hbt]
    have E4 := Lib.hid (E3.out.set 2 (.int .i64 n))
    by_cases ht : r0 = []
    · have HQ := Lib.hid (fun w' hk hb' hd hA => FillRet.yes (K := K) (r := Sp.fillK K ws) (b := b) (w := w) (w' := w') (ev := ⟨K, 0, n, []⟩) (A := none) (n := 0) (c := 0) (by unfold Sp.fillK; rw [← Hx0.out, ← Hr0.out, hbt, Option.bind_some, if_pos ht]) hk hb' hd hA)
      rw [ht] at hg3
      clear r1 r2 hbt ht
      go_wp2_with fail
      go_ret
      exact HQ.out _ (T3.out.trans (Kt.put _ _ _ _)) E4.out (By.nil _) (fun g o h => by cases h)
    · have HQ := Lib.hid (fun w' hk => FillRet.no (K := K) (r := Sp.fillK K ws) (b := b) (w := w) (w' := w') (by unfold Sp.fillK; rw [← Hx0.out, ← Hr0.out, hbt, Option.bind_some, if_neg ht]) hk)
      have hlp := List.length_pos_iff.2 ht
      generalize r0.length = rl at *
      have q0 : ((rl : Int) == 0) = false := by rw [beq_eq_false_iff_ne]; omega
      clear r1 r2 hbt ht
      go_wp2_with fail
      go_ret
      exact HQ.out _ (T3.out.trans (Kt.put _ _ _ _))
set_option maxRecDepth 100000 in
theorem fillCK_calls (K : Int) (kb : ByteArray) (b gt o c : Nat) (ws : List (List UInt8)) (w : World) (hb : Blk w b (evC K 0 0 none 0 0) 29) (hne : gt ≠ b) (hw : Wd w gt o ws) (hc : ws.length ≤ c) (hl : ws.length ≤ 100000) (hx : (ws.headD []).length ≤ 100000) (hy : (ws.tail.headD []).length ≤ 100000) (hnv : ∀ w', Kt b w w' → Nv w') :
    Calls Tryd.prog 33 #[.agg #[.string kb, .bool false, .bool true, .bool true], .pointer (some ⟨b, 0, none⟩), .slice (some ⟨gt, o, none⟩) ws.length c] w fun e w' => FillRet K (Sp.fillCK K ws) b w e w' := by
  have huE := Tryd.underlying29
  have huK := Tryd.underlying68
  have hbl := hb.lt
  have hgl := hw.lt
  obtain ⟨W0, hW0⟩ : ∃ W0, W0 = w.alloc (.cells #[.string kb, .bool false, .bool true, .bool true] 68) := ⟨_, rfl⟩
  have hs0 : W0.heap.size = w.heap.size + 1 := by rw [hW0]; exact World.size_alloc _ _
  have b0 : Below w.heap.size w W0 := by rw [hW0]; exact (Below.refl _ _).alloc (Nat.le_refl _) _
  have k0 : Blk W0 w.heap.size #[.string kb, .bool false, .bool true, .bool true] 68 := by rw [hW0]; exact Blk.new _ _ _
  have hg1 := Blk.new W0 #[.slice (some ⟨gt, o, none⟩) ws.length c] 75
  have b1 : Below W0.heap.size W0 (W0.alloc (.cells #[.slice (some ⟨gt, o, none⟩) ws.length c] 75)) := (Below.refl _ _).alloc (Nat.le_refl _) _
  have B1 := Lib.hid (step b0 b1)
  have K1 := Lib.hid (k0.below b1)
  have E1 := Lib.hid ((hb.below b0).below b1)
  rw [hs0] at hg1
  have hw1 := (hw.below b0).below b1
  have L1 := Lib.hid (Lw.mk hc hg1 hw1)
  have T1 := Lib.hid (Kt.of (b := b) B1.out)
  rw [hW0] at B1 K1 E1 L1 T1
  have Hnv := Lib.hid hnv
  have N1 := next_calls (w.heap.size + 1) gt ws _ (by omega) hl L1.out
  obtain ⟨x0, hx0⟩ : ∃ x0, x0 = ws.headD [] := ⟨_, rfl⟩
  obtain ⟨r0, hr0⟩ : ∃ r0, r0 = ws.tail := ⟨_, rfl⟩
  obtain ⟨y0, hy0⟩ : ∃ y0, y0 = ws.tail.headD [] := ⟨_, rfl⟩
  obtain ⟨z0, hz0⟩ : ∃ z0, z0 = ws.tail.tail := ⟨_, rfl⟩
  rw [← hx0, ← hr0] at N1
  rw [← hx0] at hx
  rw [← hy0] at hy
  have hrl : r0.length ≤ 100000 := by rw [hr0, List.length_tail]; omega
  have HN1 := Lib.hid N1
  have Hx0 := Lib.hid hx0
  have Hr0 := Lib.hid hr0
  have Hy0 := Lib.hid hy0
  have Hz0 := Lib.hid hz0
  clear N1 hx0 hr0 hy0 hz0
  clear hb hw hw1 hnv hg1 b1 b0 k0 hW0 hs0 W0
  go_enter Tryd.func33, Tryd.ntmps33
  go_wp2_with fail
  clear B1
  refine HN1.out.mono ?_
  rintro e w2 ⟨rfl, l2, t2⟩
  have L2 := Lib.hid l2
  have T2 := Lib.hid (T1.out.other t2 (Nat.le_succ _))
  have K2 := Lib.hid (t2.blk K1.out (by omega))
  have E2 := Lib.hid (t2.blk E1.out (by omega))
  have kc2 := K2.out.cells4
  clear HN1 l2 t2 L1 T1 K1 E1
  go_wp2_with fail
  refine (number_calls x0 hx _ (Hnv.out _ T2.out)).mono ?_
  rintro e w3 ⟨r1, r2, b3⟩
  have L3 := Lib.hid (L2.out.below b3)
  have T3 := Lib.hid (T2.out.step b3)
  have K3 := Lib.hid (K2.out.below b3)
  have E3 := Lib.hid (E2.out.below b3)
  have kc3 := K3.out.cells4
  obtain ⟨o3, c3, hg3⟩ := L3.out.of
  clear b3 L2 T2 K2 E2 kc2
  have hf3 := E3.out.frozen 1
  have hce3 := E3.out.cell 1 _ rfl
  cases hbt : Sp.numT x0 with
  | none =>
    rw [r1 hbt]
    have HQ := Lib.hid (fun w' hk => FillRet.no (K := K) (r := Sp.fillCK K ws) (b := b) (w := w) (w' := w') (by unfold Sp.fillCK; rw [← Hx0.out, hbt]; rfl) hk)
    clear r1 r2 hbt
    go_wp2_with fail
    go_ret
    exact HQ.out _ (T3.out.trans (Kt.put _ _ _ _))
  | some n =>
    rw [r2 n hbt]
    have Hbt := Lib.hid hbt
    have t4 := Kt.put b 1 w3 (.int .i64 n)
    have E4 := Lib.hid (E3.out.set 1 (.int .i64 n))
    have T4 := Lib.hid (T3.out.trans t4)
    have L4 := Lib.hid (L3.out.kt t4 (by omega) hne)
    have K4 := Lib.hid (t4.blk K3.out (by omega))
    have N4 := next_calls (w.heap.size + 1) gt r0 _ (by omega) hrl L4.out
    rw [Hr0.out, ← Hy0.out, ← Hz0.out] at N4
    have HN4 := Lib.hid N4
    clear r1 r2 hbt N4 t4 T3 K3 E3
    go_wp2_with fail
    refine HN4.out.mono ?_
    rintro e w5 ⟨rfl, l5, t5⟩
    have L5 := Lib.hid l5
    have T5 := Lib.hid (T4.out.other t5 (Nat.le_succ _))
    have K5 := Lib.hid (t5.blk K4.out (by omega))
    have E5 := Lib.hid (t5.blk E4.out (by omega))
    have kc5 := K5.out.cells4
    clear HN4 l5 t5 L4 T4 K4 E4 L3 kc3 hg3 hf3 hce3
    go_wp2_with fail
    refine (number_calls y0 hy _ (Hnv.out _ T5.out)).mono ?_
    rintro e w6 ⟨s1, s2, b6⟩
    have L6 := Lib.hid (L5.out.below b6)
    have T6 := Lib.hid (T5.out.step b6)
    have K6 := Lib.hid (K5.out.below b6)
    have E6 := Lib.hid (E5.out.below b6)
    have kc6 := K6.out.cells4
    obtain ⟨o6, c6, hg6⟩ := L6.out.of
    clear b6 L5 T5 K5 E5 kc5
    have hf6 := E6.out.frozen 2
    have hce6 : w6.cell? ⟨b, 2, none⟩ = some (.int .i64 0) := E6.out.cell 2 _ rfl
    cases hbt : Sp.numT y0 with
    | none =>
      rw [s1 hbt]
      have HQ := Lib.hid (fun w' hk => FillRet.no (K := K) (r := Sp.fillCK K ws) (b := b) (w := w) (w' := w') (by unfold Sp.fillCK; rw [← Hx0.out, ← Hy0.out, Hbt.out, Option.bind_some, hbt]; rfl) hk)
      clear s1 s2 hbt
      go_wp2_with fail
      go_ret
      exact HQ.out _ (T6.out.trans (Kt.put _ _ _ _))
    | some m =>
      rw [s2 m hbt]
      have E7 := Lib.hid (E6.out.set 2 (.int .i64 m))
      by_cases ht : z0 = []
      · have HQ := Lib.hid (fun w' hk hb' hd hA => FillRet.yes (K := K) (r := Sp.fillCK K ws) (b := b) (w := w) (w' := w') (ev := ⟨K, n, m, []⟩) (A := none) (n := 0) (c := 0) (by unfold Sp.fillCK; rw [← Hx0.out, ← Hy0.out, ← Hz0.out, Hbt.out, Option.bind_some, hbt, Option.bind_some, if_pos ht]) hk hb' hd hA)
        rw [ht] at hg6
        clear s1 s2 hbt ht
        go_wp2_with fail
        go_ret
        exact HQ.out _ (T6.out.trans (Kt.put _ _ _ _)) E7.out (By.nil _) (fun g o h => by cases h)
      · have HQ := Lib.hid (fun w' hk => FillRet.no (K := K) (r := Sp.fillCK K ws) (b := b) (w := w) (w' := w') (by unfold Sp.fillCK; rw [← Hx0.out, ← Hy0.out, ← Hz0.out, Hbt.out, Option.bind_some, hbt, Option.bind_some, if_neg ht]) hk)
        have hlp := List.length_pos_iff.2 ht
        generalize z0.length = rl at *
        have q0 : ((rl : Int) == 0) = false := by rw [beq_eq_false_iff_ne]; omega
        clear s1 s2 hbt ht
        go_wp2_with fail
        go_ret
        exact HQ.out _ (T6.out.trans (Kt.put _ _ _ _))
set_option maxRecDepth 100000 in
theorem fill0_calls (K : Int) (kb : ByteArray) (b gt o c : Nat) (ws : List (List UInt8)) (w : World) (hb : Blk w b (evC K 0 0 none 0 0) 29) (hne : gt ≠ b) (hw : Wd w gt o ws) (hc : ws.length ≤ c) (hl : ws.length ≤ 100000) (hx : (ws.headD []).length ≤ 100000) (hy : (ws.tail.headD []).length ≤ 100000) (hnv : ∀ w', Kt b w w' → Nv w') :
    Calls Tryd.prog 33 #[.agg #[.string kb, .bool false, .bool false, .bool false], .pointer (some ⟨b, 0, none⟩), .slice (some ⟨gt, o, none⟩) ws.length c] w fun e w' => FillRet K (Sp.fill0 K ws) b w e w' := by
  have huE := Tryd.underlying29
  have huK := Tryd.underlying68
  have hbl := hb.lt
  have hgl := hw.lt
  obtain ⟨W0, hW0⟩ : ∃ W0, W0 = w.alloc (.cells #[.string kb, .bool false, .bool false, .bool false] 68) := ⟨_, rfl⟩
  have hs0 : W0.heap.size = w.heap.size + 1 := by rw [hW0]; exact World.size_alloc _ _
  have b0 : Below w.heap.size w W0 := by rw [hW0]; exact (Below.refl _ _).alloc (Nat.le_refl _) _
  have k0 : Blk W0 w.heap.size #[.string kb, .bool false, .bool false, .bool false] 68 := by rw [hW0]; exact Blk.new _ _ _
  have hg1 := Blk.new W0 #[.slice (some ⟨gt, o, none⟩) ws.length c] 75
  have b1 : Below W0.heap.size W0 (W0.alloc (.cells #[.slice (some ⟨gt, o, none⟩) ws.length c] 75)) := (Below.refl _ _).alloc (Nat.le_refl _) _
  have B1 := Lib.hid (step b0 b1)
  have K1 := Lib.hid (k0.below b1)
  have E1 := Lib.hid ((hb.below b0).below b1)
  rw [hs0] at hg1
  have hw1 := (hw.below b0).below b1
  have L1 := Lib.hid (Lw.mk hc hg1 hw1)
  have T1 := Lib.hid (Kt.of (b := b) B1.out)
  rw [hW0] at B1 K1 E1 L1 T1
  have Hnv := Lib.hid hnv
  have N1 := next_calls (w.heap.size + 1) gt ws _ (by omega) hl L1.out
  obtain ⟨x0, hx0⟩ : ∃ x0, x0 = ws.headD [] := ⟨_, rfl⟩
  obtain ⟨r0, hr0⟩ : ∃ r0, r0 = ws.tail := ⟨_, rfl⟩
  obtain ⟨y0, hy0⟩ : ∃ y0, y0 = ws.tail.headD [] := ⟨_, rfl⟩
  obtain ⟨z0, hz0⟩ : ∃ z0, z0 = ws.tail.tail := ⟨_, rfl⟩
  rw [← hx0, ← hr0] at N1
  rw [← hx0] at hx
  rw [← hy0] at hy
  have hrl : r0.length ≤ 100000 := by rw [hr0, List.length_tail]; omega
  have HN1 := Lib.hid N1
  have Hx0 := Lib.hid hx0
  have Hr0 := Lib.hid hr0
  have Hy0 := Lib.hid hy0
  have Hz0 := Lib.hid hz0
  clear N1 hx0 hr0 hy0 hz0
  clear hb hw hw1 hnv hg1 b1 b0 k0 hW0 hs0 W0
  have hg1 := L1.out.of
  obtain ⟨o1, c1, hg1⟩ := hg1
  by_cases ht : ws = []
  · have HQ := Lib.hid (fun w' hk hb' hd hA => FillRet.yes (K := K) (r := Sp.fill0 K ws) (b := b) (w := w) (w' := w') (ev := ⟨K, 0, 0, []⟩) (A := none) (n := 0) (c := 0) (by unfold Sp.fill0; rw [if_pos ht]) hk hb' hd hA)
    rw [ht] at hg1
    have hwl : ws.length = 0 := by rw [ht]; rfl
    rw [hwl] at T1 E1 ⊢
    clear HN1 Hx0 Hr0 Hy0 Hz0 ht
    go_enter Tryd.func33, Tryd.ntmps33
    go_wp2_with fail
    go_ret
    exact HQ.out _ T1.out E1.out (By.nil _) (fun g o h => by cases h)
  · have HQ := Lib.hid (fun w' hk => FillRet.no (K := K) (r := Sp.fill0 K ws) (b := b) (w := w) (w' := w') (by unfold Sp.fill0; rw [if_neg ht]) hk)
    have hlp := List.length_pos_iff.2 ht
    clear HN1 Hx0 Hr0 Hy0 Hz0 ht E1 L1 K1
    obtain ⟨rl, hrl2⟩ : ∃ rl, rl = ws.length := ⟨_, rfl⟩
    rw [← hrl2] at T1 hg1 hlp ⊢
    clear hrl2
    have q0 : ((rl : Int) == 0) = false := by rw [beq_eq_false_iff_ne]; omega
    go_enter Tryd.func33, Tryd.ntmps33
    go_wp2_with fail
    go_ret
    exact HQ.out _ T1.out
end Tr
end Go.Proofs.YtpchfmeaplhodaaDoor
