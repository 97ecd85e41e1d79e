/-
  A part of the proof of this seat's laws: a line of steps' text, the program's: an event.
-/
import Derived.Test.YtpchfmeaplhodaaDoorTr13
import Derived.Test.YtpchfmeaplhodaaDoorTr11
import Derived.Deep.AppendLies
import Derived.Deep.RegionLaw
namespace Go.Proofs.YtpchfmeaplhodaaDoor
set_option linter.unusedVariables false
set_option linter.unusedSimpArgs false
open Go.RowKit Go.Shelf
namespace Tr
open Ap Sg
set_option maxHeartbeats 2000000
theorem infoSt : (Tryd.prog.info? 42).map (fun i => (i.zero, i.size, i.bytes)) = some (some (.agg #[.int .i64 0, .int .i64 0, .int .i64 0, .slice none 0 0, .slice none 0 0, .bool false]), 6, 80) := by kernel_rfl
theorem infoOu : (Tryd.prog.info? 56).map (fun i => (i.zero, i.size, i.bytes)) = some (some (.agg #[.bool false, .slice none 0 0]), 2, 32) := by kernel_rfl
/-- what a line is told as -/
def LineRet (P base : Nat) (l : List Sp.Stp) (s : List UInt8) (w : World) (e : Ending) (w' : World) : Prop :=
  e = .returned (.bool (Sp.lineS l s).isSome) ∧ (∀ l', Sp.lineS l s = some l' → ∃ A n c, Blk w' P #[.slice A n c] 86 ∧ Os w' base A n c l') ∧ Below P w w'
/-- the cells of a new element -/
theorem step_cells (w : World) (vs : List Value) (t : TypeId) (H : Nat) (hH : w.heap.size = H) : ∀ j u, vs[j]? = some u → (w.alloc (.cells vs.toArray t)).cell? ((⟨H, 0, none⟩ : Addr).add j) = some u := by
  subst hH
  intro j u hj
  have h := World.news_of_block (w := w.alloc (.cells vs.toArray t)) (B := w.heap.size) (cs := vs.toArray) (t := t) (fr := (0, 0)) (by show (w.heap.push _)[w.heap.size]? = _; simp)
  exact h j u (by simpa using hj)
set_option maxRecDepth 100000 in
theorem line_event (P base : Nat) (hP : P < base) (A : Option Addr) (n c : Nat) (l : List Sp.Stp) (s : List UInt8) (hs : s.length ≤ 50000) (w : World) (hg : Gl w) (hp : Blk w P #[.slice A n c] 86) (ho : Os w base A n c l) (hb : base ≤ w.heap.size) (hn : n ≤ 1000000) (ev : Sp.Evt) (hr : Sp.readS s = some ev) :
    Calls Tryd.prog 41 #[.pointer (some ⟨P, 0, none⟩), .string (Sp.bs s)] w fun e w' => LineRet P base l s w e w' := by
  have hz := Sp.bs_size s
  have huS := Tryd.underlying42
  have huE := Tryd.underlying29
  have HRd := Lib.hid (read_calls s hs w hg)
  have Hp := Lib.hid hp
  have Ho := Lib.hid ho
  have HR := Lib.hid hr
  obtain ⟨i0, hi, hz0, hz1, hz2⟩ := info_parts infoSt
  clear hp ho hr
  go_enter Tryd.func41, Tryd.ntmps41
  go_wp2_with fail
  refine HRd.out.mono ?_
  rintro e w1 ⟨-, hyes, b1⟩
  obtain ⟨Ad, nd, cd, rfl, hd, hfr⟩ := hyes ev HR.out
  have Hb1 := Lib.hid b1
  have Hd := Lib.hid hd
  have Hfr := Lib.hid hfr
  clear hyes
  go_wp2_with fail
  have hbn : Below w1.heap.size w1 (w1.alloc (.cells (evC ev.kind ev.n ev.keep Ad nd cd) 29)) := (Below.refl _ _).alloc (Nat.le_refl _) _
  have e2 := Blk.new w1 (evC ev.kind ev.n ev.keep Ad nd cd) 29
  have b2 := step b1 hbn
  have p2 := Hp.out.below b2
  have hdk : Bk w1 (fun b => base ≤ b ∧ (Value.slice A n c).ownBlock ≠ some b) Ad nd cd ev.data := Bk.new hd hfr (fun g hge => ⟨by omega, fun e => by have := (Ho.out.own g e).2; omega⟩)
  have hdk2 := hdk.keep (Kp.of hbn)
  have ho2 := Ho.out.below b2
  have hown2 := ho2.own
  obtain ⟨xs, hrow, hpush⟩ := ho2.push
  have hs2 : (w1.alloc (.cells (evC ev.kind ev.n ev.keep Ad nd cd) 29)).heap.size = w1.heap.size + 1 := World.size_alloc _ _
  have hw1 := b1.size
  generalize (w1.alloc (.cells (evC ev.kind ev.n ev.keep Ad nd cd) 29)) = W2 at *
  generalize w1.heap.size = H1 at *
  have hc4 := e2.cells4
  have hp2 := p2.cell 0 _ rfl
  have hpf := p2.frozen 0
  have Hrow : Hid (∀ o, ((W2.alloc o).drew).ownsRow base 42 6 (.slice A n c) n xs) := fun o => hrow.alloc o
  have hbl : Below W2.heap.size W2 (W2.alloc (.cells (stV ⟨ev, [], false⟩ Ad nd cd none 0 0).toArray 42)).drew := ((Below.refl _ _).alloc (Nat.le_refl _) _).drew
  have Hnews := Lib.hid (step_cells W2 (stV ⟨ev, [], false⟩ Ad nd cd none 0 0) 42 W2.heap.size rfl)
  have Hone := Lib.hid (stV_one ⟨ev, [], false⟩ Ad nd cd none 0 0)
  have hP3 : ∀ w3 g cap, (W2.alloc (.cells (stV ⟨ev, [], false⟩ Ad nd cd none 0 0).toArray 42)).drew.grownBy w3 (Value.slice A n c).ownBlock →
      w3.ownsRow base 42 6 (.slice (some ⟨g, 0, none⟩) (n + 1) cap) (n + 1) (xs ++ stV ⟨ev, [], false⟩ Ad nd cd none 0 0) → ((Value.slice A n c).ownBlock = some g ∨ g = (W2.alloc (.cells (stV ⟨ev, [], false⟩ Ad nd cd none 0 0).toArray 42)).drew.heap.size) →
      Blk w3 P #[.slice A n c] 86 ∧ Os w3 base (some ⟨g, 0, none⟩) (n + 1) cap (l ++ [⟨ev, [], false⟩]) ∧ Below P w w3 := fun w3 g cap hg3 hr3 hat => by
    have hpb := p2.below hbl
    refine ⟨(hg3.block P hpb.lt (fun e => ?_)).trans hpb, hpush _ _ g cap ev Ad nd cd hbl hdk2 hg3 hr3 hat, (b2.mono (by omega)).trans ((hbl.mono (by omega)).trans ((Below.refl P _).grown hg3 (by have := hbl.size; omega) (fun k hk => ?_)))⟩
    · have := (hown2 P e.symm).1
      omega
    · have := (hown2 k hk).1
      omega
  have HP3 := Lib.hid hP3
  have hsz2 : base ≤ W2.heap.size := by omega
  have hPlt : P < W2.heap.size := by omega
  have hHlt : H1 < W2.heap.size := by omega
  clear hd hfr b1 hbn e2 b2 p2 hdk hdk2 hrow hpush hs2 ho2 hown2 hbl hP3
  go_region_law (refine step_append_lies _ rfl (.tmp 21) (.tmp 24) 43 rfl base 42 i0 _ 6 80 Tryd.underlying43 hi hz0 hz1 hz2 rfl (by decide) (.slice A n c) n xs (by simp [Act.eval, Act.put]) (Hrow.out _) ⟨W2.heap.size, 0, none⟩ 1 1 (stV ⟨ev, [], false⟩ Ad nd cd none 0 0) (by simp [Act.eval, Act.put]) rfl Hnews.out Hone.out (by decide) (by simp only [maxLen]; omega) (by omega) (by show base ≤ (W2.alloc _).heap.size; rw [World.size_alloc]; omega) _ rfl ?_; intro g cap w3 hr3 hg3 hat hlt3; have hx3 := HP3.out w3 g cap hg3 hr3 hat; have hq3 := hx3.1.cell 0 _ rfl; have hqf := hx3.1.frozen 0; have HX3 := Lib.hid hx3; clear hr3 hg3 hat hx3)
  all_goals
    go_wp2_with fail
    go_ret
    refine ⟨by rw [Sp.lineS_read HR.out]; rfl, fun l' hl' => ?_, HX3.out.2.2.setCell (p := ⟨P, 0, none⟩) (Nat.le_refl _) _⟩
    rw [Sp.lineS_read HR.out] at hl'
    cases hl'
    exact ⟨_, _, _, HX3.out.1.set 0 _, HX3.out.2.1.low ⟨P, 0, none⟩ hP _⟩
end Tr
end Go.Proofs.YtpchfmeaplhodaaDoor
