/-
  A part of the proof of this seat's laws: a line of steps' text, the program's: no event.
-/
import Derived.Test.YtpchfmeaplhodaaDoorTr15
namespace Go.Proofs.YtpchfmeaplhodaaDoor
set_option linter.unusedVariables false
set_option linter.unusedSimpArgs false
open Go.RowKit Go.Shelf
namespace Tr
open Ap Sg
set_option maxHeartbeats 2000000
theorem LineRet.no {P base : Nat} {l : List Sp.Stp} {s : List UInt8} {w w' : World} (h : Sp.lineS l s = none) (hb : Below P w w') : LineRet P base l s w (.returned (.bool false)) w' :=
  ⟨by rw [h]; rfl, (fun l' h' => by rw [h] at h'; cases h'), hb⟩
theorem LineRet.yes {P base : Nat} {l l' : List Sp.Stp} {s : List UInt8} {w w' : World} {A : Option Addr} {n c : Nat} (h : Sp.lineS l s = some l') (hp : Blk w' P #[.slice A n c] 86) (ho : Os w' base A n c l') (hb : Below P w w') : LineRet P base l s w (.returned (.bool true)) w' :=
  ⟨by rw [h]; rfl, (fun l'' h' => by rw [h] at h'; cases h'; exact ⟨A, n, c, hp, ho⟩), hb⟩
theorem Blk.other {w : World} {b : Nat} {cs : Array Value} {T : TypeId} (h : Blk w b cs T) (p : Addr) (hp : p.block ≠ b) (v : Value) : Blk (w.setCell p v) b cs T := (Below.heap_setCell w p v b (fun e => hp e.symm)).trans h
theorem OsL.ownlt {w : World} {base G n c : Nat} {init : List Sp.Stp} {s : Sp.Stp} {Ad : Option Addr} {nd cd : Nat} {Ao : Option Addr} {no co : Nat} (h : OsL w base G n c init s Ad nd cd Ao no co) : ∀ r, (Value.slice Ao no co).ownBlock = some r → base ≤ r ∧ r < w.heap.size := by
  obtain ⟨us, ho, -⟩ := h.outs
  exact ho.lt
theorem ouV_one (x : Sp.Out) (A : Option Addr) (n c : Nat) : ∀ u ∈ [Value.bool x.back, .slice A n c], u.oneCell' = true := by
  intro u hu
  simp only [List.mem_cons, List.not_mem_nil, or_false] at hu
  rcases hu with rfl | rfl <;> rfl
set_option maxRecDepth 100000 in
theorem line_nil (P base : Nat) (hP : P < base)  (s : List UInt8) (hs : s.length ≤ 50000) (w : World) (hg : Gl w) (hp : Blk w P #[.slice none 0 0] 86)  (hb : base ≤ w.heap.size) (hr : Sp.readS s = none)  :
    Calls Tryd.prog 41 #[.pointer (some ⟨P, 0, none⟩), .string (Sp.bs s)] w fun e w' => LineRet P base ([]) s w e w' := by
  have hz := Sp.bs_size s
  have huS := Tryd.underlying42
  have huE := Tryd.underlying29
  have HRd := Lib.hid (read_calls s hs w hg)
  have Hp := Lib.hid hp
  have HL := Lib.hid (Sp.lineS_nil hr)
  have HR := Lib.hid hr
  clear hp hr
  go_enter Tryd.func41, Tryd.ntmps41
  go_wp2_with fail
  refine HRd.out.mono ?_
  rintro e w1 ⟨hno, -, b1⟩
  obtain rfl := hno HR.out
  clear hno
  have hbn : Below w1.heap.size w1 (w1.alloc (.cells (evC 0 0 0 none 0 0) 29)) := (Below.refl _ _).alloc (Nat.le_refl _) _
  have b2 := step b1 hbn
  have p2 := Hp.out.below b2
  have hp2 := p2.cell 0 _ rfl
  have hpf := p2.frozen 0
  have Hb2 := Lib.hid b2
  have Hp2 := Lib.hid p2
  have hsz := b1.size
  clear b1 hbn b2 p2
  go_wp2_with fail
  go_ret
  exact LineRet.no HL.out (Hb2.out.mono (by omega))
set_option maxRecDepth 100000 in
theorem line_dead (P base : Nat) (hP : P < base) (i n c G : Nat) (init : List Sp.Stp) (st : Sp.Stp) (Ad : Option Addr) (nd cd : Nat) (Ao : Option Addr) (no co : Nat) (s : List UInt8) (hs : s.length ≤ 50000) (w : World) (hg : Gl w) (hp : Blk w P #[.slice (some ⟨G, 0, none⟩) n c] 86) (ho : OsL w base G n c init st Ad nd cd Ao no co) (hil : init.length = i) (hn : n ≤ 1000000) (hb : base ≤ w.heap.size) (hr : Sp.readS s = none) (hgn : st.gone = true) :
    Calls Tryd.prog 41 #[.pointer (some ⟨P, 0, none⟩), .string (Sp.bs s)] w fun e w' => LineRet P base (init ++ [st]) s w e w' := by
  have hz := Sp.bs_size s
  have huS := Tryd.underlying42
  have huE := Tryd.underlying29
  have HRd := Lib.hid (read_calls s hs w hg)
  have Hp := Lib.hid hp
  have hni : n = i + 1 := by rw [← hil]; exact ho.num
  subst hni
  have Ho := Lib.hid ho
  have Hil := Lib.hid hil
  have HL := Lib.hid (Sp.lineS_dead (a := init) hr hgn)
  have HR := Lib.hid hr
  clear hp ho hil hr
  go_enter Tryd.func41, Tryd.ntmps41
  go_wp2_with fail
  refine HRd.out.mono ?_
  rintro e w1 ⟨hno, -, b1⟩
  obtain rfl := hno HR.out
  clear hno
  have hbn : Below w1.heap.size w1 (w1.alloc (.cells (evC 0 0 0 none 0 0) 29)) := (Below.refl _ _).alloc (Nat.le_refl _) _
  have b2 := step b1 hbn
  have p2 := Hp.out.below b2
  have hp2 := p2.cell 0 _ rfl
  have hpf := p2.frozen 0
  have Hb2 := Lib.hid b2
  have Hp2 := Lib.hid p2
  have hsz := b1.size
  have ho2 := Ho.out.below b2
  have hcr := ho2.cell 5 _ rfl
  have hco := ho2.cell 4 _ rfl
  have hfr := ho2.frozen
  rw [Hil.out] at hcr hco
  have Ho2 := Lib.hid ho2
  have hGl := ho2.lt.2
  have hwl : IntKind.i64.wrap ((i : Int) + 1 - 1) = (i : Int) := by
    rw [show (i : Int) + 1 - 1 = (i : Int) by omega]; exact IntWalk.i64_in _ (by omega)
  have hwl2 : IntKind.i64.wrap (i : Int) = (i : Int) := IntWalk.i64_in _ (by omega)
  have c5 : (i : Int) < (i : Int) + 1 := by omega
  have c4 : (0 : Int) ≤ (i : Int) := by omega
  have c3 : ¬ (i : Int) < 0 := by omega
  clear hfr
  clear b1 hbn b2 p2 ho2
  rw [hgn] at hcr
  go_wp2_with fail
  go_ret
  exact LineRet.no HL.out (Hb2.out.mono (by omega))
set_option maxRecDepth 100000 in
theorem line_gone (P base : Nat) (hP : P < base) (i n c G : Nat) (init : List Sp.Stp) (st : Sp.Stp) (Ad : Option Addr) (nd cd : Nat) (Ao : Option Addr) (no co : Nat) (s : List UInt8) (hs : s.length ≤ 50000) (w : World) (hg : Gl w) (hp : Blk w P #[.slice (some ⟨G, 0, none⟩) n c] 86) (ho : OsL w base G n c init st Ad nd cd Ao no co) (hil : init.length = i) (hn : n ≤ 1000000) (hb : base ≤ w.heap.size) (hr : Sp.readS s = none) (hgn : st.gone = false) (hw : s = [103, 111, 110, 101]) :
    Calls Tryd.prog 41 #[.pointer (some ⟨P, 0, none⟩), .string (Sp.bs s)] w fun e w' => LineRet P base (init ++ [st]) s w e w' := by
  have hz := Sp.bs_size s
  have huS := Tryd.underlying42
  have huE := Tryd.underlying29
  have HRd := Lib.hid (read_calls s hs w hg)
  have Hp := Lib.hid hp
  have hni : n = i + 1 := by rw [← hil]; exact ho.num
  subst hni
  have Ho := Lib.hid ho
  have Hil := Lib.hid hil
  have HL := Lib.hid (Sp.lineS_gone (a := init) hr hgn hw)
  have p0 := str_eqc s [103, 111, 110, 101]
  rw [decide_eq_true hw] at p0
  clear hw
  have HR := Lib.hid hr
  clear hp ho hil hr
  go_enter Tryd.func41, Tryd.ntmps41
  go_wp2_with fail
  refine HRd.out.mono ?_
  rintro e w1 ⟨hno, -, b1⟩
  obtain rfl := hno HR.out
  clear hno
  have hbn : Below w1.heap.size w1 (w1.alloc (.cells (evC 0 0 0 none 0 0) 29)) := (Below.refl _ _).alloc (Nat.le_refl _) _
  have b2 := step b1 hbn
  have p2 := Hp.out.below b2
  have hp2 := p2.cell 0 _ rfl
  have hpf := p2.frozen 0
  have Hb2 := Lib.hid b2
  have Hp2 := Lib.hid p2
  have hsz := b1.size
  have ho2 := Ho.out.below b2
  have hcr := ho2.cell 5 _ rfl
  have hco := ho2.cell 4 _ rfl
  have hfr := ho2.frozen
  rw [Hil.out] at hcr hco
  have Ho2 := Lib.hid ho2
  have hGl := ho2.lt.2
  have hwl : IntKind.i64.wrap ((i : Int) + 1 - 1) = (i : Int) := by
    rw [show (i : Int) + 1 - 1 = (i : Int) by omega]; exact IntWalk.i64_in _ (by omega)
  have hwl2 : IntKind.i64.wrap (i : Int) = (i : Int) := IntWalk.i64_in _ (by omega)
  have c5 : (i : Int) < (i : Int) + 1 := by omega
  have c4 : (0 : Int) ≤ (i : Int) := by omega
  have c3 : ¬ (i : Int) < 0 := by omega
  clear b1 hbn b2 p2 ho2
  rw [hgn] at hcr
  have hf5 := hfr (i * 6 + 5)
  clear hfr
  go_wp2_with fail
  go_ret
  exact LineRet.yes HL.out (Hp2.out.other ⟨G, i * 6 + 5, none⟩ (by have := Ho2.out.lt.1; show G ≠ P; omega) _) (.inr ⟨init, _, G, Ad, nd, cd, Ao, no, co, rfl, rfl, by have := Ho2.out.crash; rw [Hil.out] at this; exact this⟩) ((Hb2.out.mono (by omega)).setCell (p := ⟨G, i * 6 + 5, none⟩) (by have := Ho2.out.lt.1; show P ≤ G; omega) _)
set_option maxRecDepth 100000 in
theorem line_none (P base : Nat) (hP : P < base) (i n c G : Nat) (init : List Sp.Stp) (st : Sp.Stp) (Ad : Option Addr) (nd cd : Nat) (Ao : Option Addr) (no co : Nat) (s : List UInt8) (hs : s.length ≤ 50000) (w : World) (hg : Gl w) (hp : Blk w P #[.slice (some ⟨G, 0, none⟩) n c] 86) (ho : OsL w base G n c init st Ad nd cd Ao no co) (hil : init.length = i) (hn : n ≤ 1000000) (hb : base ≤ w.heap.size) (hr : Sp.readS s = none) (hgn : st.gone = false) (hw : s ≠ [103, 111, 110, 101]) (ho' : Sp.outS s = none) :
    Calls Tryd.prog 41 #[.pointer (some ⟨P, 0, none⟩), .string (Sp.bs s)] w fun e w' => LineRet P base (init ++ [st]) s w e w' := by
  have hz := Sp.bs_size s
  have huS := Tryd.underlying42
  have huE := Tryd.underlying29
  have HRd := Lib.hid (read_calls s hs w hg)
  have Hp := Lib.hid hp
  have hni : n = i + 1 := by rw [← hil]; exact ho.num
  subst hni
  have Ho := Lib.hid ho
  have Hil := Lib.hid hil
  have p0 := str_eqc s [103, 111, 110, 101]
  rw [decide_eq_false hw] at p0
  have HO := Lib.hid ho'
  have HL := Lib.hid (show Sp.lineS (init ++ [st]) s = none by rw [Sp.lineS_out hr hgn hw, ho']; rfl)
  clear hw ho'
  have HR := Lib.hid hr
  clear hp ho hil hr
  go_enter Tryd.func41, Tryd.ntmps41
  go_wp2_with fail
  refine HRd.out.mono ?_
  rintro e w1 ⟨hno, -, b1⟩
  obtain rfl := hno HR.out
  clear hno
  have hbn : Below w1.heap.size w1 (w1.alloc (.cells (evC 0 0 0 none 0 0) 29)) := (Below.refl _ _).alloc (Nat.le_refl _) _
  have b2 := step b1 hbn
  have p2 := Hp.out.below b2
  have hp2 := p2.cell 0 _ rfl
  have hpf := p2.frozen 0
  have Hb2 := Lib.hid b2
  have Hp2 := Lib.hid p2
  have hsz := b1.size
  have ho2 := Ho.out.below b2
  have hcr := ho2.cell 5 _ rfl
  have hco := ho2.cell 4 _ rfl
  have hfr := ho2.frozen
  rw [Hil.out] at hcr hco
  have Ho2 := Lib.hid ho2
  have hGl := ho2.lt.2
  have hwl : IntKind.i64.wrap ((i : Int) + 1 - 1) = (i : Int) := by
    rw [show (i : Int) + 1 - 1 = (i : Int) by omega]; exact IntWalk.i64_in _ (by omega)
  have hwl2 : IntKind.i64.wrap (i : Int) = (i : Int) := IntWalk.i64_in _ (by omega)
  have c5 : (i : Int) < (i : Int) + 1 := by omega
  have c4 : (0 : Int) ≤ (i : Int) := by omega
  have c3 : ¬ (i : Int) < 0 := by omega
  clear hfr
  have HOu := Lib.hid (output_calls s hs _ (hg.below b2).ml)
  clear b1 hbn b2 p2 ho2
  rw [hgn] at hcr
  go_wp2_with fail
  refine HOu.out.mono ?_
  rintro e w3 ⟨bk, A3, n3, c3, rfl, -, b3⟩
  rw [show (Sp.outS s).isSome = false by rw [HO.out]; rfl]
  have Hb3 := Lib.hid (step Hb2.out b3)
  clear b3
  go_wp2_with fail
  go_ret
  exact LineRet.no HL.out ((Hb3.out.mono (by omega)).alloc (by have := Hb3.out.size; omega) _)
end Tr
end Go.Proofs.YtpchfmeaplhodaaDoor
