/-
  A part of the proof of this seat's laws: a line of steps' text, the program's: no event.
-/
import Derived.Test.YtpchfmeaplhodaaDoorTr16
namespace Go.Proofs.YtpchfmeaplhodaaDoor
set_option linter.unusedVariables false
set_option linter.unusedSimpArgs false
open Go.RowKit Go.Shelf
namespace Tr
open Ap Sg
set_option maxHeartbeats 2000000
set_option maxRecDepth 100000 in
theorem line_some (P base : Nat) (hP : P < base) (i n c G : Nat) (init : List Sp.Stp) (st : Sp.Stp) (Ad : Option Addr) (nd cd : Nat) (Ao : Option Addr) (no co : Nat) (s : List UInt8) (hs : s.length ≤ 50000) (w : World) (hg : Gl w) (hp : Blk w P #[.slice (some ⟨G, 0, none⟩) n c] 86) (ho : OsL w base G n c init st Ad nd cd Ao no co) (hil : init.length = i) (hn : n ≤ 1000000) (hb : base ≤ w.heap.size) (hr : Sp.readS s = none) (hgn : st.gone = false) (hw : s ≠ [103, 111, 110, 101]) (o : Sp.Out) (ho' : Sp.outS s = some o) (hno : no ≤ 1000000) :
    Calls Tryd.prog 41 #[.pointer (some ⟨P, 0, none⟩), .string (Sp.bs s)] w fun e w' => LineRet P base (init ++ [st]) s w e w' := by
  have hz := Sp.bs_size s
  have huS := Tryd.underlying42
  have huE := Tryd.underlying29
  have HRd := Lib.hid (read_calls s hs w hg)
  have Hp := Lib.hid hp
  have hni : n = i + 1 := by rw [← hil]; exact ho.num
  subst hni
  have Ho := Lib.hid ho
  have Hil := Lib.hid hil
  have p0 := str_eqc s [103, 111, 110, 101]
  rw [decide_eq_false hw] at p0
  have HO := Lib.hid ho'
  have HL := Lib.hid (show Sp.lineS (init ++ [st]) s = some (init ++ [⟨st.ev, st.outs ++ [o], false⟩]) by rw [Sp.lineS_out hr hgn hw, ho']; rfl)
  obtain ⟨i0, hi, hz0, hz1, hz2⟩ := info_parts infoOu
  clear hw ho'
  have HR := Lib.hid hr
  clear hp ho hil hr
  go_enter Tryd.func41, Tryd.ntmps41
  go_wp2_with fail
  refine HRd.out.mono ?_
  rintro e w1 ⟨hno, -, b1⟩
  obtain rfl := hno HR.out
  clear hno
  have hbn : Below w1.heap.size w1 (w1.alloc (.cells (evC 0 0 0 none 0 0) 29)) := (Below.refl _ _).alloc (Nat.le_refl _) _
  have b2 := step b1 hbn
  have p2 := Hp.out.below b2
  have hp2 := p2.cell 0 _ rfl
  have hpf := p2.frozen 0
  have Hb2 := Lib.hid b2
  have Hp2 := Lib.hid p2
  have hsz := b1.size
  have ho2 := Ho.out.below b2
  have hcr := ho2.cell 5 _ rfl
  have hco := ho2.cell 4 _ rfl
  have hfr := ho2.frozen
  rw [Hil.out] at hcr hco
  have Ho2 := Lib.hid ho2
  have hGl := ho2.lt.2
  have hwl : IntKind.i64.wrap ((i : Int) + 1 - 1) = (i : Int) := by
    rw [show (i : Int) + 1 - 1 = (i : Int) by omega]; exact IntWalk.i64_in _ (by omega)
  have hwl2 : IntKind.i64.wrap (i : Int) = (i : Int) := IntWalk.i64_in _ (by omega)
  have c5 : (i : Int) < (i : Int) + 1 := by omega
  have c4 : (0 : Int) ≤ (i : Int) := by omega
  have c3 : ¬ (i : Int) < 0 := by omega
  clear hfr
  have HOu := Lib.hid (output_calls s hs _ (hg.below b2).ml)
  clear b1 hbn b2 p2 ho2
  rw [hgn] at hcr
  go_wp2_with fail
  refine HOu.out.mono ?_
  rintro e w3 ⟨bk, A3, n3, c3, rfl, hyes, b3⟩
  rw [show (Sp.outS s).isSome = true by rw [HO.out]; rfl]
  obtain ⟨rfl, hd, hfr3⟩ := hyes o HO.out
  clear hyes
  have hG0 := Ho2.out.lt
  have hR0 := Ho2.out.ownlt
  go_wp2_with fail
  have hbn3 : Below w3.heap.size w3 (w3.alloc (.cells (ouC o.back A3 n3 c3) 56)) := (Below.refl _ _).alloc (Nat.le_refl _) _
  have e4 := Blk.new w3 (ouC o.back A3 n3 c3) 56
  have b4 := step b3 hbn3
  have p4 := Hp2.out.below b4
  have o4 := Ho2.out.below b4
  have hdk : Bk w3 (fun b => base ≤ b ∧ b ≠ G ∧ (Value.slice Ao no co).ownBlock ≠ some b) A3 n3 c3 o.data := Bk.new hd hfr3 (fun g hge => ⟨by omega, by omega, fun e => by have := (hR0 g e).2; omega⟩)
  have hdk4 := hdk.keep (Kp.of hbn3)
  have hB4 := step Hb2.out b4
  have hs4 : (w3.alloc (.cells (ouC o.back A3 n3 c3) 56)).heap.size = w3.heap.size + 1 := World.size_alloc _ _
  have hw3 := b3.size
  clear hcr hco hp2 hpf hwl
  generalize (w3.alloc (.cells (ouC o.back A3 n3 c3) 56)) = W4 at *
  generalize w3.heap.size = H3 at *
  have hp4 := p4.cell 0 _ rfl
  have hpf4 := p4.frozen 0
  have hc4 := e4.cells2
  have hco := o4.cell 4 _ rfl
  rw [Hil.out] at hco
  have hGlt := o4.lt
  have hRlt := o4.ownlt
  obtain ⟨us, hrow, hul, hput⟩ := o4.out
  have hbl : Below W4.heap.size W4 (W4.alloc (.cells ([.bool o.back, .slice A3 n3 c3]).toArray 56)).drew := ((Below.refl _ _).alloc (Nat.le_refl _) _).drew
  have Hrow : Hid (∀ o', ((W4.alloc o').drew).ownsRow base 56 2 (.slice Ao no co) no us) := fun o' => hrow.alloc o'
  have Hnews := Lib.hid (step_cells W4 ([.bool o.back, .slice A3 n3 c3]) 56 W4.heap.size rfl)
  have Hone := Lib.hid (ouV_one o A3 n3 c3)
  have hP5 : ∀ w5 r cap, (W4.alloc (.cells ([.bool o.back, .slice A3 n3 c3]).toArray 56)).drew.grownBy w5 (Value.slice Ao no co).ownBlock →
      w5.ownsRow base 56 2 (.slice (some ⟨r, 0, none⟩) (no + 1) cap) (no + 1) (us ++ [.bool o.back, .slice A3 n3 c3]) → ((Value.slice Ao no co).ownBlock = some r ∨ r = (W4.alloc (.cells ([.bool o.back, .slice A3 n3 c3]).toArray 56)).drew.heap.size) →
      Blk w5 P #[.slice (some ⟨G, 0, none⟩) (i + 1) c] 86 ∧ (w5.frozen? ⟨G, i * 6 + 4, none⟩ = false ∧ w5.cell? ⟨G, i * 6 + 4, none⟩ = some (.slice Ao no co) ∧ Os (w5.setCell ⟨G, i * 6 + 4, none⟩ (.slice (some ⟨r, 0, none⟩) (no + 1) cap)) base (some ⟨G, 0, none⟩) (i + 1) c (init ++ [⟨st.ev, st.outs ++ [o], false⟩])) ∧ Below P w w5 := fun w5 r cap hg5 hr5 hat => by
    have hpb := p4.below hbl
    have hx := hput _ _ r cap o A3 n3 c3 hbl hdk4 hg5 hr5 hat
    rw [Hil.out, hgn] at hx
    refine ⟨(hg5.block P hpb.lt (fun e => ?_)).trans hpb, ⟨hx.1 _, hx.2.1, .inr ⟨init, _, G, Ad, nd, cd, _, _, _, rfl, rfl, hx.2.2⟩⟩, (hB4.mono (by omega)).trans ((hbl.mono (by omega)).trans ((Below.refl P _).grown hg5 (by have := hbl.size; omega) (fun k hk => ?_)))⟩
    · have := (hRlt P e.symm).1
      omega
    · have := (hRlt k hk).1
      omega
  have HP5 := Lib.hid hP5
  have hsz4 : base ≤ W4.heap.size := by omega
  have hPlt : P < W4.heap.size := by omega
  have hHlt : H3 < W4.heap.size := by omega
  have hGlt2 : G < W4.heap.size := hGlt.2
  have hwl : IntKind.i64.wrap ((i : Int) + 1 - 1) = (i : Int) := by
    rw [show (i : Int) + 1 - 1 = (i : Int) by omega]; exact IntWalk.i64_in _ (by omega)
  clear hd hfr3 b3 hbn3 e4 b4 p4 o4 hdk hdk4 hB4 hs4 hw3 hG0 hR0 hGlt hRlt hrow hul hput hbl hP5 hGl hsz
  go_region_law (refine step_append_lies _ rfl (.tmp 73) (.tmp 75) 40 rfl base 56 i0 _ 2 32 Tryd.underlying40 hi hz0 hz1 hz2 rfl (by decide) (.slice Ao no co) no us (by simp [Act.eval, Act.put]) (Hrow.out _) ⟨W4.heap.size, 0, none⟩ 1 1 ([.bool o.back, .slice A3 n3 c3]) (by simp [Act.eval, Act.put]) rfl Hnews.out Hone.out (by decide) (by simp only [maxLen]; omega) (by omega) (by show base ≤ (W4.alloc _).heap.size; rw [World.size_alloc]; omega) _ rfl ?_; intro g cap w5 hr5 hg5 hat hlt5; have hx5 := HP5.out w5 g cap hg5 hr5 hat; have hq5 := hx5.1.cell 0 _ rfl; have hqf5 := hx5.2.1.1; have hqc5 := hx5.2.1.2.1; have HX5 := Lib.hid hx5; clear hr5 hg5 hat hx5)
  all_goals
    go_wp2_with fail
    go_ret
    exact LineRet.yes HL.out (HX5.out.1.other ⟨G, i * 6 + 4, none⟩ (by have := Ho.out.lt.1; show G ≠ P; omega) _) HX5.out.2.1.2.2 (HX5.out.2.2.setCell (p := ⟨G, i * 6 + 4, none⟩) (by have := Ho.out.lt.1; show P ≤ G; omega) _)
/-- a line, the program's -/
theorem line_calls (P base : Nat) (hP : P < base) (A : Option Addr) (n c : Nat) (l : List Sp.Stp) (s : List UInt8) (hs : s.length ≤ 50000) (w : World) (hg : Gl w) (hp : Blk w P #[.slice A n c] 86) (ho : Os w base A n c l) (hb : base ≤ w.heap.size) (hn : n ≤ 1000000) (hbig : ∀ st ∈ l, st.outs.length ≤ 1000000) :
    Calls Tryd.prog 41 #[.pointer (some ⟨P, 0, none⟩), .string (Sp.bs s)] w fun e w' => LineRet P base l s w e w' := by
  cases hr : Sp.readS s with
  | some ev => exact line_event P base hP A n c l s hs w hg hp ho hb hn ev hr
  | none =>
    rcases ho with ⟨rfl, rfl, rfl, rfl⟩ | ⟨init, st, G, Ad, nd, cd, Ao, no, co, rfl, rfl, ho⟩
    · exact line_nil P base hP s hs w hg hp hb hr
    · cases hgn : st.gone with
      | true => exact line_dead P base hP _ n c G init st Ad nd cd Ao no co s hs w hg hp ho rfl hn hb hr hgn
      | false =>
        by_cases hw : s = [103, 111, 110, 101]
        · exact line_gone P base hP _ n c G init st Ad nd cd Ao no co s hs w hg hp ho rfl hn hb hr hgn hw
        · cases ho' : Sp.outS s with
          | none => exact line_none P base hP _ n c G init st Ad nd cd Ao no co s hs w hg hp ho rfl hn hb hr hgn hw ho'
          | some o =>
            have hno : no ≤ 1000000 := by
              have h1 := hbig st (by simp)
              obtain ⟨us, h2, h3⟩ := ho.outs
              have h4 := h2.1
              have h5 := h3.len
              omega
            exact line_some P base hP _ n c G init st Ad nd cd Ao no co s hs w hg hp ho rfl hn hb hr hgn hw o ho' hno
end Tr
end Go.Proofs.YtpchfmeaplhodaaDoor
