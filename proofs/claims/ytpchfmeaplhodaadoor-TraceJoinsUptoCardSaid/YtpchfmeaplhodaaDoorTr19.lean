/-
  A part of the proof of this seat's laws: the steps of a text, the reference's.
-/
import Derived.Test.YtpchfmeaplhodaaDoorTr14
import Derived.Test.YtpchfmeaplhodaaDoorTr18
import Derived.Test.YtpchfmeaplhodaaDoorRrM
namespace Go.Proofs.YtpchfmeaplhodaaDoor
set_option linter.unusedVariables false
set_option linter.unusedSimpArgs false
open Go.RowKit Go.Shelf
namespace Tr
open Ap Sg
set_option maxHeartbeats 4000000
/-- the state of the reference's Parse -/
structure Rst (w wr : World) (B : Nat) (L : List (List UInt8)) (g k : Nat) (l : List Sp.Stp) (A : Option Addr) (n c : Nat) : Prop where
  run : Sp.runS 0 [] (L.take k) = .ok l
  few : l.length ≤ k
  outs : ∀ st ∈ l, st.outs.length ≤ k
  os : Os wr B A n c l
  wd : Wd wr g 0 L
  low : Below w.heap.size w wr
  gB : g < B
  wB : w.heap.size ≤ B
  sB : B ≤ wr.heap.size
theorem take_mid {α : Type} {L : List α} {k : Nat} {x : α} (h : L[k]? = some x) : L = L.take k ++ x :: L.drop (k + 1) := by
  have hlt := (List.getElem?_eq_some_iff.1 h).1
  have e := (List.getElem?_eq_some_iff.1 h).2
  rw [← e, ← List.drop_eq_getElem_cons hlt, List.take_append_drop]
/-- a line that is wrong -/
theorem Rst.bad {w wr : World} {s : List UInt8} {B : Nat} {L : List (List UInt8)} {g k m : Nat} {l : List Sp.Stp} {A : Option Addr} {n c : Nat} (h : Rst w wr B L g k l A n c) (hL : Sp.cutL 10 s = L) (hm : L.length = m + 1) (hk : k < m) {x : List UInt8} (hx : L[k]? = some x) (hn : Sp.lineS l x = none) : Sp.parseS s = .error k := by
  have hd : L.drop (k + 1) ≠ [] := by
    intro e
    have := congrArg List.length e
    rw [List.length_drop, List.length_nil] at this
    omega
  have h1 := Sp.parse_bad (s := s) (done := L.take k) (by rw [hL]; exact take_mid hx) hd h.run hn
  rw [List.length_take, Nat.min_eq_left (by omega)] at h1
  exact h1
/-- a line that is right -/
theorem Rst.next {w wr wr' : World} {B : Nat} {L : List (List UInt8)} {g k : Nat} {l l' : List Sp.Stp} {A A' : Option Addr} {n c n' c' : Nat} (h : Rst w wr B L g k l A n c) {x : List UInt8} (hx : L[k]? = some x) (hn : Sp.lineS l x = some l') (ho : Os wr' B A' n' c' l') (hb : Below B wr wr') : Rst w wr' B L g (k + 1) l' A' n' c' := by
  have hb2 := Sp.lineS_big hn h.few h.outs
  exact ⟨by rw [Sp.take_snoc hx]; exact Sp.runS_one h.run hn, hb2.1, hb2.2, ho, ⟨Nat.lt_of_lt_of_le h.wd.lt hb.size, fun j y hj => (hb.cell (p := ⟨g, 0 + j, none⟩) h.gB).trans (h.wd.at_ j y hj)⟩, h.low.trans (hb.mono h.wB), h.gB, h.wB, Nat.le_trans h.sB hb.size⟩
theorem readS_of_out {x : List UInt8} {ev : Sp.Evt} (h : Sp.readS x = some ev) : Sp.outS x = none := by
  cases ho : Sp.outS x with
  | none => rfl
  | some o => rw [Sp.readS_out ho] at h; cases h
theorem not_gone {x : List UInt8} {ev : Sp.Evt} (h : Sp.readS x = some ev) : x ≠ [103, 111, 110, 101] := by
  rintro rfl
  rw [Sp.readS_gone] at h; cases h
set_option maxRecDepth 100000 in
theorem rparse_calls (s : List UInt8) (hs : s.length ≤ 50000) (w : World) :
    Calls Tryd.prog 24 #[.string (Sp.bs s)] w fun e w' => ParseRet w s e w' := by
  have hz := Sp.bs_size s
  have huS := Tryd.underlying42
  have huE := Tryd.underlying29
  have huO := Tryd.underlying56
  obtain ⟨L, hL⟩ : ∃ L, Sp.cutL 10 s = L := ⟨_, rfl⟩
  obtain ⟨m, hm⟩ : ∃ m, L.length = m + 1 := ⟨L.length - 1, by have := Sp.cutL_pos 10 s; rw [hL] at this; omega⟩
  have hms : m ≤ s.length := by
    have h1 := Sp.cutL_length 10 s
    have h2 := List.count_le_length (a := (10 : UInt8)) (l := s)
    rw [hL, hm] at h1
    omega
  have hcut := refCut_calls s 10 (by omega) w
  rw [hL, hm] at hcut
  have HCut := Lib.hid hcut
  have HL := Lib.hid hL
  have Hm := Lib.hid hm
  have Hx : Hid (∀ x ∈ L, x.length ≤ 50000) := Lib.hid (fun x hx => Nat.le_trans (Sp.cutL_le 10 s x (by rw [hL]; exact hx)) hs)
  obtain ⟨i0, hi, hz0, hz1, hz2⟩ := info_parts infoSt
  obtain ⟨j0, hj, hy0, hy1, hy2⟩ := info_parts infoOu
  clear hcut hL hm
  go_enter Tryd.func24, Tryd.ntmps24
  go_wp2_with fail
  refine HCut.out.mono ?_
  rintro e w1 ⟨A0, C, rfl, hmine, b1⟩
  obtain ⟨g, rfl, hg0, hwd⟩ := mine_words hmine (by omega)
  have hmC := hmine.cap
  have HR0 : Hid (Rst w w1 w1.heap.size L g 0 [] none 0 0) := ⟨rfl, Nat.le_refl _, (fun st h => by cases h), Os.nil _ _, hwd, b1, hwd.lt, b1.size, Nat.le_refl _⟩
  have Hg0 := Lib.hid hg0
  clear hmine hwd b1
  go_wp2_with fail
  obtain ⟨B, hB⟩ : ∃ B, w1.heap.size = B := ⟨_, rfl⟩
  rw [hB] at HR0
  clear hB
  go_loopw [6, 7] (fun ov iv wr => ∃ (k : Nat) (l : List Sp.Stp) (A : Option Addr) (n c : Nat), ov = .slice A n c ∧ iv = .int .i64 (k : Int) ∧ k ≤ m ∧ Hid (Rst w wr B L g k l A n c)) (fun _ iv _ => m - (intOf iv).toNat)
  case atStart => exact ⟨0, [], none, 0, 0, rfl, rfl, by omega, HR0⟩
  case round =>
    obtain ⟨k, l, A, n, c, rfl, rfl, hkm, hst⟩ := hrel
    clear HR0
    have hwl : IntKind.i64.wrap ((m : Int) + 1 - 1) = (m : Int) := by
      rw [show (m : Int) + 1 - 1 = (m : Int) by omega]; exact IntWalk.i64_in _ (by omega)
    have hwm : IntKind.i64.wrap (m : Int) = (m : Int) := IntWalk.i64_in _ (by omega)
    have hw1 : IntKind.i64.wrap ((k : Int) + 1) = (k : Int) + 1 := IntWalk.i64_in _ (by omega)
    have c0 : (0 : Int) ≤ (k : Int) := by omega
    have cm0 : (0 : Int) ≤ (m : Int) := by omega
    have cm1 : (m : Int) < (m : Int) + 1 := by omega
    obtain ⟨x, hxk⟩ : ∃ x, L[k]? = some x := ⟨_, List.getElem?_eq_getElem (by have := Hm.out; omega)⟩
    have hxz := Sp.bs_size x
    have hxc : wr.cell? ⟨g, k, none⟩ = some (.string (Sp.bs x)) := by have := hst.out.wd.at_ k x hxk; rwa [Nat.zero_add] at this
    have hgw := hst.out.wd.lt
    by_cases hlt : k < m
    · have c1 : (k : Int) < (m : Int) := by omega
      have c2 : (k : Int) < (m : Int) + 1 := by omega
      have hxl := Hx.out x (List.mem_of_getElem? hxk)
      have HOu := Lib.hid (fun W => routput_calls x hxl W)
      have HRe := Lib.hid (fun W => rread_calls x hxl W)
      have Hxk := Lib.hid hxk
      have p0 := str_eqc x [103, 111, 110, 101]
      have hn6 : n ≤ 1000000 := by have := hst.out.few; have := hst.out.os.len; omega
      have hos := hst.out.os
      clear hxz
      cases hr : Sp.readS x with
      | some ev =>
        have HR := Lib.hid hr
        have HO := Lib.hid (readS_of_out hr)
        have HLi := Lib.hid (Sp.lineS_read (l := l) hr)
        rw [decide_eq_false (not_gone hr)] at p0
        rcases hos with ⟨rfl, rfl, rfl, rfl⟩ | ⟨init, st, G, Ad0, nd0, cd0, Ao, no, co, rfl, rfl, hol⟩
        · clear hr hxk
          go_wp2_with fail
          refine (HOu.out _).mono ?_
          rintro e w3 ⟨bk, A3, n3, c3, rfl, hyo, b3⟩
          rw [show (Sp.outS x).isSome = false by rw [HO.out]; rfl]
          have hb4 : Below w3.heap.size w3 (w3.alloc (.cells (ouC bk A3 n3 c3) 56)) := (Below.refl _ _).alloc (Nat.le_refl _) _
          have hx4 : (w3.alloc (.cells (ouC bk A3 n3 c3) 56)).cell? ⟨g, k, none⟩ = some (.string (Sp.bs x)) := by have := ((hst.out.wd.below b3).below hb4).at_ k x Hxk.out; rwa [Nat.zero_add] at this
          have B4 := Lib.hid (step b3 hb4)
          have O4 := Lib.hid (Blk.new w3 (ouC bk A3 n3 c3) 56)
          have S3 := Lib.hid b3.size
          clear hyo b3 hb4
          go_wp2_with fail
          refine (HRe.out _).mono ?_
          rintro e w5 ⟨hrn, hry, b5⟩
          obtain ⟨Ad, nd, cd, rfl, hd, hfd⟩ := hry ev HR.out
          have hb6 : Below w5.heap.size w5 (w5.alloc (.cells (evC ev.kind ev.n ev.keep Ad nd cd) 29)) := (Below.refl _ _).alloc (Nat.le_refl _) _
          have b56 := step b5 hb6
          have b6 := step B4.out b56
          have hx6 : (w5.alloc (.cells (evC ev.kind ev.n ev.keep Ad nd cd) 29)).cell? ⟨g, k, none⟩ = some (.string (Sp.bs x)) := by have := (hst.out.wd.below b6).at_ k x Hxk.out; rwa [Nat.zero_add] at this
          have hg6 : g < (w5.alloc (.cells (evC ev.kind ev.n ev.keep Ad nd cd) 29)).heap.size := (hst.out.wd.below b6).lt
          have hsB := hst.out.sB
          have hdk : Bk w5 (fun b => B ≤ b ∧ (Value.slice none 0 0).ownBlock ≠ some b) Ad nd cd ev.data := Bk.new hd hfd (fun q hge => by
            have h2 : wr.heap.size ≤ q := Nat.le_trans B4.out.size hge
            exact ⟨by omega, fun e => by have := (hst.out.os.own q e).2; omega⟩)
          have hdk6 := hdk.keep (Kp.of hb6)
          have ho6 := hst.out.os.below b6
          have hown6 := ho6.own
          obtain ⟨xs, hrow, hpush⟩ := ho6.push
          have hs6 := b6.size
          have Hrow : Hid (∀ o', ((w5.alloc (.cells (evC ev.kind ev.n ev.keep Ad nd cd) 29)).alloc o').ownsRow B 42 6 (.slice none 0 0) (0) xs) := fun o' => hrow.alloc o'
          have hbl : Below (w5.alloc (.cells (evC ev.kind ev.n ev.keep Ad nd cd) 29)).heap.size (w5.alloc (.cells (evC ev.kind ev.n ev.keep Ad nd cd) 29)) ((w5.alloc (.cells (evC ev.kind ev.n ev.keep Ad nd cd) 29)).alloc (.cells (stV ⟨ev, [], false⟩ Ad nd cd none 0 0).toArray 42)) := (Below.refl _ _).alloc (Nat.le_refl _) _
          have Hnews := Lib.hid (step_cells (w5.alloc (.cells (evC ev.kind ev.n ev.keep Ad nd cd) 29)) (stV ⟨ev, [], false⟩ Ad nd cd none 0 0) 42 (w5.heap.size + 1) (World.size_alloc _ _))
          have Hone := Lib.hid (stV_one ⟨ev, [], false⟩ Ad nd cd none 0 0)
          have hP7 : ∀ w7 q cap, ((w5.alloc (.cells (evC ev.kind ev.n ev.keep Ad nd cd) 29)).alloc (.cells (stV ⟨ev, [], false⟩ Ad nd cd none 0 0).toArray 42)).grownBy w7 (Value.slice none 0 0).ownBlock →
              w7.ownsRow B 42 6 (.slice (some ⟨q, 0, none⟩) (0 + 1) cap) (0 + 1) (xs ++ stV ⟨ev, [], false⟩ Ad nd cd none 0 0) → ((Value.slice none 0 0).ownBlock = some q ∨ q = ((w5.alloc (.cells (evC ev.kind ev.n ev.keep Ad nd cd) 29)).alloc (.cells (stV ⟨ev, [], false⟩ Ad nd cd none 0 0).toArray 42)).heap.size) →
              Rst w w7 B L g (k + 1) ([] ++ [⟨ev, [], false⟩]) (some ⟨q, 0, none⟩) (0 + 1) cap := fun w7 q cap hg7 hr7 hat =>
            Rst.next hst.out Hxk.out HLi.out (hpush _ _ q cap ev Ad nd cd hbl hdk6 hg7 hr7 hat) ((b6.mono hsB).trans ((hbl.mono (by omega)).trans ((Below.refl B _).grown hg7 (by have := hbl.size; omega) (fun q' hq' => (hown6 q' hq').1))))
          have HP7 := Lib.hid hP7
          have hBs : B ≤ (w5.alloc (.cells (evC ev.kind ev.n ev.keep Ad nd cd) 29)).heap.size := by omega
          clear hrn hry hd hfd b5 hb6 b56 b6 hdk hdk6 ho6 hown6 hrow hpush hbl hP7 hs6
          go_wp2_with (at_builtin; go_loud (refine wpList_append_lies _ rfl (.tmp 86) (.tmp 89) 43 rfl B 42 i0 _ 6 80 Tryd.underlying43 hi hz0 hz1 hz2 rfl (by decide) (.slice none 0 0) (0) xs rfl (Hrow.out _) ⟨w5.heap.size + 1, 0, none⟩ 1 1 (stV ⟨ev, [], false⟩ Ad nd cd none 0 0) rfl rfl Hnews.out Hone.out (by decide) ?b1n ?b2n ?hbn _ rfl ?_); (case b1n => (simp only [maxLen]; omega)); (case b2n => omega); (case hbn => (show B ≤ ((w5.alloc (.cells (evC ev.kind ev.n ev.keep Ad nd cd) 29)).alloc _).heap.size; rw [World.size_alloc]; omega)); intro q cap w7 hr7 hg7 hat hlt7; have HX7 := Lib.hid (HP7.out w7 q cap hg7 hr7 hat); clear hr7 hg7 hat)
          go_roundw
          case rel => exact ⟨k + 1, _, _, _, _, rfl, by go_num, by omega, HX7⟩
          case measure => simp [intOf]; omega
        · obtain ⟨i, hil⟩ : ∃ i, init.length = i := ⟨_, rfl⟩
          have hni : n = i + 1 := by rw [← hil]; exact hol.num
          subst hni
          have hcr := hol.cell 5 _ rfl
          rw [hil] at hcr
          have Hil := Lib.hid hil
          have Hol := Lib.hid hol
          have hGl := hol.lt.2
          have hwi : IntKind.i64.wrap ((i : Int) + 1 - 1) = (i : Int) := by
            rw [show (i : Int) + 1 - 1 = (i : Int) by omega]; exact IntWalk.i64_in _ (by omega)
          have hwi2 : IntKind.i64.wrap (i : Int) = (i : Int) := IntWalk.i64_in _ (by omega)
          have d5 : (i : Int) < (i : Int) + 1 := by omega
          have d4 : (0 : Int) ≤ (i : Int) := by omega
          clear hr hxk hol hil
          go_wp2_with fail
          refine (HOu.out _).mono ?_
          rintro e w3 ⟨bk, A3, n3, c3, rfl, hyo, b3⟩
          rw [show (Sp.outS x).isSome = false by rw [HO.out]; rfl]
          have hb4 : Below w3.heap.size w3 (w3.alloc (.cells (ouC bk A3 n3 c3) 56)) := (Below.refl _ _).alloc (Nat.le_refl _) _
          have hx4 : (w3.alloc (.cells (ouC bk A3 n3 c3) 56)).cell? ⟨g, k, none⟩ = some (.string (Sp.bs x)) := by have := ((hst.out.wd.below b3).below hb4).at_ k x Hxk.out; rwa [Nat.zero_add] at this
          have B4 := Lib.hid (step b3 hb4)
          have O4 := Lib.hid (Blk.new w3 (ouC bk A3 n3 c3) 56)
          have S3 := Lib.hid b3.size
          clear hyo b3 hb4
          go_wp2_with fail
          refine (HRe.out _).mono ?_
          rintro e w5 ⟨hrn, hry, b5⟩
          obtain ⟨Ad, nd, cd, rfl, hd, hfd⟩ := hry ev HR.out
          have hb6 : Below w5.heap.size w5 (w5.alloc (.cells (evC ev.kind ev.n ev.keep Ad nd cd) 29)) := (Below.refl _ _).alloc (Nat.le_refl _) _
          have b56 := step b5 hb6
          have b6 := step B4.out b56
          have hx6 : (w5.alloc (.cells (evC ev.kind ev.n ev.keep Ad nd cd) 29)).cell? ⟨g, k, none⟩ = some (.string (Sp.bs x)) := by have := (hst.out.wd.below b6).at_ k x Hxk.out; rwa [Nat.zero_add] at this
          have hg6 : g < (w5.alloc (.cells (evC ev.kind ev.n ev.keep Ad nd cd) 29)).heap.size := (hst.out.wd.below b6).lt
          have hsB := hst.out.sB
          have hdk : Bk w5 (fun b => B ≤ b ∧ (Value.slice (some ⟨G, 0, none⟩) (i + 1) c).ownBlock ≠ some b) Ad nd cd ev.data := Bk.new hd hfd (fun q hge => by
            have h2 : wr.heap.size ≤ q := Nat.le_trans B4.out.size hge
            exact ⟨by omega, fun e => by have := (hst.out.os.own q e).2; omega⟩)
          have hdk6 := hdk.keep (Kp.of hb6)
          have ho6 := hst.out.os.below b6
          have hown6 := ho6.own
          obtain ⟨xs, hrow, hpush⟩ := ho6.push
          have hs6 := b6.size
          have Hrow : Hid (∀ o', ((w5.alloc (.cells (evC ev.kind ev.n ev.keep Ad nd cd) 29)).alloc o').ownsRow B 42 6 (.slice (some ⟨G, 0, none⟩) (i + 1) c) ((i + 1)) xs) := fun o' => hrow.alloc o'
          have hbl : Below (w5.alloc (.cells (evC ev.kind ev.n ev.keep Ad nd cd) 29)).heap.size (w5.alloc (.cells (evC ev.kind ev.n ev.keep Ad nd cd) 29)) ((w5.alloc (.cells (evC ev.kind ev.n ev.keep Ad nd cd) 29)).alloc (.cells (stV ⟨ev, [], false⟩ Ad nd cd none 0 0).toArray 42)) := (Below.refl _ _).alloc (Nat.le_refl _) _
          have Hnews := Lib.hid (step_cells (w5.alloc (.cells (evC ev.kind ev.n ev.keep Ad nd cd) 29)) (stV ⟨ev, [], false⟩ Ad nd cd none 0 0) 42 (w5.heap.size + 1) (World.size_alloc _ _))
          have Hone := Lib.hid (stV_one ⟨ev, [], false⟩ Ad nd cd none 0 0)
          have hP7 : ∀ w7 q cap, ((w5.alloc (.cells (evC ev.kind ev.n ev.keep Ad nd cd) 29)).alloc (.cells (stV ⟨ev, [], false⟩ Ad nd cd none 0 0).toArray 42)).grownBy w7 (Value.slice (some ⟨G, 0, none⟩) (i + 1) c).ownBlock →
              w7.ownsRow B 42 6 (.slice (some ⟨q, 0, none⟩) ((i + 1) + 1) cap) ((i + 1) + 1) (xs ++ stV ⟨ev, [], false⟩ Ad nd cd none 0 0) → ((Value.slice (some ⟨G, 0, none⟩) (i + 1) c).ownBlock = some q ∨ q = ((w5.alloc (.cells (evC ev.kind ev.n ev.keep Ad nd cd) 29)).alloc (.cells (stV ⟨ev, [], false⟩ Ad nd cd none 0 0).toArray 42)).heap.size) →
              Rst w w7 B L g (k + 1) ((init ++ [st]) ++ [⟨ev, [], false⟩]) (some ⟨q, 0, none⟩) ((i + 1) + 1) cap := fun w7 q cap hg7 hr7 hat =>
            Rst.next hst.out Hxk.out HLi.out (hpush _ _ q cap ev Ad nd cd hbl hdk6 hg7 hr7 hat) ((b6.mono hsB).trans ((hbl.mono (by omega)).trans ((Below.refl B _).grown hg7 (by have := hbl.size; omega) (fun q' hq' => (hown6 q' hq').1))))
          have HP7 := Lib.hid hP7
          have hBs : B ≤ (w5.alloc (.cells (evC ev.kind ev.n ev.keep Ad nd cd) 29)).heap.size := by omega
          clear hrn hry hd hfd b5 hb6 b56 b6 hdk hdk6 ho6 hown6 hrow hpush hbl hP7 hs6
          go_wp2_with (at_builtin; go_loud (refine wpList_append_lies _ rfl (.tmp 86) (.tmp 89) 43 rfl B 42 i0 _ 6 80 Tryd.underlying43 hi hz0 hz1 hz2 rfl (by decide) (.slice (some ⟨G, 0, none⟩) (i + 1) c) ((i + 1)) xs rfl (Hrow.out _) ⟨w5.heap.size + 1, 0, none⟩ 1 1 (stV ⟨ev, [], false⟩ Ad nd cd none 0 0) rfl rfl Hnews.out Hone.out (by decide) ?b1l ?b2l ?hbl _ rfl ?_); (case b1l => (simp only [maxLen]; omega)); (case b2l => omega); (case hbl => (show B ≤ ((w5.alloc (.cells (evC ev.kind ev.n ev.keep Ad nd cd) 29)).alloc _).heap.size; rw [World.size_alloc]; omega)); intro q cap w7 hr7 hg7 hat hlt7; have HX7 := Lib.hid (HP7.out w7 q cap hg7 hr7 hat); clear hr7 hg7 hat)
          go_roundw
          case rel => exact ⟨k + 1, _, _, _, _, rfl, by go_num, by omega, HX7⟩
          case measure => simp [intOf]; omega
      | none =>
        have HR := Lib.hid hr
        rcases hos with ⟨rfl, rfl, rfl, rfl⟩ | ⟨init, st, G, Ad0, nd0, cd0, Ao, no, co, rfl, rfl, hol⟩
        · have HN := Lib.hid (hst.out.bad HL.out Hm.out hlt hxk (Sp.lineS_nil hr))
          cases ho : Sp.outS x with
          | none =>
            have HO := Lib.hid ho
            by_cases hw : x = [103, 111, 110, 101]
            · rw [decide_eq_true hw] at p0
              clear hr hxk hw ho
              go_wp2_with fail
              refine (HOu.out _).mono ?_
              rintro e w3 ⟨bk, A3, n3, c3, rfl, hyo, b3⟩
              rw [show (Sp.outS x).isSome = false by rw [HO.out]; rfl]
              have hb4 : Below w3.heap.size w3 (w3.alloc (.cells (ouC bk A3 n3 c3) 56)) := (Below.refl _ _).alloc (Nat.le_refl _) _
              have hx4 : (w3.alloc (.cells (ouC bk A3 n3 c3) 56)).cell? ⟨g, k, none⟩ = some (.string (Sp.bs x)) := by have := ((hst.out.wd.below b3).below hb4).at_ k x Hxk.out; rwa [Nat.zero_add] at this
              have B4 := Lib.hid (step b3 hb4)
              have O4 := Lib.hid (Blk.new w3 (ouC bk A3 n3 c3) 56)
              have S3 := Lib.hid b3.size
              clear hyo b3 hb4
              go_wp2_with fail
              refine (HRe.out _).mono ?_
              rintro e w5 ⟨hrn, hry, b5⟩
              obtain rfl := hrn HR.out
              have hb6 : Below w5.heap.size w5 (w5.alloc (.cells (evC 0 0 0 none 0 0) 29)) := (Below.refl _ _).alloc (Nat.le_refl _) _
              have b56 := step b5 hb6
              have b6 := step B4.out b56
              have hx6 : (w5.alloc (.cells (evC 0 0 0 none 0 0) 29)).cell? ⟨g, k, none⟩ = some (.string (Sp.bs x)) := by have := (hst.out.wd.below b6).at_ k x Hxk.out; rwa [Nat.zero_add] at this
              have hg6 : g < (w5.alloc (.cells (evC 0 0 0 none 0 0) 29)).heap.size := (hst.out.wd.below b6).lt
              have HB6 := Lib.hid (step hst.out.low b6)
              clear hrn hry b5 hb6 b56 b6
              go_wp2_with fail
              (try rw [Exit.noGoto_ret])
              go_ret3
              exact ParseRet.no HN.out HB6.out
            · rw [decide_eq_false hw] at p0
              clear hr hxk hw ho
              go_wp2_with fail
              refine (HOu.out _).mono ?_
              rintro e w3 ⟨bk, A3, n3, c3, rfl, hyo, b3⟩
              rw [show (Sp.outS x).isSome = false by rw [HO.out]; rfl]
              have hb4 : Below w3.heap.size w3 (w3.alloc (.cells (ouC bk A3 n3 c3) 56)) := (Below.refl _ _).alloc (Nat.le_refl _) _
              have hx4 : (w3.alloc (.cells (ouC bk A3 n3 c3) 56)).cell? ⟨g, k, none⟩ = some (.string (Sp.bs x)) := by have := ((hst.out.wd.below b3).below hb4).at_ k x Hxk.out; rwa [Nat.zero_add] at this
              have B4 := Lib.hid (step b3 hb4)
              have O4 := Lib.hid (Blk.new w3 (ouC bk A3 n3 c3) 56)
              have S3 := Lib.hid b3.size
              clear hyo b3 hb4
              go_wp2_with fail
              refine (HRe.out _).mono ?_
              rintro e w5 ⟨hrn, hry, b5⟩
              obtain rfl := hrn HR.out
              have hb6 : Below w5.heap.size w5 (w5.alloc (.cells (evC 0 0 0 none 0 0) 29)) := (Below.refl _ _).alloc (Nat.le_refl _) _
              have b56 := step b5 hb6
              have b6 := step B4.out b56
              have hx6 : (w5.alloc (.cells (evC 0 0 0 none 0 0) 29)).cell? ⟨g, k, none⟩ = some (.string (Sp.bs x)) := by have := (hst.out.wd.below b6).at_ k x Hxk.out; rwa [Nat.zero_add] at this
              have hg6 : g < (w5.alloc (.cells (evC 0 0 0 none 0 0) 29)).heap.size := (hst.out.wd.below b6).lt
              have HB6 := Lib.hid (step hst.out.low b6)
              clear hrn hry b5 hb6 b56 b6
              go_wp2_with fail
              (try rw [Exit.noGoto_ret])
              go_ret3
              exact ParseRet.no HN.out HB6.out
          | some o =>
            have HO := Lib.hid ho
            by_cases hw : x = [103, 111, 110, 101]
            · rw [hw, Sp.outS_gone] at ho
              cases ho
            · rw [decide_eq_false hw] at p0
              clear hr hxk hw ho
              go_wp2_with fail
              refine (HOu.out _).mono ?_
              rintro e w3 ⟨bk, A3, n3, c3, rfl, hyo, b3⟩
              rw [show (Sp.outS x).isSome = true by rw [HO.out]; rfl]
              have hb4 : Below w3.heap.size w3 (w3.alloc (.cells (ouC bk A3 n3 c3) 56)) := (Below.refl _ _).alloc (Nat.le_refl _) _
              have hx4 : (w3.alloc (.cells (ouC bk A3 n3 c3) 56)).cell? ⟨g, k, none⟩ = some (.string (Sp.bs x)) := by have := ((hst.out.wd.below b3).below hb4).at_ k x Hxk.out; rwa [Nat.zero_add] at this
              have B4 := Lib.hid (step b3 hb4)
              have O4 := Lib.hid (Blk.new w3 (ouC bk A3 n3 c3) 56)
              have S3 := Lib.hid b3.size
              clear hyo b3 hb4
              go_wp2_with fail
              refine (HRe.out _).mono ?_
              rintro e w5 ⟨hrn, hry, b5⟩
              obtain rfl := hrn HR.out
              have hb6 : Below w5.heap.size w5 (w5.alloc (.cells (evC 0 0 0 none 0 0) 29)) := (Below.refl _ _).alloc (Nat.le_refl _) _
              have b56 := step b5 hb6
              have b6 := step B4.out b56
              have hx6 : (w5.alloc (.cells (evC 0 0 0 none 0 0) 29)).cell? ⟨g, k, none⟩ = some (.string (Sp.bs x)) := by have := (hst.out.wd.below b6).at_ k x Hxk.out; rwa [Nat.zero_add] at this
              have hg6 : g < (w5.alloc (.cells (evC 0 0 0 none 0 0) 29)).heap.size := (hst.out.wd.below b6).lt
              have HB6 := Lib.hid (step hst.out.low b6)
              clear hrn hry b5 hb6 b56 b6
              go_wp2_with fail
              (try rw [Exit.noGoto_ret])
              go_ret3
              exact ParseRet.no HN.out HB6.out
        · obtain ⟨i, hil⟩ : ∃ i, init.length = i := ⟨_, rfl⟩
          have hni : n = i + 1 := by rw [← hil]; exact hol.num
          subst hni
          have hcr := hol.cell 5 _ rfl
          rw [hil] at hcr
          have Hil := Lib.hid hil
          have Hol := Lib.hid hol
          have hGl := hol.lt.2
          have hwi : IntKind.i64.wrap ((i : Int) + 1 - 1) = (i : Int) := by
            rw [show (i : Int) + 1 - 1 = (i : Int) by omega]; exact IntWalk.i64_in _ (by omega)
          have hwi2 : IntKind.i64.wrap (i : Int) = (i : Int) := IntWalk.i64_in _ (by omega)
          have d5 : (i : Int) < (i : Int) + 1 := by omega
          have d4 : (0 : Int) ≤ (i : Int) := by omega
          cases hgn : st.gone with
          | true =>
            rw [hgn] at hcr
            have HN := Lib.hid (hst.out.bad HL.out Hm.out hlt hxk (Sp.lineS_dead (a := init) hr hgn))
            clear hol hil hgn
            cases ho : Sp.outS x with
            | none =>
              have HO := Lib.hid ho
              by_cases hw : x = [103, 111, 110, 101]
              · rw [decide_eq_true hw] at p0
                clear hr hxk hw ho
                go_wp2_with fail
                refine (HOu.out _).mono ?_
                rintro e w3 ⟨bk, A3, n3, c3, rfl, hyo, b3⟩
                rw [show (Sp.outS x).isSome = false by rw [HO.out]; rfl]
                have hb4 : Below w3.heap.size w3 (w3.alloc (.cells (ouC bk A3 n3 c3) 56)) := (Below.refl _ _).alloc (Nat.le_refl _) _
                have hx4 : (w3.alloc (.cells (ouC bk A3 n3 c3) 56)).cell? ⟨g, k, none⟩ = some (.string (Sp.bs x)) := by have := ((hst.out.wd.below b3).below hb4).at_ k x Hxk.out; rwa [Nat.zero_add] at this
                have B4 := Lib.hid (step b3 hb4)
                have O4 := Lib.hid (Blk.new w3 (ouC bk A3 n3 c3) 56)
                have S3 := Lib.hid b3.size
                clear hyo b3 hb4
                go_wp2_with fail
                refine (HRe.out _).mono ?_
                rintro e w5 ⟨hrn, hry, b5⟩
                obtain rfl := hrn HR.out
                have hb6 : Below w5.heap.size w5 (w5.alloc (.cells (evC 0 0 0 none 0 0) 29)) := (Below.refl _ _).alloc (Nat.le_refl _) _
                have b56 := step b5 hb6
                have b6 := step B4.out b56
                have hx6 : (w5.alloc (.cells (evC 0 0 0 none 0 0) 29)).cell? ⟨g, k, none⟩ = some (.string (Sp.bs x)) := by have := (hst.out.wd.below b6).at_ k x Hxk.out; rwa [Nat.zero_add] at this
                have hg6 : g < (w5.alloc (.cells (evC 0 0 0 none 0 0) 29)).heap.size := (hst.out.wd.below b6).lt
                have HB6 := Lib.hid (step hst.out.low b6)
                clear hrn hry b5 hb6 b56 b6
                go_wp2_with fail
                (try rw [Exit.noGoto_ret])
                go_ret3
                exact ParseRet.no HN.out HB6.out
              · rw [decide_eq_false hw] at p0
                clear hr hxk hw ho
                go_wp2_with fail
                refine (HOu.out _).mono ?_
                rintro e w3 ⟨bk, A3, n3, c3, rfl, hyo, b3⟩
                rw [show (Sp.outS x).isSome = false by rw [HO.out]; rfl]
                have hb4 : Below w3.heap.size w3 (w3.alloc (.cells (ouC bk A3 n3 c3) 56)) := (Below.refl _ _).alloc (Nat.le_refl _) _
                have hx4 : (w3.alloc (.cells (ouC bk A3 n3 c3) 56)).cell? ⟨g, k, none⟩ = some (.string (Sp.bs x)) := by have := ((hst.out.wd.below b3).below hb4).at_ k x Hxk.out; rwa [Nat.zero_add] at this
                have B4 := Lib.hid (step b3 hb4)
                have O4 := Lib.hid (Blk.new w3 (ouC bk A3 n3 c3) 56)
                have S3 := Lib.hid b3.size
                clear hyo b3 hb4
                go_wp2_with fail
                refine (HRe.out _).mono ?_
                rintro e w5 ⟨hrn, hry, b5⟩
                obtain rfl := hrn HR.out
                have hb6 : Below w5.heap.size w5 (w5.alloc (.cells (evC 0 0 0 none 0 0) 29)) := (Below.refl _ _).alloc (Nat.le_refl _) _
                have b56 := step b5 hb6
                have b6 := step B4.out b56
                have hx6 : (w5.alloc (.cells (evC 0 0 0 none 0 0) 29)).cell? ⟨g, k, none⟩ = some (.string (Sp.bs x)) := by have := (hst.out.wd.below b6).at_ k x Hxk.out; rwa [Nat.zero_add] at this
                have hg6 : g < (w5.alloc (.cells (evC 0 0 0 none 0 0) 29)).heap.size := (hst.out.wd.below b6).lt
                have HB6 := Lib.hid (step hst.out.low b6)
                clear hrn hry b5 hb6 b56 b6
                go_wp2_with fail
                (try rw [Exit.noGoto_ret])
                go_ret3
                exact ParseRet.no HN.out HB6.out
            | some o =>
              have HO := Lib.hid ho
              by_cases hw : x = [103, 111, 110, 101]
              · rw [hw, Sp.outS_gone] at ho
                cases ho
              · rw [decide_eq_false hw] at p0
                clear hr hxk hw ho
                go_wp2_with fail
                refine (HOu.out _).mono ?_
                rintro e w3 ⟨bk, A3, n3, c3, rfl, hyo, b3⟩
                rw [show (Sp.outS x).isSome = true by rw [HO.out]; rfl]
                have hb4 : Below w3.heap.size w3 (w3.alloc (.cells (ouC bk A3 n3 c3) 56)) := (Below.refl _ _).alloc (Nat.le_refl _) _
                have hx4 : (w3.alloc (.cells (ouC bk A3 n3 c3) 56)).cell? ⟨g, k, none⟩ = some (.string (Sp.bs x)) := by have := ((hst.out.wd.below b3).below hb4).at_ k x Hxk.out; rwa [Nat.zero_add] at this
                have B4 := Lib.hid (step b3 hb4)
                have O4 := Lib.hid (Blk.new w3 (ouC bk A3 n3 c3) 56)
                have S3 := Lib.hid b3.size
                clear hyo b3 hb4
                go_wp2_with fail
                refine (HRe.out _).mono ?_
                rintro e w5 ⟨hrn, hry, b5⟩
                obtain rfl := hrn HR.out
                have hb6 : Below w5.heap.size w5 (w5.alloc (.cells (evC 0 0 0 none 0 0) 29)) := (Below.refl _ _).alloc (Nat.le_refl _) _
                have b56 := step b5 hb6
                have b6 := step B4.out b56
                have hx6 : (w5.alloc (.cells (evC 0 0 0 none 0 0) 29)).cell? ⟨g, k, none⟩ = some (.string (Sp.bs x)) := by have := (hst.out.wd.below b6).at_ k x Hxk.out; rwa [Nat.zero_add] at this
                have hg6 : g < (w5.alloc (.cells (evC 0 0 0 none 0 0) 29)).heap.size := (hst.out.wd.below b6).lt
                have HB6 := Lib.hid (step hst.out.low b6)
                clear hrn hry b5 hb6 b56 b6
                go_wp2_with fail
                (try rw [Exit.noGoto_ret])
                go_ret3
                exact ParseRet.no HN.out HB6.out
          | false =>
            rw [hgn] at hcr
            by_cases hw : x = [103, 111, 110, 101]
            · rw [decide_eq_true hw] at p0
              have HO : Hid (Sp.outS x = none) := Lib.hid (by rw [hw]; exact Sp.outS_gone)
              have HLi := Lib.hid (Sp.lineS_gone (a := init) hr hgn hw)
              clear hr hxk hol hil hgn hw
              go_wp2_with fail
              refine (HOu.out _).mono ?_
              rintro e w3 ⟨bk, A3, n3, c3, rfl, hyo, b3⟩
              rw [show (Sp.outS x).isSome = false by rw [HO.out]; rfl]
              have hb4 : Below w3.heap.size w3 (w3.alloc (.cells (ouC bk A3 n3 c3) 56)) := (Below.refl _ _).alloc (Nat.le_refl _) _
              have hx4 : (w3.alloc (.cells (ouC bk A3 n3 c3) 56)).cell? ⟨g, k, none⟩ = some (.string (Sp.bs x)) := by have := ((hst.out.wd.below b3).below hb4).at_ k x Hxk.out; rwa [Nat.zero_add] at this
              have B4 := Lib.hid (step b3 hb4)
              have O4 := Lib.hid (Blk.new w3 (ouC bk A3 n3 c3) 56)
              have S3 := Lib.hid b3.size
              clear hyo b3 hb4
              go_wp2_with fail
              refine (HRe.out _).mono ?_
              rintro e w5 ⟨hrn, hry, b5⟩
              obtain rfl := hrn HR.out
              have hb6 : Below w5.heap.size w5 (w5.alloc (.cells (evC 0 0 0 none 0 0) 29)) := (Below.refl _ _).alloc (Nat.le_refl _) _
              have b56 := step b5 hb6
              have b6 := step B4.out b56
              have hx6 : (w5.alloc (.cells (evC 0 0 0 none 0 0) 29)).cell? ⟨g, k, none⟩ = some (.string (Sp.bs x)) := by have := (hst.out.wd.below b6).at_ k x Hxk.out; rwa [Nat.zero_add] at this
              have hg6 : g < (w5.alloc (.cells (evC 0 0 0 none 0 0) 29)).heap.size := (hst.out.wd.below b6).lt
              have ho6 := Hol.out.below b6
              have hf5 := ho6.frozen (i * 6 + 5)
              have hc5 := ho6.cell 5 _ rfl
              rw [Hil.out] at hc5
              have hX : Rst w ((w5.alloc (.cells (evC 0 0 0 none 0 0) 29)).setCell ⟨G, i * 6 + 5, none⟩ (.bool true)) B L g (k + 1) (init ++ [⟨st.ev, st.outs, true⟩]) (some ⟨G, 0, none⟩) (i + 1) c :=
                Rst.next hst.out Hxk.out HLi.out (.inr ⟨init, _, G, Ad0, nd0, cd0, Ao, no, co, rfl, rfl, by have := ho6.crash; rw [Hil.out] at this; exact this⟩) ((b6.mono hst.out.sB).setCell (p := ⟨G, i * 6 + 5, none⟩) ho6.lt.1 _)
              have HX := Lib.hid hX
              have hG6 := ho6.lt.2
              clear hrn hry b5 hb6 b56 b6 ho6 hX
              go_wp2_with fail
              go_roundw
              case rel => exact ⟨k + 1, _, _, _, _, rfl, by go_num, by omega, HX⟩
              case measure => simp [intOf]; omega
            · rw [decide_eq_false hw] at p0
              cases ho : Sp.outS x with
              | none =>
                have HO := Lib.hid ho
                have HN := Lib.hid (hst.out.bad HL.out Hm.out hlt hxk (show Sp.lineS (init ++ [st]) x = none by rw [Sp.lineS_out hr hgn hw, ho]; rfl))
                clear hr hxk hol hil hgn hw ho
                go_wp2_with fail
                refine (HOu.out _).mono ?_
                rintro e w3 ⟨bk, A3, n3, c3, rfl, hyo, b3⟩
                rw [show (Sp.outS x).isSome = false by rw [HO.out]; rfl]
                have hb4 : Below w3.heap.size w3 (w3.alloc (.cells (ouC bk A3 n3 c3) 56)) := (Below.refl _ _).alloc (Nat.le_refl _) _
                have hx4 : (w3.alloc (.cells (ouC bk A3 n3 c3) 56)).cell? ⟨g, k, none⟩ = some (.string (Sp.bs x)) := by have := ((hst.out.wd.below b3).below hb4).at_ k x Hxk.out; rwa [Nat.zero_add] at this
                have B4 := Lib.hid (step b3 hb4)
                have O4 := Lib.hid (Blk.new w3 (ouC bk A3 n3 c3) 56)
                have S3 := Lib.hid b3.size
                clear hyo b3 hb4
                go_wp2_with fail
                refine (HRe.out _).mono ?_
                rintro e w5 ⟨hrn, hry, b5⟩
                obtain rfl := hrn HR.out
                have hb6 : Below w5.heap.size w5 (w5.alloc (.cells (evC 0 0 0 none 0 0) 29)) := (Below.refl _ _).alloc (Nat.le_refl _) _
                have b56 := step b5 hb6
                have b6 := step B4.out b56
                have hx6 : (w5.alloc (.cells (evC 0 0 0 none 0 0) 29)).cell? ⟨g, k, none⟩ = some (.string (Sp.bs x)) := by have := (hst.out.wd.below b6).at_ k x Hxk.out; rwa [Nat.zero_add] at this
                have hg6 : g < (w5.alloc (.cells (evC 0 0 0 none 0 0) 29)).heap.size := (hst.out.wd.below b6).lt
                have HB6 := Lib.hid (step hst.out.low b6)
                clear hrn hry b5 hb6 b56 b6
                go_wp2_with fail
                (try rw [Exit.noGoto_ret])
                go_ret3
                exact ParseRet.no HN.out HB6.out
              | some o =>
                have HO := Lib.hid ho
                have HLi := Lib.hid (show Sp.lineS (init ++ [st]) x = some (init ++ [⟨st.ev, st.outs ++ [o], false⟩]) by rw [Sp.lineS_out hr hgn hw, ho]; rfl)
                have Hgn := Lib.hid hgn
                clear hr hxk hol hil hgn hw ho
                go_wp2_with fail
                refine (HOu.out _).mono ?_
                rintro e w3 ⟨bk, A3, n3, c3, rfl, hyo, b3⟩
                rw [show (Sp.outS x).isSome = true by rw [HO.out]; rfl]
                have hb4 : Below w3.heap.size w3 (w3.alloc (.cells (ouC bk A3 n3 c3) 56)) := (Below.refl _ _).alloc (Nat.le_refl _) _
                have hx4 : (w3.alloc (.cells (ouC bk A3 n3 c3) 56)).cell? ⟨g, k, none⟩ = some (.string (Sp.bs x)) := by have := ((hst.out.wd.below b3).below hb4).at_ k x Hxk.out; rwa [Nat.zero_add] at this
                have B4 := Lib.hid (step b3 hb4)
                have O4 := Lib.hid (Blk.new w3 (ouC bk A3 n3 c3) 56)
                have S3 := Lib.hid b3.size
                obtain ⟨rfl, hdo, hfo⟩ := hyo o HO.out
                have HDo := Lib.hid (hdo.below hb4)
                have HFo := Lib.hid hfo
                clear hdo hfo
                clear hyo b3 hb4
                go_wp2_with fail
                refine (HRe.out _).mono ?_
                rintro e w5 ⟨hrn, hry, b5⟩
                obtain rfl := hrn HR.out
                have hb6 : Below w5.heap.size w5 (w5.alloc (.cells (evC 0 0 0 none 0 0) 29)) := (Below.refl _ _).alloc (Nat.le_refl _) _
                have b56 := step b5 hb6
                have b6 := step B4.out b56
                have hx6 : (w5.alloc (.cells (evC 0 0 0 none 0 0) 29)).cell? ⟨g, k, none⟩ = some (.string (Sp.bs x)) := by have := (hst.out.wd.below b6).at_ k x Hxk.out; rwa [Nat.zero_add] at this
                have hg6 : g < (w5.alloc (.cells (evC 0 0 0 none 0 0) 29)).heap.size := (hst.out.wd.below b6).lt
                go_wp2_with fail
                have ou6 := (O4.out.below b5).below hb6
                have hs6 : (w5.alloc (.cells (evC 0 0 0 none 0 0) 29)).heap.size = w5.heap.size + 1 := World.size_alloc _ _
                have hs5 : (w3.alloc (.cells (ouC o.back A3 n3 c3) 56)).heap.size ≤ w5.heap.size := b5.size
                have hs4 : (w3.alloc (.cells (ouC o.back A3 n3 c3) 56)).heap.size = w3.heap.size + 1 := World.size_alloc _ _
                have hs3 := S3.out
                have hsB := hst.out.sB
                have o6 := Hol.out.below b6
                have hR0 := Hol.out.ownlt
                have hG0 := Hol.out.lt
                have hdk : Bk (w3.alloc (.cells (ouC o.back A3 n3 c3) 56)) (fun b => B ≤ b ∧ b ≠ G ∧ (Value.slice Ao no co).ownBlock ≠ some b) A3 n3 c3 o.data := Bk.new HDo.out HFo.out (fun q hge => ⟨by omega, by omega, fun e => by have := (hR0 q e).2; omega⟩)
                have hdk6 := (hdk.keep (Kp.of b56))
                have hno6 : no ≤ 1000000 := by
                  have h1 := hst.out.outs st (by simp)
                  obtain ⟨us, h2, h3⟩ := Hol.out.outs
                  have h4 := h2.1
                  have h5 := h3.len
                  omega
                clear hcr hx4 hx6 hxc hgw hGl hwi hg6
                generalize (w5.alloc (.cells (evC 0 0 0 none 0 0) 29)) = W6 at *
                generalize w5.heap.size = H5 at *
                generalize w3.heap.size = H3 at *
                have hc4 := ou6.cells2
                have hco := o6.cell 4 _ rfl
                rw [Hil.out] at hco
                have hGlt := o6.lt
                have hRlt := o6.ownlt
                obtain ⟨us, hrow, hul, hput⟩ := o6.out
                have hbl : Below W6.heap.size W6 (W6.alloc (.cells ([.bool o.back, .slice A3 n3 c3]).toArray 56)).drew := ((Below.refl _ _).alloc (Nat.le_refl _) _).drew
                have Hrow : Hid (∀ o', ((W6.alloc o').drew).ownsRow B 56 2 (.slice Ao no co) no us) := fun o' => hrow.alloc o'
                have Hnews := Lib.hid (step_cells W6 ([.bool o.back, .slice A3 n3 c3]) 56 W6.heap.size rfl)
                have Hone := Lib.hid (ouV_one o A3 n3 c3)
                have hP7 : ∀ w7 r cap, (W6.alloc (.cells ([.bool o.back, .slice A3 n3 c3]).toArray 56)).drew.grownBy w7 (Value.slice Ao no co).ownBlock →
                    w7.ownsRow B 56 2 (.slice (some ⟨r, 0, none⟩) (no + 1) cap) (no + 1) (us ++ [.bool o.back, .slice A3 n3 c3]) → ((Value.slice Ao no co).ownBlock = some r ∨ r = (W6.alloc (.cells ([.bool o.back, .slice A3 n3 c3]).toArray 56)).drew.heap.size) →
                    (w7.frozen? ⟨G, i * 6 + 4, none⟩ = false ∧ w7.cell? ⟨G, i * 6 + 4, none⟩ = some (.slice Ao no co)) ∧ Rst w (w7.setCell ⟨G, i * 6 + 4, none⟩ (.slice (some ⟨r, 0, none⟩) (no + 1) cap)) B L g (k + 1) (init ++ [⟨st.ev, st.outs ++ [o], false⟩]) (some ⟨G, 0, none⟩) (i + 1) c := fun w7 r cap hg7 hr7 hat => by
                  have hx := hput _ _ r cap o A3 n3 c3 hbl hdk6 hg7 hr7 hat
                  rw [Hil.out, Hgn.out] at hx
                  refine ⟨⟨hx.1 _, hx.2.1⟩, Rst.next hst.out Hxk.out HLi.out (.inr ⟨init, _, G, Ad0, nd0, cd0, _, _, _, rfl, rfl, hx.2.2⟩) (((b6.mono hsB).trans ((hbl.mono (by omega)).trans ((Below.refl B _).grown hg7 (by have := hbl.size; omega) (fun q' hq' => (hRlt q' hq').1)))).setCell (p := ⟨G, i * 6 + 4, none⟩) hGlt.1 _)⟩
                have HP7 := Lib.hid hP7
                have hB6 : B ≤ W6.heap.size := by omega
                have hHlt : H3 < W6.heap.size := by omega
                have hHlt5 : H5 < W6.heap.size := by omega
                have hGlt2 : G < W6.heap.size := hGlt.2
                have hglt : g < W6.heap.size := Nat.lt_of_lt_of_le hst.out.gB hB6
                clear hrn hry b5 hb6 b56 b6 ou6 hs6 hs5 hs4 hs3 hsB o6 hR0 hG0 hdk hdk6 hGlt hRlt hrow hul hput hbl hP7
                go_region_law (refine step_append_lies _ rfl (.tmp 64) (.tmp 66) 40 rfl B 56 j0 _ 2 32 Tryd.underlying40 hj hy0 hy1 hy2 rfl (by decide) (.slice Ao no co) no us (by simp [Act.eval, Act.put]) (Hrow.out _) ⟨W6.heap.size, 0, none⟩ 1 1 ([.bool o.back, .slice A3 n3 c3]) (by simp [Act.eval, Act.put]) rfl Hnews.out Hone.out (by decide) (by simp only [maxLen]; omega) (by omega) (by show B ≤ (W6.alloc _).heap.size; rw [World.size_alloc]; omega) _ rfl ?_; intro q cap w7 hr7 hg7 hat hlt7; have hx7 := HP7.out w7 q cap hg7 hr7 hat; have hqf7 := hx7.1.1; have hqc7 := hx7.1.2; have HX7 := Lib.hid hx7.2; clear hr7 hg7 hat hx7)
                all_goals
                  go_wp2_with fail
                  go_roundw
                  case rel => exact ⟨k + 1, _, _, _, _, rfl, by go_num, by omega, HX7⟩
                  case measure => simp [intOf]; omega

    · obtain rfl : k = m := by omega
      have c1 : ¬ (k : Int) < (k : Int) := by omega
      have emp := str_emp x
      have hLs : L = L.take k ++ [x] := by
        have h1 := take_mid hxk
        have h2 : L.drop (k + 1) = [] := List.drop_eq_nil_of_le (by have := Hm.out; omega)
        rw [h2] at h1
        exact h1
      have hlk : (L.take k).length = k := by rw [List.length_take]; have := Hm.out; omega
      by_cases hxe : x = []
      · rw [decide_eq_true hxe] at emp
        subst hxe
        have h1 := Sp.parse_done (s := s) (done := L.take k) (by rw [HL.out]; exact hLs) hst.out.run
        have HY := Lib.hid (And.intro h1.1 (h1.2.trans hlk))
        clear h1 hLs hlk hxk
        go_wp2_with fail
        go_ret3
        exact ParseRet.yes HY.out.1 HY.out.2 hst.out.os.sts hst.out.low
      · rw [decide_eq_false hxe] at emp
        have h1 := Sp.parse_open (s := s) (done := L.take k) (by rw [HL.out]; exact hLs) hxe hst.out.run
        rw [hlk] at h1
        have HY := Lib.hid h1
        clear h1 hLs hlk hxk hxe
        go_wp2_with fail
        go_ret3
        exact ParseRet.no HY.out hst.out.low
end Tr
end Go.Proofs.YtpchfmeaplhodaaDoor
