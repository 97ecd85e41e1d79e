/-
  A part of the proof of this seat's laws: clean texts; texts encoded.
-/
import Derived.Test.YtkiloebfjooogaaDoorEs3
import Derived.Test.YtkiloebfjooogaaDoorBld
namespace Go.Proofs.YtkiloebfjooogaaDoor
set_option linter.unusedVariables false
set_option linter.unusedSimpArgs false
open Go.RowKit Go.Shelf
namespace Es
open Ap Mp Sg
set_option maxHeartbeats 4000000
theorem isB (c : UInt8) : Sp.isByte (c.toNat : Int) := ⟨by omega, by have := c.toNat_lt; omega⟩
/-- may the signs be? -/
abbrev rtB (F P R E U : UInt8) : Bool := Sp.right (F.toNat : Int) (P.toNat : Int) (R.toNat : Int) (E.toNat : Int) (U.toNat : Int)
theorem right_calls (F P R E U : UInt8) (w : World) : Calls Tryd.prog 18 #[dv F P R E U] w fun e w' => e = .returned (.bool (rtB F P R E U)) ∧ Below w.heap.size w w' :=
  Dl.right_calls _ _ _ _ _ w (isB F) (isB P) (isB R) (isB E) (isB U)
/-- a byte of a text -/
theorem Tells.low {w w' : World} {B b n : Nat} {f : UInt8 → Option (List UInt8)} (h : Tells w b n f) (hb : Below B w w') (hlt : b < B) : Tells w' b n f := by
  obtain ⟨D, h1, h2⟩ := h
  obtain ⟨es, clock, he, r⟩ := h1
  exact ⟨D, ⟨es, clock, (hb.block b hlt).trans he, r⟩, h2⟩
/-- five bytes in a block -/
abbrev FV (g : Nat) (F P R E U : UInt8) (w : World) : Prop := Dl.Five g (F.toNat : Int) (P.toNat : Int) (R.toNat : Int) (E.toNat : Int) (U.toNat : Int) w
theorem clean_snoc (F P R E U : UInt8) (l : List UInt8) (y : UInt8) : Sp.clean F P R E U (l ++ [y]) = (Sp.clean F P R E U l && (Sp.ins F P R E U y).isNone) := by simp [Sp.clean]
set_option maxRecDepth 100000 in
theorem clean_calls (s : List UInt8) (hs : s.length ≤ 100000) (F P R E U : UInt8) (w : World) :
    Calls Tryd.prog 12 #[.string (Sp.bs s), dv F P R E U] w fun e w' => e = .returned (.bool (Sp.clean F P R E U s)) ∧ Below w.heap.size w w' := by
  have huD := Tryd.underlying23
  have hz := Sp.bs_size s
  have hB0 : Below w.heap.size w (w.alloc (.cells #[.int .u8 (F.toNat : Int), .int .u8 (P.toNat : Int), .int .u8 (R.toNat : Int), .int .u8 (E.toNat : Int), .int .u8 (U.toNat : Int)] 23)) := (Below.refl _ _).alloc (Nat.le_refl _) _
  have f0 := Dl.Five.new (F.toNat : Int) (P.toNat : Int) (R.toNat : Int) (E.toNat : Int) (U.toNat : Int) w
  have hc0 := f0.cells
  obtain ⟨v, hv⟩ : ∃ v, v = Sp.clean F P R E U s := ⟨_, rfl⟩
  rw [← hv]
  have Hv := Lib.hid hv
  clear hv
  go_enter Tryd.func12, Tryd.ntmps12
  go_wp2_with fail
  refine (insides_calls F P R E U _).mono ?_
  rintro e w1 ⟨b, rfl, ht, hbb, b1⟩
  have hB1 := Lib.hid (step hB0 b1)
  have Ht := Lib.hid ht
  clear hc0 f0 hB0 b1 ht
  go_wp2_with fail
  go_loop [6, 7, 8, 13] (fun _ _ _ i => ∃ k : Nat, k ≤ s.length ∧ i = .int .i64 k ∧ Hid (Sp.clean F P R E U (s.take k) = true)) (fun _ _ _ i => s.length - (intOf i).toNat)
  case atStart => exact ⟨0, by omega, rfl, rfl⟩
  case round =>
    obtain ⟨k, hk, rfl, hcl⟩ := hrel
    by_cases hlt : k < s.length
    · obtain ⟨c, hc⟩ : ∃ c, s[k]? = some c := ⟨_, List.getElem?_eq_getElem hlt⟩
      have hck := bs_at hc
      have c0 : (0 : Int) ≤ (k : Int) := by omega
      have c1 : (k : Int) < (s.length : Int) := by omega
      have hw1 : IntKind.i64.wrap ((k : Int) + 1) = (k : Int) + 1 := IntWalk.i64_in _ (by omega)
      have hsn := clean_snoc F P R E U (s.take k) c
      rw [hcl.out, Bool.true_and, show s.take k ++ [c] = s.take (k + 1) by rw [List.take_add_one, hc]; rfl] at hsn
      cases hi : (Sp.ins F P R E U c).isSome with
      | true =>
        have Hf : Hid (v = false) := Lib.hid (by
          rw [Hv.out]
          rw [← Option.not_isSome, hi] at hsn
          cases hx : Sp.clean F P R E U s with
          | false => rfl
          | true =>
            have : Sp.clean F P R E U (s.take (k + 1)) = true := by
              unfold Sp.clean at hx ⊢
              rw [List.all_eq_true] at hx ⊢
              exact fun y hy => hx y (List.take_subset _ _ hy)
            rw [this] at hsn
            cases hsn)
        clear hsn hc hcl
        go_wp2_with (refine Mp.wp_look _ rfl (.tmp 17) (.tmp 20) rfl _ _ _ rfl Ht.out c rfl ?_)
        go_ret
        rw [Hf.out]
        exact ⟨rfl, hB1.out⟩
      | false =>
        have Hn : Hid (Sp.clean F P R E U (s.take (k + 1)) = true) := Lib.hid (by rw [hsn, ← Option.not_isSome, hi]; rfl)
        clear hsn hc hcl
        go_wp2_with (refine Mp.wp_look _ rfl (.tmp 17) (.tmp 20) rfl _ _ _ rfl Ht.out c rfl ?_)
        clear hi
        go_round
        case rel => exact ⟨k + 1, by omega, by go_num, Hn⟩
        case measure => simp [intOf]; omega
    · obtain rfl : k = s.length := by omega
      rw [List.take_length] at hcl
      have c1 : ¬ (s.length : Int) < (s.length : Int) := by omega
      go_wp2_with fail
      go_ret
      rw [Hv.out, hcl.out]
      exact ⟨rfl, hB1.out⟩
theorem encode_no (s : List UInt8) (F P R E U : UInt8) (hr : rtB F P R E U = false) (w : World) :
    Calls Tryd.prog 10 #[.string (Sp.bs s), dv F P R E U] w fun e w' => e = .returned (.tuple #[.string ⟨#[]⟩, .int .i64 11]) ∧ Below w.heap.size w w' := by
  have huD := Tryd.underlying23
  have hB0 : Below w.heap.size w (w.alloc (.cells #[.int .u8 (F.toNat : Int), .int .u8 (P.toNat : Int), .int .u8 (R.toNat : Int), .int .u8 (E.toNat : Int), .int .u8 (U.toNat : Int)] 23)) := (Below.refl _ _).alloc (Nat.le_refl _) _
  have f0 := Dl.Five.new (F.toNat : Int) (P.toNat : Int) (R.toNat : Int) (E.toNat : Int) (U.toNat : Int) w
  have hc0 := f0.cells
  have Hr := fun w => Lib.hid (right_calls F P R E U w)
  rw [hr] at Hr
  clear hr
  go_enter Tryd.func10, Tryd.ntmps10
  go_wp2_with fail
  refine (Hr _).out.mono ?_
  rintro e w1 ⟨rfl, b1⟩
  go_wp2_with fail
  go_ret2
  exact ⟨rfl, step hB0 b1⟩
/-- a new builder -/
theorem newB (w : World) : Lib.IsBuilder 45 5 w.heap.size w.heap.size (Lib.byteCells []) (w.alloc (.cells #[.pointer none, .slice none 0 0] 45)) :=
  .inl ⟨Nat.le_refl _, .slice none 0 0, by show (w.heap.push _)[w.heap.size]? = _; simp, World.ownsRow_nil _ _ _ _, by simp [Value.ownBlock]⟩
theorem cells_str (l : List UInt8) : Lib.strCells (Sp.bs l) = Lib.byteCells l := by unfold Lib.strCells Lib.byteCells Sp.bs; simp
theorem cells_app (l m : List UInt8) : Lib.byteCells (l ++ m) = Lib.byteCells l ++ Lib.byteCells m := by unfold Lib.byteCells; simp
theorem cells_one (c : UInt8) : Lib.byteCells [c] = [.int .u8 (c.toNat : Int)] := rfl
set_option maxRecDepth 100000 in
theorem encode_yes (s : List UInt8) (hs : s.length ≤ 100000) (F P R E U : UInt8) (hr : rtB F P R E U = true) (w : World) :
    Calls Tryd.prog 10 #[.string (Sp.bs s), dv F P R E U] w fun e w' => e = .returned (.tuple #[.string (Sp.bs (Sp.enc F P R E U s)), .int .i64 0]) ∧ Below w.heap.size w w' := by
  have huD := Tryd.underlying23
  have hz := Sp.bs_size s
  have hB0 : Below w.heap.size w (w.alloc (.cells #[.int .u8 (F.toNat : Int), .int .u8 (P.toNat : Int), .int .u8 (R.toNat : Int), .int .u8 (E.toNat : Int), .int .u8 (U.toNat : Int)] 23)) := (Below.refl _ _).alloc (Nat.le_refl _) _
  have f0 := Dl.Five.new (F.toNat : Int) (P.toNat : Int) (R.toNat : Int) (E.toNat : Int) (U.toNat : Int) w
  have hc0 := f0.cells
  have Hr := fun w => Lib.hid (right_calls F P R E U w)
  rw [hr] at Hr
  clear hr
  go_enter Tryd.func10, Tryd.ntmps10
  go_wp2_with fail
  refine (Hr _).out.mono ?_
  rintro e w1 ⟨rfl, b1⟩
  have hB1 := Lib.hid (step hB0 b1)
  have f1 := f0.below b1 f0.lt
  have hc1 := f1.cells
  clear hc0 f0 hB0 b1 Hr
  go_wp2_with fail
  refine (insides_calls F P R E U _).mono ?_
  rintro e w2 ⟨b, rfl, ht, hbb, b2⟩
  have hB2 := Lib.hid (step hB1.out b2)
  have f2 := f1.below b2 f1.lt
  have Ht := Lib.hid ht
  have hbl := ht.lt
  have hgl := f2.lt
  have hnb := Lib.hid (newB w2)
  have hBn := Lib.hid (hB2.out.alloc hB2.out.size (.cells #[.pointer none, .slice none 0 0] 45))
  have hal := (Below.refl w2.heap.size w2).alloc (Nat.le_refl _) (.cells #[.pointer none, .slice none 0 0] 45)
  have ft := Lib.hid (f2.below hal hgl)
  have Ht3 := Lib.hid (Tells.low Ht.out hal hbl)
  have hsz : w2.heap.size < (w2.alloc (.cells #[.pointer none, .slice none 0 0] 45)).heap.size := by rw [World.size_alloc]; exact Nat.lt_succ_self _
  have hwB := hB2.out.size
  clear hc1 f1 f2 hB1 b2 ht Ht hal hB2
  go_wp2_with fail
  generalize (w2.alloc (.cells #[.pointer none, .slice none 0 0] 45)) = W at *
  generalize w2.heap.size = B at *
  generalize hg : w.heap.size = g at *
  have Hg := Lib.hid hg
  clear hg
  go_loopw [8, 9, 10, 18] (fun _ _ _ i wr => ∃ k : Nat, k ≤ s.length ∧ i = .int .i64 k ∧ Hid (Lib.IsBuilder 45 5 B B (Lib.byteCells (Sp.enc F P R E U (s.take k))) wr) ∧ Hid (Tells wr b 8 (Sp.ins F P R E U)) ∧ Hid (FV g F P R E U wr) ∧ B < wr.heap.size ∧ Hid (Below g w wr)) (fun _ _ _ i _ => s.length - (intOf i).toNat)
  case atStart => exact ⟨0, by omega, rfl, hnb, Ht3, ft, hsz, hBn⟩
  case round =>
    obtain ⟨k, hk, rfl, hbd, Ht4, ft4, hsz4, hB4⟩ := hrel
    clear hnb Ht3 ft hsz hBn
    by_cases hlt : k < s.length
    · obtain ⟨c, hc⟩ : ∃ c, s[k]? = some c := ⟨_, List.getElem?_eq_getElem hlt⟩
      have hck := bs_at hc
      have c0 : (0 : Int) ≤ (k : Int) := by omega
      have c1 : (k : Int) < (s.length : Int) := by omega
      have hw1 : IntKind.i64.wrap ((k : Int) + 1) = (k : Int) + 1 := IntWalk.i64_in _ (by omega)
      have hsn := Sp.enc_snoc F P R E U (s.take k) c
      rw [show s.take k ++ [c] = s.take (k + 1) by rw [List.take_add_one, hc]; rfl] at hsn
      have hel := (Sp.enc_len F P R E U (s.take k)).2
      have htl : (s.take k).length ≤ 100000 := by rw [List.length_take]; omega
      generalize hen : Sp.enc F P R E U (s.take k) = en at *
      have hbl2 : (Lib.byteCells en).length ≤ 500000 := by rw [Lib.byteCells_length]; omega
      clear hen hel htl
      cases hi : Sp.ins F P R E U c with
      | none =>
        rw [Sp.encB_none hi] at hsn
        have Hsn := Lib.hid hsn
        clear hsn hc
        go_wp2_with (refine Mp.wp_look _ rfl (.tmp 22) (.tmp 25) rfl _ _ _ rfl Ht4.out c rfl ?_)
        refine (Bd.writeByte B B _ (c.toNat : Int) _ hbd.out (by omega) (by omega)).mono ?_
        rintro e w4 ⟨rfl, h4, b4⟩
        clear hi
        have hbd5 := Lib.hid h4
        have Ht5 := Lib.hid (Tells.low Ht4.out b4 hbl)
        have ft5 := Lib.hid (Dl.Five.below ft4.out b4 hgl)
        have hB5 := Lib.hid (hB4.out.trans (b4.mono hwB))
        have hs5 := b4.size
        clear h4 b4 hbd Ht4 ft4 hB4
        go_wp2_with fail
        go_roundw
        case rel => exact ⟨k + 1, by omega, by go_num, by rw [Hsn.out, cells_app, cells_one]; exact .inr hbd5.out, Ht5, ft5, by omega, hB5⟩
        case measure => simp [intOf]; omega
      | some x =>
        have hxl := (Sp.ins_an hi).2.2
        have hx3 : (Lib.byteCells x).length ≤ 3 := by rw [Lib.byteCells_length]; exact hxl
        rw [Sp.encB_some hi] at hsn
        have Hsn := Lib.hid hsn
        have hc4 := ft4.out.cells
        clear hsn hc
        go_wp2_with (refine Mp.wp_look _ rfl (.tmp 22) (.tmp 25) rfl _ _ _ rfl Ht4.out c rfl ?_)
        clear hi
        refine (Bd.writeByte B B _ (E.toNat : Int) _ hbd.out (by omega) (by omega)).mono ?_
        rintro e w4 ⟨rfl, h4, b4⟩
        have hbd5 := Lib.hid h4
        have Ht5 := Lib.hid (Tells.low Ht4.out b4 hbl)
        have ft5 := Lib.hid (Dl.Five.below ft4.out b4 hgl)
        have hB5 := Lib.hid (hB4.out.trans (b4.mono hwB))
        have hs5 := b4.size
        clear h4 b4 hbd Ht4 ft4 hB4 hc4
        go_wp2_with fail
        refine (Bd.writeString B B _ (Sp.bs x) _ (.inr hbd5.out) (by rw [List.length_append, List.length_singleton, Sp.bs_size]; omega) (by omega)).mono ?_
        rintro e w5 ⟨rfl, h5, b5⟩
        have hbd6 := Lib.hid h5
        have Ht6 := Lib.hid (Tells.low Ht5.out b5 hbl)
        have ft6 := Lib.hid (Dl.Five.below ft5.out b5 hgl)
        have hB6 := Lib.hid (hB5.out.trans (b5.mono hwB))
        have hs6 := b5.size
        have hc6 := ft6.out.cells
        clear h5 b5 hbd5 Ht5 ft5 hB5
        go_wp2_with fail
        refine (Bd.writeByte B B _ (E.toNat : Int) _ (.inr hbd6.out) (by rw [List.length_append, List.length_append, List.length_singleton, cells_str]; omega) (by omega)).mono ?_
        rintro e w6 ⟨rfl, h6, b6⟩
        have hbd7 := Lib.hid h6
        have Ht7 := Lib.hid (Tells.low Ht6.out b6 hbl)
        have ft7 := Lib.hid (Dl.Five.below ft6.out b6 hgl)
        have hB7 := Lib.hid (hB6.out.trans (b6.mono hwB))
        have hs7 := b6.size
        clear h6 b6 hbd6 Ht6 ft6 hB6 hc6
        go_wp2_with fail
        go_roundw
        case rel => exact ⟨k + 1, by omega, by go_num, by
          rw [Hsn.out, ← List.append_assoc, ← List.append_assoc, cells_app, cells_app, cells_app, cells_one, ← cells_str]
          exact .inr hbd7.out, Ht7, ft7, by omega, hB7⟩
        case measure => simp [intOf]; omega
    · obtain rfl : k = s.length := by omega
      rw [List.take_length] at hbd
      have c1 : ¬ (s.length : Int) < (s.length : Int) := by omega
      have Hs := Lib.hid (Tryd.Builder_String_any B B _ wr hbd.out (by omega))
      go_wp2_with fail
      refine Hs.out.mono ?_
      rintro e w4 ⟨rfl, b4⟩
      go_wp2_with fail
      go_ret2
      have hfin := hB4.out.trans (b4.mono hwB)
      rw [← Hg.out] at hfin
      exact ⟨rfl, hfin⟩
end Es
end Go.Proofs.YtkiloebfjooogaaDoor
