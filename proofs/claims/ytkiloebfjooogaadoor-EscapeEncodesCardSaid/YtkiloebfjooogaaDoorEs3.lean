/-
  A part of the proof of this seat's laws: what an escape's inside tells.
-/
import Derived.Test.YtkiloebfjooogaaDoorEp7
import Derived.Shelf.Strings.SlTrimAscii
import Derived.Lib.RabinKarpLaws
namespace Go.Proofs.YtkiloebfjooogaaDoor
set_option linter.unusedVariables false
set_option linter.unusedSimpArgs false
open Go.RowKit Go.Shelf
namespace Es
open Ap Mp Sg
set_option maxHeartbeats 2000000
theorem step {w a b : World} (h : Below w.heap.size w a) (hb : Below a.heap.size a b) : Below w.heap.size w b := h.trans (hb.mono h.size)
theorem ppu16 (x y : UInt8) (va vb : Nat) (hx : Sp.hdv x = some va) (hy : Sp.hdv y = some vb) (w : World) :
    Calls Tryd.prog 36 #[.string (Sp.bs [x, y]), .int .i64 16, .int .i64 8] w fun e w' => e = .returned (.tuple #[.int .u64 (16 * (va : Int) + vb), .nilIface]) ∧ Below w.heap.size w w' := by
  have H := Lib.hid (pu16 x y va vb hx hy w)
  go_enter Tryd.func36, Tryd.ntmps36
  go_wp2_with fail
  refine H.out.mono ?_
  rintro e w' ⟨rfl, hb⟩
  go_wp2_with fail
  go_ret2
  exact ⟨rfl, hb⟩
set_option maxRecDepth 100000 in
theorem trim_calls (h : List UInt8) (hl : h.length ≤ 100000) (w : World) :
    Calls Tryd.prog 35 #[.string (Sp.bs h), .string ⟨#[48, 49, 50, 51, 52, 53, 54, 55, 56, 57, 65, 66, 67, 68, 69, 70]⟩] w fun e w' => e = .returned (.string (Sp.bs (Lib.trimS h Sp.digs))) ∧ Below w.heap.size w w' := by
  have h116 : (Tryd.prog.info? 73).map (fun i => (i.zero, i.size)) = some (some (.agg (Array.replicate 256 (.bool false))), 256) := by kernel_rfl
  have := Any.strings_Trim_laid Tryd.lays160 h116 (Sp.bs h) ⟨#[48, 49, 50, 51, 52, 53, 54, 55, 56, 57, 65, 66, 67, 68, 69, 70]⟩ w (by rw [Sp.bs_size]; omega) (by decide) (ascii_of_all (by decide))
  rw [Sp.bs_list] at this
  exact this
theorem cutX (x : List UInt8) (w : World) : Calls Tryd.prog 34 #[.string (Sp.bs x), .string ⟨#[88]⟩] w fun e w' => e = .returned (.tuple #[.string (Sp.bs (Lib.trimPrefix x [88])), .bool (Lib.hasPrefix x [88])]) ∧ w' = w := by
  have := Tryd.strings_CutPrefix (Sp.bs x) ⟨#[88]⟩ w
  rw [Sp.bs_list] at this
  exact this
theorem cutX_yes (h : List UInt8) (w : World) : Calls Tryd.prog 34 #[.string (Sp.bs (88 :: h)), .string ⟨#[88]⟩] w fun e w' => e = .returned (.tuple #[.string (Sp.bs h), .bool true]) ∧ w' = w := by
  have := cutX (88 :: h) w
  rwa [show Lib.hasPrefix (88 :: h) [88] = true by simp [Lib.hasPrefix], show Lib.trimPrefix (88 :: h) [88] = h by simp [Lib.trimPrefix, Lib.hasPrefix]] at this
theorem cutX_no (x : List UInt8) (hx : x.head? ≠ some 88) (w : World) : Calls Tryd.prog 34 #[.string (Sp.bs x), .string ⟨#[88]⟩] w fun e w' => e = .returned (.tuple #[.string (Sp.bs x), .bool false]) ∧ w' = w := by
  have := cutX x w
  have e : Lib.hasPrefix x [88] = false := by
    cases x with
    | nil => rfl
    | cons a l =>
      have h1 : ((88 : UInt8) == a) = false := by rw [beq_eq_false_iff_ne]; intro e; exact hx (by rw [← e]; rfl)
      show (((88 : UInt8) == a) && _) = false
      rw [h1]; rfl
  rwa [e, show Lib.trimPrefix x [88] = x by unfold Lib.trimPrefix; rw [e]; simp] at this
theorem infoB : (Tryd.prog.info? 5).map (fun i => (i.zero, i.size, i.bytes)) = some (some (.int .u8 0), 1, 1) := by kernel_rfl
/-- bytes as values -/
abbrev vb (l : List UInt8) : List Value := l.map fun b => .int .u8 (b.toNat : Int)
theorem mine_text {w : World} {base : Nat} {A : Option Addr} {C : Nat} {t : List UInt8} (h : Mine w base A t.length C (vb t)) (h0 : t ≠ []) :
    (convert 31 9 (.slice A t.length C)).run Tryd.prog w = .ok (.string (Sp.bs t)) w := by
  obtain ⟨g, rfl, hg, hlt, hc⟩ := h.cell (List.length_pos_iff.2 h0)
  have := run_convert_bytes_back (P := Tryd.prog) w 31 9 5 ⟨g, 0, none⟩ C t Tryd.underlying31 Tryd.underlying5 Tryd.underlying9 (fun j hj => by
    rw [Addr.add_lit]
    exact hc j _ (by rw [List.getElem?_map, List.getElem?_eq_getElem hj]; rfl))
  exact this
/-- a pair of digits ahead -/
theorem unhex_pair {rest t : List UInt8} (h : Sp.unhex rest = some t) (h0 : rest ≠ []) : ∃ (a b z : UInt8) (l r : List UInt8) (va vb : Nat), rest = a :: b :: l ∧ t = z :: r ∧ Sp.unhex l = some r ∧ Sp.hdv a = some va ∧ Sp.hdv b = some vb ∧ 16 * (va : Int) + vb = (z.toNat : Int) := by
  match rest, h0 with
  | [_], _ => simp [Sp.unhex] at h
  | a :: b :: l, _ =>
    unfold Sp.unhex at h
    split at h
    · rename_i va vb r h1 h2 h3
      have e := (Option.some.inj h).symm
      have l1 := Sp.hdv_le h1
      have l2 := Sp.hdv_le h2
      refine ⟨a, b, _, l, r, va, vb, rfl, e, h3, h1, h2, ?_⟩
      rw [UInt8.toNat_ofNat']
      omega
    · cases h
section
variable (x : List UInt8) (F P R E U : UInt8)
/-- the shape of the loop over the map: nothing so far -/
theorem name_no {D : DataW Unit} (hD : (∀ c, Maps.has D (kb c) = (Sp.ins F P R E U c).isSome) ∧ ∀ c y, Sp.ins F P R E U c = some y → ∀ z, D.atKey (kb c) z = el y) {c : Int} {s : ByteArray} (hwf : (Lit.int .u8 c).wf = true) (hat : ∀ z, D.atKey (.int .u8 c) z = el s.data.toList) :
    ∃ (a : UInt8) (y : List UInt8), c = (a.toNat : Int) ∧ s = Sp.bs y ∧ Sp.ins F P R E U a = some y := by
  have hc : 0 ≤ c ∧ c ≤ 255 := by
    have h : (decide (IntKind.u8.min ≤ c) && decide (c ≤ IntKind.u8.max)) = true := hwf
    rw [Bool.and_eq_true, decide_eq_true_eq, decide_eq_true_eq] at h
    exact h
  obtain ⟨a, rfl⟩ : ∃ a : UInt8, c = (a.toNat : Int) := ⟨UInt8.ofNat c.toNat, by simp [UInt8.toNat_ofNat]; omega⟩
  cases hi : Sp.ins F P R E U a with
  | none =>
    have hh := hD.1 a
    rw [hi] at hh
    have h1 := hat (el [])
    have h2 := hat (el [0])
    rw [Maps.atKey_of_not_has hh] at h1 h2
    simp only [el, DataW.lit.injEq, Lit.string.injEq] at h1 h2
    rw [← h1] at h2
    cases h2
  | some y =>
    have h1 := hat (el [])
    rw [hD.2 a y hi] at h1
    simp only [el, DataW.lit.injEq, Lit.string.injEq] at h1
    exact ⟨a, y, rfl, by rw [h1, Sp.bs_data], hi⟩
end
set_option maxHeartbeats 4000000 in
set_option maxRecDepth 100000 in
theorem tell_calls (x : List UInt8) (hx : x.length ≤ 100000) (F P R E U : UInt8) (r : Sp.Rt F P R E U) (w : World) :
    Calls Tryd.prog 24 #[.string (Sp.bs x), dv F P R E U] w fun e w' => e = .returned (.tuple #[.string (Sp.bs ((Sp.tell F P R E U x).getD [])), .bool (Sp.tell F P R E U x).isSome]) ∧ Below w.heap.size w w' := by
  have huD := Tryd.underlying23
  obtain ⟨i0, hi, hz0, hz1, hz2⟩ := info_parts infoB
  have hzx := Sp.bs_size x
  have hB0 : Below w.heap.size w (w.alloc (.cells #[.int .u8 (F.toNat : Int), .int .u8 (P.toNat : Int), .int .u8 (R.toNat : Int), .int .u8 (E.toNat : Int), .int .u8 (U.toNat : Int)] 23)) := (Below.refl _ _).alloc (Nat.le_refl _) _
  have f0 := Dl.Five.new (F.toNat : Int) (P.toNat : Int) (R.toNat : Int) (E.toNat : Int) (U.toNat : Int) w
  have hc0 := f0.cells
  obtain ⟨tv, htv⟩ : ∃ tv, tv = Sp.tell F P R E U x := ⟨_, rfl⟩
  rw [← htv]
  have Htv := Lib.hid htv
  clear htv
  go_enter Tryd.func24, Tryd.ntmps24
  go_wp2_with fail
  refine (insides_calls F P R E U _).mono ?_
  rintro e w1 ⟨b, rfl, ht, hbb, b1⟩
  have hB1 := Lib.hid (step hB0 b1)
  obtain ⟨D, hown, hD⟩ := ht
  have HD := Lib.hid hD
  clear hc0 f0 hB0 b1 hD
  go_wp2_with (at_range; refine wpList_range_own _ rfl _ 41 rfl 5 9 law Tryd.underlying41 _ b 8 D rfl hown ?_; intro w2 hrg hg2 hs2)
  go_frame
  have hB2 := Lib.hid (hB1.out.grown hg2 hB1.out.size (fun k hk => by cases hk))
  have hq := hB1.out.size
  generalize w1.heap.size = q at *
  clear hown hg2 hs2 hB1
  go_loopw [6, 7, 16, 17, 18, 19, 20, 21, 22, 23] (fun _ _ _ _ _ _ _ _ _ _ wr => ∃ left cnt, wr.ranges Tryd.prog 5 Mp.R b q 8 D left cnt ∧ Hid (∀ c, Sp.ins F P R E U c = some x → left (kb c) = true) ∧ Hid (Below w.heap.size w wr)) (fun _ _ _ _ _ _ _ _ _ _ wr => wr.rangeLeft b q)
  case atStart => exact ⟨_, _, hrg, Lib.hid (fun c hc => by rw [HD.out.1, hc]; rfl), hB2⟩
  case round =>
    obtain ⟨left, cnt, hrg2, hleft, hB3⟩ := hrel
    clear hrg hB2
    go_wp2_with (at_next; refine wpList_next_ranges_is _ rfl _ rfl 5 9 .u8 law Tryd.underlying5 Tryd.underlying9 b q 8 _ _ _ rfl hrg2 ?_ ?_)
    · intro hcnt hl0
      have hinv : Sp.inv F P R E U x = none := by
        cases hi2 : Sp.inv F P R E U x with
        | none => rfl
        | some c =>
          have := hleft.out c (Sp.inv_ins r hi2)
          rw [hl0] at this
          cases this
      have Htv2 : Hid (tv = Sp.hexT x) := Lib.hid (by rw [Htv.out]; unfold Sp.tell; rw [hinv])
      clear hrg2 hleft hl0 hcnt hinv Htv HD
      by_cases hx88 : x.head? = some 88
      · obtain ⟨h, rfl⟩ : ∃ h, x = 88 :: h := by
          cases x with
          | nil => cases hx88
          | cons a l => simp at hx88; exact ⟨l, by rw [hx88]⟩
        have hzh := Sp.bs_size h
        have hlh : h.length ≤ 100000 := by rw [List.length_cons] at hx; omega
        clear hx88 hx hzx
        go_wp2_with fail
        refine (cutX_yes h _).mono ?_
        rintro e w4 ⟨rfl, rfl⟩
        by_cases h0 : h = []
        · subst h0
          have Ht : Hid (tv = none) := Lib.hid (by rw [Htv2.out]; rfl)
          have e0 : Sp.bs [] = (⟨#[]⟩ : ByteArray) := rfl
          rw [e0]
          clear e0 hzh
          go_wp2_with fail
          go_ret2
          rw [Ht.out]
          exact ⟨rfl, hB3.out⟩
        · have g0 : ((Sp.bs h).toList == []) = false := by rw [Sp.bs_toList, beq_eq_false_iff_ne]; exact h0
          have g1 : (Sp.bs h).toList.isEmpty = false := by rw [Sp.bs_toList, List.isEmpty_eq_false_iff]; exact h0
          have Ht2 : Hid (tv = Sp.unhex h) := Lib.hid (by rw [Htv2.out]; show (if (88 : UInt8) = 88 ∧ h ≠ [] then Sp.unhex h else none) = _; rw [if_pos ⟨rfl, h0⟩])
          have hand := Go.Proofs.and_one h.length (by omega)
          have H0 := Lib.hid h0
          clear Htv2 h0
          by_cases hodd : h.length % 2 = 1
          · have g2 : bits BinOp.and IntKind.i64 (h.length : Int) 1 = 1 := by rw [hand, hodd]; rfl
            have Ht : Hid (tv = none) := Lib.hid (by
              rw [Ht2.out]
              cases hu : Sp.unhex h with
              | none => rfl
              | some t => have := (Sp.unhex_dig h t hu).1; omega)
            clear hand hodd
            go_wp2_with fail
            go_ret2
            rw [Ht.out]
            exact ⟨rfl, hB3.out⟩
          · have heven : h.length % 2 = 0 := by omega
            have g2 : bits BinOp.and IntKind.i64 (h.length : Int) 1 = 0 := by rw [hand, heven]; rfl
            have Htr := Lib.hid (trim_calls h hlh)
            have Hte := Lib.hid (Sp.trim_empty h Sp.digs)
            generalize Lib.trimS h Sp.digs = tr at *
            clear hand hodd
            go_wp2_with fail
            refine (Htr.out _).mono ?_
            rintro e w5 ⟨rfl, b5⟩
            have hB5 := Lib.hid (step hB3.out b5)
            clear b5
            by_cases htr : tr = []
            · subst htr
              have hall := Hte.out.1 rfl
              have e0 : Sp.bs [] = (⟨#[]⟩ : ByteArray) := rfl
              rw [e0]
              clear e0 Htr Hte
              obtain ⟨t, ht⟩ := Sp.unhex_some h heven hall
              have Ht : Hid (tv = some t) := Lib.hid (by rw [Ht2.out, ht])
              have Hne : Hid (t ≠ []) := Lib.hid (by
                rintro rfl
                have := Sp.unhex_len ht
                simp at this
                exact H0.out this)
              have Hun := Lib.hid ht
              clear ht hall Ht2 heven g2 g0 g1 H0 hzh
              go_wp2_with fail
              go_loopw [8, 10, 11, 12, 53] (fun v l _ _ _ wr => ∃ (rest done r : List UInt8) (A : Option Addr) (n C : Nat), v = .string (Sp.bs rest) ∧ l = .slice A n C ∧ rest.length ≤ 100000 ∧ n + rest.length ≤ 100000 ∧ n = done.length ∧
                Hid (Sp.unhex rest = some r) ∧ Hid (t = done ++ r) ∧ Hid (Mine wr w.heap.size A n C (vb done)) ∧ Hid (Below w.heap.size w wr)) (fun v _ _ _ _ _ => match v with | .string s => s.size | _ => 0)
              case atStart => exact ⟨h, [], t, none, 0, 0, rfl, rfl, hlh, by omega, rfl, Hun, Lib.hid rfl, Lib.hid (Mine.nil _ _), hB5⟩
              case round =>
                obtain ⟨rest, done, r', A, n, C, rfl, rfl, hl1, hl2, hn, hun, htd, hm, hBr⟩ := hrel
                clear Hun hB5 hlh
                subst hn
                by_cases hr0 : rest = []
                · subst hr0
                  have hrr : r' = [] := by have := hun.out; simp [Sp.unhex] at this; exact this
                  subst hrr
                  have htd2 : t = done := by have := htd.out; rwa [List.append_nil] at this
                  subst htd2
                  have hcv := mine_text hm.out Hne.out
                  have e0 : Sp.bs [] = (⟨#[]⟩ : ByteArray) := rfl
                  rw [e0]
                  clear e0 hun htd
                  go_wp2_with fail
                  go_ret2
                  rw [Ht.out]
                  exact ⟨rfl, hBr.out⟩
                · obtain ⟨a, b2, z, l, r2, va, vb2, rfl, rfl, hun2, ha, hb, hz2⟩ := unhex_pair hun.out hr0
                  have hzr := Sp.bs_size (a :: b2 :: l)
                  have hzl := Sp.bs_size l
                  have g0 : ((Sp.bs (a :: b2 :: l)).toList == []) = false := by rw [Sp.bs_toList]; rfl
                  have g1 : (Sp.bs (a :: b2 :: l)).toList.isEmpty = false := by rw [Sp.bs_toList]; rfl
                  have e1 : (Sp.bs (a :: b2 :: l)).extract 0 2 = Sp.bs [a, b2] := by rw [Sp.bs_extract]; rfl
                  have e2 : (Sp.bs (a :: b2 :: l)).extract 2 (Sp.bs (a :: b2 :: l)).size = Sp.bs l := by
                    rw [Sp.bs_extract, Sp.bs_size]; simp
                  rw [List.length_cons, List.length_cons] at hzr hl1 hl2
                  rw [hzr] at e2
                  have c1 : (2 : Int) ≤ (l.length : Int) + 1 + 1 := by omega
                  have c2 : ((l.length + 1 + 1 : Nat) : Int) = (l.length : Int) + 1 + 1 := by omega
                  have Hp : Hid (∀ w, Calls Tryd.prog 36 #[.string (Sp.bs [a, b2]), .int .i64 16, .int .i64 8] w fun e w' => e = .returned (.tuple #[.int .u64 (z.toNat : Int), .nilIface]) ∧ Below w.heap.size w w') := Lib.hid (fun w => by rw [← hz2]; exact ppu16 a b2 va vb2 ha hb w)
                  have z0 : 0 ≤ (z.toNat : Int) := by omega
                  have z1 : (z.toNat : Int) ≤ 255 := by have := z.toNat_lt; omega
                  have hwz : IntKind.u8.wrap (z.toNat : Int) = (z.toNat : Int) := IntWalk.u8_in _ ⟨z0, z1⟩
                  have Hun2 := Lib.hid hun2
                  have htd2 : Hid (t = (done ++ [z]) ++ r2) := Lib.hid (by rw [htd.out]; simp)
                  clear hun htd hr0 hun2 ha hb hz2
                  go_wp2_with fail
                  refine (Hp.out _).mono ?_
                  rintro e w6 ⟨rfl, b6⟩
                  have hB6 := Lib.hid (step hBr.out b6)
                  have hm6 := Lib.hid (hm.out.below b6)
                  have hs6 := hB6.out.size
                  clear b6 hBr hm
                  go_wp2_with (at_builtin; (refine Ap.wpList_append_mine _ rfl (.tmp 59) (.tmp 62) 31 rfl 5 i0 (.int .u8 0) 1 Tryd.underlying31 hi hz0 hz1 hz2 rfl w.heap.size _ _ _ (vb done) rfl ?hm _ _ _ [.int .u8 (z.toNat : Int)] rfl ?hn ?hX ?h1c ?b1 ?b2 ?hbase ?_); (case hm => exact (hm6.out.below ((Below.refl _ _).alloc (Nat.le_refl _) _))); (case hn => rfl); (case hX => exact .inr ⟨_, rfl, one_cell _ _ _ _ rfl⟩); (case h1c => (simp [Value.oneCell'])); (case b1 => (simp only [maxLen]; omega)); (case b2 => omega); (case hbase => (simp; omega)); intro A1 c3 W1 hm1 hb1)
                  go_roundw
                  case rel => exact ⟨l, done ++ [z], r2, _, _, _, rfl, rfl, by omega, by omega, by simp, Hun2, htd2, by rw [show vb (done ++ [z]) = vb done ++ [.int .u8 (z.toNat : Int)] by simp [vb]]; exact hm1, hB6.out.trans (((Below.refl _ _).alloc hs6 _).trans hb1)⟩
                  case measure => simp [hzl, hzr]; omega
            · have g3 : ((Sp.bs tr).toList == []) = false := by rw [Sp.bs_toList, beq_eq_false_iff_ne]; exact htr
              have g4 : (Sp.bs tr).toList.isEmpty = false := by rw [Sp.bs_toList, List.isEmpty_eq_false_iff]; exact htr
              have Ht : Hid (tv = none) := Lib.hid (by
                rw [Ht2.out]
                cases hu : Sp.unhex h with
                | none => rfl
                | some t => exact absurd (Hte.out.2 (Sp.unhex_dig h t hu).2) htr)
              clear Htr Hte htr
              go_wp2_with fail
              go_ret2
              rw [Ht.out]
              exact ⟨rfl, hB5.out⟩
      · have Ht : Hid (tv = none) := Lib.hid (by
          rw [Htv2.out]
          cases x with
          | nil => rfl
          | cons a l =>
            show (if a = 88 ∧ l ≠ [] then Sp.unhex l else none) = none
            rw [if_neg]
            rintro ⟨rfl, -⟩
            exact hx88 rfl)
        have Hcx := Lib.hid (cutX_no x hx88)
        clear hx88 Htv2
        go_wp2_with fail
        refine (Hcx.out _).mono ?_
        rintro e w4 ⟨rfl, rfl⟩
        go_wp2_with fail
        go_ret2
        rw [Ht.out]
        exact ⟨rfl, hB3.out⟩
    · intro c s w3 cnt1 hwx hwc hlx hat hrg3 hlt hg3 hs3 hen
      obtain ⟨a, y, rfl, rfl, hay⟩ := name_no F P R E U HD.out hwx hat
      have hB4 := Lib.hid (hB3.out.grown hg3 hB3.out.size (fun k hk => by cases hk; omega))
      by_cases hxy : x = y
      · subst hxy
        have he1 : ((Sp.bs x).toList == (Sp.bs x).toList) = true := by simp
        have hsign := run_sign
        have Ht : Hid (tv = some [a]) := Lib.hid (by rw [Htv.out]; unfold Sp.tell; rw [Sp.ins_inv hay])
        clear hay hwx hwc hlx hat hrg3 hlt hg3 hs3 hrg2 hleft HD Htv
        go_wp2_with fail
        go_ret2
        rw [Ht.out]
        exact ⟨rfl, hB4.out.alloc hB4.out.size _⟩
      · have he1 : ((Sp.bs x).toList == (Sp.bs y).toList) = false := by rw [Sp.bs_toList, Sp.bs_toList, beq_eq_false_iff_ne]; exact hxy
        have hl2 : Hid (∀ c, Sp.ins F P R E U c = some x → (fun z => left z && !z.sameKey (kb a)) (kb c) = true) := Lib.hid (fun c hc => by
          have h1 := hleft.out c hc
          have hca : kb c ≠ kb a := fun e => by
            have := kb_inj e
            subst this
            rw [hay] at hc
            exact hxy (Option.some.inj hc).symm
          show (left (kb c) && !(kb c).sameKey (kb a)) = true
          rw [h1, Maps.sameKey_ne hca]; rfl)
        have H3 := Lib.hid (And.intro hrg3 (And.intro hlt hrg2.left_eq))
        clear hay hwx hwc hlx hat hrg3 hlt hg3 hs3 hrg2 hleft
        go_wp2_with fail
        go_roundw
        case rel => exact ⟨_, _, H3.out.1, hl2, hB4⟩
        case measure => rw [H3.out.1.left_eq, H3.out.2.2]; exact H3.out.2.1
end Es
end Go.Proofs.YtkiloebfjooogaaDoor
