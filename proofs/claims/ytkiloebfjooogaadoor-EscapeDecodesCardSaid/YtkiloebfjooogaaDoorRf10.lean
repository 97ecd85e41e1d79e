/-
  A part of the proof of this seat's laws: the reference's decoded texts.
-/
import Derived.Test.YtkiloebfjooogaaDoorRf9
namespace Go.Proofs.YtkiloebfjooogaaDoor
set_option linter.unusedVariables false
set_option linter.unusedSimpArgs false
open Go.RowKit Go.Shelf
namespace Sp
theorem decF_char {tl : List UInt8 → Option (List UInt8)} {c e : UInt8} {l out : List UInt8} {a : Nat} (h : c ≠ e) : decF tl false (cutL e (c :: l)) out a = decF tl false (cutL e l) (out ++ [c]) (a + 1) := by
  rw [cutL_other l h]
  have h0 := cutL_ne e l
  cases hc : cutL e l with
  | nil => exact (h0 hc).elim
  | cons hd tl' =>
    rw [List.headD_cons, List.tail_cons, decF_text, decF_text]
    rw [show out ++ c :: hd = out ++ [c] ++ hd by simp, show a + (c :: hd).length = a + 1 + hd.length by simp; omega]
theorem decF_open {tl : List UInt8 → Option (List UInt8)} {e : UInt8} {l out : List UInt8} {a : Nat} (h : e ∉ l) : decF tl false (cutL e (e :: l)) out a = .error a := by
  rw [cutL_eq l rfl, cutL_none h, decF_text, decF_last]; simp
theorem decF_esc {tl : List UInt8 → Option (List UInt8)} {e : UInt8} {y l out : List UInt8} {a : Nat} (h : e ∉ y) : decF tl false (cutL e (e :: (y ++ e :: l))) out a = match tl y with
    | none => .error a
    | some t => decF tl false (cutL e l) (out ++ t) (a + y.length + 2) := by
  rw [cutL_eq _ rfl, cutL_mid, cutL_none h, decF_text]
  cases ht : tl y with
  | none => show decF tl true (y :: cutL e l) (out ++ []) (a + 0) = _; rw [decF_none ht]; simp
  | some t =>
    show decF tl true (y :: cutL e l) (out ++ []) (a + 0) = _
    rw [decF_some ht (cutL_ne e l)]; simp
end Sp
namespace Es
open Ap Mp Sg
set_option maxHeartbeats 8000000
set_option maxRecDepth 100000 in
theorem rdecode_calls (s : List UInt8) (hs : s.length ≤ 100000) (F P R E U : UInt8) (w : World) :
    Calls Tryd.prog 15 #[.string (Sp.bs s), dv F P R E U] w fun e w' => e = .returned (Sp.decV (Sp.dec F P R E U s) s.length) ∧ Below w.heap.size w w' := by
  have huD := Tryd.underlying23
  have hz := Sp.bs_size s
  have k0 : Kp w w.heap.size F P R E U (w.alloc (.cells #[.int .u8 (F.toNat : Int), .int .u8 (P.toNat : Int), .int .u8 (R.toNat : Int), .int .u8 (E.toNat : Int), .int .u8 (U.toNat : Int)] 23)) := ⟨(Below.refl _ _).alloc (Nat.le_refl _) _, Dl.Five.new (F.toNat : Int) (P.toNat : Int) (R.toNat : Int) (E.toNat : Int) (U.toNat : Int) w⟩
  have K0 := Lib.hid k0
  obtain ⟨res, hres⟩ : ∃ res, res = Sp.dec F P R E U s := ⟨_, rfl⟩
  rw [← hres]
  have Hres : Hid (Sp.decF (Sp.tell F P R E U) false (Sp.cutL E (s.drop 0)) [] 0 = res) := Lib.hid (by rw [hres]; rfl)
  clear k0 hres
  go_enter Tryd.func15, Tryd.ntmps15
  go_wp2_with fail
  go_loopw [7, 8, 9, 10, 11] (fun o i _ _ _ wr => ∃ (k : Nat) (out : List UInt8), k ≤ s.length ∧ i = .int .i64 k ∧ o = .string (Sp.bs out) ∧ out.length ≤ k ∧ Hid (Sp.decF (Sp.tell F P R E U) false (Sp.cutL E (s.drop k)) out k = res) ∧ Hid (Kp w w.heap.size F P R E U wr)) (fun _ i _ _ _ _ => s.length - (intOf i).toNat)
  case atStart => exact ⟨0, [], by omega, rfl, rfl, by simp, Hres, K0⟩
  case round =>
    obtain ⟨k, out, hk, rfl, rfl, hol, hdec, K1⟩ := hrel
    clear K0 Hres
    by_cases hlt : k < s.length
    · obtain ⟨c, hc⟩ : ∃ c, s[k]? = some c := ⟨_, List.getElem?_eq_getElem hlt⟩
      have hdr : s.drop k = c :: s.drop (k + 1) := by
        rw [List.drop_eq_getElem_cons hlt]
        congr 1
        have := List.getElem?_eq_getElem hlt
        rw [hc] at this
        exact (Option.some.inj this).symm
      have hck := bs_at hc
      have c0 : (0 : Int) ≤ (k : Int) := by omega
      have c1 : (k : Int) < (s.length : Int) := by omega
      have c2 : (k : Int) ≤ (k : Int) + 1 := by omega
      have c3 : (k : Int) + 1 ≤ (s.length : Int) := by omega
      have c4 : (0 : Int) ≤ (k : Int) + 1 := by omega
      have hw1 : IntKind.i64.wrap ((k : Int) + 1) = (k : Int) + 1 := IntWalk.i64_in _ (by omega)
      have hcls : ∀ x : Qr.In (Kp w w.heap.size F P R E U), x.w.cell? ⟨w.heap.size, 0, none⟩ = some (.int .u8 (F.toNat : Int)) ∧ x.w.cell? ⟨w.heap.size, 1, none⟩ = some (.int .u8 (P.toNat : Int)) ∧ x.w.cell? ⟨w.heap.size, 2, none⟩ = some (.int .u8 (R.toNat : Int)) ∧ x.w.cell? ⟨w.heap.size, 3, none⟩ = some (.int .u8 (E.toNat : Int)) ∧ x.w.cell? ⟨w.heap.size, 4, none⟩ = some (.int .u8 (U.toNat : Int)) := fun x => Dl.Five.cells x.h.2
      have hne : Nonempty (Qr.In (Kp w w.heap.size F P R E U)) := ⟨⟨wr, K1.out⟩⟩
      have hzo := Sp.bs_size out
      by_cases hce : c = E
      · have qe : ((c.toNat : Int) != (E.toNat : Int)) = false := by rw [bne, beq_byte, decide_eq_true hce]; rfl
        subst hce
        have hdec2 := hdec.out
        rw [hdr] at hdec2
        have Hdec := Lib.hid hdec2
        clear hdec hdec2 hdr hc
        go_wp2_with fail
        refine Qr.region_in (S := Kp w w.heap.size F P R c U) (by kernel_rfl) (by kernel_rfl) K1.out.drew ?_
        repeat (go_big_quiet_step (fail))
        refine wpQuiet_nil ?_
        rintro _ ⟨⟨W8, h8⟩, rfl⟩
        have K8 := Lib.hid h8
        clear h8 qe K1 hck
        go_wp2_with fail
        go_loopw [9] (fun v wr => ∃ q : Nat, k + 1 ≤ q ∧ q ≤ s.length ∧ v = .int .i64 q ∧ Hid (c ∉ (s.drop (k + 1)).take (q - (k + 1))) ∧ Hid (Kp w w.heap.size F P R c U wr)) (fun v _ => s.length - (intOf v).toNat)
        case atStart => exact ⟨k + 1, by omega, by omega, by go_num, Lib.hid (by simp), K8⟩
        case round =>
          obtain ⟨q, hq1, hq2, rfl, hfree, K9⟩ := hrel
          clear K8
          have d0 : (0 : Int) ≤ (q : Int) := by omega
          have hwq : IntKind.i64.wrap ((q : Int) + 1) = (q : Int) + 1 := IntWalk.i64_in _ (by omega)
          have hne2 : Nonempty (Qr.In (Kp w w.heap.size F P R c U)) := ⟨⟨wr, K9.out⟩⟩
          by_cases hql : q < s.length
          · obtain ⟨x, hx⟩ : ∃ x, s[q]? = some x := ⟨_, List.getElem?_eq_getElem hql⟩
            have hxk := bs_at hx
            have d1 : (q : Int) < (s.length : Int) := by omega
            have d1' : decide ((q : Int) < (s.length : Int)) = true := decide_eq_true d1
            by_cases hxc : x = c
            · have qx : ((x.toNat : Int) != (c.toNat : Int)) = false := by rw [bne, beq_byte, decide_eq_true hxc]; rfl
              have hne3 : ¬ ((q : Int) = (s.length : Int)) := by omega
              have hne4 : ((q : Int) == (s.length : Int)) = false := by rw [beq_eq_false_iff_ne]; omega
              obtain ⟨y, hy⟩ : ∃ y, y = (s.drop (k + 1)).take (q - (k + 1)) := ⟨_, rfl⟩
              have hyl : y.length = q - (k + 1) := by rw [hy, List.length_take, List.length_drop]; omega
              have hdr2 : s.drop (k + 1) = y ++ c :: s.drop (q + 1) := by
                rw [hy]
                conv => lhs; rw [← List.take_append_drop (q - (k + 1)) (s.drop (k + 1))]
                congr 1
                rw [List.drop_drop, show k + 1 + (q - (k + 1)) = q by omega, List.drop_eq_getElem_cons hql]
                congr 1
                have := List.getElem?_eq_getElem hql
                rw [hx, hxc] at this
                exact (Option.some.inj this).symm
              have hyf : c ∉ y := by rw [hy]; exact hfree.out
              have hdec3 := Hdec.out
              rw [hdr2, Sp.decF_esc hyf] at hdec3
              have Hd3 := Lib.hid hdec3
              have hsub : (Sp.bs s).extract (k + 1) q = Sp.bs y := by
                rw [Sp.bs_extract, hy]
              have d2 : (k : Int) + 1 ≤ (q : Int) := by omega
              have d3 : (q : Int) ≤ (s.length : Int) := by omega
              have Hin := Lib.hid (inside_calls y (by omega) F P R c U)
              have htl := fun t h => Sp.tell_len (F := F) (P := P) (R := R) (E := c) (U := U) (x := y) (t := t) h
              have Htl := Lib.hid htl
              clear hx hxc hdr2 hyf hdec3 hfree Hdec htl hy
              go_wp2_with fail
              refine Qr.region_in (S := Kp w w.heap.size F P R c U) (by kernel_rfl) (by kernel_rfl) K9.out.drew ?_
              repeat (go_big_quiet_step (fail))
              refine wpQuiet_nil ?_
              rintro _ ⟨⟨W9, h9⟩, rfl⟩
              have K10 := Lib.hid h9
              have hne5 : Nonempty (Qr.In (Kp w w.heap.size F P R c U)) := ⟨⟨_, h9⟩⟩
              clear h9 qx K9 hne2 hne
              generalize htv : Sp.tell F P R c U y = tv at *
              have Htv := Lib.hid htv
              clear htv
              go_wp2_with fail
              refine Qr.region_in (S := Kp w w.heap.size F P R c U) (by kernel_rfl) (by kernel_rfl) K10.out.drew ?_
              repeat (go_big_quiet_step ((go_at_call 27; exact Qr.call (Hin.out _) (fun _ _ h hb => h.step hb))))
              refine wpQuiet_nil ?_
              rintro _ ⟨⟨W11, h11⟩, rfl⟩
              have K11 := Lib.hid h11
              clear h11 K10 hcls hne5
              cases tv with
              | none =>
                have Hr : Hid (res = .error k) := Lib.hid Hd3.out.symm
                go_wp2_with fail
                go_ret3
                rw [Hr.out]
                exact ⟨rfl, K11.out.1⟩
              | some t =>
                have hlt2 := Htl.out t rfl
                have hzt := Sp.bs_size t
                have Hr : Hid (Sp.decF (Sp.tell F P R c U) false (Sp.cutL c (s.drop (q + 1))) (out ++ t) (k + y.length + 2) = res) := Lib.hid Hd3.out
                have ha : Sp.bs out ++ Sp.bs t = Sp.bs (out ++ t) := Sp.bs_append _ _
                clear Hd3
                go_wp2_with fail
                go_roundw
                case rel => exact ⟨q + 1, out ++ t, by omega, by go_num, rfl, by rw [List.length_append]; omega, by rw [show q + 1 = k + y.length + 2 by omega]; rw [show q + 1 = k + y.length + 2 by omega] at Hr; exact Hr, K11⟩
                case measure => simp [intOf]; omega
            · have qx : ((x.toNat : Int) != (c.toNat : Int)) = true := by rw [bne, beq_byte, decide_eq_false hxc]; rfl
              have hfree2 : Hid (c ∉ (s.drop (k + 1)).take (q + 1 - (k + 1))) := Lib.hid (by
                rw [show q + 1 - (k + 1) = (q - (k + 1)) + 1 by omega, List.take_add_one, List.getElem?_drop, show k + 1 + (q - (k + 1)) = q by omega, hx, List.mem_append, not_or]
                exact ⟨hfree.out, by simpa using fun e => hxc e.symm⟩)
              clear hx hxc hfree
              go_wp2_with fail
              refine Qr.region_in (S := Kp w w.heap.size F P R c U) (by kernel_rfl) (by kernel_rfl) K9.out.drew ?_
              repeat (go_big_quiet_step (fail))
              refine wpQuiet_nil ?_
              rintro _ ⟨⟨W9, h9⟩, rfl⟩
              have K10 := Lib.hid h9
              clear h9 qx K9 hne2
              go_wp2_with fail
              go_roundw
              case rel => exact ⟨q + 1, by omega, by omega, by go_num, hfree2, K10⟩
              case measure => simp [intOf]; omega
          · obtain rfl : q = s.length := by omega
            have d1' : decide ((s.length : Int) < (s.length : Int)) = false := decide_eq_false (by omega)
            have hf2 : c ∉ s.drop (k + 1) := by
              have := hfree.out
              rwa [List.take_of_length_le (by rw [List.length_drop]; omega)] at this
            have Hr : Hid (res = .error k) := Lib.hid (by rw [← Hdec.out, Sp.decF_open hf2])
            have hee : ((s.length : Int) == (s.length : Int)) = true := by simp
            clear hf2 hfree Hdec
            go_wp2_with fail
            refine Qr.region_in (S := Kp w w.heap.size F P R c U) (by kernel_rfl) (by kernel_rfl) K9.out.drew ?_
            repeat (go_big_quiet_step (fail))
            refine wpQuiet_nil ?_
            rintro _ ⟨⟨W9, h9⟩, rfl⟩
            have K10 := Lib.hid h9
            clear h9 K9 hne2
            go_wp2_with fail
            go_ret3
            rw [Hr.out]
            exact ⟨rfl, K10.out.1⟩
      · have qe : ((c.toNat : Int) != (E.toNat : Int)) = true := by rw [bne, beq_byte, decide_eq_false hce]; rfl
        have hdec2 := hdec.out
        rw [hdr, Sp.decF_char hce] at hdec2
        have Hdec := Lib.hid hdec2
        have hsub : (Sp.bs s).extract k (k + 1) = Sp.bs [c] := by
          rw [Sp.bs_extract]; congr 1
          rw [show k + 1 - k = 1 by omega, List.take_one, List.head?_drop, hc]; rfl
        have hzc : (Sp.bs [c]).size = 1 := Sp.bs_size _
        obtain ⟨o2, ho2⟩ : ∃ o2, o2 = out ++ [c] := ⟨_, rfl⟩
        have ha : Sp.bs out ++ Sp.bs [c] = Sp.bs o2 := by rw [ho2]; exact Sp.bs_append _ _
        have ho3 : o2.length ≤ k + 1 := by rw [ho2, List.length_append, List.length_singleton]; omega
        rw [← ho2] at Hdec
        clear hdec hdec2 hdr hc hce ho2
        go_wp2_with fail
        refine Qr.region_in (S := Kp w w.heap.size F P R E U) (by kernel_rfl) (by kernel_rfl) K1.out.drew ?_
        repeat (go_big_quiet_step (fail))
        refine wpQuiet_nil ?_
        rintro _ ⟨⟨W8, h8⟩, rfl⟩
        have K8 := Lib.hid h8
        clear h8 qe K1 hcls hne
        go_wp2_with fail
        go_roundw
        case rel => exact ⟨k + 1, o2, by omega, by go_num, rfl, ho3, Hdec, K8⟩
        case measure => simp [intOf]; omega
    · obtain rfl : k = s.length := by omega
      have Hr : Hid (res = .ok out) := Lib.hid (by
        have := hdec.out
        rw [List.drop_of_length_le (Nat.le_refl _)] at this
        rw [← this]
        show Sp.decF _ false [[]] out s.length = _
        rw [Sp.decF_text, Sp.decF_end]; simp)
      have c1 : ¬ (s.length : Int) < (s.length : Int) := by omega
      clear hdec
      go_wp2_with fail
      go_ret3
      rw [Hr.out]
      exact ⟨rfl, K1.out.1⟩
end Es
end Go.Proofs.YtkiloebfjooogaaDoor
