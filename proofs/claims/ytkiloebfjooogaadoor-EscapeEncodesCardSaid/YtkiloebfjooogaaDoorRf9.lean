/-
  A part of the proof of this seat's laws: the reference's encoded texts, and what insides tell.
-/
import Derived.Test.YtkiloebfjooogaaDoorRf8
namespace Go.Proofs.YtkiloebfjooogaaDoor
set_option linter.unusedVariables false
set_option linter.unusedSimpArgs false
open Go.RowKit Go.Shelf
namespace Sp
theorem unhex_two {c d : UInt8} {va vb : Nat} (l : List UInt8) (hc : hdv c = some va) (hd : hdv d = some vb) : unhex (c :: d :: l) = (unhex l).map fun t => UInt8.ofNat (16 * va + vb) :: t := by
  rw [unhex, hc, hd]
  cases unhex l <;> rfl
theorem unhex_bad1 {c : UInt8} (d : UInt8) (l : List UInt8) (hc : hdv c = none) : unhex (c :: d :: l) = none := by rw [unhex, hc]
theorem unhex_bad2 {d : UInt8} (c : UInt8) (l : List UInt8) (hd : hdv d = none) : unhex (c :: d :: l) = none := by
  rw [unhex, hd]
  cases hdv c <;> rfl
end Sp
namespace Es
open Ap Mp Sg
set_option maxHeartbeats 8000000
set_option maxRecDepth 100000 in
theorem rencode_calls (s : List UInt8) (hs : s.length ≤ 100000) (F P R E U : UInt8) (hr : rtB F P R E U = true) (w : World) :
    Calls Tryd.prog 17 #[.string (Sp.bs s), dv F P R E U] w fun e w' => e = .returned (.string (Sp.bs (Sp.enc F P R E U s))) ∧ Below w.heap.size w w' := by
  have huD := Tryd.underlying23
  have hz := Sp.bs_size s
  have hsign := run_sign
  have rt := Sp.rt_of hr
  have k0 : Kp w w.heap.size F P R E U (w.alloc (.cells #[.int .u8 (F.toNat : Int), .int .u8 (P.toNat : Int), .int .u8 (R.toNat : Int), .int .u8 (E.toNat : Int), .int .u8 (U.toNat : Int)] 23)) := ⟨(Below.refl _ _).alloc (Nat.le_refl _) _, Dl.Five.new (F.toNat : Int) (P.toNat : Int) (R.toNat : Int) (E.toNat : Int) (U.toNat : Int) w⟩
  have hc0 := Dl.Five.cells k0.2
  have K0 := Lib.hid (k0.step ((Below.refl _ _).alloc (Nat.le_refl _) (.cells #[.int .u8 (E.toNat : Int)] 5)))
  have hsE : (⟨#[E]⟩ : ByteArray) = Sp.bs [E] := rfl
  have hzE : (Sp.bs [E]).size = 1 := Sp.bs_size _
  have hsign0 := run_sign (w.alloc (.cells #[.int .u8 (F.toNat : Int), .int .u8 (P.toNat : Int), .int .u8 (R.toNat : Int), .int .u8 (E.toNat : Int), .int .u8 (U.toNat : Int)] 23)) E
  rw [World.size_alloc] at hsign0
  clear k0 hr
  go_enter Tryd.func17, Tryd.ntmps17
  go_wp2_with fail
  try rw [hsE]
  clear hsE hc0 hsign0
  obtain ⟨es, hes⟩ : ∃ es, es = [E] := ⟨_, rfl⟩
  rw [← hes] at hzE ⊢
  have Hes := Lib.hid hes
  clear hes
  go_loopw [6, 7, 8, 31, 43, 54, 65] (fun o i _ _ _ _ _ wr => ∃ k : Nat, k ≤ s.length ∧ i = .int .i64 k ∧ o = .string (Sp.bs (Sp.enc F P R E U (s.take k))) ∧ Hid (Kp w w.heap.size F P R E U wr)) (fun _ i _ _ _ _ _ _ => s.length - (intOf i).toNat)
  case atStart => exact ⟨0, by omega, rfl, rfl, K0⟩
  case round =>
    obtain ⟨k, hk, rfl, rfl, K1⟩ := hrel
    clear K0
    by_cases hlt : k < s.length
    · obtain ⟨c, hc⟩ : ∃ c, s[k]? = some c := ⟨_, List.getElem?_eq_getElem hlt⟩
      have hck := bs_at hc
      have c0 : (0 : Int) ≤ (k : Int) := by omega
      have c1 : (k : Int) < (s.length : Int) := by omega
      have c2 : (k : Int) ≤ (k : Int) + 1 := by omega
      have c3 : (k : Int) + 1 ≤ (s.length : Int) := by omega
      have c4 : (0 : Int) ≤ (k : Int) + 1 := by omega
      have hw1 : IntKind.i64.wrap ((k : Int) + 1) = (k : Int) + 1 := IntWalk.i64_in _ (by omega)
      have hsn := Sp.enc_snoc F P R E U (s.take k) c
      rw [show s.take k ++ [c] = s.take (k + 1) by rw [List.take_add_one, hc]; rfl] at hsn
      have hel := (Sp.enc_len F P R E U (s.take k)).2
      have htl : (s.take k).length ≤ 100000 := by rw [List.length_take]; omega
      have hsub : (Sp.bs s).extract k (k + 1) = Sp.bs [c] := by
        rw [Sp.bs_extract]; congr 1
        rw [show k + 1 - k = 1 by omega, List.take_one, List.head?_drop, hc]; rfl
      have hzc : (Sp.bs [c]).size = 1 := Sp.bs_size _
      have Hle := Lib.hid (letter_calls c F P R E U)
      have Hnz := Lib.hid (fun h => Sp.ins_letter rt (c := c) h)
      have Hz := Lib.hid (fun h => Sp.ins_zero (F := F) (P := P) (R := R) (E := E) (U := U) (c := c) h)
      have q0 : (((Sp.letterOf F P R E U c).toNat : Int) != 0) = (Sp.letterOf F P R E U c != 0) := by
        have := beq_byte (Sp.letterOf F P R E U c) 0
        rw [bne, bne]
        have h0 : (((Sp.letterOf F P R E U c).toNat : Int) == 0) = decide (Sp.letterOf F P R E U c = 0) := this
        rw [h0]; rfl
      have q1 : ((c.toNat : Int) == 11) = (c == 11) := beq_byte c 11
      have q2 : ((c.toNat : Int) == 13) = (c == 13) := beq_byte c 13
      have q3 : ((c.toNat : Int) == 28) = (c == 28) := beq_byte c 28
      generalize Sp.letterOf F P R E U c = lt at *
      generalize Sp.enc F P R E U (s.take k) = en at *
      have hzn := Sp.bs_size en
      have hnl : en.length ≤ 500000 := by omega
      obtain ⟨n1, hn1⟩ : ∃ n1, n1 = en ++ es := ⟨_, rfl⟩
      have a1 : Sp.bs en ++ Sp.bs es = Sp.bs n1 := by rw [hn1]; exact Sp.bs_append _ _
      have z1 : (Sp.bs n1).size = en.length + 1 := by rw [Sp.bs_size, hn1, List.length_append, Hes.out]; rfl
      have hcls : ∀ x : Qr.In (Kp w w.heap.size F P R E U), x.w.cell? ⟨w.heap.size, 0, none⟩ = some (.int .u8 (F.toNat : Int)) ∧ x.w.cell? ⟨w.heap.size, 1, none⟩ = some (.int .u8 (P.toNat : Int)) ∧ x.w.cell? ⟨w.heap.size, 2, none⟩ = some (.int .u8 (R.toNat : Int)) ∧ x.w.cell? ⟨w.heap.size, 3, none⟩ = some (.int .u8 (E.toNat : Int)) ∧ x.w.cell? ⟨w.heap.size, 4, none⟩ = some (.int .u8 (U.toNat : Int)) := fun x => Dl.Five.cells x.h.2
      have hne : Nonempty (Qr.In (Kp w w.heap.size F P R E U)) := ⟨⟨wr, K1.out⟩⟩
      clear hc hel htl
      go_wp2_with fail
      refine Qr.region_in (S := Kp w w.heap.size F P R E U) (by kernel_rfl) (by kernel_rfl) K1.out.drew ?_
      repeat (go_big_quiet_step ((go_at_call 28; exact Qr.call (Hle.out _) (fun _ _ h hb => h.step hb))))
      refine wpQuiet_nil ?_
      rintro _ ⟨⟨W8, h8⟩, rfl⟩
      have K8 := Lib.hid h8
      clear hcls hne h8
      cases h1 : (lt != 0) with
      | true =>
        have hi := Hnz.out (by simpa using h1)
        rw [Sp.encB_some hi] at hsn
        have Hsn := Lib.hid hsn
        rw [h1] at q0
        have hsl : (⟨#[lt]⟩ : ByteArray) = Sp.bs [lt] := rfl
        obtain ⟨n2, hn2⟩ : ∃ n2, n2 = n1 ++ [lt] := ⟨_, rfl⟩
        obtain ⟨n3, hn3⟩ : ∃ n3, n3 = n2 ++ es := ⟨_, rfl⟩
        have a2 : Sp.bs n1 ++ (⟨#[lt]⟩ : ByteArray) = Sp.bs n2 := by rw [hn2]; exact Sp.bs_append _ [lt]
        have a3 : Sp.bs n2 ++ Sp.bs es = Sp.bs n3 := by rw [hn3]; exact Sp.bs_append _ _
        have z2 : (Sp.bs n2).size = en.length + 2 := by rw [Sp.bs_size, hn2, List.length_append, hn1, List.length_append, Hes.out]; rfl
        have Hn3 : Hid (n3 = Sp.enc F P R E U (s.take (k + 1))) := Lib.hid (by rw [Hsn.out, hn3, hn2, hn1, Hes.out]; simp)
        clear hsl hi hsn h1 hn1 hn2 hn3 q1 q2 q3 Hz Hnz Hle
        go_wp2_with fail
        go_roundw
        case rel => exact ⟨k + 1, by omega, by go_num, by rw [Hn3.out], K8.out.step ((Below.refl _ _).alloc (Nat.le_refl _) _)⟩
        case measure => simp [intOf]; omega
      | false =>
        have hi := Hz.out (by simpa using h1)
        rw [h1] at q0
        clear h1 Hz Hnz Hle
        by_cases g11 : c = 11
        · rw [if_pos g11] at hi
          rw [Sp.encB_some hi] at hsn
          have Hsn := Lib.hid hsn
          rw [show (c == 11) = true by rw [g11]; rfl] at q1
          obtain ⟨n2, hn2⟩ : ∃ n2, n2 = n1 ++ [88, 48, 66] := ⟨_, rfl⟩
          obtain ⟨n3, hn3⟩ : ∃ n3, n3 = n2 ++ es := ⟨_, rfl⟩
          have a2 : Sp.bs n1 ++ (⟨#[88, 48, 66]⟩ : ByteArray) = Sp.bs n2 := by rw [hn2]; exact Sp.bs_append _ [88, 48, 66]
          have a3 : Sp.bs n2 ++ Sp.bs es = Sp.bs n3 := by rw [hn3]; exact Sp.bs_append _ _
          have z2 : (Sp.bs n2).size = en.length + 4 := by rw [Sp.bs_size, hn2, List.length_append, hn1, List.length_append, Hes.out]; rfl
          have Hn3 : Hid (n3 = Sp.enc F P R E U (s.take (k + 1))) := Lib.hid (by rw [Hsn.out, hn3, hn2, hn1, Hes.out]; simp)
          clear hi hsn hn1 hn2 hn3 g11
          go_wp2_with fail
          go_roundw
          case rel => exact ⟨k + 1, by omega, by go_num, by rw [Hn3.out], K8⟩
          case measure => simp [intOf]; omega
        rw [if_neg g11] at hi
        rw [show (c == 11) = false by rw [beq_eq_false_iff_ne]; exact g11] at q1
        by_cases g13 : c = 13
        · rw [if_pos g13] at hi
          rw [Sp.encB_some hi] at hsn
          have Hsn := Lib.hid hsn
          rw [show (c == 13) = true by rw [g13]; rfl] at q2
          obtain ⟨n2, hn2⟩ : ∃ n2, n2 = n1 ++ [88, 48, 68] := ⟨_, rfl⟩
          obtain ⟨n3, hn3⟩ : ∃ n3, n3 = n2 ++ es := ⟨_, rfl⟩
          have a2 : Sp.bs n1 ++ (⟨#[88, 48, 68]⟩ : ByteArray) = Sp.bs n2 := by rw [hn2]; exact Sp.bs_append _ [88, 48, 68]
          have a3 : Sp.bs n2 ++ Sp.bs es = Sp.bs n3 := by rw [hn3]; exact Sp.bs_append _ _
          have z2 : (Sp.bs n2).size = en.length + 4 := by rw [Sp.bs_size, hn2, List.length_append, hn1, List.length_append, Hes.out]; rfl
          have Hn3 : Hid (n3 = Sp.enc F P R E U (s.take (k + 1))) := Lib.hid (by rw [Hsn.out, hn3, hn2, hn1, Hes.out]; simp)
          clear hi hsn hn1 hn2 hn3 g13
          go_wp2_with fail
          go_roundw
          case rel => exact ⟨k + 1, by omega, by go_num, by rw [Hn3.out], K8⟩
          case measure => simp [intOf]; omega
        rw [if_neg g13] at hi
        rw [show (c == 13) = false by rw [beq_eq_false_iff_ne]; exact g13] at q2
        by_cases g28 : c = 28
        · rw [if_pos g28] at hi
          rw [Sp.encB_some hi] at hsn
          have Hsn := Lib.hid hsn
          rw [show (c == 28) = true by rw [g28]; rfl] at q3
          obtain ⟨n2, hn2⟩ : ∃ n2, n2 = n1 ++ [88, 49, 67] := ⟨_, rfl⟩
          obtain ⟨n3, hn3⟩ : ∃ n3, n3 = n2 ++ es := ⟨_, rfl⟩
          have a2 : Sp.bs n1 ++ (⟨#[88, 49, 67]⟩ : ByteArray) = Sp.bs n2 := by rw [hn2]; exact Sp.bs_append _ [88, 49, 67]
          have a3 : Sp.bs n2 ++ Sp.bs es = Sp.bs n3 := by rw [hn3]; exact Sp.bs_append _ _
          have z2 : (Sp.bs n2).size = en.length + 4 := by rw [Sp.bs_size, hn2, List.length_append, hn1, List.length_append, Hes.out]; rfl
          have Hn3 : Hid (n3 = Sp.enc F P R E U (s.take (k + 1))) := Lib.hid (by rw [Hsn.out, hn3, hn2, hn1, Hes.out]; simp)
          clear hi hsn hn1 hn2 hn3 g28
          go_wp2_with fail
          go_roundw
          case rel => exact ⟨k + 1, by omega, by go_num, by rw [Hn3.out], K8⟩
          case measure => simp [intOf]; omega
        rw [if_neg g28] at hi
        rw [show (c == 28) = false by rw [beq_eq_false_iff_ne]; exact g28] at q3
        rw [Sp.encB_none hi] at hsn
        have Hsn := Lib.hid hsn
        obtain ⟨n2, hn2⟩ : ∃ n2, n2 = en ++ [c] := ⟨_, rfl⟩
        have a2 : Sp.bs en ++ Sp.bs [c] = Sp.bs n2 := by rw [hn2]; exact Sp.bs_append _ _
        have Hn2 : Hid (n2 = Sp.enc F P R E U (s.take (k + 1))) := Lib.hid (by rw [Hsn.out, hn2])
        clear hi hsn hn1 hn2 g11 g13 g28
        go_wp2_with fail
        go_roundw
        case rel => exact ⟨k + 1, by omega, by go_num, by rw [Hn2.out], K8⟩
        case measure => simp [intOf]; omega
    · obtain rfl : k = s.length := by omega
      rw [List.take_length]
      have c1 : ¬ (s.length : Int) < (s.length : Int) := by omega
      go_wp2_with fail
      go_ret
      exact ⟨rfl, K1.out.1⟩
set_option maxRecDepth 100000 in
theorem inside_calls (x : List UInt8) (hx : x.length ≤ 100000) (F P R E U : UInt8) (w : World) :
    Calls Tryd.prog 27 #[.string (Sp.bs x), dv F P R E U] w fun e w' => e = .returned (.tuple #[.string (Sp.bs ((Sp.tell F P R E U x).getD [])), .bool (Sp.tell F P R E U x).isSome]) ∧ Below w.heap.size w w' := by
  have huD := Tryd.underlying23
  have hzx := Sp.bs_size x
  have hsign : ∀ c : UInt8, (convert 31 9 (.slice (some ⟨w.heap.size + 1, 0, none⟩) 1 1)).run Tryd.prog ((w.alloc (.cells #[.int .u8 (F.toNat : Int), .int .u8 (P.toNat : Int), .int .u8 (R.toNat : Int), .int .u8 (E.toNat : Int), .int .u8 (U.toNat : Int)] 23)).alloc (.cells #[.int .u8 (c.toNat : Int)] 5)) = .ok (.string ⟨#[c]⟩) ((w.alloc (.cells #[.int .u8 (F.toNat : Int), .int .u8 (P.toNat : Int), .int .u8 (R.toNat : Int), .int .u8 (E.toNat : Int), .int .u8 (U.toNat : Int)] 23)).alloc (.cells #[.int .u8 (c.toNat : Int)] 5)) := fun c => by
    have := run_sign (w.alloc (.cells #[.int .u8 (F.toNat : Int), .int .u8 (P.toNat : Int), .int .u8 (R.toNat : Int), .int .u8 (E.toNat : Int), .int .u8 (U.toNat : Int)] 23)) c
    rw [World.size_alloc] at this
    exact this
  have k0 : Kp w w.heap.size F P R E U (w.alloc (.cells #[.int .u8 (F.toNat : Int), .int .u8 (P.toNat : Int), .int .u8 (R.toNat : Int), .int .u8 (E.toNat : Int), .int .u8 (U.toNat : Int)] 23)) := ⟨(Below.refl _ _).alloc (Nat.le_refl _) _, Dl.Five.new (F.toNat : Int) (P.toNat : Int) (R.toNat : Int) (E.toNat : Int) (U.toNat : Int) w⟩
  have hc0 := Dl.Five.cells k0.2
  have K0 := Lib.hid k0
  clear k0
  have one : ∀ c : UInt8, ((Sp.bs x).toList == [c]) = decide (x = [c]) := fun c => by
    rw [Sp.bs_toList]
    by_cases h : x = [c]
    · rw [h]; simp
    · rw [decide_eq_false h, beq_eq_false_iff_ne]; exact h
  have q1 := one 70
  have q2 := one 83
  have q3 := one 84
  have q4 := one 82
  have q5 := one 69
  clear one
  by_cases h1 : x = [70]
  · rw [decide_eq_true h1] at q1
    have Ht : Hid (Sp.tell F P R E U x = some [F]) := Lib.hid (by rw [h1]; rfl)
    generalize Sp.tell F P R E U x = tv at *
    clear h1 q2 q3 q4 q5 hzx 
    go_enter Tryd.func27, Tryd.ntmps27
    go_wp2_with fail
    go_ret2
    rw [Ht.out]
    exact ⟨rfl, K0.out.1.alloc K0.out.1.size _⟩
  rw [decide_eq_false h1] at q1
  by_cases h2 : x = [83]
  · rw [decide_eq_true h2] at q2
    have Ht : Hid (Sp.tell F P R E U x = some [P]) := Lib.hid (by rw [h2]; rfl)
    generalize Sp.tell F P R E U x = tv at *
    clear h2 q3 q4 q5 hzx  h1
    go_enter Tryd.func27, Tryd.ntmps27
    go_wp2_with fail
    go_ret2
    rw [Ht.out]
    exact ⟨rfl, K0.out.1.alloc K0.out.1.size _⟩
  rw [decide_eq_false h2] at q2
  by_cases h3 : x = [84]
  · rw [decide_eq_true h3] at q3
    have Ht : Hid (Sp.tell F P R E U x = some [U]) := Lib.hid (by rw [h3]; rfl)
    generalize Sp.tell F P R E U x = tv at *
    clear h3 q4 q5 hzx  h1 h2
    go_enter Tryd.func27, Tryd.ntmps27
    go_wp2_with fail
    go_ret2
    rw [Ht.out]
    exact ⟨rfl, K0.out.1.alloc K0.out.1.size _⟩
  rw [decide_eq_false h3] at q3
  by_cases h4 : x = [82]
  · rw [decide_eq_true h4] at q4
    have Ht : Hid (Sp.tell F P R E U x = some [R]) := Lib.hid (by rw [h4]; rfl)
    generalize Sp.tell F P R E U x = tv at *
    clear h4 q5 hzx  h1 h2 h3
    go_enter Tryd.func27, Tryd.ntmps27
    go_wp2_with fail
    go_ret2
    rw [Ht.out]
    exact ⟨rfl, K0.out.1.alloc K0.out.1.size _⟩
  rw [decide_eq_false h4] at q4
  by_cases h5 : x = [69]
  · rw [decide_eq_true h5] at q5
    have Ht : Hid (Sp.tell F P R E U x = some [E]) := Lib.hid (by rw [h5]; rfl)
    generalize Sp.tell F P R E U x = tv at *
    clear h5  hzx  h1 h2 h3 h4
    go_enter Tryd.func27, Tryd.ntmps27
    go_wp2_with fail
    go_ret2
    rw [Ht.out]
    exact ⟨rfl, K0.out.1.alloc K0.out.1.size _⟩
  rw [decide_eq_false h5] at q5
  obtain ⟨tv, htv⟩ : ∃ tv, tv = Sp.tell F P R E U x := ⟨_, rfl⟩
  rw [← htv]
  have Htv := Lib.hid htv
  clear htv
  have Hshort := Lib.hid (fun h => Sp.tell_short F P R E U h1 h2 h3 h4 h5 h)
  clear h1 h2 h3 h4 h5
  by_cases g1 : x.length < 3
  · have Hn : Hid (tv = none) := Lib.hid (by rw [Htv.out]; exact Hshort.out (.inl g1))
    have c1 : (x.length : Int) < 3 := by omega
    go_enter Tryd.func27, Tryd.ntmps27
    go_wp2_with fail
    go_ret2
    rw [Hn.out]
    exact ⟨rfl, K0.out.1⟩
  have c1 : ¬ (x.length : Int) < 3 := by omega
  by_cases g2 : x.length % 2 = 0
  · have Hn : Hid (tv = none) := Lib.hid (by rw [Htv.out]; exact Hshort.out (.inr (.inl g2)))
    have c2 : (x.length : Int) % 2 = 0 := by omega
    have c3 : ((x.length : Int) % 2 == 0) = true := by rw [c2]; rfl
    clear g2
    go_enter Tryd.func27, Tryd.ntmps27
    go_wp2_with fail
    go_ret2
    rw [Hn.out]
    exact ⟨rfl, K0.out.1⟩
  have c2 : (x.length : Int) % 2 = 1 := by omega
  obtain ⟨a, h, hxe⟩ : ∃ a h, x = a :: h := by
    cases x with
    | nil => simp at g1
    | cons a h => exact ⟨a, h, rfl⟩
  have hx0 : ∀ p, (Sp.bs x)[0]'p = a := bs_at (s := x) (k := 0) (by rw [hxe]; rfl)
  have hlen : x.length = h.length + 1 := by rw [hxe]; rfl
  have qa : ((a.toNat : Int) != 88) = (a != 88) := by
    have := beq_byte a 88
    have h0 : ((a.toNat : Int) == 88) = decide (a = 88) := this
    rw [bne, bne, h0]; rfl
  by_cases g3 : a = 88
  · subst g3
    have h0 : h ≠ [] := by rintro rfl; simp at hlen; omega
    have Ht2 : Hid (tv = Sp.unhex h) := Lib.hid (by rw [Htv.out, hxe]; exact Sp.tell_x F P R E U h0)
    have hw2 : h.length % 2 = 0 := by rw [hlen] at g2; omega
    have hl3 : h.length ≤ 100000 := by rw [hlen] at hx; omega
    have c4 : (0 : Int) < (x.length : Int) := by rw [hlen]; omega
    have qb : (((88 : UInt8).toNat : Int) != 88) = false := rfl
    have hm0 : Hid (Mine ((w.alloc (.cells #[.int .u8 (F.toNat : Int), .int .u8 (P.toNat : Int), .int .u8 (R.toNat : Int), .int .u8 (E.toNat : Int), .int .u8 (U.toNat : Int)] 23)).alloc (.cells #[] 5)) w.heap.size (some ⟨w.heap.size + 1, 0, none⟩) 0 0 []) := Lib.hid (by
      have := mine_lit (w.alloc (.cells #[.int .u8 (F.toNat : Int), .int .u8 (P.toNat : Int), .int .u8 (R.toNat : Int), .int .u8 (E.toNat : Int), .int .u8 (U.toNat : Int)] 23)) w.heap.size #[] 5 K0.out.1.size (by decide)
      rw [World.size_alloc] at this
      exact this)
    have K1 := Lib.hid (Kp.step K0.out ((Below.refl _ _).alloc (Nat.le_refl _) (.cells #[] 5))).1
    obtain ⟨i0, hi, hz0, hz1, hz2⟩ := info_parts infoB
    have Hxe := Lib.hid hxe
    have Hlen := Lib.hid hlen
    clear g1 g2 h0 hxe hlen
    go_enter Tryd.func27, Tryd.ntmps27
    go_wp2_with fail
    go_loopw [6, 7, 8, 9] (fun o i _ _ wr => ∃ (rest done : List UInt8) (A : Option Addr) (C : Nat), i = .int .i64 (1 + 2 * (done.length : Int)) ∧ o = .slice A done.length C ∧ h.length = 2 * done.length + rest.length ∧
      Hid (∃ pre, h = pre ++ rest ∧ pre.length = 2 * done.length) ∧ Hid (tv = (Sp.unhex rest).map fun t => done ++ t) ∧ Hid (Mine wr w.heap.size A done.length C (vb done)) ∧ Hid (Below w.heap.size w wr)) (fun _ i _ _ _ => h.length + 1 - (intOf i).toNat)
    case atStart => exact ⟨h, [], _, 0, rfl, rfl, by simp, Lib.hid ⟨[], rfl, rfl⟩, Lib.hid (by rw [Ht2.out]; cases Sp.unhex h <;> rfl), hm0, K1⟩
    case round =>
      obtain ⟨rest, done, A, C, rfl, rfl, hlr, hpre, htv, hm, K2⟩ := hrel
      clear hm0 K1
      obtain ⟨j, hj⟩ : ∃ j, j = done.length := ⟨_, rfl⟩
      rw [← hj] at hlr hm ⊢
      have Hj := Lib.hid hj
      clear hj
      by_cases hr0 : rest = []
      · subst hr0
        have c5 : ¬ (1 + 2 * (j : Int)) < (x.length : Int) := by have := Hlen.out; simp at hlr; omega
        have hne : done ≠ [] := by
          rintro rfl
          have := Hj.out
          simp at this hlr
          have h6 := Hlen.out
          have : h.length = 0 := by omega
          have h7 := Ht2.out
          omega
        have Ht : Hid (tv = some done) := Lib.hid (by rw [htv.out]; simp [Sp.unhex])
        have hcv : (convert 31 9 (.slice A j C)).run Tryd.prog wr = .ok (.string (Sp.bs done)) wr := by
          have h8 := Hj.out
          subst h8
          exact mine_text hm.out hne
        clear hne hlr hpre htv
        go_wp2_with fail
        go_ret2
        rw [Ht.out]
        exact ⟨rfl, K2.out⟩
      · obtain ⟨c, d, l, rfl⟩ : ∃ c d l, rest = c :: d :: l := by
          match rest, hr0 with
          | [c], _ => simp at hlr; omega
          | c :: d :: l, _ => exact ⟨c, d, l, rfl⟩
        obtain ⟨pre, hp1, hp2⟩ := hpre.out
        have i1 : x[1 + 2 * j]? = some c := by
          rw [Hxe.out, Nat.add_comm, List.getElem?_cons_succ, hp1, List.getElem?_append_right (by have := Hj.out; omega), hp2, ← Hj.out]; simp
        have i2 : x[1 + 2 * j + 1]? = some d := by
          rw [Hxe.out, List.getElem?_cons_succ, hp1, List.getElem?_append_right (by have := Hj.out; omega), hp2, ← Hj.out, show 1 + 2 * j - 2 * j = 1 by omega]; rfl
        have e1 := bs_at i1
        have e2 := bs_at i2
        rw [List.length_cons, List.length_cons] at hlr
        have t1 : ((1 : Int) + 2 * (j : Int)).toNat = 1 + 2 * j := by omega
        have t2 : ((1 : Int) + 2 * (j : Int) + 1).toNat = 1 + 2 * j + 1 := by omega
        have c5 : (0 : Int) ≤ 1 + 2 * (j : Int) := by omega
        have c6 : (1 : Int) + 2 * (j : Int) < (x.length : Int) := by have := Hlen.out; omega
        have c7 : (0 : Int) ≤ 1 + 2 * (j : Int) + 1 := by omega
        have c8 : (1 : Int) + 2 * (j : Int) + 1 < (x.length : Int) := by have := Hlen.out; omega
        have hw3 : IntKind.i64.wrap (1 + 2 * (j : Int) + 1) = 1 + 2 * (j : Int) + 1 := IntWalk.i64_in _ (by omega)
        have hw4 : IntKind.i64.wrap (1 + 2 * (j : Int) + 2) = 1 + 2 * (j : Int) + 2 := IntWalk.i64_in _ (by omega)
        have hpre2 : Hid (∃ pre, h = pre ++ l ∧ pre.length = 2 * (j + 1)) := Lib.hid ⟨pre ++ [c, d], by rw [hp1]; simp, by simp; have := Hj.out; omega⟩
        clear hr0 hp1 hp2 i1 i2 hpre
        go_wp2_with fail
        refine (digit_calls c _).mono ?_
        rintro e w5 ⟨rfl, rfl⟩
        go_wp2_with fail
        refine (digit_calls d _).mono ?_
        rintro e w6 ⟨rfl, rfl⟩
        cases hc2 : Sp.hdv c with
        | none =>
          have Hn : Hid (tv = none) := Lib.hid (by rw [htv.out, Sp.unhex_bad1 d l hc2]; rfl)
          rw [Sp.hdi_none hc2]
          clear htv hc2
          go_wp2_with fail
          go_ret2
          rw [Hn.out]
          exact ⟨rfl, K2.out⟩
        | some va =>
          have hva := Sp.hdv_le hc2
          rw [Sp.hdi_some hc2]
          cases hd2 : Sp.hdv d with
          | none =>
            have Hn : Hid (tv = none) := Lib.hid (by rw [htv.out, Sp.unhex_bad2 c l hd2]; rfl)
            rw [Sp.hdi_none hd2]
            have v0 : ¬ (va : Int) < 0 := by omega
            clear htv hc2 hd2
            go_wp2_with fail
            go_ret2
            rw [Hn.out]
            exact ⟨rfl, K2.out⟩
          | some vb2 =>
            have hvb := Sp.hdv_le hd2
            rw [Sp.hdi_some hd2]
            have v0 : ¬ (va : Int) < 0 := by omega
            have v1 : ¬ (vb2 : Int) < 0 := by omega
            obtain ⟨z, hz⟩ : ∃ z, z = UInt8.ofNat (16 * va + vb2) := ⟨_, rfl⟩
            have hzn : z.toNat = 16 * va + vb2 := by rw [hz, UInt8.toNat_ofNat']; omega
            have hw5 : IntKind.i64.wrap (16 * (va : Int)) = 16 * (va : Int) := IntWalk.i64_in _ (by omega)
            have hw6 : IntKind.i64.wrap (16 * (va : Int) + (vb2 : Int)) = 16 * (va : Int) + (vb2 : Int) := IntWalk.i64_in _ (by omega)
            have hw7 : IntKind.u8.wrap (16 * (va : Int) + (vb2 : Int)) = (z.toNat : Int) := by rw [IntWalk.u8_in _ (by omega)]; omega
            have htv2 : Hid (tv = (Sp.unhex l).map fun t => (done ++ [z]) ++ t) := Lib.hid (by
              rw [htv.out, Sp.unhex_two l hc2 hd2, ← hz]
              cases Sp.unhex l <;> simp)
            have hs2 := K2.out.size
            clear htv hc2 hd2 hz hzn
            go_wp2_with (at_builtin; (refine Ap.wpList_append_mine _ rfl (.tmp 77) (.tmp 83) 31 rfl 5 i0 (.int .u8 0) 1 Tryd.underlying31 hi hz0 hz1 hz2 rfl w.heap.size _ _ _ (vb done) rfl ?hm _ _ _ [.int .u8 (z.toNat : Int)] rfl ?hn ?hX ?h1c ?b1 ?b2 ?hbase ?_); (case hm => exact (hm.out.below ((Below.refl _ _).alloc (Nat.le_refl _) _))); (case hn => rfl); (case hX => exact .inr ⟨_, rfl, one_cell _ _ _ _ rfl⟩); (case h1c => (simp [Value.oneCell'])); (case b1 => (simp only [maxLen]; omega)); (case b2 => omega); (case hbase => (simp; omega)); intro A1 c3 W1 hm1 hb1)
            have K3 := Lib.hid (K2.out.trans (((Below.refl _ _).alloc hs2 _).trans hb1))
            go_roundw
            case rel =>
              have h9 := Hj.out
              have ev : vb (done ++ [z]) = vb done ++ [.int .u8 (z.toNat : Int)] := by simp [vb]
              refine ⟨l, done ++ [z], A1, c3, ?_, ?_, ?_, ?_, htv2, ?_, K3⟩
              · simp only [List.length_append, List.length_singleton, ← h9]; congr 1
              · simp only [List.length_append, List.length_singleton, ← h9]
              · simp only [List.length_append, List.length_singleton]; omega
              · simp only [List.length_append, List.length_singleton, ← h9]; exact hpre2
              · simp only [List.length_append, List.length_singleton, ← h9]; rw [ev]; exact hm1
            case measure => simp [intOf]; omega
  · have Hn : Hid (tv = none) := Lib.hid (by rw [Htv.out]; exact Hshort.out (.inr (.inr (fun e => g3 (by rw [hxe] at e; exact Option.some.inj e)))))
    rw [show (a != 88) = true by simpa using g3] at qa
    have c4 : (0 : Int) < (x.length : Int) := by rw [hlen]; omega
    clear g1 g2 g3 hlen hxe
    go_enter Tryd.func27, Tryd.ntmps27
    go_wp2_with fail
    go_ret2
    rw [Hn.out]
    exact ⟨rfl, K0.out.1⟩
end Es
end Go.Proofs.YtkiloebfjooogaaDoor
