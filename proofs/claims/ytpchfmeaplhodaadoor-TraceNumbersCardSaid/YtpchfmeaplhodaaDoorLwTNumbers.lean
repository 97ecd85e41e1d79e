/-
  A part of the proof of this seat's laws: TraceNumbers.
-/
import Derived.Test.YtpchfmeaplhodaaDoorTr20
import Derived.Test.YtpchfmeaplhodaaDoorTpM
import Derived.Test.YtpchfmeaplhodaaDoorEvM
namespace Go.Proofs.YtpchfmeaplhodaaDoor
set_option linter.unusedVariables false
set_option linter.unusedSimpArgs false
open Go.RowKit Go.Shelf
namespace Tr
open Ap Sg
set_option maxHeartbeats 2000000
set_option maxRecDepth 100000 in
theorem tnumbers_in (n k : Int) (w : World) (hn : (Lit.int .i64 n).wf = true) (hk : (Lit.int .i64 k).wf = true) (hg : Gl w) :
    Calls Tryd.prog 5 #[.int .i64 n, .int .i64 k] w fun e w' => e = .returned (.bool true) ∧ Below w.heap.size w w' := by
  have huE := Tryd.underlying29
  obtain ⟨a, ha⟩ : ∃ a, n.tmod 1000000000000000000 = a := ⟨_, rfl⟩
  obtain ⟨b, hb⟩ : ∃ b, k.tmod 1000000000000000000 = b := ⟨_, rfl⟩
  have sa : Sp.small a := ha ▸ Sp.small_tmod n
  have sb : Sp.small b := hb ▸ Sp.small_tmod k
  have ia := Sp.small_i64 sa
  have ib := Sp.small_i64 sb
  have hwa : IntKind.i64.wrap a = a := IntWalk.i64_in _ (by omega)
  have hwb : IntKind.i64.wrap b = b := IntWalk.i64_in _ (by omega)
  obtain ⟨I, hI⟩ : ∃ I, Lib.itoa a = I := ⟨_, rfl⟩
  have hIl : I.length ≤ 21 := hI ▸ Lib.itoa_length_le a ia.1 ia.2
  have hIp : 0 < I.length := List.length_pos_iff.2 (hI ▸ Sp.itoa_ne a)
  -- the first text
  have e1 := Sp.ev_arm a b
  have l1 := Sp.evT_len e1 ia ib
  have r1 := Sp.read_of e1 sa sb
  have e2 := Sp.ev_tick a
  have q1 := Sp.read_nought a
  have q2 := Sp.read_plus a
  have q3 := Sp.read_twice a
  rw [hI] at e2 q1 q2 q3
  generalize hT1 : ([97, 114, 109, 32] ++ (Lib.itoa a ++ 32 :: Lib.itoa b) : List UInt8) = T1 at *
  generalize hP1 : ([116, 105, 99, 107, 32, 48] ++ I : List UInt8) = P1 at *
  generalize hP2 : ([116, 105, 99, 107, 32, 43] ++ I : List UInt8) = P2 at *
  generalize hT2 : ([116, 105, 99, 107, 32] ++ I : List UInt8) = T2 at *
  generalize hP4 : (T2 ++ [32] : List UInt8) = P4
  generalize hP5 : (P4 ++ I : List UInt8) = P5
  have q3' : Sp.readS P5 = none := by rw [← hP5, ← hP4, List.append_assoc]; exact q3
  have hT2l : T2.length = I.length + 5 := by rw [← hT2]; simp
  have c1 : (⟨#[116, 105, 99, 107, 32, 48]⟩ : ByteArray) ++ Sp.bs I = Sp.bs P1 := by rw [← hP1]; exact Sp.bs_append _ _
  have c2 : (⟨#[116, 105, 99, 107, 32, 43]⟩ : ByteArray) ++ Sp.bs I = Sp.bs P2 := by rw [← hP2]; exact Sp.bs_append _ _
  have c3 : Sp.bs T2 ++ (⟨#[32]⟩ : ByteArray) = Sp.bs P4 := by rw [← hP4]; exact Sp.bs_append _ _
  have c4 : Sp.bs P4 ++ Sp.bs I = Sp.bs P5 := by rw [← hP5]; exact Sp.bs_append _ _
  have x1 : (Sp.bs T2).extract 5 (I.length + 5) = Sp.bs I := by
    rw [Sp.bs_extract, ← hT2]
    congr 1
    simp
  have z2 : (Sp.bs T2).size = I.length + 5 := by rw [Sp.bs_size, hT2l]
  have z4 : (Sp.bs P4).size = I.length + 6 := by rw [Sp.bs_size, ← hP4, List.length_append, hT2l]; rfl
  have zI := Sp.bs_size I
  have hb0 : Below w.heap.size w (w.alloc (.cells (evC 7 a b none 0 0) 29)) := (Below.refl _ _).alloc (Nat.le_refl _) _
  have HE1 := Lib.hid (event_calls 7 a b none 0 0 [] _ (hg.below hb0) (By.nil _) (by decide) ia.1 ia.2 ib.1 ib.2)
  rw [e1] at HE1
  simp only [Sp.evV] at HE1
  have HE2 := Lib.hid (fun W h => event_calls 4 a 0 none 0 0 [] W h (By.nil _) (by decide) ia.1 ia.2 (by decide) (by decide))
  rw [e2] at HE2
  simp only [Sp.evV] at HE2
  have HB0 := Lib.hid hb0
  have HR1 := Lib.hid (fun W h => read_calls T1 (by simp at l1; omega) W h)
  have HQ1 := Lib.hid (fun W h => read_calls P1 (by rw [← hP1]; simp; omega) W h)
  have HQ2 := Lib.hid (fun W h => read_calls P2 (by rw [← hP2]; simp; omega) W h)
  have HQ3 := Lib.hid (fun W h => read_calls P5 (by rw [← hP5, ← hP4]; simp; omega) W h)
  have V1 := Lib.hid e1
  have V2 := Lib.hid e2
  have R1 := Lib.hid r1
  have Q1 := Lib.hid q1
  have Q2 := Lib.hid q2
  have Q3 := Lib.hid q3'
  have Hg := Lib.hid hg
  have HIA := Lib.hid ia
  have HIB := Lib.hid ib
  clear hn hk sa sb hI e1 l1 r1 e2 q1 q2 q3 q3' hT1 hP1 hP2 hT2 hP4 hP5 hT2l hg
  go_enter Tryd.func5, Tryd.ntmps5
  go_wp2_with fail
  refine HE1.out.mono ?_
  rintro e w1 ⟨rfl, b1⟩
  have B1 := Lib.hid (step HB0.out b1)
  clear b1
  go_wp2_with fail
  refine (HR1.out _ (Hg.out.below B1.out)).mono ?_
  rintro e w2 ⟨-, hy2, b2⟩
  obtain ⟨A2, n2, c2, rfl, -, -⟩ := hy2 _ R1.out
  simp only
  have hb3 : Below w2.heap.size w2 (w2.alloc (.cells (evC 7 a b A2 n2 c2) 29)) := (Below.refl _ _).alloc (Nat.le_refl _) _
  have F3 := Lib.hid (Blk.new w2 (evC 7 a b A2 n2 c2) 29)
  have B3 := Lib.hid (step (step B1.out b2) hb3)
  have HAl := Lib.hid (alive_calls _ (Hg.out.below B3.out))
  clear hy2 b2 hb3
  go_wp2_with fail
  refine HAl.out.mono ?_
  rintro e w4 ⟨rfl, b4⟩
  have B4 := Lib.hid (step B3.out b4)
  have m4 := (F3.out.below b4).cells4
  clear b4
  go_wp2_with fail
  refine (HE2.out _ (Hg.out.below B4.out)).mono ?_
  rintro e w5 ⟨rfl, b5⟩
  have B5 := Lib.hid (step B4.out b5)
  clear b5 m4
  have d6 : ¬ ((I.length : Int) + 5 < 6) := by omega
  have d5 : (5 : Int) ≤ (I.length : Int) + 5 := by omega
  go_wp2_with fail
  refine (HQ1.out _ (Hg.out.below B5.out)).mono ?_
  rintro e w6 ⟨hn6, -, b6⟩
  obtain rfl := hn6 Q1.out
  have B7 := Lib.hid (step (step B5.out b6) ((Below.refl _ _).alloc (Nat.le_refl _) (.cells (evC 0 0 0 none 0 0) 29)))
  clear hn6 b6
  go_wp2_with fail
  refine (HQ2.out _ (Hg.out.below B7.out)).mono ?_
  rintro e w8 ⟨hn8, -, b8⟩
  obtain rfl := hn8 Q2.out
  have B9 := Lib.hid (step (step B7.out b8) ((Below.refl _ _).alloc (Nat.le_refl _) (.cells (evC 0 0 0 none 0 0) 29)))
  clear hn8 b8
  go_wp2_with fail
  refine (HQ3.out _ (Hg.out.below B9.out)).mono ?_
  rintro e w10 ⟨hn10, -, b10⟩
  obtain rfl := hn10 Q3.out
  have B11 := Lib.hid (step (step B9.out b10) ((Below.refl _ _).alloc (Nat.le_refl _) (.cells (evC 0 0 0 none 0 0) 29)))
  clear hn10 b10
  go_wp2_with fail
  go_ret
  exact ⟨rfl, B11.out⟩
end Tr
end Go.Proofs.YtpchfmeaplhodaaDoor
