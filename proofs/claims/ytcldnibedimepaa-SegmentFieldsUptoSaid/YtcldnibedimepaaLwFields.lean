/-
  A part of the proof of this seat's laws: SegmentFields.
-/
import Derived.Test.YtcldnibedimepaaSg17
import Derived.Test.YtcldnibedimepaaSg6
import Derived.Test.YtcldnibedimepaaQr
namespace Go.Proofs.Ytcldnibedimepaa
set_option linter.unusedVariables false
set_option linter.unusedSimpArgs false
open Go.RowKit Go.Shelf
namespace Sg
open Ap
set_option maxHeartbeats 4000000
theorem stepD {w a b : World} (h : Below w.heap.size w a) (hb : Below a.heap.size a b) : Below w.heap.size w b := h.trans (hb.mono h.size)
section
variable (s : List UInt8) (F P R E U : UInt8) (B : Option Addr) (m d : Nat) (xs : List (List UInt8)) (w : World)
theorem segFields_long (h : 1000 < s.length) :
    Calls Try.prog 8 #[.string (Sp.bs s), dv F P R E U, .slice B m d] w fun e w' => e = .returned (.bool true) ∧ Below w.heap.size w w' := by
  have huD := Try.underlying23
  have hB : Below w.heap.size w (w.alloc (.cells #[.int .u8 (F.toNat : Int), .int .u8 (P.toNat : Int), .int .u8 (R.toNat : Int), .int .u8 (E.toNat : Int), .int .u8 (U.toNat : Int)] 23)) := (Below.refl _ _).alloc (Nat.le_refl _) _
  have hz := Sp.bs_size s
  have h1 : (1000 : Int) < (s.length : Int) := by omega
  go_enter Try.func8, Try.ntmps8
  go_wp2_with fail
  refine (alive_calls _).mono ?_
  rintro e w1 ⟨rfl, b1⟩
  go_wp2_with fail
  go_ret
  exact ⟨rfl, stepD hB b1⟩
theorem segFields_many (h : s.length ≤ 1000) (hx : Tx w B m d xs) (ht : Sp.tot xs ≤ 4194304) (h2 : 1000 < Sp.tot xs) :
    Calls Try.prog 8 #[.string (Sp.bs s), dv F P R E U, .slice B m d] w fun e w' => e = .returned (.bool true) ∧ Below w.heap.size w w' := by
  have huD := Try.underlying23
  have hal := (Below.refl w.heap.size w).alloc (Nat.le_refl _) (.cells #[.int .u8 (F.toNat : Int), .int .u8 (P.toNat : Int), .int .u8 (R.toNat : Int), .int .u8 (E.toNat : Int), .int .u8 (U.toNat : Int)] 23)
  have hz := Sp.bs_size s
  have h1 : ¬ (1000 : Int) < (s.length : Int) := by omega
  have h3 : (1000 : Int) < (Sp.tot xs : Int) := by omega
  have Hb := Lib.hid (bytes_calls B m d xs _ (hx.below hal) ht)
  clear hx
  go_enter Try.func8, Try.ntmps8
  go_wp2_with fail
  refine Hb.out.mono ?_
  rintro e w' ⟨rfl, rfl⟩
  go_wp2_with fail
  refine (alive_calls _).mono ?_
  rintro e w1 ⟨rfl, b1⟩
  go_wp2_with fail
  go_ret
  exact ⟨rfl, stepD hal b1⟩
/-- what the last region meets -/
structure FS (g0 : World) (W : World) : Prop where
  bel : Below g0.heap.size g0 W
  five : Five g0.heap.size F P R E U W
  tx : Tx W B m d xs
theorem FS.step {F P R E U : UInt8} {B : Option Addr} {m d : Nat} {xs : List (List UInt8)} {g0 W W' : World} (h : FS F P R E U B m d xs g0 W) (hb : Below W.heap.size W W') : FS F P R E U B m d xs g0 W' :=
  ⟨stepD h.bel hb, h.five.below hb h.five.lt, h.tx.below hb⟩
theorem segFields_in (h : s.length ≤ 1000) (hx : Tx w B m d xs) (ht : Sp.tot xs ≤ 1000) :
    Calls Try.prog 8 #[.string (Sp.bs s), dv F P R E U, .slice B m d] w fun e w' => e = .returned (.bool true) ∧ Below w.heap.size w w' := by
  have huD := Try.underlying23
  have hal := (Below.refl w.heap.size w).alloc (Nat.le_refl _) (.cells #[.int .u8 (F.toNat : Int), .int .u8 (P.toNat : Int), .int .u8 (R.toNat : Int), .int .u8 (E.toNat : Int), .int .u8 (U.toNat : Int)] 23)
  have hfs : FS F P R E U B m d xs w (w.alloc (.cells #[.int .u8 (F.toNat : Int), .int .u8 (P.toNat : Int), .int .u8 (R.toNat : Int), .int .u8 (E.toNat : Int), .int .u8 (U.toNat : Int)] 23)) := ⟨hal, Five.new F P R E U w, hx.below hal⟩
  have hz := Sp.bs_size s
  have h1 : ¬ (1000 : Int) < (s.length : Int) := by omega
  have h3 : ¬ (1000 : Int) < (Sp.tot xs : Int) := by omega
  have Hb := Lib.hid (bytes_calls B m d xs _ (hx.below hal) (by omega))
  have Hrf := Lib.hid (refFields_calls s F P R E U (by omega))
  have Hct := Lib.hid (count_calls s F P R E U (by omega))
  have HF := Lib.hid (fun n hn => Field_calls s n hn F P R E U (by omega))
  have HG := Lib.hid (fun n => refField_calls s n F P R E U (by omega))
  have Hn := Lib.hid (name_calls s (by omega))
  have Hmk := Lib.hid (fun W (t : Tx W B m d xs) => make_calls F P R E U (s.take 3) B m d xs W t (by omega) (by rw [List.length_take]; omega))
  have Hrm := Lib.hid (fun W (t : Tx W B m d xs) => refMake_calls F P R E U (s.take 3) B m d xs W t (by omega) (by rw [List.length_take]; omega))
  have hN0 : (Sp.fields s F).length ≤ 1002 := by
    unfold Sp.fields
    have h1 := Sp.cutL_length F s
    have h2 := List.count_le_length (a := F) (l := s)
    have h3 := Sp.cutL_length F (s.drop 4)
    have h4 := List.count_le_length (a := F) (l := s.drop 4)
    rw [List.length_drop] at h4
    split
    · simp; omega
    · split
      · simp; omega
      · simp
  generalize Sp.make F (s.take 3) xs = M at *
  generalize Sp.fields s F = fs at *
  generalize fs.length = N at *
  have hwN : IntKind.i64.wrap ((N : Int) + 2) = (N : Int) + 2 := IntWalk.i64_in _ (by omega)
  clear hx hal
  go_enter Try.func8, Try.ntmps8
  go_wp2_with fail
  refine Hb.out.mono ?_
  rintro e w' ⟨rfl, rfl⟩
  have hc := hfs.five.cells
  generalize (w.alloc (.cells #[.int .u8 (F.toNat : Int), .int .u8 (P.toNat : Int), .int .u8 (R.toNat : Int), .int .u8 (E.toNat : Int), .int .u8 (U.toNat : Int)] 23)) = W at *
  go_wp2_with fail
  refine (Hrf.out _).mono ?_
  rintro e w1 ⟨A1, C1, rfl, -, b1⟩
  have f1 := hfs.step b1
  clear hfs hc b1 Hb Hrf
  go_wp2_with fail
  refine (alive_calls _).mono ?_
  rintro e w2 ⟨rfl, b2⟩
  have f2 := f1.step b2
  have hc := f2.five.cells
  clear f1 b2
  go_wp2_with fail
  refine (Hct.out _).mono ?_
  rintro e w3 ⟨rfl, b3⟩
  have f3 := f2.step b3
  clear f2 b3 hc Hct
  go_wp2_with fail
  go_loopw [8] (fun i wr => (∃ z : Int, -1 ≤ z ∧ z ≤ (N : Int) + 3 ∧ i = .int .i64 z) ∧ FS F P R E U B m d xs w wr) (fun i wr => ((N : Int) + 3 - intOf i).toNat)
  case atStart => exact ⟨⟨-1, by omega, by omega, rfl⟩, f3⟩
  case round =>
    obtain ⟨⟨z, hz1, hz2, rfl⟩, fr⟩ := hrel
    clear f3
    by_cases hzn : z ≤ (N : Int) + 2
    · have hwz : IntKind.i64.wrap (z + 1) = z + 1 := IntWalk.i64_in _ (by omega)
      have hc4 := fr.five.cells
      have H1 := Lib.hid (HF.out z (by omega))
      have H2 := Lib.hid (HG.out z)
      generalize decide (1 ≤ z ∧ z ≤ (N : Int)) = q at *
      generalize Sp.pick fs z = x at *
      go_wp2_with fail
      refine (H1.out _).mono ?_
      rintro e w4 ⟨rfl, b4⟩
      have f4 := fr.step b4
      have hc5 := f4.five.cells
      clear fr b4 hc4
      go_wp2_with fail
      refine (H2.out _).mono ?_
      rintro e w5 ⟨rfl, b5⟩
      have f5 := f4.step b5
      clear f4 b5 hc5
      go_wp2_with fail
      go_roundw
      case rel => exact ⟨⟨z + 1, by omega, by omega, rfl⟩, f5⟩
      case measure => simp [intOf]; omega
    · go_wp2_with fail
      refine (Hn.out _).mono ?_
      rintro e w6 ⟨rfl, rfl⟩
      go_wp2_with fail
      have hl0 : ∀ x : Qr.In (FS F P R E U B m d xs w), x.w.cell? ⟨w.heap.size, 0, none⟩ = some (.int .u8 (F.toNat : Int)) ∧ x.w.cell? ⟨w.heap.size, 1, none⟩ = some (.int .u8 (P.toNat : Int)) ∧ x.w.cell? ⟨w.heap.size, 2, none⟩ = some (.int .u8 (R.toNat : Int)) ∧
        x.w.cell? ⟨w.heap.size, 3, none⟩ = some (.int .u8 (E.toNat : Int)) ∧ x.w.cell? ⟨w.heap.size, 4, none⟩ = some (.int .u8 (U.toNat : Int)) := fun x => x.h.five.cells
      have HmkC := fun x : Qr.In (FS F P R E U B m d xs w) => Lib.hid (Hmk.out x.w x.h.tx)
      have HrmC := fun x : Qr.In (FS F P R E U B m d xs w) => Lib.hid (Hrm.out x.w x.h.tx)
      have hne : Nonempty (Qr.In (FS F P R E U B m d xs w)) := ⟨⟨_, fr⟩⟩
      refine Qr.region_in (S := FS F P R E U B m d xs w) (by kernel_rfl) (by kernel_rfl) (fr.step (Below.refl _ _).drew) ?_
      repeat (go_big_quiet_step (first | (go_at_call 29; exact Qr.call (HmkC _).out (fun _ _ => FS.step)) | (go_at_call 30; exact Qr.call (HrmC _).out (fun _ _ => FS.step))))
      refine wpQuiet_nil ?_
      rintro _ ⟨⟨W8, h8⟩, rfl⟩
      clear hl0 hne HmkC HrmC
      go_wp2_with fail
      go_ret
      exact ⟨by first | rfl | simp, h8.bel⟩
end
theorem segFields_at (s : ByteArray) (a b c d' f : Int) (B : Option Addr) (m d : Nat) (xs : List (List UInt8)) (w : World) (hs : s.size ≤ 1048576) (ha : 0 ≤ a ∧ a ≤ 255) (hb : 0 ≤ b ∧ b ≤ 255) (hc : 0 ≤ c ∧ c ≤ 255) (hd : 0 ≤ d' ∧ d' ≤ 255) (hf : 0 ≤ f ∧ f ≤ 255)
    (hx : Tx w B m d xs) (ht : Sp.tot xs ≤ 1048576) :
    Calls Try.prog 8 #[.string s, .agg #[.int .u8 a, .int .u8 b, .int .u8 c, .int .u8 d', .int .u8 f], .slice B m d] w fun e w' => e = .returned (.bool true) ∧ Below w.heap.size w w' := by
  have by_ : ∀ {a : Int}, (0 ≤ a ∧ a ≤ 255) → ∃ x : UInt8, a = (x.toNat : Int) := fun {a} h => ⟨UInt8.ofNat a.toNat, by simp [UInt8.toNat_ofNat]; omega⟩
  obtain ⟨F, rfl⟩ := by_ ha
  obtain ⟨P, rfl⟩ := by_ hb
  obtain ⟨R, rfl⟩ := by_ hc
  obtain ⟨E, rfl⟩ := by_ hd
  obtain ⟨U, rfl⟩ := by_ hf
  have h : Calls Try.prog 8 #[.string (Sp.bs s.data.toList), dv F P R E U, .slice B m d] w fun e w' => e = .returned (.bool true) ∧ Below w.heap.size w w' := by
    by_cases h1 : 1000 < s.data.toList.length
    · exact segFields_long s.data.toList F P R E U B m d w h1
    by_cases h2 : 1000 < Sp.tot xs
    · exact segFields_many s.data.toList F P R E U B m d xs w (by omega) hx (by omega) h2
    · exact segFields_in s.data.toList F P R E U B m d xs w (by omega) hx (by omega)
  rwa [Sp.bs_data] at h
end Sg
end Go.Proofs.Ytcldnibedimepaa
