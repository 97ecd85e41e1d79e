/-
  A part of the proof of this seat's laws.
-/
import Derived.Test.YtkjhjeaeffooaaaDoorDelB
import Derived.Lib.Bytes2
import Derived.Lib.SlBytesConst
import Derived.Test.YtkjhjeaeffooaaaDoorQr
namespace Go.Proofs.YtkjhjeaeffooaaaDoor
set_option linter.unusedVariables false
set_option linter.unusedSimpArgs false
open Go.RowKit
namespace Sp
/-- the signs of a message, the error -/
def readD (xs : List Int) : Int × Int × Int × Int × Int :=
  if xs.length < 9 then (0, 0, 0, 0, 0) else
  if xs.take 3 = [77, 83, 72] ∧ right (xs.getD 3 0) (xs.getD 4 0) (xs.getD 5 0) (xs.getD 6 0) (xs.getD 7 0) = true ∧ (xs.getD 8 0 = xs.getD 3 0 ∨ xs.getD 8 0 = 13) then
    (xs.getD 3 0, xs.getD 4 0, xs.getD 5 0, xs.getD 6 0, xs.getD 7 0) else (0, 0, 0, 0, 0)
/-- why there are none -/
def readE (xs : List Int) : Int :=
  if xs.length < 9 then 7 else
  if xs.take 3 = [77, 83, 72] ∧ right (xs.getD 3 0) (xs.getD 4 0) (xs.getD 5 0) (xs.getD 6 0) (xs.getD 7 0) = true ∧ (xs.getD 8 0 = xs.getD 3 0 ∨ xs.getD 8 0 = 13) then 0 else 11
theorem readE_short {xs : List Int} (h : xs.length < 9) : readE xs = 7 := by unfold readE; rw [if_pos h]
theorem readD_short {xs : List Int} (h : xs.length < 9) : readD xs = (0, 0, 0, 0, 0) := by unfold readD; rw [if_pos h]
end Sp
namespace Dl
set_option maxHeartbeats 400000
/-- five bytes as a value -/
abbrev val5 (t : Int × Int × Int × Int × Int) : Value := .agg #[.int .u8 t.1, .int .u8 t.2.1, .int .u8 t.2.2.1, .int .u8 t.2.2.2.1, .int .u8 t.2.2.2.2]
theorem read_short (A : Option Addr) (n c : Nat) (h : n < 9) (w : World) : Calls Tryd.prog 12 #[.slice A n c] w fun e w' =>
    e = .returned (.tuple #[val5 (0, 0, 0, 0, 0), .int .i64 7]) ∧ Below w.heap.size w w' := by
  have huD := Tryd.underlying32
  go_enter Tryd.func12, Tryd.ntmps12
  go_wp2_with fail
  exact bodyPost_ret (v := .tuple #[val5 (0, 0, 0, 0, 0), .int .i64 7]) (by simp [results, Tryd.results12, go_sem]) rfl ⟨rfl, (Below.refl _ _).alloc (Nat.le_refl _) _⟩
theorem take3 (xs : List Int) (hb : ∀ i, i < 3 → Sp.isByte (xs.getD i 0)) (h : 9 ≤ xs.length) : Lib.hasPrefix (Lib.bytesOf (xs.take 9)) (Lib.bytesOf [77, 83, 72]) = decide (xs.take 3 = [77, 83, 72]) := by
  obtain ⟨x0, x1, x2, t, rfl⟩ : ∃ x0 x1 x2 t, xs = x0 :: x1 :: x2 :: t := by
    match xs, h with
    | x0 :: x1 :: x2 :: t, _ => exact ⟨x0, x1, x2, t, rfl⟩
  have h0 := hb 0 (by omega); have h1 := hb 1 (by omega); have h2 := hb 2 (by omega)
  simp only [List.getD_cons_zero, List.getD_cons_succ] at h0 h1 h2
  have e : ∀ (x y : Int), Sp.isByte x → Sp.isByte y → (UInt8.ofNat x.toNat = UInt8.ofNat y.toNat ↔ x = y) := fun x y hx hy => ⟨Sp.byte_inj hx hy, fun h => by rw [h]⟩
  rw [Bool.eq_iff_iff]
  simp only [List.take_succ_cons, Lib.bytesOf, List.map_cons, Lib.hasPrefix, List.isPrefixOf_cons_cons, Bool.and_eq_true, beq_iff_eq, List.map_nil, List.isPrefixOf_nil_left, and_true, decide_eq_true_eq, List.take_zero, List.cons.injEq]
  rw [e 77 x0 (by unfold Sp.isByte; omega) h0, e 83 x1 (by unfold Sp.isByte; omega) h1, e 72 x2 (by unfold Sp.isByte; omega) h2]
  constructor
  · rintro ⟨rfl, rfl, rfl⟩; exact ⟨rfl, rfl, rfl⟩
  · rintro ⟨rfl, rfl, rfl⟩; exact ⟨rfl, rfl, rfl⟩

theorem conv1 (w : World) (X : Obj) (C : Array Value) (n c : Nat) :
    (convert 23 23 (.slice (some ⟨w.heap.size + 1, 0, none⟩) n c)).run Tryd.prog ((w.alloc X).alloc (.cells C 5)) =
      .ok (.slice (some ⟨w.heap.size + 1, 0, none⟩) n c) ((w.alloc X).alloc (.cells C 5 (C.size, C.size + 1))) := by
  have h := Lib.run_convert_bytes_const (P := Tryd.prog) (w.alloc X) 23 5 C n c Tryd.underlying23 Tryd.underlying5
  rw [World.size_alloc] at h
  exact h

theorem cells_alloc {w : World} {b o n : Nat} {xs : List Int} (hc : ∀ i, i < n → w.cell? ⟨b, o + i, none⟩ = some (.int .u8 (xs.getD i 0))) (X : Obj) :
    ∀ i, i < n → (w.alloc X).cell? ⟨b, o + i, none⟩ = some (.int .u8 (xs.getD i 0)) := fun i hi => Lib.cell?_alloc_marked X (hc i hi)
theorem cells_take {w : World} {b o n m : Nat} {xs : List Int} (hm : m ≤ n) (hc : ∀ i, i < n → w.cell? ⟨b, o + i, none⟩ = some (.int .u8 (xs.getD i 0))) :
    ∀ i, i < m → w.cell? ⟨b, o + i, none⟩ = some (.int .u8 ((xs.take m).getD i 0)) := fun i hi => by
  rw [hc i (by omega)]
  simp [List.getD_eq_getElem?_getD, List.getElem?_take, hi]
/-- the three bytes of the name, in a new block -/
theorem cells_msh (W : World) : ∀ i, i < 3 → (W.alloc (.cells #[.int .u8 77, .int .u8 83, .int .u8 72] 5 (3, 4))).cell? ⟨W.heap.size, 0 + i, none⟩ = some (.int .u8 ([77, 83, 72].getD i 0)) := by
  intro i hi
  have e : i = 0 ∨ i = 1 ∨ i = 2 := by omega
  rcases e with rfl | rfl | rfl <;> (rw [World.cell?_alloc_mark]; rfl)
/-- bytes.CutPrefix at the first nine bytes, as delim.Read calls it -/
theorem cut_calls (b o n c : Nat) (xs : List Int) (h : 9 ≤ n) (hnc : n ≤ c) (hx : xs.length = n) (w : World) (X : Obj) (hc : ∀ i, i < n → w.cell? ⟨b, o + i, none⟩ = some (.int .u8 (xs.getD i 0))) :
    Calls Tryd.prog 17 #[.slice (some ⟨b, o, none⟩) 9 c, .slice (some ⟨w.heap.size + 1, 0, none⟩) 3 3] ((w.alloc X).alloc (.cells #[.int .u8 77, .int .u8 83, .int .u8 72] 5 (3, 4))) fun e w' =>
      e = .returned (.tuple #[Lib.bytesTrimPrefix b o 9 c (xs.take 9) [77, 83, 72], .bool (Lib.hasPrefix (Lib.bytesOf (xs.take 9)) (Lib.bytesOf [77, 83, 72]))]) ∧
      w' = ((w.alloc X).alloc (.cells #[.int .u8 77, .int .u8 83, .int .u8 72] 5 (3, 4))) := by
  refine Tryd.bytes_CutPrefix b o 9 c (w.heap.size + 1) 0 3 3 (xs.take 9) [77, 83, 72] _ (by simp; omega) rfl (by omega) ?_ ?_
  · exact cells_alloc (cells_alloc (cells_take h hc) _) _
  · have := cells_msh (w.alloc X)
    rw [World.size_alloc] at this
    exact this

theorem read_nohead (b o n c : Nat) (xs : List Int) (h : 9 ≤ n) (hnc : n ≤ c) (hx : xs.length = n) (w : World) (hc : ∀ i, i < n → w.cell? ⟨b, o + i, none⟩ = some (.int .u8 (xs.getD i 0)))
    (hp : Lib.hasPrefix (Lib.bytesOf (xs.take 9)) (Lib.bytesOf [77, 83, 72]) = false) :
   Calls Tryd.prog 12 #[.slice (some ⟨b, o, none⟩) n c] w fun e w' =>
    e = .returned (.tuple #[val5 (0, 0, 0, 0, 0), .int .i64 11]) ∧ Below w.heap.size w w' := by
  have huD := Tryd.underlying32
  have kc := conv1
  have hcut := fun X => cut_calls b o n c xs h hnc hx w X hc
  rw [hp] at hcut
  have e1 : Lib.bytesTrimPrefix b o 9 c (xs.take 9) [77, 83, 72] = .slice (some ⟨b, o, none⟩) 9 c := by unfold Lib.bytesTrimPrefix; rw [if_neg (by rw [hp]; decide)]
  rw [e1] at hcut
  have Hcut := Lib.hid hcut
  clear hcut hx hc hp e1
  go_enter Tryd.func12, Tryd.ntmps12
  go_wp2_with (go_at_call 17; refine (Hcut.out _).mono ?_; rintro e w' ⟨rfl, rfl⟩)
  exact bodyPost_ret (v := .tuple #[val5 (0, 0, 0, 0, 0), .int .i64 11]) (by simp [results, Tryd.results12, go_sem]) rfl ⟨rfl, ((Below.refl _ _).alloc (Nat.le_refl _) _).alloc (by simp) _⟩
/-- what delim.Read reads of the first nine bytes stands, whatever it makes -/
abbrev RdS (B : Nat) (w : World) (b o : Nat) (x3 x4 x5 x6 x7 x8 : Int) (w' : World) : Prop :=
  Below B w w' ∧ B ≤ w'.heap.size ∧ b < B ∧ w'.cell? ⟨b, o + 3, none⟩ = some (.int .u8 x3) ∧ w'.cell? ⟨b, o + 3 + 1, none⟩ = some (.int .u8 x4) ∧ w'.cell? ⟨b, o + 3 + 2, none⟩ = some (.int .u8 x5) ∧
  w'.cell? ⟨b, o + 3 + 3, none⟩ = some (.int .u8 x6) ∧ w'.cell? ⟨b, o + 3 + 4, none⟩ = some (.int .u8 x7) ∧ w'.cell? ⟨b, o + 3 + 5, none⟩ = some (.int .u8 x8)
theorem RdS.step {B : Nat} {w W W' : World} {b o : Nat} {x3 x4 x5 x6 x7 x8 : Int} (h : RdS B w b o x3 x4 x5 x6 x7 x8 W) (hb : Below B W W') : RdS B w b o x3 x4 x5 x6 x7 x8 W' := by
  obtain ⟨h0, h1, h2, h3, h4, h5, h6, h7, h8⟩ := h
  have e : ∀ q, W'.cell? ⟨b, q, none⟩ = W.cell? ⟨b, q, none⟩ := fun q => hb.cell (p := ⟨b, q, none⟩) h2
  exact ⟨h0.trans hb, Nat.le_trans h1 hb.size, h2, (e _).trans h3, (e _).trans h4, (e _).trans h5, (e _).trans h6, (e _).trans h7, (e _).trans h8⟩
theorem RdS.drew {B : Nat} {w W : World} {b o : Nat} {x3 x4 x5 x6 x7 x8 : Int} (h : RdS B w b o x3 x4 x5 x6 x7 x8 W) : RdS B w b o x3 x4 x5 x6 x7 x8 W.drew := h.step (Below.refl _ _).drew
theorem RdS.alloc {B : Nat} {w W : World} {b o : Nat} {x3 x4 x5 x6 x7 x8 : Int} (h : RdS B w b o x3 x4 x5 x6 x7 x8 W) (X : Obj) : RdS B w b o x3 x4 x5 x6 x7 x8 (W.alloc X) := h.step ((Below.refl _ _).alloc h.2.1 X)
theorem RdS.set {B : Nat} {w W : World} {b o : Nat} {x3 x4 x5 x6 x7 x8 : Int} (h : RdS B w b o x3 x4 x5 x6 x7 x8 W) (p : Addr) (hp : B ≤ p.block) (u : Value) : RdS B w b o x3 x4 x5 x6 x7 x8 (W.setCell p u) := h.step ((Below.refl _ _).setCell hp u)

/-- what stands while the signs are asked: the result's block, the signs' block, the ninth byte -/
structure Rd7 (w : World) (b o : Nat) (x3 x4 x5 x6 x7 x8 : Int) (w' : World) : Prop where
  below : Below w.heap.size w w'
  zero : Five w.heap.size 0 0 0 0 0 w'
  five : Five (w.heap.size + 2) x3 x4 x5 x6 x7 w'
  lt : b < w.heap.size
  last : w'.cell? ⟨b, o + 3 + 5, none⟩ = some (.int .u8 x8)
theorem Rd7.step {w W W' : World} {b o : Nat} {x3 x4 x5 x6 x7 x8 : Int} (h : Rd7 w b o x3 x4 x5 x6 x7 x8 W) (hb : Below W.heap.size W W') : Rd7 w b o x3 x4 x5 x6 x7 x8 W' :=
  ⟨h.below.trans (hb.mono h.below.size), h.zero.below hb h.zero.lt, h.five.below hb h.five.lt, h.lt, (hb.cell (p := ⟨b, o + 3 + 5, none⟩) (Nat.lt_of_lt_of_le h.lt h.below.size)).trans h.last⟩
theorem Rd7.drew {w W : World} {b o : Nat} {x3 x4 x5 x6 x7 x8 : Int} (h : Rd7 w b o x3 x4 x5 x6 x7 x8 W) : Rd7 w b o x3 x4 x5 x6 x7 x8 W.drew := h.step (Below.refl _ _).drew
theorem Rd7.limbs {w W : World} {b o : Nat} {x3 x4 x5 x6 x7 x8 : Int} (h : Rd7 w b o x3 x4 x5 x6 x7 x8 W) : Rd7 w b o x3 x4 x5 x6 x7 x8 W ∧ W.cell? ⟨b, o + 3 + 5, none⟩ = some (.int .u8 x8) ∧
  W.cell? ⟨w.heap.size + 2, 0, none⟩ = some (.int .u8 x3) ∧ W.cell? ⟨w.heap.size + 2, 1, none⟩ = some (.int .u8 x4) ∧ W.cell? ⟨w.heap.size + 2, 2, none⟩ = some (.int .u8 x5) ∧
  W.cell? ⟨w.heap.size + 2, 3, none⟩ = some (.int .u8 x6) ∧ W.cell? ⟨w.heap.size + 2, 4, none⟩ = some (.int .u8 x7) := ⟨h, h.last, h.five.cells⟩
theorem Rd7.mk3 {w : World} {b o : Nat} {x3 x4 x5 x6 x7 x8 : Int} (hlt : b < w.heap.size) (hl : w.cell? ⟨b, o + 3 + 5, none⟩ = some (.int .u8 x8)) (Y : Obj) :
    Rd7 w b o x3 x4 x5 x6 x7 x8 (((w.alloc (.cells #[.int .u8 0, .int .u8 0, .int .u8 0, .int .u8 0, .int .u8 0] 32)).alloc Y).alloc (.cells #[.int .u8 x3, .int .u8 x4, .int .u8 x5, .int .u8 x6, .int .u8 x7] 32)) := by
  have h1 : Below w.heap.size w (w.alloc (.cells #[.int .u8 0, .int .u8 0, .int .u8 0, .int .u8 0, .int .u8 0] 32)) := (Below.refl _ _).alloc (Nat.le_refl _) _
  have h5 := Five.new x3 x4 x5 x6 x7 ((w.alloc (.cells #[.int .u8 0, .int .u8 0, .int .u8 0, .int .u8 0, .int .u8 0] 32)).alloc Y)
  rw [World.size_alloc, World.size_alloc] at h5
  refine ⟨(h1.alloc h1.size _).alloc (Nat.le_trans h1.size (by simp)) _, ?_, h5, hlt, ?_⟩
  · have g := Five.new 0 0 0 0 0 w
    have b2 := ((Below.refl (w.heap.size + 1) (w.alloc (.cells #[.int .u8 0, .int .u8 0, .int .u8 0, .int .u8 0, .int .u8 0] 32))).alloc (by simp) Y).alloc (by simp) (.cells #[.int .u8 x3, .int .u8 x4, .int .u8 x5, .int .u8 x6, .int .u8 x7] 32)
    exact g.below b2 (by omega)
  · exact Lib.cell?_alloc_marked _ (Lib.cell?_alloc_marked _ (Lib.cell?_alloc_marked _ hl))
theorem read_head (b o n c : Nat) (xs : List Int) (h : 9 ≤ n) (hnc : n ≤ c) (hx : xs.length = n) (w : World) (hc : ∀ i, i < n → w.cell? ⟨b, o + i, none⟩ = some (.int .u8 (xs.getD i 0)))
    (hp : Lib.hasPrefix (Lib.bytesOf (xs.take 9)) (Lib.bytesOf [77, 83, 72]) = true)
    (hb : ∀ i, i < 9 → Sp.isByte (xs.getD i 0)) (hr : Sp.right (xs.getD 3 0) (xs.getD 4 0) (xs.getD 5 0) (xs.getD 6 0) (xs.getD 7 0) = false) :
   Calls Tryd.prog 12 #[.slice (some ⟨b, o, none⟩) n c] w fun e w' =>
    e = .returned (.tuple #[val5 (0, 0, 0, 0, 0), .int .i64 11]) ∧ Below w.heap.size w w' := by
  have huD := Tryd.underlying32
  have kc := conv1
  have hcut := fun X => cut_calls b o n c xs h hnc hx w X hc
  rw [hp] at hcut
  have e1 : Lib.bytesTrimPrefix b o 9 c (xs.take 9) [77, 83, 72] = .slice (some ⟨b, o + 3, none⟩) 6 (c - 3) := by
    unfold Lib.bytesTrimPrefix Lib.sliceFrom; rw [if_pos hp]
    simp only [List.length_cons, List.length_nil]
    rw [if_neg (by omega)]
  rw [e1] at hcut
  have Hcut := Lib.hid hcut
  have hlt : b < w.heap.size := World.block_lt_of_cell? _ _ (hc 0 (by omega))
  have hW : RdS w.heap.size w b o (xs.getD 3 0) (xs.getD 4 0) (xs.getD 5 0) (xs.getD 6 0) (xs.getD 7 0) (xs.getD 8 0) w :=
    ⟨Below.refl _ _, Nat.le_refl _, hlt, hc 3 (by omega), hc 4 (by omega), hc 5 (by omega), hc 6 (by omega), hc 7 (by omega), hc 8 (by omega)⟩
  have hright := fun W => right_calls (xs.getD 3 0) (xs.getD 4 0) (xs.getD 5 0) (xs.getD 6 0) (xs.getD 7 0) W (hb 3 (by omega)) (hb 4 (by omega)) (hb 5 (by omega)) (hb 6 (by omega)) (hb 7 (by omega))
  rw [hr] at hright
  have hw7 := fun Y => Rd7.mk3 (x3 := xs.getD 3 0) (x4 := xs.getD 4 0) (x5 := xs.getD 5 0) (x6 := xs.getD 6 0) (x7 := xs.getD 7 0) hlt (hc 8 (by omega)) Y
  clear hr hb
  have HW := fun X Y => Lib.hid ((hW.alloc X).alloc Y).drew
  have HW3 := fun X Y Z => Lib.hid (((hW.alloc X).alloc Y).alloc Z).drew
  clear hW
  generalize xs.getD 3 0 = x3 at *; generalize xs.getD 4 0 = x4 at *; generalize xs.getD 5 0 = x5 at *; generalize xs.getD 6 0 = x6 at *; generalize xs.getD 7 0 = x7 at *; generalize xs.getD 8 0 = x8 at *
  have Hw7 := fun Y => Lib.hid (hw7 Y)
  have Hright := fun W => Lib.hid (hright W)
  clear hcut hx hc hp e1 hw7 hright hlt
  go_enter Tryd.func12, Tryd.ntmps12
  go_wp2_with (go_at_call 17; refine (Hcut.out _).mono ?_; rintro e w' ⟨rfl, rfl⟩)
  go_region_held3 (fun w' => RdS w.heap.size w b o x3 x4 x5 x6 x7 x8 w') (first | exact (HW _ _).out | exact (HW3 _ _ _).out) (fail)
  go_wp2_with fail
  have h7 := (Hw7 (.cells #[.int .u8 77, .int .u8 83, .int .u8 72] 5 (3, 4))).out
  generalize (((w.alloc (.cells #[.int .u8 0, .int .u8 0, .int .u8 0, .int .u8 0, .int .u8 0] 32)).alloc (.cells #[.int .u8 77, .int .u8 83, .int .u8 72] 5 (3, 4))).alloc (.cells #[.int .u8 x3, .int .u8 x4, .int .u8 x5, .int .u8 x6, .int .u8 x7] 32)) = W7 at *
  have hl : ∀ x : Qr.In (Rd7 w b o x3 x4 x5 x6 x7 x8), x.w.cell? ⟨b, o + 3 + 5, none⟩ = some (.int .u8 x8) ∧
      x.w.cell? ⟨w.heap.size + 2, 0, none⟩ = some (.int .u8 x3) ∧ x.w.cell? ⟨w.heap.size + 2, 1, none⟩ = some (.int .u8 x4) ∧ x.w.cell? ⟨w.heap.size + 2, 2, none⟩ = some (.int .u8 x5) ∧
      x.w.cell? ⟨w.heap.size + 2, 3, none⟩ = some (.int .u8 x6) ∧ x.w.cell? ⟨w.heap.size + 2, 4, none⟩ = some (.int .u8 x7) := fun x => x.h.limbs.2
  have hne : Nonempty (Qr.In (Rd7 w b o x3 x4 x5 x6 x7 x8)) := ⟨⟨_, h7⟩⟩
  refine Qr.region_in (S := Rd7 w b o x3 x4 x5 x6 x7 x8) (by kernel_rfl) (by kernel_rfl) h7.drew.drew ?_
  repeat (go_big_quiet_step ((go_at_call 18; exact Qr.call (Hright _).out (fun _ _ => Rd7.step))))
  refine wpQuiet_nil ?_
  rintro _ ⟨⟨W8, h8⟩, rfl⟩
  clear hl h7 hne
  have hz := h8.zero.cells
  have hzf := h8.zero.frozen
  go_wp2_with fail
  have h9 := h8.zero.store 0 0 0 0 0
  have hb9 := below_store h8.below (Nat.le_refl _) (.int .u8 0) (.int .u8 0) (.int .u8 0) (.int .u8 0) (.int .u8 0)
  generalize (((((_ : World).setCell ⟨w.heap.size, 0, none⟩ (.int .u8 0)).setCell ⟨w.heap.size, 1, none⟩ (.int .u8 0)).setCell ⟨w.heap.size, 2, none⟩ (.int .u8 0)).setCell ⟨w.heap.size, 3, none⟩ (.int .u8 0)).setCell ⟨w.heap.size, 4, none⟩ (.int .u8 0) = W9 at *
  have hz9 := h9.cells
  exact bodyPost_ret (v := .tuple #[val5 (0, 0, 0, 0, 0), .int .i64 11]) (by simp [results, Tryd.results12, go_sem, hz9]) rfl ⟨rfl, hb9⟩
theorem read_ok1 (b o n c : Nat) (xs : List Int) (h : 9 ≤ n) (hnc : n ≤ c) (hx : xs.length = n) (w : World) (hc : ∀ i, i < n → w.cell? ⟨b, o + i, none⟩ = some (.int .u8 (xs.getD i 0)))
    (hp : Lib.hasPrefix (Lib.bytesOf (xs.take 9)) (Lib.bytesOf [77, 83, 72]) = true)
    (hb : ∀ i, i < 9 → Sp.isByte (xs.getD i 0)) (hr : Sp.right (xs.getD 3 0) (xs.getD 4 0) (xs.getD 5 0) (xs.getD 6 0) (xs.getD 7 0) = true) (hl : xs.getD 8 0 = xs.getD 3 0) :
   Calls Tryd.prog 12 #[.slice (some ⟨b, o, none⟩) n c] w fun e w' =>
    e = .returned (.tuple #[val5 (xs.getD 3 0, xs.getD 4 0, xs.getD 5 0, xs.getD 6 0, xs.getD 7 0), .int .i64 0]) ∧ Below w.heap.size w w' := by
  have huD := Tryd.underlying32
  have kc := conv1
  have hcut := fun X => cut_calls b o n c xs h hnc hx w X hc
  rw [hp] at hcut
  have e1 : Lib.bytesTrimPrefix b o 9 c (xs.take 9) [77, 83, 72] = .slice (some ⟨b, o + 3, none⟩) 6 (c - 3) := by
    unfold Lib.bytesTrimPrefix Lib.sliceFrom; rw [if_pos hp]
    simp only [List.length_cons, List.length_nil]
    rw [if_neg (by omega)]
  rw [e1] at hcut
  have Hcut := Lib.hid hcut
  have hlt : b < w.heap.size := World.block_lt_of_cell? _ _ (hc 0 (by omega))
  have hW : RdS w.heap.size w b o (xs.getD 3 0) (xs.getD 4 0) (xs.getD 5 0) (xs.getD 6 0) (xs.getD 7 0) (xs.getD 8 0) w :=
    ⟨Below.refl _ _, Nat.le_refl _, hlt, hc 3 (by omega), hc 4 (by omega), hc 5 (by omega), hc 6 (by omega), hc 7 (by omega), hc 8 (by omega)⟩
  have hright := fun W => right_calls (xs.getD 3 0) (xs.getD 4 0) (xs.getD 5 0) (xs.getD 6 0) (xs.getD 7 0) W (hb 3 (by omega)) (hb 4 (by omega)) (hb 5 (by omega)) (hb 6 (by omega)) (hb 7 (by omega))
  rw [hr] at hright
  have hw7 := fun Y => Rd7.mk3 (x3 := xs.getD 3 0) (x4 := xs.getD 4 0) (x5 := xs.getD 5 0) (x6 := xs.getD 6 0) (x7 := xs.getD 7 0) hlt (hc 8 (by omega)) Y
  clear hr hb
  have HW := fun X Y => Lib.hid ((hW.alloc X).alloc Y).drew
  have HW3 := fun X Y Z => Lib.hid (((hW.alloc X).alloc Y).alloc Z).drew
  clear hW
  generalize xs.getD 3 0 = x3 at *; generalize xs.getD 4 0 = x4 at *; generalize xs.getD 5 0 = x5 at *; generalize xs.getD 6 0 = x6 at *; generalize xs.getD 7 0 = x7 at *; generalize xs.getD 8 0 = x8 at *
  have Hw7 := fun Y => Lib.hid (hw7 Y)
  have Hright := fun W => Lib.hid (hright W)
  clear hcut hx hc hp e1 hw7 hright hlt
  have t1 : (x8 == x3) = true := beq_iff_eq.2 hl
  have t2 : (x8 != x3) = false := by simp [hl]
  clear hl
  go_enter Tryd.func12, Tryd.ntmps12
  go_wp2_with (go_at_call 17; refine (Hcut.out _).mono ?_; rintro e w' ⟨rfl, rfl⟩)
  go_region_held3 (fun w' => RdS w.heap.size w b o x3 x4 x5 x6 x7 x8 w') (first | exact (HW _ _).out | exact (HW3 _ _ _).out) (fail)
  go_wp2_with fail
  have h7 := (Hw7 (.cells #[.int .u8 77, .int .u8 83, .int .u8 72] 5 (3, 4))).out
  generalize (((w.alloc (.cells #[.int .u8 0, .int .u8 0, .int .u8 0, .int .u8 0, .int .u8 0] 32)).alloc (.cells #[.int .u8 77, .int .u8 83, .int .u8 72] 5 (3, 4))).alloc (.cells #[.int .u8 x3, .int .u8 x4, .int .u8 x5, .int .u8 x6, .int .u8 x7] 32)) = W7 at *
  have hl : ∀ x : Qr.In (Rd7 w b o x3 x4 x5 x6 x7 x8), x.w.cell? ⟨b, o + 3 + 5, none⟩ = some (.int .u8 x8) ∧
      x.w.cell? ⟨w.heap.size + 2, 0, none⟩ = some (.int .u8 x3) ∧ x.w.cell? ⟨w.heap.size + 2, 1, none⟩ = some (.int .u8 x4) ∧ x.w.cell? ⟨w.heap.size + 2, 2, none⟩ = some (.int .u8 x5) ∧
      x.w.cell? ⟨w.heap.size + 2, 3, none⟩ = some (.int .u8 x6) ∧ x.w.cell? ⟨w.heap.size + 2, 4, none⟩ = some (.int .u8 x7) := fun x => x.h.limbs.2
  have hne : Nonempty (Qr.In (Rd7 w b o x3 x4 x5 x6 x7 x8)) := ⟨⟨_, h7⟩⟩
  refine Qr.region_in (S := Rd7 w b o x3 x4 x5 x6 x7 x8) (by kernel_rfl) (by kernel_rfl) h7.drew.drew ?_
  repeat (go_big_quiet_step ((go_at_call 18; exact Qr.call (Hright _).out (fun _ _ => Rd7.step))))
  refine wpQuiet_nil ?_
  rintro _ ⟨⟨W8, h8⟩, rfl⟩
  clear hl h7 hne
  have hz := h8.zero.cells
  have hzf := h8.zero.frozen
  have hf := h8.five.cells
  go_wp2_with fail
  have h9 := h8.zero.store x3 x4 x5 x6 x7
  have hb9 := below_store h8.below (Nat.le_refl _) (.int .u8 x3) (.int .u8 x4) (.int .u8 x5) (.int .u8 x6) (.int .u8 x7)
  generalize (((((_ : World).setCell ⟨w.heap.size, 0, none⟩ (.int .u8 x3)).setCell ⟨w.heap.size, 1, none⟩ (.int .u8 x4)).setCell ⟨w.heap.size, 2, none⟩ (.int .u8 x5)).setCell ⟨w.heap.size, 3, none⟩ (.int .u8 x6)).setCell ⟨w.heap.size, 4, none⟩ (.int .u8 x7) = W9 at *
  have hz9 := h9.cells
  exact bodyPost_ret (v := .tuple #[val5 (x3, x4, x5, x6, x7), .int .i64 0]) (by simp [results, Tryd.results12, go_sem, hz9]) rfl ⟨rfl, hb9⟩
theorem read_ok2 (b o n c : Nat) (xs : List Int) (h : 9 ≤ n) (hnc : n ≤ c) (hx : xs.length = n) (w : World) (hc : ∀ i, i < n → w.cell? ⟨b, o + i, none⟩ = some (.int .u8 (xs.getD i 0)))
    (hp : Lib.hasPrefix (Lib.bytesOf (xs.take 9)) (Lib.bytesOf [77, 83, 72]) = true)
    (hb : ∀ i, i < 9 → Sp.isByte (xs.getD i 0)) (hr : Sp.right (xs.getD 3 0) (xs.getD 4 0) (xs.getD 5 0) (xs.getD 6 0) (xs.getD 7 0) = true) (hl : xs.getD 8 0 ≠ xs.getD 3 0) (hl2 : xs.getD 8 0 = 13) :
   Calls Tryd.prog 12 #[.slice (some ⟨b, o, none⟩) n c] w fun e w' =>
    e = .returned (.tuple #[val5 (xs.getD 3 0, xs.getD 4 0, xs.getD 5 0, xs.getD 6 0, xs.getD 7 0), .int .i64 0]) ∧ Below w.heap.size w w' := by
  have huD := Tryd.underlying32
  have kc := conv1
  have hcut := fun X => cut_calls b o n c xs h hnc hx w X hc
  rw [hp] at hcut
  have e1 : Lib.bytesTrimPrefix b o 9 c (xs.take 9) [77, 83, 72] = .slice (some ⟨b, o + 3, none⟩) 6 (c - 3) := by
    unfold Lib.bytesTrimPrefix Lib.sliceFrom; rw [if_pos hp]
    simp only [List.length_cons, List.length_nil]
    rw [if_neg (by omega)]
  rw [e1] at hcut
  have Hcut := Lib.hid hcut
  have hlt : b < w.heap.size := World.block_lt_of_cell? _ _ (hc 0 (by omega))
  have hW : RdS w.heap.size w b o (xs.getD 3 0) (xs.getD 4 0) (xs.getD 5 0) (xs.getD 6 0) (xs.getD 7 0) (xs.getD 8 0) w :=
    ⟨Below.refl _ _, Nat.le_refl _, hlt, hc 3 (by omega), hc 4 (by omega), hc 5 (by omega), hc 6 (by omega), hc 7 (by omega), hc 8 (by omega)⟩
  have hright := fun W => right_calls (xs.getD 3 0) (xs.getD 4 0) (xs.getD 5 0) (xs.getD 6 0) (xs.getD 7 0) W (hb 3 (by omega)) (hb 4 (by omega)) (hb 5 (by omega)) (hb 6 (by omega)) (hb 7 (by omega))
  rw [hr] at hright
  have hw7 := fun Y => Rd7.mk3 (x3 := xs.getD 3 0) (x4 := xs.getD 4 0) (x5 := xs.getD 5 0) (x6 := xs.getD 6 0) (x7 := xs.getD 7 0) hlt (hc 8 (by omega)) Y
  clear hr hb
  have HW := fun X Y => Lib.hid ((hW.alloc X).alloc Y).drew
  have HW3 := fun X Y Z => Lib.hid (((hW.alloc X).alloc Y).alloc Z).drew
  clear hW
  generalize xs.getD 3 0 = x3 at *; generalize xs.getD 4 0 = x4 at *; generalize xs.getD 5 0 = x5 at *; generalize xs.getD 6 0 = x6 at *; generalize xs.getD 7 0 = x7 at *; generalize xs.getD 8 0 = x8 at *
  have Hw7 := fun Y => Lib.hid (hw7 Y)
  have Hright := fun W => Lib.hid (hright W)
  clear hcut hx hc hp e1 hw7 hright hlt
  have t1 : (x8 == x3) = false := beq_eq_false_iff_ne.2 hl
  have t2 : (x8 != x3) = true := by simp [hl]
  have t3 : (x8 == 13) = true := beq_iff_eq.2 hl2
  have t4 : (x8 != 13) = false := by simp [hl2]
  clear hl hl2
  go_enter Tryd.func12, Tryd.ntmps12
  go_wp2_with (go_at_call 17; refine (Hcut.out _).mono ?_; rintro e w' ⟨rfl, rfl⟩)
  go_region_held3 (fun w' => RdS w.heap.size w b o x3 x4 x5 x6 x7 x8 w') (first | exact (HW _ _).out | exact (HW3 _ _ _).out) (fail)
  go_wp2_with fail
  have h7 := (Hw7 (.cells #[.int .u8 77, .int .u8 83, .int .u8 72] 5 (3, 4))).out
  generalize (((w.alloc (.cells #[.int .u8 0, .int .u8 0, .int .u8 0, .int .u8 0, .int .u8 0] 32)).alloc (.cells #[.int .u8 77, .int .u8 83, .int .u8 72] 5 (3, 4))).alloc (.cells #[.int .u8 x3, .int .u8 x4, .int .u8 x5, .int .u8 x6, .int .u8 x7] 32)) = W7 at *
  have hl : ∀ x : Qr.In (Rd7 w b o x3 x4 x5 x6 x7 x8), x.w.cell? ⟨b, o + 3 + 5, none⟩ = some (.int .u8 x8) ∧
      x.w.cell? ⟨w.heap.size + 2, 0, none⟩ = some (.int .u8 x3) ∧ x.w.cell? ⟨w.heap.size + 2, 1, none⟩ = some (.int .u8 x4) ∧ x.w.cell? ⟨w.heap.size + 2, 2, none⟩ = some (.int .u8 x5) ∧
      x.w.cell? ⟨w.heap.size + 2, 3, none⟩ = some (.int .u8 x6) ∧ x.w.cell? ⟨w.heap.size + 2, 4, none⟩ = some (.int .u8 x7) := fun x => x.h.limbs.2
  have hne : Nonempty (Qr.In (Rd7 w b o x3 x4 x5 x6 x7 x8)) := ⟨⟨_, h7⟩⟩
  refine Qr.region_in (S := Rd7 w b o x3 x4 x5 x6 x7 x8) (by kernel_rfl) (by kernel_rfl) h7.drew.drew ?_
  repeat (go_big_quiet_step ((go_at_call 18; exact Qr.call (Hright _).out (fun _ _ => Rd7.step))))
  refine wpQuiet_nil ?_
  rintro _ ⟨⟨W8, h8⟩, rfl⟩
  clear hl h7 hne
  have hz := h8.zero.cells
  have hzf := h8.zero.frozen
  have hf := h8.five.cells
  go_wp2_with fail
  have h9 := h8.zero.store x3 x4 x5 x6 x7
  have hb9 := below_store h8.below (Nat.le_refl _) (.int .u8 x3) (.int .u8 x4) (.int .u8 x5) (.int .u8 x6) (.int .u8 x7)
  generalize (((((_ : World).setCell ⟨w.heap.size, 0, none⟩ (.int .u8 x3)).setCell ⟨w.heap.size, 1, none⟩ (.int .u8 x4)).setCell ⟨w.heap.size, 2, none⟩ (.int .u8 x5)).setCell ⟨w.heap.size, 3, none⟩ (.int .u8 x6)).setCell ⟨w.heap.size, 4, none⟩ (.int .u8 x7) = W9 at *
  have hz9 := h9.cells
  exact bodyPost_ret (v := .tuple #[val5 (x3, x4, x5, x6, x7), .int .i64 0]) (by simp [results, Tryd.results12, go_sem, hz9]) rfl ⟨rfl, hb9⟩
theorem read_bad (b o n c : Nat) (xs : List Int) (h : 9 ≤ n) (hnc : n ≤ c) (hx : xs.length = n) (w : World) (hc : ∀ i, i < n → w.cell? ⟨b, o + i, none⟩ = some (.int .u8 (xs.getD i 0)))
    (hp : Lib.hasPrefix (Lib.bytesOf (xs.take 9)) (Lib.bytesOf [77, 83, 72]) = true)
    (hb : ∀ i, i < 9 → Sp.isByte (xs.getD i 0)) (hr : Sp.right (xs.getD 3 0) (xs.getD 4 0) (xs.getD 5 0) (xs.getD 6 0) (xs.getD 7 0) = true) (hl : xs.getD 8 0 ≠ xs.getD 3 0) (hl2 : xs.getD 8 0 ≠ 13) :
   Calls Tryd.prog 12 #[.slice (some ⟨b, o, none⟩) n c] w fun e w' =>
    e = .returned (.tuple #[val5 (0, 0, 0, 0, 0), .int .i64 11]) ∧ Below w.heap.size w w' := by
  have huD := Tryd.underlying32
  have kc := conv1
  have hcut := fun X => cut_calls b o n c xs h hnc hx w X hc
  rw [hp] at hcut
  have e1 : Lib.bytesTrimPrefix b o 9 c (xs.take 9) [77, 83, 72] = .slice (some ⟨b, o + 3, none⟩) 6 (c - 3) := by
    unfold Lib.bytesTrimPrefix Lib.sliceFrom; rw [if_pos hp]
    simp only [List.length_cons, List.length_nil]
    rw [if_neg (by omega)]
  rw [e1] at hcut
  have Hcut := Lib.hid hcut
  have hlt : b < w.heap.size := World.block_lt_of_cell? _ _ (hc 0 (by omega))
  have hW : RdS w.heap.size w b o (xs.getD 3 0) (xs.getD 4 0) (xs.getD 5 0) (xs.getD 6 0) (xs.getD 7 0) (xs.getD 8 0) w :=
    ⟨Below.refl _ _, Nat.le_refl _, hlt, hc 3 (by omega), hc 4 (by omega), hc 5 (by omega), hc 6 (by omega), hc 7 (by omega), hc 8 (by omega)⟩
  have hright := fun W => right_calls (xs.getD 3 0) (xs.getD 4 0) (xs.getD 5 0) (xs.getD 6 0) (xs.getD 7 0) W (hb 3 (by omega)) (hb 4 (by omega)) (hb 5 (by omega)) (hb 6 (by omega)) (hb 7 (by omega))
  rw [hr] at hright
  have hw7 := fun Y => Rd7.mk3 (x3 := xs.getD 3 0) (x4 := xs.getD 4 0) (x5 := xs.getD 5 0) (x6 := xs.getD 6 0) (x7 := xs.getD 7 0) hlt (hc 8 (by omega)) Y
  clear hr hb
  have HW := fun X Y => Lib.hid ((hW.alloc X).alloc Y).drew
  have HW3 := fun X Y Z => Lib.hid (((hW.alloc X).alloc Y).alloc Z).drew
  clear hW
  generalize xs.getD 3 0 = x3 at *; generalize xs.getD 4 0 = x4 at *; generalize xs.getD 5 0 = x5 at *; generalize xs.getD 6 0 = x6 at *; generalize xs.getD 7 0 = x7 at *; generalize xs.getD 8 0 = x8 at *
  have Hw7 := fun Y => Lib.hid (hw7 Y)
  have Hright := fun W => Lib.hid (hright W)
  clear hcut hx hc hp e1 hw7 hright hlt
  have t1 : (x8 == x3) = false := beq_eq_false_iff_ne.2 hl
  have t2 : (x8 != x3) = true := by simp [hl]
  have t3 : (x8 == 13) = false := beq_eq_false_iff_ne.2 hl2
  have t4 : (x8 != 13) = true := by simp [hl2]
  clear hl hl2
  go_enter Tryd.func12, Tryd.ntmps12
  go_wp2_with (go_at_call 17; refine (Hcut.out _).mono ?_; rintro e w' ⟨rfl, rfl⟩)
  go_region_held3 (fun w' => RdS w.heap.size w b o x3 x4 x5 x6 x7 x8 w') (first | exact (HW _ _).out | exact (HW3 _ _ _).out) (fail)
  go_wp2_with fail
  have h7 := (Hw7 (.cells #[.int .u8 77, .int .u8 83, .int .u8 72] 5 (3, 4))).out
  generalize (((w.alloc (.cells #[.int .u8 0, .int .u8 0, .int .u8 0, .int .u8 0, .int .u8 0] 32)).alloc (.cells #[.int .u8 77, .int .u8 83, .int .u8 72] 5 (3, 4))).alloc (.cells #[.int .u8 x3, .int .u8 x4, .int .u8 x5, .int .u8 x6, .int .u8 x7] 32)) = W7 at *
  have hl : ∀ x : Qr.In (Rd7 w b o x3 x4 x5 x6 x7 x8), x.w.cell? ⟨b, o + 3 + 5, none⟩ = some (.int .u8 x8) ∧
      x.w.cell? ⟨w.heap.size + 2, 0, none⟩ = some (.int .u8 x3) ∧ x.w.cell? ⟨w.heap.size + 2, 1, none⟩ = some (.int .u8 x4) ∧ x.w.cell? ⟨w.heap.size + 2, 2, none⟩ = some (.int .u8 x5) ∧
      x.w.cell? ⟨w.heap.size + 2, 3, none⟩ = some (.int .u8 x6) ∧ x.w.cell? ⟨w.heap.size + 2, 4, none⟩ = some (.int .u8 x7) := fun x => x.h.limbs.2
  have hne : Nonempty (Qr.In (Rd7 w b o x3 x4 x5 x6 x7 x8)) := ⟨⟨_, h7⟩⟩
  refine Qr.region_in (S := Rd7 w b o x3 x4 x5 x6 x7 x8) (by kernel_rfl) (by kernel_rfl) h7.drew.drew ?_
  repeat (go_big_quiet_step ((go_at_call 18; exact Qr.call (Hright _).out (fun _ _ => Rd7.step))))
  refine wpQuiet_nil ?_
  rintro _ ⟨⟨W8, h8⟩, rfl⟩
  clear hl h7 hne
  have hz := h8.zero.cells
  have hzf := h8.zero.frozen
  go_wp2_with fail
  have h9 := h8.zero.store 0 0 0 0 0
  have hb9 := below_store h8.below (Nat.le_refl _) (.int .u8 0) (.int .u8 0) (.int .u8 0) (.int .u8 0) (.int .u8 0)
  generalize (((((_ : World).setCell ⟨w.heap.size, 0, none⟩ (.int .u8 0)).setCell ⟨w.heap.size, 1, none⟩ (.int .u8 0)).setCell ⟨w.heap.size, 2, none⟩ (.int .u8 0)).setCell ⟨w.heap.size, 3, none⟩ (.int .u8 0)).setCell ⟨w.heap.size, 4, none⟩ (.int .u8 0) = W9 at *
  have hz9 := h9.cells
  exact bodyPost_ret (v := .tuple #[val5 (0, 0, 0, 0, 0), .int .i64 11]) (by simp [results, Tryd.results12, go_sem, hz9]) rfl ⟨rfl, hb9⟩
/-- delim.Read: the signs of a message, or why there are none -/
theorem read_calls (A : Option Addr) (n c : Nat) (xs : List Int) (hnc : n ≤ c) (hx : xs.length = n) (w : World) (hA : n < 9 ∨ ∃ b o, A = some ⟨b, o, none⟩ ∧ ∀ i, i < n → w.cell? ⟨b, o + i, none⟩ = some (.int .u8 (xs.getD i 0)))
    (hb : ∀ i, i < n → Sp.isByte (xs.getD i 0)) :
    Calls Tryd.prog 12 #[.slice A n c] w fun e w' =>
      e = .returned (.tuple #[val5 (Sp.readD xs), .int .i64 (Sp.readE xs)]) ∧ Below w.heap.size w w' := by
  by_cases h : n < 9
  · rw [Sp.readD_short (by omega), Sp.readE_short (by omega)]
    exact read_short A n c h w
  · obtain ⟨b, o, rfl, hc⟩ := hA.resolve_left h
    have h9 : 9 ≤ n := by omega
    have hb9 : ∀ i, i < 9 → Sp.isByte (xs.getD i 0) := fun i hi => hb i (by omega)
    have hp := take3 xs (fun i hi => hb9 i (by omega)) (by omega)
    unfold Sp.readD Sp.readE
    rw [if_neg (show ¬ xs.length < 9 by omega), if_neg (show ¬ xs.length < 9 by omega)]
    by_cases h3 : xs.take 3 = [77, 83, 72]
    · rw [decide_eq_true h3] at hp
      cases hr : Sp.right (xs.getD 3 0) (xs.getD 4 0) (xs.getD 5 0) (xs.getD 6 0) (xs.getD 7 0) with
      | false =>
        rw [if_neg (by simp), if_neg (by simp)]
        exact read_head b o n c xs h9 hnc hx w hc hp hb9 hr
      | true =>
        by_cases hl : xs.getD 8 0 = xs.getD 3 0
        · rw [if_pos ⟨h3, rfl, .inl hl⟩, if_pos ⟨h3, rfl, .inl hl⟩]
          exact read_ok1 b o n c xs h9 hnc hx w hc hp hb9 hr hl
        · by_cases hl2 : xs.getD 8 0 = 13
          · rw [if_pos ⟨h3, rfl, .inr hl2⟩, if_pos ⟨h3, rfl, .inr hl2⟩]
            exact read_ok2 b o n c xs h9 hnc hx w hc hp hb9 hr hl hl2
          · have hno : ¬ (xs.take 3 = [77, 83, 72] ∧ true = true ∧ (xs.getD 8 0 = xs.getD 3 0 ∨ xs.getD 8 0 = 13)) := fun g => g.2.2.elim hl hl2
            rw [if_neg hno, if_neg hno]
            exact read_bad b o n c xs h9 hnc hx w hc hp hb9 hr hl hl2
    · rw [decide_eq_false h3] at hp
      rw [if_neg (fun g => h3 g.1), if_neg (fun g => h3 g.1)]
      exact read_nohead b o n c xs h9 hnc hx w hc hp
end Dl
end Go.Proofs.YtkjhjeaeffooaaaDoor
