/-
  A part of the proof of this seat's laws: the reference's reading of the signs.
-/
import Derived.Test.YtkjhjeaeffooaaaWr6
import Derived.Test.YtkjhjeaeffooaaaDelRd
namespace Go.Proofs.Ytkjhjeaeffooaaa
set_option linter.unusedVariables false
set_option linter.unusedSimpArgs false
open Go.RowKit
namespace Rf
open Dl
set_option maxHeartbeats 1000000
theorem rread_short (A : Option Addr) (n c : Nat) (h : n < 9) (w : World) : Calls Try.prog 9 #[.slice A n c] w fun e w' =>
    e = .returned (.tuple #[val5 (0, 0, 0, 0, 0), .int .i64 7]) ∧ Below w.heap.size w w' := by
  have huD := Try.underlying23
  go_enter Try.func9, Try.ntmps9
  go_wp2_with fail
  exact bodyPost_ret (v := .tuple #[val5 (0, 0, 0, 0, 0), .int .i64 7]) (by simp [results, Try.results9, go_sem]) rfl ⟨rfl, (Below.refl _ _).alloc (Nat.le_refl _) _⟩
/-- what stands while the head is asked -/
structure Rr (w : World) (b o : Nat) (x0 x1 x2 x3 x4 x5 x6 x7 x8 : Int) (w' : World) : Prop where
  below : Below w.heap.size w w'
  zero : Five w.heap.size 0 0 0 0 0 w'
  five : Five (w.heap.size + 1) x3 x4 x5 x6 x7 w'
  lt : b < w.heap.size
  c0 : w'.cell? ⟨b, o + 0, none⟩ = some (.int .u8 x0)
  c1 : w'.cell? ⟨b, o + 1, none⟩ = some (.int .u8 x1)
  c2 : w'.cell? ⟨b, o + 2, none⟩ = some (.int .u8 x2)
  last : w'.cell? ⟨b, o + 8, none⟩ = some (.int .u8 x8)
section
variable {w W W' : World} {b o : Nat} {x0 x1 x2 x3 x4 x5 x6 x7 x8 : Int}
theorem Rr.step (h : Rr w b o x0 x1 x2 x3 x4 x5 x6 x7 x8 W) (hb : Below W.heap.size W W') : Rr w b o x0 x1 x2 x3 x4 x5 x6 x7 x8 W' := by
  have e : ∀ q, W'.cell? ⟨b, q, none⟩ = W.cell? ⟨b, q, none⟩ := fun q => hb.cell (p := ⟨b, q, none⟩) (Nat.lt_of_lt_of_le h.lt h.below.size)
  exact ⟨h.below.trans (hb.mono h.below.size), h.zero.below hb h.zero.lt, h.five.below hb h.five.lt, h.lt, (e _).trans h.c0, (e _).trans h.c1, (e _).trans h.c2, (e _).trans h.last⟩
theorem Rr.limbs (h : Rr w b o x0 x1 x2 x3 x4 x5 x6 x7 x8 W) : W.cell? ⟨b, o + 8, none⟩ = some (.int .u8 x8) ∧
  W.cell? ⟨w.heap.size + 1, 0, none⟩ = some (.int .u8 x3) ∧ W.cell? ⟨w.heap.size + 1, 1, none⟩ = some (.int .u8 x4) ∧ W.cell? ⟨w.heap.size + 1, 2, none⟩ = some (.int .u8 x5) ∧
  W.cell? ⟨w.heap.size + 1, 3, none⟩ = some (.int .u8 x6) ∧ W.cell? ⟨w.heap.size + 1, 4, none⟩ = some (.int .u8 x7) := ⟨h.last, h.five.cells⟩
theorem Rr.mk2 (hlt : b < w.heap.size) (c0 : w.cell? ⟨b, o + 0, none⟩ = some (.int .u8 x0)) (c1 : w.cell? ⟨b, o + 1, none⟩ = some (.int .u8 x1)) (c2 : w.cell? ⟨b, o + 2, none⟩ = some (.int .u8 x2)) (hl : w.cell? ⟨b, o + 8, none⟩ = some (.int .u8 x8)) :
    Rr w b o x0 x1 x2 x3 x4 x5 x6 x7 x8 ((w.alloc (.cells #[.int .u8 0, .int .u8 0, .int .u8 0, .int .u8 0, .int .u8 0] 23)).alloc (.cells #[.int .u8 x3, .int .u8 x4, .int .u8 x5, .int .u8 x6, .int .u8 x7] 23)) := by
  have h1 : Below w.heap.size w (w.alloc (.cells #[.int .u8 0, .int .u8 0, .int .u8 0, .int .u8 0, .int .u8 0] 23)) := (Below.refl _ _).alloc (Nat.le_refl _) _
  have h5 := Five.new x3 x4 x5 x6 x7 (w.alloc (.cells #[.int .u8 0, .int .u8 0, .int .u8 0, .int .u8 0, .int .u8 0] 23))
  rw [World.size_alloc] at h5
  have m : ∀ {q : Nat} {v : Value}, w.cell? ⟨b, q, none⟩ = some v → ((w.alloc (.cells #[.int .u8 0, .int .u8 0, .int .u8 0, .int .u8 0, .int .u8 0] 23)).alloc (.cells #[.int .u8 x3, .int .u8 x4, .int .u8 x5, .int .u8 x6, .int .u8 x7] 23)).cell? ⟨b, q, none⟩ = some v :=
    fun h => Lib.cell?_alloc_marked _ (Lib.cell?_alloc_marked _ h)
  exact ⟨h1.alloc h1.size _, (Five.new 0 0 0 0 0 w).alloc _, h5, hlt, m c0, m c1, m c2, m hl⟩
/-- the first three bytes as a string -/
theorem Rr.str (h : Rr w b o x0 x1 x2 x3 x4 x5 x6 x7 x8 W) (c : Nat) : (convert 27 9 (.slice (some ⟨b, o, none⟩) 3 c)).run Try.prog W = .ok (.string (strOfNums [x0, x1, x2])) W :=
  run_convert_bytes_arg _ 27 5 Try.underlying27 Try.underlying5 b o 3 c [x0, x1, x2] rfl (fun i hi => by
    have e : i = 0 ∨ i = 1 ∨ i = 2 := by omega
    rcases e with rfl | rfl | rfl
    · exact h.c0
    · exact h.c1
    · exact h.c2) 9 Try.underlying9
end
theorem str3 {x0 x1 x2 : Int} (h0 : Sp.isByte x0) (h1 : Sp.isByte x1) (h2 : Sp.isByte x2) : (strOfNums [x0, x1, x2]).toList = [77, 83, 72] ↔ x0 = 77 ∧ x1 = 83 ∧ x2 = 72 := by
  rw [Lib.strOfNums_toList]
  unfold Lib.bytesOf
  have e : ∀ (x y : Int), Sp.isByte x → Sp.isByte y → (UInt8.ofNat x.toNat = UInt8.ofNat y.toNat ↔ x = y) := fun x y hx hy => ⟨Sp.byte_inj hx hy, fun h => by rw [h]⟩
  simp only [List.map_cons, List.map_nil, List.cons.injEq, and_true]
  have a := e x0 77 h0 (by unfold Sp.isByte; omega); have b := e x1 83 h1 (by unfold Sp.isByte; omega); have c := e x2 72 h2 (by unfold Sp.isByte; omega)
  exact ⟨fun ⟨p, q, r⟩ => ⟨a.1 p, b.1 q, c.1 r⟩, fun ⟨p, q, r⟩ => ⟨a.2 p, b.2 q, c.2 r⟩⟩
theorem rread_nohead (b o n c : Nat) (xs : List Int) (h : 9 ≤ n) (hnc : n ≤ c) (hx : xs.length = n) (w : World) (hc : ∀ i, i < n → w.cell? ⟨b, o + i, none⟩ = some (.int .u8 (xs.getD i 0)))
    (hb : ∀ i, i < 9 → Sp.isByte (xs.getD i 0)) (hh : ¬ (xs.getD 0 0 = 77 ∧ xs.getD 1 0 = 83 ∧ xs.getD 2 0 = 72)) :
   Calls Try.prog 9 #[.slice (some ⟨b, o, none⟩) n c] w fun e w' =>
    e = .returned (.tuple #[val5 (0, 0, 0, 0, 0), .int .i64 11]) ∧ Below w.heap.size w w' := by
  have huD := Try.underlying23
  have hlt : b < w.heap.size := World.block_lt_of_cell? _ _ (hc 0 (by omega))
  have h3 := str3 (hb 0 (by omega)) (hb 1 (by omega)) (hb 2 (by omega))
  have hright := fun W => rright_calls (xs.getD 3 0) (xs.getD 4 0) (xs.getD 5 0) (xs.getD 6 0) (xs.getD 7 0) W
  have hw4 := Rr.mk2 (x3 := xs.getD 3 0) (x4 := xs.getD 4 0) (x5 := xs.getD 5 0) (x6 := xs.getD 6 0) (x7 := xs.getD 7 0) hlt (hc 0 (by omega)) (hc 1 (by omega)) (hc 2 (by omega)) (hc 8 (by omega))
  have hl0 : ∀ q, q < n → (w.alloc (.cells #[.int .u8 0, .int .u8 0, .int .u8 0, .int .u8 0, .int .u8 0] 23)).drew.cell? ⟨b, o + q, none⟩ = some (.int .u8 (xs.getD q 0)) := fun q hq => Lib.cell?_alloc_marked _ (hc q hq)
  have hl1 : ∀ X q, q < n → ((w.alloc (.cells #[.int .u8 0, .int .u8 0, .int .u8 0, .int .u8 0, .int .u8 0] 23)).alloc X).drew.cell? ⟨b, o + q, none⟩ = some (.int .u8 (xs.getD q 0)) := fun X q hq => Lib.cell?_alloc_marked _ (Lib.cell?_alloc_marked _ (hc q hq))
  have hL0 : Hid (_ ∧ _ ∧ _ ∧ _ ∧ _) := ⟨hl0 3 (by omega), hl0 4 (by omega), hl0 5 (by omega), hl0 6 (by omega), hl0 7 (by omega)⟩
  have hL1 := fun X => Lib.hid (p := _ ∧ _ ∧ _ ∧ _ ∧ _) ⟨hl1 X 3 (by omega), hl1 X 4 (by omega), hl1 X 5 (by omega), hl1 X 6 (by omega), hl1 X 7 (by omega)⟩
  have s1 : ((strOfNums [xs.getD 0 0, xs.getD 1 0, xs.getD 2 0]).toList == [77, 83, 72]) = false := by exact beq_eq_false_iff_ne.2 fun g => hh (h3.1 g)
  have s2 : ((strOfNums [xs.getD 0 0, xs.getD 1 0, xs.getD 2 0]).toList != [77, 83, 72]) = true := by rw [bne, s1]; rfl
  have s3 : (strOfNums [xs.getD 0 0, xs.getD 1 0, xs.getD 2 0]).toList ≠ [77, 83, 72] := fun g => hh (h3.1 g)
  clear hh

  clear hl0 hl1 hc hb hx hlt
  generalize xs.getD 0 0 = x0 at *; generalize xs.getD 1 0 = x1 at *; generalize xs.getD 2 0 = x2 at *
  generalize xs.getD 3 0 = x3 at *; generalize xs.getD 4 0 = x4 at *; generalize xs.getD 5 0 = x5 at *; generalize xs.getD 6 0 = x6 at *; generalize xs.getD 7 0 = x7 at *; generalize xs.getD 8 0 = x8 at *
  have Hw4 := Lib.hid hw4
  have Hright := fun W => Lib.hid (hright W)
  clear hw4 hright h3
  have i3 : (3 : Int) < (n : Int) := by omega
  have i4 : (4 : Int) < (n : Int) := by omega
  have i5 : (5 : Int) < (n : Int) := by omega
  have i6 : (6 : Int) < (n : Int) := by omega
  have i7 : (7 : Int) < (n : Int) := by omega
  have i8 : (8 : Int) < (n : Int) := by omega
  go_enter Try.func9, Try.ntmps9
  go_wp2_with fail
  go_region_held3 (fun w' => w'.cell? ⟨b, o + 3, none⟩ = some (.int .u8 x3) ∧ w'.cell? ⟨b, o + 4, none⟩ = some (.int .u8 x4) ∧ w'.cell? ⟨b, o + 5, none⟩ = some (.int .u8 x5) ∧ w'.cell? ⟨b, o + 6, none⟩ = some (.int .u8 x6) ∧ w'.cell? ⟨b, o + 7, none⟩ = some (.int .u8 x7))
    (first | exact hL0.out | exact (hL1 _).out) (fail)
  go_wp2_with fail
  have h7 := Hw4.out
  clear Hw4 hL0 hL1
  generalize ((w.alloc (.cells #[.int .u8 0, .int .u8 0, .int .u8 0, .int .u8 0, .int .u8 0] 23)).alloc (.cells #[.int .u8 x3, .int .u8 x4, .int .u8 x5, .int .u8 x6, .int .u8 x7] 23)) = W7 at *
  have hl : ∀ x : Qr.In (Rr w b o x0 x1 x2 x3 x4 x5 x6 x7 x8), x.w.cell? ⟨b, o + 8, none⟩ = some (.int .u8 x8) ∧
      x.w.cell? ⟨w.heap.size + 1, 0, none⟩ = some (.int .u8 x3) ∧ x.w.cell? ⟨w.heap.size + 1, 1, none⟩ = some (.int .u8 x4) ∧ x.w.cell? ⟨w.heap.size + 1, 2, none⟩ = some (.int .u8 x5) ∧
      x.w.cell? ⟨w.heap.size + 1, 3, none⟩ = some (.int .u8 x6) ∧ x.w.cell? ⟨w.heap.size + 1, 4, none⟩ = some (.int .u8 x7) := fun x => x.h.limbs
  have hs : ∀ (x : Qr.In (Rr w b o x0 x1 x2 x3 x4 x5 x6 x7 x8)) (c : Nat), (convert 27 9 (.slice (some ⟨b, o, none⟩) 3 c)).run Try.prog x.w = .ok (.string (strOfNums [x0, x1, x2])) x.w := fun x c => x.h.str c
  have hne : Nonempty (Qr.In (Rr w b o x0 x1 x2 x3 x4 x5 x6 x7 x8)) := ⟨⟨_, h7⟩⟩
  refine Qr.region_in (S := Rr w b o x0 x1 x2 x3 x4 x5 x6 x7 x8) (by kernel_rfl) (by kernel_rfl) (h7.step ((Below.refl _ _).drew.drew)) ?_
  repeat (go_big_quiet_step ((go_at_call 11; exact Qr.call (Hright _).out (fun _ _ => Rr.step))))
  refine wpQuiet_nil ?_
  rintro _ ⟨⟨W8, h8⟩, rfl⟩
  clear hl h7 hne hs
  have hz := h8.zero.cells
  have hzf := h8.zero.frozen
  go_wp2_with fail
  have h9 := h8.zero.store 0 0 0 0 0
  have hb9 := below_store h8.below (Nat.le_refl _) (.int .u8 0) (.int .u8 0) (.int .u8 0) (.int .u8 0) (.int .u8 0)
  generalize (((((_ : World).setCell ⟨w.heap.size, 0, none⟩ (.int .u8 0)).setCell ⟨w.heap.size, 1, none⟩ (.int .u8 0)).setCell ⟨w.heap.size, 2, none⟩ (.int .u8 0)).setCell ⟨w.heap.size, 3, none⟩ (.int .u8 0)).setCell ⟨w.heap.size, 4, none⟩ (.int .u8 0) = W9 at *
  have hz9 := h9.cells
  exact bodyPost_ret (v := .tuple #[val5 (0, 0, 0, 0, 0), .int .i64 11]) (by simp [results, Try.results9, go_sem, hz9]) rfl ⟨rfl, hb9⟩
theorem rread_noright (b o n c : Nat) (xs : List Int) (h : 9 ≤ n) (hnc : n ≤ c) (hx : xs.length = n) (w : World) (hc : ∀ i, i < n → w.cell? ⟨b, o + i, none⟩ = some (.int .u8 (xs.getD i 0)))
    (hb : ∀ i, i < 9 → Sp.isByte (xs.getD i 0)) (hh : xs.getD 0 0 = 77 ∧ xs.getD 1 0 = 83 ∧ xs.getD 2 0 = 72) (hr : Sp.right (xs.getD 3 0) (xs.getD 4 0) (xs.getD 5 0) (xs.getD 6 0) (xs.getD 7 0) = false) :
   Calls Try.prog 9 #[.slice (some ⟨b, o, none⟩) n c] w fun e w' =>
    e = .returned (.tuple #[val5 (0, 0, 0, 0, 0), .int .i64 11]) ∧ Below w.heap.size w w' := by
  have huD := Try.underlying23
  have hlt : b < w.heap.size := World.block_lt_of_cell? _ _ (hc 0 (by omega))
  have h3 := str3 (hb 0 (by omega)) (hb 1 (by omega)) (hb 2 (by omega))
  have hright := fun W => rright_calls (xs.getD 3 0) (xs.getD 4 0) (xs.getD 5 0) (xs.getD 6 0) (xs.getD 7 0) W
  have hw4 := Rr.mk2 (x3 := xs.getD 3 0) (x4 := xs.getD 4 0) (x5 := xs.getD 5 0) (x6 := xs.getD 6 0) (x7 := xs.getD 7 0) hlt (hc 0 (by omega)) (hc 1 (by omega)) (hc 2 (by omega)) (hc 8 (by omega))
  have hl0 : ∀ q, q < n → (w.alloc (.cells #[.int .u8 0, .int .u8 0, .int .u8 0, .int .u8 0, .int .u8 0] 23)).drew.cell? ⟨b, o + q, none⟩ = some (.int .u8 (xs.getD q 0)) := fun q hq => Lib.cell?_alloc_marked _ (hc q hq)
  have hl1 : ∀ X q, q < n → ((w.alloc (.cells #[.int .u8 0, .int .u8 0, .int .u8 0, .int .u8 0, .int .u8 0] 23)).alloc X).drew.cell? ⟨b, o + q, none⟩ = some (.int .u8 (xs.getD q 0)) := fun X q hq => Lib.cell?_alloc_marked _ (Lib.cell?_alloc_marked _ (hc q hq))
  have hL0 : Hid (_ ∧ _ ∧ _ ∧ _ ∧ _) := ⟨hl0 3 (by omega), hl0 4 (by omega), hl0 5 (by omega), hl0 6 (by omega), hl0 7 (by omega)⟩
  have hL1 := fun X => Lib.hid (p := _ ∧ _ ∧ _ ∧ _ ∧ _) ⟨hl1 X 3 (by omega), hl1 X 4 (by omega), hl1 X 5 (by omega), hl1 X 6 (by omega), hl1 X 7 (by omega)⟩
  have s1 : ((strOfNums [xs.getD 0 0, xs.getD 1 0, xs.getD 2 0]).toList == [77, 83, 72]) = true := by exact beq_iff_eq.2 (h3.2 hh)
  have s2 : ((strOfNums [xs.getD 0 0, xs.getD 1 0, xs.getD 2 0]).toList != [77, 83, 72]) = false := by rw [bne, s1]; rfl
  have s3 : (strOfNums [xs.getD 0 0, xs.getD 1 0, xs.getD 2 0]).toList = [77, 83, 72] := h3.2 hh
  clear hh
  rw [hr] at hright
  clear hr

  clear hl0 hl1 hc hb hx hlt
  generalize xs.getD 0 0 = x0 at *; generalize xs.getD 1 0 = x1 at *; generalize xs.getD 2 0 = x2 at *
  generalize xs.getD 3 0 = x3 at *; generalize xs.getD 4 0 = x4 at *; generalize xs.getD 5 0 = x5 at *; generalize xs.getD 6 0 = x6 at *; generalize xs.getD 7 0 = x7 at *; generalize xs.getD 8 0 = x8 at *
  have Hw4 := Lib.hid hw4
  have Hright := fun W => Lib.hid (hright W)
  clear hw4 hright h3
  have i3 : (3 : Int) < (n : Int) := by omega
  have i4 : (4 : Int) < (n : Int) := by omega
  have i5 : (5 : Int) < (n : Int) := by omega
  have i6 : (6 : Int) < (n : Int) := by omega
  have i7 : (7 : Int) < (n : Int) := by omega
  have i8 : (8 : Int) < (n : Int) := by omega
  go_enter Try.func9, Try.ntmps9
  go_wp2_with fail
  go_region_held3 (fun w' => w'.cell? ⟨b, o + 3, none⟩ = some (.int .u8 x3) ∧ w'.cell? ⟨b, o + 4, none⟩ = some (.int .u8 x4) ∧ w'.cell? ⟨b, o + 5, none⟩ = some (.int .u8 x5) ∧ w'.cell? ⟨b, o + 6, none⟩ = some (.int .u8 x6) ∧ w'.cell? ⟨b, o + 7, none⟩ = some (.int .u8 x7))
    (first | exact hL0.out | exact (hL1 _).out) (fail)
  go_wp2_with fail
  have h7 := Hw4.out
  clear Hw4 hL0 hL1
  generalize ((w.alloc (.cells #[.int .u8 0, .int .u8 0, .int .u8 0, .int .u8 0, .int .u8 0] 23)).alloc (.cells #[.int .u8 x3, .int .u8 x4, .int .u8 x5, .int .u8 x6, .int .u8 x7] 23)) = W7 at *
  have hl : ∀ x : Qr.In (Rr w b o x0 x1 x2 x3 x4 x5 x6 x7 x8), x.w.cell? ⟨b, o + 8, none⟩ = some (.int .u8 x8) ∧
      x.w.cell? ⟨w.heap.size + 1, 0, none⟩ = some (.int .u8 x3) ∧ x.w.cell? ⟨w.heap.size + 1, 1, none⟩ = some (.int .u8 x4) ∧ x.w.cell? ⟨w.heap.size + 1, 2, none⟩ = some (.int .u8 x5) ∧
      x.w.cell? ⟨w.heap.size + 1, 3, none⟩ = some (.int .u8 x6) ∧ x.w.cell? ⟨w.heap.size + 1, 4, none⟩ = some (.int .u8 x7) := fun x => x.h.limbs
  have hs : ∀ (x : Qr.In (Rr w b o x0 x1 x2 x3 x4 x5 x6 x7 x8)) (c : Nat), (convert 27 9 (.slice (some ⟨b, o, none⟩) 3 c)).run Try.prog x.w = .ok (.string (strOfNums [x0, x1, x2])) x.w := fun x c => x.h.str c
  have hne : Nonempty (Qr.In (Rr w b o x0 x1 x2 x3 x4 x5 x6 x7 x8)) := ⟨⟨_, h7⟩⟩
  refine Qr.region_in (S := Rr w b o x0 x1 x2 x3 x4 x5 x6 x7 x8) (by kernel_rfl) (by kernel_rfl) (h7.step ((Below.refl _ _).drew.drew)) ?_
  repeat (go_big_quiet_step ((go_at_call 11; exact Qr.call (Hright _).out (fun _ _ => Rr.step))))
  refine wpQuiet_nil ?_
  rintro _ ⟨⟨W8, h8⟩, rfl⟩
  clear hl h7 hne hs
  have hz := h8.zero.cells
  have hzf := h8.zero.frozen
  go_wp2_with fail
  have h9 := h8.zero.store 0 0 0 0 0
  have hb9 := below_store h8.below (Nat.le_refl _) (.int .u8 0) (.int .u8 0) (.int .u8 0) (.int .u8 0) (.int .u8 0)
  generalize (((((_ : World).setCell ⟨w.heap.size, 0, none⟩ (.int .u8 0)).setCell ⟨w.heap.size, 1, none⟩ (.int .u8 0)).setCell ⟨w.heap.size, 2, none⟩ (.int .u8 0)).setCell ⟨w.heap.size, 3, none⟩ (.int .u8 0)).setCell ⟨w.heap.size, 4, none⟩ (.int .u8 0) = W9 at *
  have hz9 := h9.cells
  exact bodyPost_ret (v := .tuple #[val5 (0, 0, 0, 0, 0), .int .i64 11]) (by simp [results, Try.results9, go_sem, hz9]) rfl ⟨rfl, hb9⟩
theorem rread_ok1 (b o n c : Nat) (xs : List Int) (h : 9 ≤ n) (hnc : n ≤ c) (hx : xs.length = n) (w : World) (hc : ∀ i, i < n → w.cell? ⟨b, o + i, none⟩ = some (.int .u8 (xs.getD i 0)))
    (hb : ∀ i, i < 9 → Sp.isByte (xs.getD i 0)) (hh : xs.getD 0 0 = 77 ∧ xs.getD 1 0 = 83 ∧ xs.getD 2 0 = 72) (hr : Sp.right (xs.getD 3 0) (xs.getD 4 0) (xs.getD 5 0) (xs.getD 6 0) (xs.getD 7 0) = true) (hl : xs.getD 8 0 = xs.getD 3 0) :
   Calls Try.prog 9 #[.slice (some ⟨b, o, none⟩) n c] w fun e w' =>
    e = .returned (.tuple #[val5 (xs.getD 3 0, xs.getD 4 0, xs.getD 5 0, xs.getD 6 0, xs.getD 7 0), .int .i64 0]) ∧ Below w.heap.size w w' := by
  have huD := Try.underlying23
  have hlt : b < w.heap.size := World.block_lt_of_cell? _ _ (hc 0 (by omega))
  have h3 := str3 (hb 0 (by omega)) (hb 1 (by omega)) (hb 2 (by omega))
  have hright := fun W => rright_calls (xs.getD 3 0) (xs.getD 4 0) (xs.getD 5 0) (xs.getD 6 0) (xs.getD 7 0) W
  have hw4 := Rr.mk2 (x3 := xs.getD 3 0) (x4 := xs.getD 4 0) (x5 := xs.getD 5 0) (x6 := xs.getD 6 0) (x7 := xs.getD 7 0) hlt (hc 0 (by omega)) (hc 1 (by omega)) (hc 2 (by omega)) (hc 8 (by omega))
  have hl0 : ∀ q, q < n → (w.alloc (.cells #[.int .u8 0, .int .u8 0, .int .u8 0, .int .u8 0, .int .u8 0] 23)).drew.cell? ⟨b, o + q, none⟩ = some (.int .u8 (xs.getD q 0)) := fun q hq => Lib.cell?_alloc_marked _ (hc q hq)
  have hl1 : ∀ X q, q < n → ((w.alloc (.cells #[.int .u8 0, .int .u8 0, .int .u8 0, .int .u8 0, .int .u8 0] 23)).alloc X).drew.cell? ⟨b, o + q, none⟩ = some (.int .u8 (xs.getD q 0)) := fun X q hq => Lib.cell?_alloc_marked _ (Lib.cell?_alloc_marked _ (hc q hq))
  have hL0 : Hid (_ ∧ _ ∧ _ ∧ _ ∧ _) := ⟨hl0 3 (by omega), hl0 4 (by omega), hl0 5 (by omega), hl0 6 (by omega), hl0 7 (by omega)⟩
  have hL1 := fun X => Lib.hid (p := _ ∧ _ ∧ _ ∧ _ ∧ _) ⟨hl1 X 3 (by omega), hl1 X 4 (by omega), hl1 X 5 (by omega), hl1 X 6 (by omega), hl1 X 7 (by omega)⟩
  have s1 : ((strOfNums [xs.getD 0 0, xs.getD 1 0, xs.getD 2 0]).toList == [77, 83, 72]) = true := by exact beq_iff_eq.2 (h3.2 hh)
  have s2 : ((strOfNums [xs.getD 0 0, xs.getD 1 0, xs.getD 2 0]).toList != [77, 83, 72]) = false := by rw [bne, s1]; rfl
  have s3 : (strOfNums [xs.getD 0 0, xs.getD 1 0, xs.getD 2 0]).toList = [77, 83, 72] := h3.2 hh
  clear hh
  rw [hr] at hright
  clear hr
  have t1 : (xs.getD 8 0 == xs.getD 3 0) = true := beq_iff_eq.2 hl
  have t2 : (xs.getD 8 0 != xs.getD 3 0) = false := by rw [bne, t1]; rfl
  clear hl

  clear hl0 hl1 hc hb hx hlt
  generalize xs.getD 0 0 = x0 at *; generalize xs.getD 1 0 = x1 at *; generalize xs.getD 2 0 = x2 at *
  generalize xs.getD 3 0 = x3 at *; generalize xs.getD 4 0 = x4 at *; generalize xs.getD 5 0 = x5 at *; generalize xs.getD 6 0 = x6 at *; generalize xs.getD 7 0 = x7 at *; generalize xs.getD 8 0 = x8 at *
  have Hw4 := Lib.hid hw4
  have Hright := fun W => Lib.hid (hright W)
  clear hw4 hright h3
  have i3 : (3 : Int) < (n : Int) := by omega
  have i4 : (4 : Int) < (n : Int) := by omega
  have i5 : (5 : Int) < (n : Int) := by omega
  have i6 : (6 : Int) < (n : Int) := by omega
  have i7 : (7 : Int) < (n : Int) := by omega
  have i8 : (8 : Int) < (n : Int) := by omega
  go_enter Try.func9, Try.ntmps9
  go_wp2_with fail
  go_region_held3 (fun w' => w'.cell? ⟨b, o + 3, none⟩ = some (.int .u8 x3) ∧ w'.cell? ⟨b, o + 4, none⟩ = some (.int .u8 x4) ∧ w'.cell? ⟨b, o + 5, none⟩ = some (.int .u8 x5) ∧ w'.cell? ⟨b, o + 6, none⟩ = some (.int .u8 x6) ∧ w'.cell? ⟨b, o + 7, none⟩ = some (.int .u8 x7))
    (first | exact hL0.out | exact (hL1 _).out) (fail)
  go_wp2_with fail
  have h7 := Hw4.out
  clear Hw4 hL0 hL1
  generalize ((w.alloc (.cells #[.int .u8 0, .int .u8 0, .int .u8 0, .int .u8 0, .int .u8 0] 23)).alloc (.cells #[.int .u8 x3, .int .u8 x4, .int .u8 x5, .int .u8 x6, .int .u8 x7] 23)) = W7 at *
  have hl : ∀ x : Qr.In (Rr w b o x0 x1 x2 x3 x4 x5 x6 x7 x8), x.w.cell? ⟨b, o + 8, none⟩ = some (.int .u8 x8) ∧
      x.w.cell? ⟨w.heap.size + 1, 0, none⟩ = some (.int .u8 x3) ∧ x.w.cell? ⟨w.heap.size + 1, 1, none⟩ = some (.int .u8 x4) ∧ x.w.cell? ⟨w.heap.size + 1, 2, none⟩ = some (.int .u8 x5) ∧
      x.w.cell? ⟨w.heap.size + 1, 3, none⟩ = some (.int .u8 x6) ∧ x.w.cell? ⟨w.heap.size + 1, 4, none⟩ = some (.int .u8 x7) := fun x => x.h.limbs
  have hs : ∀ (x : Qr.In (Rr w b o x0 x1 x2 x3 x4 x5 x6 x7 x8)) (c : Nat), (convert 27 9 (.slice (some ⟨b, o, none⟩) 3 c)).run Try.prog x.w = .ok (.string (strOfNums [x0, x1, x2])) x.w := fun x c => x.h.str c
  have hne : Nonempty (Qr.In (Rr w b o x0 x1 x2 x3 x4 x5 x6 x7 x8)) := ⟨⟨_, h7⟩⟩
  refine Qr.region_in (S := Rr w b o x0 x1 x2 x3 x4 x5 x6 x7 x8) (by kernel_rfl) (by kernel_rfl) (h7.step ((Below.refl _ _).drew.drew)) ?_
  repeat (go_big_quiet_step ((go_at_call 11; exact Qr.call (Hright _).out (fun _ _ => Rr.step))))
  refine wpQuiet_nil ?_
  rintro _ ⟨⟨W8, h8⟩, rfl⟩
  clear hl h7 hne hs
  have hz := h8.zero.cells
  have hzf := h8.zero.frozen
  have hf := h8.five.cells
  go_wp2_with fail
  have h9 := h8.zero.store x3 x4 x5 x6 x7
  have hb9 := below_store h8.below (Nat.le_refl _) (.int .u8 x3) (.int .u8 x4) (.int .u8 x5) (.int .u8 x6) (.int .u8 x7)
  generalize (((((_ : World).setCell ⟨w.heap.size, 0, none⟩ (.int .u8 x3)).setCell ⟨w.heap.size, 1, none⟩ (.int .u8 x4)).setCell ⟨w.heap.size, 2, none⟩ (.int .u8 x5)).setCell ⟨w.heap.size, 3, none⟩ (.int .u8 x6)).setCell ⟨w.heap.size, 4, none⟩ (.int .u8 x7) = W9 at *
  have hz9 := h9.cells
  exact bodyPost_ret (v := .tuple #[val5 (x3, x4, x5, x6, x7), .int .i64 0]) (by simp [results, Try.results9, go_sem, hz9]) rfl ⟨rfl, hb9⟩
theorem rread_ok2 (b o n c : Nat) (xs : List Int) (h : 9 ≤ n) (hnc : n ≤ c) (hx : xs.length = n) (w : World) (hc : ∀ i, i < n → w.cell? ⟨b, o + i, none⟩ = some (.int .u8 (xs.getD i 0)))
    (hb : ∀ i, i < 9 → Sp.isByte (xs.getD i 0)) (hh : xs.getD 0 0 = 77 ∧ xs.getD 1 0 = 83 ∧ xs.getD 2 0 = 72) (hr : Sp.right (xs.getD 3 0) (xs.getD 4 0) (xs.getD 5 0) (xs.getD 6 0) (xs.getD 7 0) = true) (hl : xs.getD 8 0 ≠ xs.getD 3 0) (hl2 : xs.getD 8 0 = 13) :
   Calls Try.prog 9 #[.slice (some ⟨b, o, none⟩) n c] w fun e w' =>
    e = .returned (.tuple #[val5 (xs.getD 3 0, xs.getD 4 0, xs.getD 5 0, xs.getD 6 0, xs.getD 7 0), .int .i64 0]) ∧ Below w.heap.size w w' := by
  have huD := Try.underlying23
  have hlt : b < w.heap.size := World.block_lt_of_cell? _ _ (hc 0 (by omega))
  have h3 := str3 (hb 0 (by omega)) (hb 1 (by omega)) (hb 2 (by omega))
  have hright := fun W => rright_calls (xs.getD 3 0) (xs.getD 4 0) (xs.getD 5 0) (xs.getD 6 0) (xs.getD 7 0) W
  have hw4 := Rr.mk2 (x3 := xs.getD 3 0) (x4 := xs.getD 4 0) (x5 := xs.getD 5 0) (x6 := xs.getD 6 0) (x7 := xs.getD 7 0) hlt (hc 0 (by omega)) (hc 1 (by omega)) (hc 2 (by omega)) (hc 8 (by omega))
  have hl0 : ∀ q, q < n → (w.alloc (.cells #[.int .u8 0, .int .u8 0, .int .u8 0, .int .u8 0, .int .u8 0] 23)).drew.cell? ⟨b, o + q, none⟩ = some (.int .u8 (xs.getD q 0)) := fun q hq => Lib.cell?_alloc_marked _ (hc q hq)
  have hl1 : ∀ X q, q < n → ((w.alloc (.cells #[.int .u8 0, .int .u8 0, .int .u8 0, .int .u8 0, .int .u8 0] 23)).alloc X).drew.cell? ⟨b, o + q, none⟩ = some (.int .u8 (xs.getD q 0)) := fun X q hq => Lib.cell?_alloc_marked _ (Lib.cell?_alloc_marked _ (hc q hq))
  have hL0 : Hid (_ ∧ _ ∧ _ ∧ _ ∧ _) := ⟨hl0 3 (by omega), hl0 4 (by omega), hl0 5 (by omega), hl0 6 (by omega), hl0 7 (by omega)⟩
  have hL1 := fun X => Lib.hid (p := _ ∧ _ ∧ _ ∧ _ ∧ _) ⟨hl1 X 3 (by omega), hl1 X 4 (by omega), hl1 X 5 (by omega), hl1 X 6 (by omega), hl1 X 7 (by omega)⟩
  have s1 : ((strOfNums [xs.getD 0 0, xs.getD 1 0, xs.getD 2 0]).toList == [77, 83, 72]) = true := by exact beq_iff_eq.2 (h3.2 hh)
  have s2 : ((strOfNums [xs.getD 0 0, xs.getD 1 0, xs.getD 2 0]).toList != [77, 83, 72]) = false := by rw [bne, s1]; rfl
  have s3 : (strOfNums [xs.getD 0 0, xs.getD 1 0, xs.getD 2 0]).toList = [77, 83, 72] := h3.2 hh
  clear hh
  rw [hr] at hright
  clear hr
  have t1 : (xs.getD 8 0 == xs.getD 3 0) = false := beq_eq_false_iff_ne.2 hl
  have t2 : (xs.getD 8 0 != xs.getD 3 0) = true := by rw [bne, t1]; rfl
  have t3 : (xs.getD 8 0 == 13) = true := beq_iff_eq.2 hl2
  have t4 : (xs.getD 8 0 != 13) = false := by rw [bne, t3]; rfl
  clear hl hl2

  clear hl0 hl1 hc hb hx hlt
  generalize xs.getD 0 0 = x0 at *; generalize xs.getD 1 0 = x1 at *; generalize xs.getD 2 0 = x2 at *
  generalize xs.getD 3 0 = x3 at *; generalize xs.getD 4 0 = x4 at *; generalize xs.getD 5 0 = x5 at *; generalize xs.getD 6 0 = x6 at *; generalize xs.getD 7 0 = x7 at *; generalize xs.getD 8 0 = x8 at *
  have Hw4 := Lib.hid hw4
  have Hright := fun W => Lib.hid (hright W)
  clear hw4 hright h3
  have i3 : (3 : Int) < (n : Int) := by omega
  have i4 : (4 : Int) < (n : Int) := by omega
  have i5 : (5 : Int) < (n : Int) := by omega
  have i6 : (6 : Int) < (n : Int) := by omega
  have i7 : (7 : Int) < (n : Int) := by omega
  have i8 : (8 : Int) < (n : Int) := by omega
  go_enter Try.func9, Try.ntmps9
  go_wp2_with fail
  go_region_held3 (fun w' => w'.cell? ⟨b, o + 3, none⟩ = some (.int .u8 x3) ∧ w'.cell? ⟨b, o + 4, none⟩ = some (.int .u8 x4) ∧ w'.cell? ⟨b, o + 5, none⟩ = some (.int .u8 x5) ∧ w'.cell? ⟨b, o + 6, none⟩ = some (.int .u8 x6) ∧ w'.cell? ⟨b, o + 7, none⟩ = some (.int .u8 x7))
    (first | exact hL0.out | exact (hL1 _).out) (fail)
  go_wp2_with fail
  have h7 := Hw4.out
  clear Hw4 hL0 hL1
  generalize ((w.alloc (.cells #[.int .u8 0, .int .u8 0, .int .u8 0, .int .u8 0, .int .u8 0] 23)).alloc (.cells #[.int .u8 x3, .int .u8 x4, .int .u8 x5, .int .u8 x6, .int .u8 x7] 23)) = W7 at *
  have hl : ∀ x : Qr.In (Rr w b o x0 x1 x2 x3 x4 x5 x6 x7 x8), x.w.cell? ⟨b, o + 8, none⟩ = some (.int .u8 x8) ∧
      x.w.cell? ⟨w.heap.size + 1, 0, none⟩ = some (.int .u8 x3) ∧ x.w.cell? ⟨w.heap.size + 1, 1, none⟩ = some (.int .u8 x4) ∧ x.w.cell? ⟨w.heap.size + 1, 2, none⟩ = some (.int .u8 x5) ∧
      x.w.cell? ⟨w.heap.size + 1, 3, none⟩ = some (.int .u8 x6) ∧ x.w.cell? ⟨w.heap.size + 1, 4, none⟩ = some (.int .u8 x7) := fun x => x.h.limbs
  have hs : ∀ (x : Qr.In (Rr w b o x0 x1 x2 x3 x4 x5 x6 x7 x8)) (c : Nat), (convert 27 9 (.slice (some ⟨b, o, none⟩) 3 c)).run Try.prog x.w = .ok (.string (strOfNums [x0, x1, x2])) x.w := fun x c => x.h.str c
  have hne : Nonempty (Qr.In (Rr w b o x0 x1 x2 x3 x4 x5 x6 x7 x8)) := ⟨⟨_, h7⟩⟩
  refine Qr.region_in (S := Rr w b o x0 x1 x2 x3 x4 x5 x6 x7 x8) (by kernel_rfl) (by kernel_rfl) (h7.step ((Below.refl _ _).drew.drew)) ?_
  repeat (go_big_quiet_step ((go_at_call 11; exact Qr.call (Hright _).out (fun _ _ => Rr.step))))
  refine wpQuiet_nil ?_
  rintro _ ⟨⟨W8, h8⟩, rfl⟩
  clear hl h7 hne hs
  have hz := h8.zero.cells
  have hzf := h8.zero.frozen
  have hf := h8.five.cells
  go_wp2_with fail
  have h9 := h8.zero.store x3 x4 x5 x6 x7
  have hb9 := below_store h8.below (Nat.le_refl _) (.int .u8 x3) (.int .u8 x4) (.int .u8 x5) (.int .u8 x6) (.int .u8 x7)
  generalize (((((_ : World).setCell ⟨w.heap.size, 0, none⟩ (.int .u8 x3)).setCell ⟨w.heap.size, 1, none⟩ (.int .u8 x4)).setCell ⟨w.heap.size, 2, none⟩ (.int .u8 x5)).setCell ⟨w.heap.size, 3, none⟩ (.int .u8 x6)).setCell ⟨w.heap.size, 4, none⟩ (.int .u8 x7) = W9 at *
  have hz9 := h9.cells
  exact bodyPost_ret (v := .tuple #[val5 (x3, x4, x5, x6, x7), .int .i64 0]) (by simp [results, Try.results9, go_sem, hz9]) rfl ⟨rfl, hb9⟩
theorem rread_bad (b o n c : Nat) (xs : List Int) (h : 9 ≤ n) (hnc : n ≤ c) (hx : xs.length = n) (w : World) (hc : ∀ i, i < n → w.cell? ⟨b, o + i, none⟩ = some (.int .u8 (xs.getD i 0)))
    (hb : ∀ i, i < 9 → Sp.isByte (xs.getD i 0)) (hh : xs.getD 0 0 = 77 ∧ xs.getD 1 0 = 83 ∧ xs.getD 2 0 = 72) (hr : Sp.right (xs.getD 3 0) (xs.getD 4 0) (xs.getD 5 0) (xs.getD 6 0) (xs.getD 7 0) = true) (hl : xs.getD 8 0 ≠ xs.getD 3 0) (hl2 : xs.getD 8 0 ≠ 13) :
   Calls Try.prog 9 #[.slice (some ⟨b, o, none⟩) n c] w fun e w' =>
    e = .returned (.tuple #[val5 (0, 0, 0, 0, 0), .int .i64 11]) ∧ Below w.heap.size w w' := by
  have huD := Try.underlying23
  have hlt : b < w.heap.size := World.block_lt_of_cell? _ _ (hc 0 (by omega))
  have h3 := str3 (hb 0 (by omega)) (hb 1 (by omega)) (hb 2 (by omega))
  have hright := fun W => rright_calls (xs.getD 3 0) (xs.getD 4 0) (xs.getD 5 0) (xs.getD 6 0) (xs.getD 7 0) W
  have hw4 := Rr.mk2 (x3 := xs.getD 3 0) (x4 := xs.getD 4 0) (x5 := xs.getD 5 0) (x6 := xs.getD 6 0) (x7 := xs.getD 7 0) hlt (hc 0 (by omega)) (hc 1 (by omega)) (hc 2 (by omega)) (hc 8 (by omega))
  have hl0 : ∀ q, q < n → (w.alloc (.cells #[.int .u8 0, .int .u8 0, .int .u8 0, .int .u8 0, .int .u8 0] 23)).drew.cell? ⟨b, o + q, none⟩ = some (.int .u8 (xs.getD q 0)) := fun q hq => Lib.cell?_alloc_marked _ (hc q hq)
  have hl1 : ∀ X q, q < n → ((w.alloc (.cells #[.int .u8 0, .int .u8 0, .int .u8 0, .int .u8 0, .int .u8 0] 23)).alloc X).drew.cell? ⟨b, o + q, none⟩ = some (.int .u8 (xs.getD q 0)) := fun X q hq => Lib.cell?_alloc_marked _ (Lib.cell?_alloc_marked _ (hc q hq))
  have hL0 : Hid (_ ∧ _ ∧ _ ∧ _ ∧ _) := ⟨hl0 3 (by omega), hl0 4 (by omega), hl0 5 (by omega), hl0 6 (by omega), hl0 7 (by omega)⟩
  have hL1 := fun X => Lib.hid (p := _ ∧ _ ∧ _ ∧ _ ∧ _) ⟨hl1 X 3 (by omega), hl1 X 4 (by omega), hl1 X 5 (by omega), hl1 X 6 (by omega), hl1 X 7 (by omega)⟩
  have s1 : ((strOfNums [xs.getD 0 0, xs.getD 1 0, xs.getD 2 0]).toList == [77, 83, 72]) = true := by exact beq_iff_eq.2 (h3.2 hh)
  have s2 : ((strOfNums [xs.getD 0 0, xs.getD 1 0, xs.getD 2 0]).toList != [77, 83, 72]) = false := by rw [bne, s1]; rfl
  have s3 : (strOfNums [xs.getD 0 0, xs.getD 1 0, xs.getD 2 0]).toList = [77, 83, 72] := h3.2 hh
  clear hh
  rw [hr] at hright
  clear hr
  have t1 : (xs.getD 8 0 == xs.getD 3 0) = false := beq_eq_false_iff_ne.2 hl
  have t2 : (xs.getD 8 0 != xs.getD 3 0) = true := by rw [bne, t1]; rfl
  have t3 : (xs.getD 8 0 == 13) = false := beq_eq_false_iff_ne.2 hl2
  have t4 : (xs.getD 8 0 != 13) = true := by rw [bne, t3]; rfl
  clear hl hl2

  clear hl0 hl1 hc hb hx hlt
  generalize xs.getD 0 0 = x0 at *; generalize xs.getD 1 0 = x1 at *; generalize xs.getD 2 0 = x2 at *
  generalize xs.getD 3 0 = x3 at *; generalize xs.getD 4 0 = x4 at *; generalize xs.getD 5 0 = x5 at *; generalize xs.getD 6 0 = x6 at *; generalize xs.getD 7 0 = x7 at *; generalize xs.getD 8 0 = x8 at *
  have Hw4 := Lib.hid hw4
  have Hright := fun W => Lib.hid (hright W)
  clear hw4 hright h3
  have i3 : (3 : Int) < (n : Int) := by omega
  have i4 : (4 : Int) < (n : Int) := by omega
  have i5 : (5 : Int) < (n : Int) := by omega
  have i6 : (6 : Int) < (n : Int) := by omega
  have i7 : (7 : Int) < (n : Int) := by omega
  have i8 : (8 : Int) < (n : Int) := by omega
  go_enter Try.func9, Try.ntmps9
  go_wp2_with fail
  go_region_held3 (fun w' => w'.cell? ⟨b, o + 3, none⟩ = some (.int .u8 x3) ∧ w'.cell? ⟨b, o + 4, none⟩ = some (.int .u8 x4) ∧ w'.cell? ⟨b, o + 5, none⟩ = some (.int .u8 x5) ∧ w'.cell? ⟨b, o + 6, none⟩ = some (.int .u8 x6) ∧ w'.cell? ⟨b, o + 7, none⟩ = some (.int .u8 x7))
    (first | exact hL0.out | exact (hL1 _).out) (fail)
  go_wp2_with fail
  have h7 := Hw4.out
  clear Hw4 hL0 hL1
  generalize ((w.alloc (.cells #[.int .u8 0, .int .u8 0, .int .u8 0, .int .u8 0, .int .u8 0] 23)).alloc (.cells #[.int .u8 x3, .int .u8 x4, .int .u8 x5, .int .u8 x6, .int .u8 x7] 23)) = W7 at *
  have hl : ∀ x : Qr.In (Rr w b o x0 x1 x2 x3 x4 x5 x6 x7 x8), x.w.cell? ⟨b, o + 8, none⟩ = some (.int .u8 x8) ∧
      x.w.cell? ⟨w.heap.size + 1, 0, none⟩ = some (.int .u8 x3) ∧ x.w.cell? ⟨w.heap.size + 1, 1, none⟩ = some (.int .u8 x4) ∧ x.w.cell? ⟨w.heap.size + 1, 2, none⟩ = some (.int .u8 x5) ∧
      x.w.cell? ⟨w.heap.size + 1, 3, none⟩ = some (.int .u8 x6) ∧ x.w.cell? ⟨w.heap.size + 1, 4, none⟩ = some (.int .u8 x7) := fun x => x.h.limbs
  have hs : ∀ (x : Qr.In (Rr w b o x0 x1 x2 x3 x4 x5 x6 x7 x8)) (c : Nat), (convert 27 9 (.slice (some ⟨b, o, none⟩) 3 c)).run Try.prog x.w = .ok (.string (strOfNums [x0, x1, x2])) x.w := fun x c => x.h.str c
  have hne : Nonempty (Qr.In (Rr w b o x0 x1 x2 x3 x4 x5 x6 x7 x8)) := ⟨⟨_, h7⟩⟩
  refine Qr.region_in (S := Rr w b o x0 x1 x2 x3 x4 x5 x6 x7 x8) (by kernel_rfl) (by kernel_rfl) (h7.step ((Below.refl _ _).drew.drew)) ?_
  repeat (go_big_quiet_step ((go_at_call 11; exact Qr.call (Hright _).out (fun _ _ => Rr.step))))
  refine wpQuiet_nil ?_
  rintro _ ⟨⟨W8, h8⟩, rfl⟩
  clear hl h7 hne hs
  have hz := h8.zero.cells
  have hzf := h8.zero.frozen
  go_wp2_with fail
  have h9 := h8.zero.store 0 0 0 0 0
  have hb9 := below_store h8.below (Nat.le_refl _) (.int .u8 0) (.int .u8 0) (.int .u8 0) (.int .u8 0) (.int .u8 0)
  generalize (((((_ : World).setCell ⟨w.heap.size, 0, none⟩ (.int .u8 0)).setCell ⟨w.heap.size, 1, none⟩ (.int .u8 0)).setCell ⟨w.heap.size, 2, none⟩ (.int .u8 0)).setCell ⟨w.heap.size, 3, none⟩ (.int .u8 0)).setCell ⟨w.heap.size, 4, none⟩ (.int .u8 0) = W9 at *
  have hz9 := h9.cells
  exact bodyPost_ret (v := .tuple #[val5 (0, 0, 0, 0, 0), .int .i64 11]) (by simp [results, Try.results9, go_sem, hz9]) rfl ⟨rfl, hb9⟩
theorem head3 {xs : List Int} (h : 9 ≤ xs.length) : xs.take 3 = [77, 83, 72] ↔ xs.getD 0 0 = 77 ∧ xs.getD 1 0 = 83 ∧ xs.getD 2 0 = 72 := by
  match xs, h with
  | x0 :: x1 :: x2 :: t, _ => simp
/-- the reference's Read tells the same -/
theorem rread_calls (A : Option Addr) (n c : Nat) (xs : List Int) (hnc : n ≤ c) (hx : xs.length = n) (w : World) (hA : n < 9 ∨ ∃ b o, A = some ⟨b, o, none⟩ ∧ ∀ i, i < n → w.cell? ⟨b, o + i, none⟩ = some (.int .u8 (xs.getD i 0)))
    (hb : ∀ i, i < n → Sp.isByte (xs.getD i 0)) :
    Calls Try.prog 9 #[.slice A n c] w fun e w' =>
      e = .returned (.tuple #[val5 (Sp.readD xs), .int .i64 (Sp.readE xs)]) ∧ Below w.heap.size w w' := by
  by_cases h : n < 9
  · rw [Sp.readD_short (by omega), Sp.readE_short (by omega)]
    exact rread_short A n c h w
  · obtain ⟨b, o, rfl, hc⟩ := hA.resolve_left h
    have h9 : 9 ≤ n := by omega
    have hb9 : ∀ i, i < 9 → Sp.isByte (xs.getD i 0) := fun i hi => hb i (by omega)
    have h39 := head3 (xs := xs) (by omega)
    unfold Sp.readD Sp.readE
    rw [if_neg (show ¬ xs.length < 9 by omega), if_neg (show ¬ xs.length < 9 by omega)]
    by_cases h3 : xs.take 3 = [77, 83, 72]
    · have hh := h39.1 h3
      cases hr : Sp.right (xs.getD 3 0) (xs.getD 4 0) (xs.getD 5 0) (xs.getD 6 0) (xs.getD 7 0) with
      | false =>
        rw [if_neg (by simp), if_neg (by simp)]
        exact rread_noright b o n c xs h9 hnc hx w hc hb9 hh hr
      | true =>
        by_cases hl : xs.getD 8 0 = xs.getD 3 0
        · rw [if_pos ⟨h3, rfl, .inl hl⟩, if_pos ⟨h3, rfl, .inl hl⟩]
          exact rread_ok1 b o n c xs h9 hnc hx w hc hb9 hh hr hl
        · by_cases hl2 : xs.getD 8 0 = 13
          · rw [if_pos ⟨h3, rfl, .inr hl2⟩, if_pos ⟨h3, rfl, .inr hl2⟩]
            exact rread_ok2 b o n c xs h9 hnc hx w hc hb9 hh hr hl hl2
          · have hno : ¬ (xs.take 3 = [77, 83, 72] ∧ true = true ∧ (xs.getD 8 0 = xs.getD 3 0 ∨ xs.getD 8 0 = 13)) := fun g => g.2.2.elim hl hl2
            rw [if_neg hno, if_neg hno]
            exact rread_bad b o n c xs h9 hnc hx w hc hb9 hh hr hl hl2
    · rw [if_neg (fun g => h3 g.1), if_neg (fun g => h3 g.1)]
      exact rread_nohead b o n c xs h9 hnc hx w hc hb9 (fun g => h3 (h39.2 g))
end Rf
end Go.Proofs.Ytkjhjeaeffooaaa
