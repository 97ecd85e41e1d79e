/-
  A part of the proof of this seat's laws.
-/
import Derived.Test.YtkjhjeaeffooaaaDoorDelRd
import Derived.Deep.DeepFit
namespace Go.Proofs.YtkjhjeaeffooaaaDoor
set_option linter.unusedVariables false
set_option linter.unusedSimpArgs false
open Go.RowKit
namespace Dl
set_option maxHeartbeats 400000
theorem lplain_calls (w : World) : Calls Tryd.prog 13 #[] w fun e w' => e = .returned (.agg #[.int .u8 124, .int .u8 94, .int .u8 126, .int .u8 92, .int .u8 38]) ∧ Below w.heap.size w w' := by
  have huD := Tryd.underlying32
  go_enter Tryd.func13, Tryd.ntmps13
  go_wp2
  exact bodyPost_ret (v := .agg #[.int .u8 124, .int .u8 94, .int .u8 126, .int .u8 92, .int .u8 38]) (by simp [results, Tryd.results13, go_sem]) rfl ⟨rfl, (Below.refl _ _).alloc (Nat.le_refl _) _⟩
theorem conv0 (w : World) (C : Array Value) (n c : Nat) :
    (convert 23 23 (.slice (some ⟨w.heap.size, 0, none⟩) n c)).run Tryd.prog (w.alloc (.cells C 5)) =
      .ok (.slice (some ⟨w.heap.size, 0, none⟩) n c) (w.alloc (.cells C 5 (C.size, C.size + 1))) :=
  Lib.run_convert_bytes_const (P := Tryd.prog) w 23 5 C n c Tryd.underlying23 Tryd.underlying5
/-- nine bytes of a new block -/
theorem cells9 (W : World) (x0 x1 x2 x3 x4 x5 x6 x7 x8 : Int) (fr : Nat × Nat) : ∀ i, i < 9 →
    (W.alloc (.cells #[.int .u8 x0, .int .u8 x1, .int .u8 x2, .int .u8 x3, .int .u8 x4, .int .u8 x5, .int .u8 x6, .int .u8 x7, .int .u8 x8] 5 fr)).cell? ⟨W.heap.size, 0 + i, none⟩ =
      some (.int .u8 ([x0, x1, x2, x3, x4, x5, x6, x7, x8].getD i 0)) := by
  intro i hi
  have e : i = 0 ∨ i = 1 ∨ i = 2 ∨ i = 3 ∨ i = 4 ∨ i = 5 ∨ i = 6 ∨ i = 7 ∨ i = 8 := by omega
  rcases e with rfl | rfl | rfl | rfl | rfl | rfl | rfl | rfl | rfl <;> (rw [World.cell?_alloc_mark]; rfl)
theorem bytes_of_all {xs : List Int} (h : xs.all (fun x => decide (0 ≤ x ∧ x ≤ 255)) = true) : ∀ i, i < xs.length → Sp.isByte (xs.getD i 0) := by
  intro i hi
  rw [List.all_eq_true] at h
  have := h (xs.getD i 0) (by rw [List.getD_eq_getElem?_getD, List.getElem?_eq_getElem hi]; exact List.getElem_mem hi)
  simpa [Sp.isByte] using this
theorem read_ex1 (W : World) : Calls Tryd.prog 12 #[.slice (some ⟨W.heap.size, 0, none⟩) 9 9] (W.alloc (.cells #[.int .u8 77, .int .u8 83, .int .u8 72, .int .u8 124, .int .u8 94, .int .u8 126, .int .u8 92, .int .u8 38, .int .u8 124] 5 (9, 10))) fun e w' =>
    e = .returned (.tuple #[.agg #[.int .u8 124, .int .u8 94, .int .u8 126, .int .u8 92, .int .u8 38], .int .i64 0]) ∧ Below (W.heap.size + 1) (W.alloc (.cells #[.int .u8 77, .int .u8 83, .int .u8 72, .int .u8 124, .int .u8 94, .int .u8 126, .int .u8 92, .int .u8 38, .int .u8 124] 5 (9, 10))) w' := by
  have h := read_calls (some ⟨W.heap.size, 0, none⟩) 9 9 [77, 83, 72, 124, 94, 126, 92, 38, 124] (Nat.le_refl _) rfl (W.alloc (.cells #[.int .u8 77, .int .u8 83, .int .u8 72, .int .u8 124, .int .u8 94, .int .u8 126, .int .u8 92, .int .u8 38, .int .u8 124] 5 (9, 10)))
    (.inr ⟨_, _, rfl, cells9 W _ _ _ _ _ _ _ _ _ _⟩) (bytes_of_all (xs := [77, 83, 72, 124, 94, 126, 92, 38, 124]) (by decide))
  rw [show Sp.readD [77, 83, 72, 124, 94, 126, 92, 38, 124] = (124, 94, 126, 92, 38) from by decide, show Sp.readE [77, 83, 72, 124, 94, 126, 92, 38, 124] = 0 from by decide, World.size_alloc] at h
  exact h
theorem read_ex2 (W : World) : Calls Tryd.prog 12 #[.slice (some ⟨W.heap.size, 0, none⟩) 9 9] (W.alloc (.cells #[.int .u8 77, .int .u8 83, .int .u8 72, .int .u8 124, .int .u8 94, .int .u8 94, .int .u8 92, .int .u8 38, .int .u8 124] 5 (9, 10))) fun e w' =>
    e = .returned (.tuple #[.agg #[.int .u8 0, .int .u8 0, .int .u8 0, .int .u8 0, .int .u8 0], .int .i64 11]) ∧ Below (W.heap.size + 1) (W.alloc (.cells #[.int .u8 77, .int .u8 83, .int .u8 72, .int .u8 124, .int .u8 94, .int .u8 94, .int .u8 92, .int .u8 38, .int .u8 124] 5 (9, 10))) w' := by
  have h := read_calls (some ⟨W.heap.size, 0, none⟩) 9 9 [77, 83, 72, 124, 94, 94, 92, 38, 124] (Nat.le_refl _) rfl (W.alloc (.cells #[.int .u8 77, .int .u8 83, .int .u8 72, .int .u8 124, .int .u8 94, .int .u8 94, .int .u8 92, .int .u8 38, .int .u8 124] 5 (9, 10)))
    (.inr ⟨_, _, rfl, cells9 W _ _ _ _ _ _ _ _ _ _⟩) (bytes_of_all (xs := [77, 83, 72, 124, 94, 94, 92, 38, 124]) (by decide))
  rw [show Sp.readD [77, 83, 72, 124, 94, 94, 92, 38, 124] = (0, 0, 0, 0, 0) from by decide, show Sp.readE [77, 83, 72, 124, 94, 94, 92, 38, 124] = 11 from by decide, World.size_alloc] at h
  exact h
theorem alive_calls (w : World) : Calls Tryd.prog 6 #[] w fun e w' => e = .returned (.bool true) ∧ Below w.heap.size w w' := by
  have huD := Tryd.underlying32
  have kc0 := conv0
  have kc1 := conv1
  have h1 := read_ex1 w
  have h2 := fun (W : World) X => read_ex2 (W.alloc X)
  simp only [World.size_alloc] at h2
  have H1 := Lib.hid h1
  have H2 := fun W X => Lib.hid (h2 W X)
  clear h1 h2
  go_enter Tryd.func6, Tryd.ntmps6
  go_wp2_with fail
  refine H1.out.mono ?_
  rintro e w1 ⟨rfl, hb1⟩
  clear H1
  go_wp2_with fail
  refine (H2 w1 _).out.mono ?_
  rintro e w2 ⟨rfl, hb2⟩
  clear H2
  have hbelow : Below w.heap.size w w1 := ((Below.refl _ _).alloc (Nat.le_refl _) _).trans (hb1.mono (by omega))
  have hsz : w.heap.size ≤ w1.heap.size := hbelow.size
  have hS : Below w.heap.size w w2 ∧ Five w1.heap.size 124 94 126 92 38 w2 := by
    refine ⟨((hbelow.alloc hsz _).alloc (Nat.le_trans hsz (by simp)) _).trans (hb2.mono (by omega)), ?_⟩
    exact ((Five.new 124 94 126 92 38 w1).below ((Below.refl (w1.heap.size + 1) _).alloc (by simp) _) (by omega)).below hb2 (by omega)
  have hS := fun X => (⟨hS.1.alloc hS.1.size X, hS.2.below ((Below.refl w2.heap.size w2).alloc (Nat.le_refl _) X) hS.2.lt⟩ : Below w.heap.size w (w2.alloc X) ∧ Five w1.heap.size 124 94 126 92 38 (w2.alloc X))
  clear hb1 hb2 hbelow
  have HS := fun X => Lib.hid (hS X)
  clear hS
  go_wp2_with fail
  have h3 := (HS (.cells #[.int .u8 0, .int .u8 0, .int .u8 0, .int .u8 0, .int .u8 0] 32)).out
  clear HS
  generalize w2.alloc (.cells #[.int .u8 0, .int .u8 0, .int .u8 0, .int .u8 0, .int .u8 0] 32) = W3 at *
  have hl : ∀ x : Qr.In (fun w' => Below w.heap.size w w' ∧ Five w1.heap.size 124 94 126 92 38 w'), x.w.cell? ⟨w1.heap.size, 0, none⟩ = some (.int .u8 124) ∧ x.w.cell? ⟨w1.heap.size, 1, none⟩ = some (.int .u8 94) ∧
      x.w.cell? ⟨w1.heap.size, 2, none⟩ = some (.int .u8 126) ∧ x.w.cell? ⟨w1.heap.size, 3, none⟩ = some (.int .u8 92) ∧ x.w.cell? ⟨w1.heap.size, 4, none⟩ = some (.int .u8 38) := fun x => x.h.2.cells
  have hne : Nonempty (Qr.In (fun w' => Below w.heap.size w w' ∧ Five w1.heap.size 124 94 126 92 38 w')) := ⟨⟨_, h3⟩⟩
  have hq := fun n w => (eqD n w 124 94 126 92 38 124 94 126 92 38).trans (by rw [show eq5 124 94 126 92 38 124 94 126 92 38 = true from by decide])
  refine Qr.region_in (S := fun w' => Below w.heap.size w w' ∧ Five w1.heap.size 124 94 126 92 38 w') (by kernel_rfl) (by kernel_rfl) ⟨h3.1.drew, h3.2.drew⟩ ?_
  repeat (go_big_quiet_step (first | (go_at_call 13; exact Qr.call (lplain_calls _) (fun _ _ h hb => ⟨h.1.trans (hb.mono h.1.size), h.2.below hb h.2.lt⟩)) | (go_at_call 14; exact Qr.call (plain_calls _) (fun _ _ h hb => ⟨h.1.trans (hb.mono h.1.size), h.2.below hb h.2.lt⟩))))
  refine wpQuiet_nil ?_
  rintro _ ⟨⟨W8, h8⟩, rfl⟩
  clear hl hne hq
  go_wp2_with fail
  go_ret
  exact ⟨rfl, h8.1⟩
end Dl
end Go.Proofs.YtkjhjeaeffooaaaDoor
