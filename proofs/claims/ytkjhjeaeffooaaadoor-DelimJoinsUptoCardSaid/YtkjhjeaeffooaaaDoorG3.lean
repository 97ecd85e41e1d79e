/-
  A part of the proof of this seat's laws: texts joined.
-/
import Derived.Test.YtkjhjeaeffooaaaDoorG1
import Derived.Test.YtkjhjeaeffooaaaDoorShelf
namespace Go.Proofs.YtkjhjeaeffooaaaDoor
set_option linter.unusedVariables false
set_option linter.unusedSimpArgs false
open Go.RowKit Go.Shelf
namespace Sg
open Ap
set_option maxHeartbeats 4000000
/-- strings.Join of texts -/
theorem joinS_calls (A : Option Addr) (n c : Nat) (xs : List (List UInt8)) (sep : List UInt8) (w : World) (h : Tx w A n c xs) (hb : (Lib.join xs sep).length ≤ 140737488355328) (hn : n ≤ 140737488355328) :
    Calls Tryd.prog 16 #[.slice A n c, .string (Sp.bs sep)] w fun e w' => e = .returned (.string (Sp.bs (Lib.join xs sep))) ∧ Below w.heap.size w w' := by
  have hl := h.len
  rcases h.cells with h0 | ⟨b, o, rfl, hbl, hc⟩
  · subst h0
    have : xs = [] := List.eq_nil_of_length_eq_zero hl
    subst this
    refine (Tryd.strings_Join_none A c (Sp.bs sep) w).mono ?_
    rintro e w' ⟨rfl, rfl⟩
    exact ⟨rfl, Below.refl _ _⟩
  · have hmap : (xs.map Sp.bs).map (·.data.toList) = xs := by
      rw [List.map_map]
      conv => rhs; rw [← List.map_id xs]
      exact List.map_congr_left (fun x _ => Sp.bs_list x)
    have := Tryd.strings_Join b o c (xs.map Sp.bs) (Sp.bs sep) w (fun j x hj => by
      rw [List.getElem?_map] at hj
      cases hx : xs[j]? with
      | none => rw [hx] at hj; cases hj
      | some y => rw [hx] at hj; cases hj; exact hc j y hx) hbl (by simpa using (by omega : xs.length ≤ 140737488355328)) (by have := h.cap; simpa using (by omega : xs.length ≤ c)) (by rw [hmap, Sp.bs_list]; exact hb)
    rw [hmap, Sp.bs_list, List.length_map, hl] at this
    exact this
theorem delimJoin_calls (F : UInt8) (A : Option Addr) (n c : Nat) (xs : List (List UInt8)) (w : World) (h : Tx w A n c xs) (hb : (Lib.join xs [F]).length ≤ 140737488355328) (hn : n ≤ 140737488355328) :
    Calls Tryd.prog 10 #[.int .u8 (F.toNat : Int), .slice A n c] w fun e w' => e = .returned (.string (Sp.bs (Lib.join xs [F]))) ∧ Below w.heap.size w w' := by
  have hsign := run_sign
  have hal := (Below.refl w.heap.size w).alloc (Nat.le_refl _) (.cells #[.int .u8 (F.toNat : Int)] 5)
  have Hj := Lib.hid (joinS_calls A n c xs [F] (w.alloc (.cells #[.int .u8 (F.toNat : Int)] 5)) (h.below hal) hb hn)
  clear h
  go_enter Tryd.func10, Tryd.ntmps10
  go_wp2_with fail
  refine Hj.out.mono ?_
  rintro e w' ⟨rfl, hb⟩
  go_wp2_with fail
  go_ret
  exact ⟨rfl, hal.trans (hb.mono hal.size)⟩
end Sg
end Go.Proofs.YtkjhjeaeffooaaaDoor
