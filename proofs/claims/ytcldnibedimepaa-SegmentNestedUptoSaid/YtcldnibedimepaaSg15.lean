/-
  A part of the proof of this seat's laws: the reference's field; what is made of fields.
-/
import Derived.Test.YtcldnibedimepaaSg14
import Derived.Test.YtcldnibedimepaaSg9
import Derived.Lib.Join
namespace Go.Proofs.Ytcldnibedimepaa
set_option linter.unusedVariables false
set_option linter.unusedSimpArgs false
open Go.RowKit Go.Shelf
namespace Sg
open Ap
set_option maxHeartbeats 4000000
section
variable (s : List UInt8) (n : Int) (hn' : n ≤ 9223372036854775807) (hm' : -9223372036854775807 ≤ n) (F P R E U : UInt8) (hs : s.length ≤ 100000) (w : World)
include hs
theorem refField_out (hn : ¬(1 ≤ n ∧ n ≤ ((Sp.fields s F).length : Int))) :
    Calls Try.prog 28 #[.string (Sp.bs s), .int .i64 n, dv F P R E U] w fun e w' => e = .returned (.tuple #[.string ⟨#[]⟩, .bool false]) ∧ Below w.heap.size w w' := by
  have huD := Try.underlying23
  have h5 := Five.new F P R E U w
  have hB : Below w.heap.size w (w.alloc (.cells #[.int .u8 (F.toNat : Int), .int .u8 (P.toNat : Int), .int .u8 (R.toNat : Int), .int .u8 (E.toNat : Int), .int .u8 (U.toNat : Int)] 23)) := (Below.refl _ _).alloc (Nat.le_refl _) _
  have Hc := Lib.hid (refFields_calls s F P R E U hs)
  generalize Sp.fields s F = fs at *
  generalize fs.length = N at *
  have Hn := Lib.hid hn
  clear hn
  go_enter Try.func28, Try.ntmps28
  go_wp2_with fail
  have hc := h5.cells
  generalize (w.alloc (.cells #[.int .u8 (F.toNat : Int), .int .u8 (P.toNat : Int), .int .u8 (R.toNat : Int), .int .u8 (E.toNat : Int), .int .u8 (U.toNat : Int)] 23)) = W at *
  go_wp2_with fail
  refine (Hc.out _).mono ?_
  rintro e w' ⟨A, C, rfl, hm, hb⟩
  have hbb := hB.trans (hb.mono hB.size)
  clear hm hb hB hc h5
  by_cases h1 : n < 1
  · go_wp2_with fail
    go_ret2
    exact ⟨rfl, hbb⟩
  · have h2 : (N : Int) < n := by have := Hn.out; omega
    go_wp2_with fail
    go_ret2
    exact ⟨rfl, hbb⟩
theorem refField_in (j : Nat) (hn : j < (Sp.fields s F).length) :
    Calls Try.prog 28 #[.string (Sp.bs s), .int .i64 ((j : Int) + 1), dv F P R E U] w fun e w' => e = .returned (.tuple #[.string (Sp.bs (Sp.pick (Sp.fields s F) ((j : Int) + 1))), .bool true]) ∧ Below w.heap.size w w' := by
  have huD := Try.underlying23
  have h5 := Five.new F P R E U w
  have hB : Below w.heap.size w (w.alloc (.cells #[.int .u8 (F.toNat : Int), .int .u8 (P.toNat : Int), .int .u8 (R.toNat : Int), .int .u8 (E.toNat : Int), .int .u8 (U.toNat : Int)] 23)) := (Below.refl _ _).alloc (Nat.le_refl _) _
  have Hc := Lib.hid (refFields_calls s F P R E U hs)
  have hv := Sp.pick_at hn
  have hb0 : (Sp.fields s F).length ≤ 100002 := by
    unfold Sp.fields
    have h1 := Sp.cutL_length F s
    have h2 := List.count_le_length (a := F) (l := s)
    have h3 := Sp.cutL_length F (s.drop 4)
    have h4 := List.count_le_length (a := F) (l := s.drop 4)
    rw [List.length_drop] at h4
    split
    · simp; omega
    · split
      · simp; omega
      · simp
  generalize Sp.pick (Sp.fields s F) ((j : Int) + 1) = x at *
  generalize Sp.fields s F = fs at *
  have Hv := Lib.hid hv
  generalize hN : fs.length = N at *
  have hwj : IntKind.i64.wrap (j : Int) = (j : Int) := IntWalk.i64_in _ (by omega)
  have c1 : ¬ ((j : Int) + 1 < 1) := by omega
  have c2 : ¬ ((N : Int) < (j : Int) + 1) := by omega
  have c3 : (j : Int) < (N : Int) := by omega
  have c4 : (0 : Int) ≤ (j : Int) := by omega
  clear hv
  go_enter Try.func28, Try.ntmps28
  go_wp2_with fail
  have hc := h5.cells
  generalize (w.alloc (.cells #[.int .u8 (F.toNat : Int), .int .u8 (P.toNat : Int), .int .u8 (R.toNat : Int), .int .u8 (E.toNat : Int), .int .u8 (U.toNat : Int)] 23)) = W at *
  go_wp2_with fail
  refine (Hc.out _).mono ?_
  rintro e w' ⟨A, C, rfl, hm, hb⟩
  obtain ⟨b, o, rfl, hbl, hcc⟩ := hm.cells.resolve_left (by omega)
  have hcj := hcc j x Hv.out
  have hbb := hB.trans (hb.mono hB.size)
  clear hm hb hB hc h5 hcc
  go_wp2_with fail
  go_ret2
  exact ⟨rfl, hbb⟩
theorem refField_calls :
    Calls Try.prog 28 #[.string (Sp.bs s), .int .i64 n, dv F P R E U] w fun e w' => e = .returned (.tuple #[.string (Sp.bs (Sp.pick (Sp.fields s F) n)), .bool (decide (1 ≤ n ∧ n ≤ ((Sp.fields s F).length : Int)))]) ∧ Below w.heap.size w w' := by
  by_cases hn : 1 ≤ n ∧ n ≤ ((Sp.fields s F).length : Int)
  · rw [decide_eq_true hn]
    obtain ⟨j, rfl⟩ : ∃ j : Nat, n = (j : Int) + 1 := ⟨(n - 1).toNat, by omega⟩
    exact refField_in s F P R E U hs w j (by omega)
  · rw [decide_eq_false hn, Sp.pick_out hn]
    exact refField_out s n F P R E U hs w hn
end
/-- strings.Join of texts -/
theorem joinS_calls (A : Option Addr) (n c : Nat) (xs : List (List UInt8)) (sep : List UInt8) (w : World) (h : Tx w A n c xs) (hb : (Lib.join xs sep).length ≤ 140737488355328) (hn : n ≤ 140737488355328) :
    Calls Try.prog 36 #[.slice A n c, .string (Sp.bs sep)] w fun e w' => e = .returned (.string (Sp.bs (Lib.join xs sep))) ∧ Below w.heap.size w w' := by
  have hl := h.len
  rcases h.cells with h0 | ⟨b, o, rfl, hbl, hc⟩
  · subst h0
    have : xs = [] := List.eq_nil_of_length_eq_zero hl
    subst this
    refine (Try.strings_Join_none A c (Sp.bs sep) w).mono ?_
    rintro e w' ⟨rfl, rfl⟩
    exact ⟨rfl, Below.refl _ _⟩
  · have hmap : (xs.map Sp.bs).map (·.data.toList) = xs := by
      rw [List.map_map]
      conv => rhs; rw [← List.map_id xs]
      exact List.map_congr_left (fun x _ => Sp.bs_list x)
    have := Try.strings_Join b o c (xs.map Sp.bs) (Sp.bs sep) w (fun j x hj => by
      rw [List.getElem?_map] at hj
      cases hx : xs[j]? with
      | none => rw [hx] at hj; cases hj
      | some y => rw [hx] at hj; cases hj; exact hc j y hx) hbl (by simpa using (by omega : xs.length ≤ 140737488355328)) (by have := h.cap; simpa using (by omega : xs.length ≤ c)) (by rw [hmap, Sp.bs_list]; exact hb)
    rw [hmap, Sp.bs_list, List.length_map, hl] at this
    exact this
theorem delimJoin_calls (F : UInt8) (A : Option Addr) (n c : Nat) (xs : List (List UInt8)) (w : World) (h : Tx w A n c xs) (hb : (Lib.join xs [F]).length ≤ 140737488355328) (hn : n ≤ 140737488355328) :
    Calls Try.prog 37 #[.int .u8 (F.toNat : Int), .slice A n c] w fun e w' => e = .returned (.string (Sp.bs (Lib.join xs [F]))) ∧ Below w.heap.size w w' := by
  have hsign := run_sign
  have hal := (Below.refl w.heap.size w).alloc (Nat.le_refl _) (.cells #[.int .u8 (F.toNat : Int)] 5)
  have Hj := Lib.hid (joinS_calls A n c xs [F] (w.alloc (.cells #[.int .u8 (F.toNat : Int)] 5)) (h.below hal) hb hn)
  clear h
  go_enter Try.func37, Try.ntmps37
  go_wp2_with fail
  refine Hj.out.mono ?_
  rintro e w' ⟨rfl, hb⟩
  go_wp2_with fail
  go_ret
  exact ⟨rfl, hal.trans (hb.mono hal.size)⟩
end Sg
end Go.Proofs.Ytcldnibedimepaa
