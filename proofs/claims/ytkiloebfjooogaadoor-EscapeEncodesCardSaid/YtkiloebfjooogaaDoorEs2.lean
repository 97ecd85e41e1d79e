/-
  A part of the proof of this seat's laws: two digits to the base 16.
-/
import Derived.Test.YtkiloebfjooogaaDoorEs1
import Derived.Laws.BitsLemmas
import Derived.Lib.AtoiErrMem
namespace Go.Proofs.YtkiloebfjooogaaDoor
set_option linter.unusedVariables false
set_option linter.unusedSimpArgs false
open Go.RowKit Go.Shelf
namespace Sp
/-- a digit -/
def hdv (c : UInt8) : Option Nat := if 48 ≤ c.toNat ∧ c.toNat ≤ 57 then some (c.toNat - 48) else if 65 ≤ c.toNat ∧ c.toNat ≤ 70 then some (c.toNat - 55) else none
theorem hdv_cases {c : UInt8} {v : Nat} (h : hdv c = some v) : (48 ≤ c.toNat ∧ c.toNat ≤ 57 ∧ v = c.toNat - 48) ∨ (65 ≤ c.toNat ∧ c.toNat ≤ 70 ∧ v = c.toNat - 55) := by
  unfold hdv at h
  split at h
  · cases h; exact .inl ⟨by omega, by omega, rfl⟩
  · split at h
    · cases h; exact .inr ⟨by omega, by omega, rfl⟩
    · cases h
theorem hdv_le {c : UInt8} {v : Nat} (h : hdv c = some v) : v ≤ 15 := by
  rcases hdv_cases h with ⟨_, _, _⟩ | ⟨_, _, _⟩ <;> omega
theorem or32_up (c : Int) (h : 65 ≤ c ∧ c ≤ 70) : bits .or .u8 c 32 = c + 32 := by
  have : c = 65 ∨ c = 66 ∨ c = 67 ∨ c = 68 ∨ c = 69 ∨ c = 70 := by omega
  rcases this with rfl | rfl | rfl | rfl | rfl | rfl <;> decide
end Sp
namespace Es
open Ap Mp
/-- the number of k of two digits -/
def pv (va vb : Nat) : Nat → Int
  | 0 => 0
  | 1 => va
  | _ => 16 * va + vb
set_option maxHeartbeats 4000000 in
set_option maxRecDepth 100000 in
theorem pu16 (x y : UInt8) (va vb : Nat) (hx : Sp.hdv x = some va) (hy : Sp.hdv y = some vb) (w : World) :
    Calls Tryd.prog 49 #[.string (Sp.bs [x, y]), .int .i64 16, .int .i64 8] w fun e w' => e = .returned (.tuple #[.int .u64 (16 * (va : Int) + vb), .nilIface]) ∧ Below w.heap.size w w' := by
  have hcv := Lib.run_convert_string_bytes (P := Tryd.prog) w 9 31 5 (Sp.bs [x, y]) (u := .string) Tryd.underlying9 Tryd.underlying31 Tryd.underlying5
  have hB : ∀ j, j < (Sp.bs [x, y]).size → (Lib.bytesWorld w 5 (Sp.bs [x, y])).cell? ⟨w.heap.size, j, none⟩ = some (.int .u8 ((Sp.bs [x, y]).data.toList.getD j 0).toNat) := fun j hj => Lib.bytesWorld_cell w 5 (Sp.bs [x, y]) j hj
  have hW : Below w.heap.size w (Lib.bytesWorld w 5 (Sp.bs [x, y])) := Lib.bytesWorld_below _ _ _
  have hemp : (Sp.bs [x, y]).toList.isEmpty = false := by rw [Sp.bs_toList]; rfl
  obtain ⟨W1, hW1⟩ : ∃ W1, W1 = Lib.bytesWorld w 5 (Sp.bs [x, y]) := ⟨_, rfl⟩
  rw [← hW1] at hcv hB hW
  have hz : (Sp.bs [x, y]).size = 2 := Sp.bs_size _
  have hb0 := hB 0 (by omega)
  have hb1 := hB 1 (by omega)
  rw [Sp.bs_list] at hb0 hb1
  have hb0 : W1.cell? ⟨w.heap.size, 0, none⟩ = some (.int .u8 (x.toNat : Int)) := hb0
  have hb1 : W1.cell? ⟨w.heap.size, 1, none⟩ = some (.int .u8 (y.toNat : Int)) := hb1
  have Hb := Lib.hid (And.intro hb0 hb1)
  have HW := Lib.hid hW
  have ha := Sp.hdv_le hx
  have hb := Sp.hdv_le hy
  clear hb0 hb1 hB hW1 hW
  go_enter Tryd.func49, Tryd.ntmps49
  go_wp2
  go_loop [12, 13, 15, 16, 17, 101] (fun vu vn _ _ _ vi => ∃ (k : Nat) (a : Int), vu = .bool false ∧ vn = .int .u64 a ∧ vi = .int .i64 k ∧ k ≤ 2 ∧ Hid (a = pv va vb k)) (fun _ _ _ _ _ vi => 2 - (intOf vi).toNat)
  case atStart => exact ⟨0, 0, rfl, rfl, rfl, by omega, rfl⟩
  case round =>
    obtain ⟨k, a, rfl, rfl, rfl, hk, hpa⟩ := hrel
    by_cases hk2 : k < 2
    · have hcs : ∃ (c : UInt8) (v : Nat), Sp.hdv c = some v ∧ W1.cell? ⟨w.heap.size, k, none⟩ = some (.int .u8 (c.toNat : Int)) ∧ Hid (16 * a + v = pv va vb (k + 1)) ∧ 0 ≤ a ∧ a ≤ 15 := by
        have h := hpa.out
        rcases (by omega : k = 0 ∨ k = 1) with rfl | rfl
        · subst h; exact ⟨x, va, hx, Hb.out.1, Lib.hid (by simp [pv]), by simp [pv], by simp [pv]⟩
        · subst h; exact ⟨y, vb, hy, Hb.out.2, Lib.hid (by simp [pv]), by simp [pv], by simp [pv]; omega⟩
      obtain ⟨c, v, hcv2, hcell, hnext, a0, a15⟩ := hcs
      have c0 : (0 : Int) ≤ (k : Int) := by omega
      have c1 : (k : Int) < 2 := by omega
      have hw1 : IntKind.i64.wrap ((k : Int) + 1) = (k : Int) + 1 := IntWalk.i64_in _ (by omega)
      clear hcv
      rcases Sp.hdv_cases hcv2 with ⟨d0, d1, hv⟩ | ⟨d0, d1, hv⟩
      · have hne : ((c.toNat : Int) == 95) = false := by rw [beq_eq_false_iff_ne]; omega
        have e0 : 48 ≤ (c.toNat : Int) := by omega
        have e1 : (c.toNat : Int) ≤ 57 := by omega
        have hv2 : (v : Int) = (c.toNat : Int) - 48 := by omega
        rw [hv2] at hnext
        obtain ⟨u, hu⟩ : ∃ u : Int, u = (c.toNat : Int) - 48 := ⟨_, rfl⟩
        have u0 : 0 ≤ u := by omega
        have u9 : u ≤ 9 := by omega
        have hsub : IntKind.u8.wrap ((c.toNat : Int) - 48) = u := by rw [IntWalk.u8_in _ (by omega), hu]
        have hs2 : (c.toNat : Int) - 48 = u := hu.symm
        rw [hs2] at hnext
        clear hcv2 hv hv2 hu d0 d1
        go_wp2_with fail
        go_round
        case rel => exact ⟨k + 1, a * 16 + u, rfl, rfl, by go_num, by omega, Lib.hid (by rw [← hnext.out]; omega)⟩
        case measure => simp [intOf]; omega
      · have hne : ((c.toNat : Int) == 95) = false := by rw [beq_eq_false_iff_ne]; omega
        have e0 : 48 ≤ (c.toNat : Int) := by omega
        have e1 : ¬ (c.toNat : Int) ≤ 57 := by omega
        have e2 : 57 < (c.toNat : Int) := by omega
        have hv2 : (v : Int) = (c.toNat : Int) - 55 := by omega
        rw [hv2] at hnext
        have hlow := Sp.or32_up (c.toNat : Int) ⟨by omega, by omega⟩
        have Hl : Hid (∀ w, Calls Tryd.prog 59 #[.int .u8 (c.toNat : Int)] w fun e w' => e = .returned (.int .u8 ((c.toNat : Int) + 32)) ∧ w' = w) := Lib.hid (fun w => by rw [← hlow]; exact Tryd.internal_strconv_lower _ w)
        have f0 : 97 ≤ (c.toNat : Int) + 32 := by omega
        have f1 : (c.toNat : Int) + 32 ≤ 122 := by omega
        obtain ⟨u, hu⟩ : ∃ u : Int, u = (c.toNat : Int) - 55 := ⟨_, rfl⟩
        have u0 : 10 ≤ u := by omega
        have u9 : u ≤ 15 := by omega
        have hsub : IntKind.u8.wrap ((c.toNat : Int) + 32 - 97) = u - 10 := by rw [IntWalk.u8_in _ (by omega), hu]; omega
        have hs2 : (c.toNat : Int) + 32 - 97 = u - 10 := by omega
        have hadd : IntKind.u8.wrap (u - 10 + 10) = u := by rw [IntWalk.u8_in _ (by omega)]; omega
        have hs3 : u - 10 + 10 = u := by omega
        rw [← hu] at hnext
        clear hcv2 hv hv2 hu d0 d1 hlow
        go_wp2_with (go_at_call 59; refine (Hl.out _).mono ?_; rintro e w' ⟨rfl, rfl⟩)
        go_round
        case rel => exact ⟨k + 1, a * 16 + u, rfl, rfl, by go_num, by omega, Lib.hid (by rw [← hnext.out]; omega)⟩
        case measure => simp [intOf]; omega
    · obtain rfl : k = 2 := by omega
      have h := hpa.out
      subst h
      go_wp2_with fail
      go_ret2
      exact ⟨rfl, HW.out⟩
end Es
end Go.Proofs.YtkiloebfjooogaaDoor
