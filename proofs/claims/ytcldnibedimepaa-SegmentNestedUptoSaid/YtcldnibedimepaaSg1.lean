/-
  A part of the proof of this seat's laws: strings.Cut at one byte.
-/
import Derived.Test.YtcldnibedimepaaSp8
import Derived.Test.YtcldnibedimepaaShelf
import Derived.Test.YtcldnibedimepaaQr
import Derived.Lib.Hide
import Derived.IntWalk
import Derived.RegionTactic
import Derived.ChangeAlike
namespace Go.Proofs.Ytcldnibedimepaa
set_option linter.unusedVariables false
set_option linter.unusedSimpArgs false
open Go.RowKit
namespace Sg
set_option maxHeartbeats 1000000
theorem slCut_no (l : List UInt8) (c : UInt8) (w : World) (h : Lib.indexByte l c = -1) :
    Calls Try.prog 44 #[.string (Sp.bs l), .string ⟨#[c]⟩] w fun e w' => e = .returned (.tuple #[.string (Sp.bs l), .string ⟨#[]⟩, .bool false]) ∧ ∃ n, w' = w.drewN n := by
  have hi := Try.stringslite_Index_one (Sp.bs l) c w
  rw [Sp.bs_list, h] at hi
  have Hi := Lib.hid hi
  clear hi h
  go_enter Try.func44, Try.ntmps44
  go_wp2_with (go_at_call 48; refine Hi.out.mono ?_; rintro e w' ⟨rfl, rfl⟩)
  go_ret3
  exact ⟨rfl, 0, rfl⟩
theorem slCut_yes (l : List UInt8) (c : UInt8) (i : Nat) (w : World) (h : Lib.indexByte l c = i) (hil : i < l.length) (hl : l.length ≤ 140737488351232) :
    Calls Try.prog 44 #[.string (Sp.bs l), .string ⟨#[c]⟩] w fun e w' => e = .returned (.tuple #[.string (Sp.bs (l.take i)), .string (Sp.bs (l.drop (i + 1))), .bool true]) ∧ ∃ n, w' = w.drewN n := by
  have hi := Try.stringslite_Index_one (Sp.bs l) c w
  rw [Sp.bs_list, h] at hi
  have Hi := Lib.hid hi
  have e1 : (Sp.bs l).extract 0 i = Sp.bs (l.take i) := by rw [Sp.bs_extract]; simp
  have e2 : (Sp.bs l).extract (i + 1) (Sp.bs l).size = Sp.bs (l.drop (i + 1)) := by
    rw [Sp.bs_extract, Sp.bs_size, List.take_of_length_le (by simp)]
  have hs := Sp.bs_size l
  generalize Sp.bs l = s at *
  rw [← e1, ← e2]
  have c1 : (0 : Int) ≤ ↑i := by omega
  have c2 : (↑i : Int) ≤ ↑s.size := by omega
  have c3 : (0 : Int) ≤ ↑i + 1 := by omega
  have c4 : (↑i + 1 : Int) ≤ ↑s.size := by omega
  have c5 : (↑s.size : Int) ≤ 140737488351232 := by omega
  have c6 : IntKind.i64.wrap (↑i + 1) = ↑i + 1 := IntWalk.i64_in _ (by omega)
  clear hi h e1 e2 hs hil hl
  go_enter Try.func44, Try.ntmps44
  go_wp2_with (go_at_call 48; refine Hi.out.mono ?_; rintro e w' ⟨rfl, rfl⟩)
  go_region
  go_wp2
  go_ret3
  exact ⟨rfl, 1, rfl⟩
theorem cut_no (l : List UInt8) (c : UInt8) (w : World) (h : Lib.indexByte l c = -1) :
    Calls Try.prog 38 #[.string (Sp.bs l), .string ⟨#[c]⟩] w fun e w' => e = .returned (.tuple #[.string (Sp.bs l), .string ⟨#[]⟩, .bool false]) ∧ ∃ n, w' = w.drewN n := by
  have H := Lib.hid (slCut_no l c w h)
  clear h
  go_enter Try.func38, Try.ntmps38
  go_wp2_with (go_at_call 44; refine H.out.mono ?_; rintro e w' ⟨rfl, n, rfl⟩)
  go_ret3
  exact ⟨rfl, _, rfl⟩
theorem cut_yes (l : List UInt8) (c : UInt8) (i : Nat) (w : World) (h : Lib.indexByte l c = i) (hil : i < l.length) (hl : l.length ≤ 140737488351232) :
    Calls Try.prog 38 #[.string (Sp.bs l), .string ⟨#[c]⟩] w fun e w' => e = .returned (.tuple #[.string (Sp.bs (l.take i)), .string (Sp.bs (l.drop (i + 1))), .bool true]) ∧ ∃ n, w' = w.drewN n := by
  have H := Lib.hid (slCut_yes l c i w h hil hl)
  clear h hil hl
  go_enter Try.func38, Try.ntmps38
  go_wp2_with (go_at_call 44; refine H.out.mono ?_; rintro e w' ⟨rfl, n, rfl⟩)
  go_ret3
  exact ⟨rfl, _, rfl⟩
end Sg
end Go.Proofs.Ytcldnibedimepaa
