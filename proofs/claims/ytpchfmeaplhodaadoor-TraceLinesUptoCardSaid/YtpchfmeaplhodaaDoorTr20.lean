/-
  A part of the proof of this seat's laws: the document's examples.
-/
import Derived.Test.YtpchfmeaplhodaaDoorTr18
import Derived.Test.YtpchfmeaplhodaaDoorTpM
namespace Go.Proofs.YtpchfmeaplhodaaDoor
set_option linter.unusedVariables false
set_option linter.unusedSimpArgs false
open Go.RowKit Go.Shelf
namespace Sp
theorem ex_parse : parseS [105, 110, 32, 48, 98, 48, 100, 10, 98, 97, 99, 107, 32, 45, 10] = .ok [⟨⟨0, 0, 0, [11, 13]⟩, [⟨true, []⟩], false⟩] :=
  parse_fmt (by rfl) (fun s hs => by simp only [List.mem_singleton] at hs; subst hs; exact ⟨small_zero, small_zero⟩)
theorem ex_lines : (cutL 10 [105, 110, 32, 48, 98, 48, 100, 10, 98, 97, 99, 107, 32, 45, 10]).length - 1 = 2 := by decide
theorem ex_read : readS [116, 105, 99, 107, 32, 48, 53] = none := by
  rw [readS_eq, show cutL 32 [116, 105, 99, 107, 32, 48, 53] = [[116, 105, 99, 107], [48, 53]] by decide]
  have h : numT [48, 53] = none := by
    rw [← numR_eq]
    unfold numR
    rw [if_pos (by decide)]
  simp [readW, h]
theorem ex_short : ∀ x ∈ cutL 10 [105, 110, 32, 48, 98, 48, 100, 10, 98, 97, 99, 107, 32, 45, 10], x.length ≤ 50000 := by
  intro x hx
  have := cutL_le 10 _ x hx
  simp only [List.length_cons, List.length_nil] at this
  omega
end Sp
namespace Tr
open Ap Sg
set_option maxHeartbeats 2000000
set_option maxRecDepth 100000 in
theorem alive_calls (w : World) (hg : Gl w) :
    Calls Tryd.prog 10 #[] w fun e w' => e = .returned (.bool true) ∧ Below w.heap.size w w' := by
  have huS := Tryd.underlying42
  have huE := Tryd.underlying29
  have huO := Tryd.underlying56
  have HP := Lib.hid (parse_calls _ (by decide) Sp.ex_short w hg)
  have HR := Lib.hid (fun W hW => read_calls [116, 105, 99, 107, 32, 48, 53] (by decide) W hW)
  have Hg := Lib.hid hg
  clear hg
  go_enter Tryd.func10, Tryd.ntmps10
  go_wp2_with fail
  refine HP.out.mono ?_
  rintro e w1 ⟨-, hy, b1⟩
  obtain ⟨A, n, c, rfl, hs⟩ := hy _ Sp.ex_parse
  rw [Sp.ex_lines]
  clear hy
  obtain rfl : 1 = n := hs.len
  obtain ⟨b, o, A1, n1, c1, A2, n2, c2, rfl, hbl, hcs, hby, hou⟩ := hs.get (j := 0) rfl
  obtain rfl : 1 = n2 := hou.len
  obtain ⟨b2, o2, A3, n3, c3, rfl, hbl2, ho1, ho2, -⟩ := hou.get (j := 0) rfl
  have hcap := hs.cap
  have hcap2 := hou.cap
  have h3 := hcs 3 _ rfl
  have h4 := hcs 4 _ rfl
  rw [Nat.zero_mul, Nat.add_zero] at h3 h4 ho1
  have Hby := Lib.hid hby
  have B1 := Lib.hid b1
  clear hs hcs hou hby ho2 b1
  have HR1 := Lib.hid (HR.out w1 (Hg.out.below B1.out))
  go_wp2_with fail
  refine HR1.out.mono ?_
  rintro e w2 ⟨hn, -, b2'⟩
  obtain rfl := hn Sp.ex_read
  have bn : Below w2.heap.size w2 (w2.alloc (.cells (evC 0 0 0 none 0 0) 29)) := (Below.refl _ _).alloc (Nat.le_refl _) _
  have b3 := step b2' bn
  have hcv := (Hby.out.below b3).conv
  have k3 := (b3.cell (p := ⟨b, o + 3, none⟩) hbl).trans h3
  have k4 := (b3.cell (p := ⟨b, o + 4, none⟩) hbl).trans h4
  have k5 := (b3.cell (p := ⟨b2, o2, none⟩) hbl2).trans ho1
  have B3 := Lib.hid (step B1.out b3)
  have p0 : ((Sp.bs [11, 13]).toList == [11, 13]) = true := by rw [str_eqc]; decide
  clear hn b2' bn b3 h3 h4 ho1
  go_wp2_with fail
  go_ret
  exact ⟨rfl, B3.out⟩
end Tr
end Go.Proofs.YtpchfmeaplhodaaDoor
