/-
  No cell of these rows narrows 'for every input' (looked for: loops, veiled, ifaces, maps, wideKeys, modest, calm, conditions, laid).
  DERIVED. THE GIVEN ROWS OF THIS SEAT. 3 by the template 'for every input the law returns true; each argument reads behind the call as it read before'; 0 by the template 'total and deterministic' (their statements: YtkjhjeaeffooaaaTotals.lean).
  GIVEN WITH THE SEED: the statements are not yours to turn. If you find one false, say at which input.
  Laid BY PROGRAM, IN A SANDBOX (cutbox-rows.mjs): the forced cells as the released guide's own fill.sh prints them over the translation ce10e1231cdf14af… (all of the seat's roots in one cut). By AI agents, Wed Nov 11 2026. No macro, syntax, notation, axiom, sorry.
-/
import Derived.Test.YtkjhjeaeffooaaaChecked
import GoSem.Claim
import GoSem.ClaimJoined
import GoSem.ClaimMapViews
import Derived.JoinedTies
import Derived.KernelRfl
namespace Go.Proofs.Ytkjhjeaeffooaaa
/- THE CELL 'sum', in the pinned program and in every row, IS THE sha256 OF THE DUMP (.gsa) THAT YtkjhjeaeffooaaaProg.lean LOADS. Nothing in Lean hashes anything: it is a label: what it is worth is what the hold of that sum in a sandbox is worth. -/
noncomputable def Try.pinned : Pinned := { name := "ytkjhjeaeffooaaa", sum := "ce10e1231cdf14af28f0c2c55074f58aa7aacf972dfe1e0f51bd1ace8c9f2f12", checked := Try.checked }
namespace Rows
def none {H : Type} : Left H := { results := [], args := [] }

/-- 'lamplighterlaw06.DelimRight': WHATEVER THE INPUT: true; the input reads as it did. -/
def delimRightSpec : ChangeSpec := { name := "delimRight", fn := fun _ => fun
  | [d1, d2] => { results := [.lit (.bool true)], args := [d1, d2] }
  | _ => none }
def delimRightRow : OpenClaim := { program := "ytkjhjeaeffooaaa", sum := "ce10e1231cdf14af28f0c2c55074f58aa7aacf972dfe1e0f51bd1ace8c9f2f12", func := "lamplighter/lamplighterlaw06.DelimRight", spec := "delimRight", inPlace := ["internal/bytealg.IndexByte"], apart := false }
def DelimRightSaid : Prop := delimRightRow.holds Try.pinned (OpenSpec.ofChange delimRightSpec)

/-- ITS FALSE NEIGHBOUR: 'it returns false'. Refute it at one input. -/
def delimRightWrong : ChangeSpec := { name := "delimRight", fn := fun _ => fun
  | [d1, d2] => { results := [.lit (.bool false)], args := [d1, d2] }
  | _ => none }
def DelimRightWrongFalsely : Prop := delimRightRow.holds Try.pinned (OpenSpec.ofChange delimRightWrong)

/-- 'lamplighterlaw06.DelimReads': WHATEVER THE INPUT: true; the input reads as it did. -/
def delimReadsSpec : ChangeSpec := { name := "delimReads", fn := fun _ => fun
  | [d1, d2] => { results := [.lit (.bool true)], args := [d1, d2] }
  | _ => none }
def delimReadsRow : OpenClaim := { program := "ytkjhjeaeffooaaa", sum := "ce10e1231cdf14af28f0c2c55074f58aa7aacf972dfe1e0f51bd1ace8c9f2f12", func := "lamplighter/lamplighterlaw06.DelimReads", spec := "delimReads", inPlace := ["internal/bytealg.IndexByte"], apart := false }
def DelimReadsSaid : Prop := delimReadsRow.holds Try.pinned (OpenSpec.ofChange delimReadsSpec)

/-- ITS FALSE NEIGHBOUR: 'it returns false'. Refute it at one input. -/
def delimReadsWrong : ChangeSpec := { name := "delimReads", fn := fun _ => fun
  | [d1, d2] => { results := [.lit (.bool false)], args := [d1, d2] }
  | _ => none }
def DelimReadsWrongFalsely : Prop := delimReadsRow.holds Try.pinned (OpenSpec.ofChange delimReadsWrong)

/-- 'lamplighterlaw06.DelimBack': WHATEVER THE INPUT: true; the input reads as it did. -/
def delimBackSpec : ChangeSpec := { name := "delimBack", fn := fun _ => fun
  | [d1, d2, d3] => { results := [.lit (.bool true)], args := [d1, d2, d3] }
  | _ => none }
def delimBackRow : OpenClaim := { program := "ytkjhjeaeffooaaa", sum := "ce10e1231cdf14af28f0c2c55074f58aa7aacf972dfe1e0f51bd1ace8c9f2f12", func := "lamplighter/lamplighterlaw06.DelimBack", spec := "delimBack", inPlace := ["internal/bytealg.IndexByte"], apart := false }
def DelimBackSaid : Prop := delimBackRow.holds Try.pinned (OpenSpec.ofChange delimBackSpec)

/-- ITS FALSE NEIGHBOUR: 'it returns false'. Refute it at one input. -/
def delimBackWrong : ChangeSpec := { name := "delimBack", fn := fun _ => fun
  | [d1, d2, d3] => { results := [.lit (.bool false)], args := [d1, d2, d3] }
  | _ => none }
def DelimBackWrongFalsely : Prop := delimBackRow.holds Try.pinned (OpenSpec.ofChange delimBackWrong)

/- THE SECOND FORM. 'bulk': how many values and letters a reading holds, each counted each time it is reached (what is shared counts as often as it is met; a slice's spare places count too). A statement '..UptoSaid' is the law's where the arguments, and the package variables that the reading takes, are together of bulk at most 1048576: NARROWER than '..Said'. Prove '..Said' where nothing that the law and all that it calls make is longer than what came in: it says more and counts as full. Else prove '..UptoSaid'. A law counts once. -/
mutual
def uptoBulk {H : Type} : DataW H → Nat
  | .lit (.string bytes) => bytes.length + 1
  | .lit _ => 1
  | .nil => 1
  | .ptr d => uptoBulk d + 1
  | .slice elems spare => uptoBulkAll elems + uptoBulkAll spare + 1
  | .agg parts => uptoBulkAll parts + 1
  | .iface _ d => uptoBulk d + 1
  | .map entries => uptoBulkEntries entries + 1
  | .held _ => 1
def uptoBulkAll {H : Type} : List (DataW H) → Nat
  | [] => 0
  | d :: r => uptoBulk d + uptoBulkAll r
def uptoBulkEntries {H : Type} : List (Lit × DataW H) → Nat
  | [] => 0
  | x :: r => uptoBulkEntry x + uptoBulkEntries r
def uptoBulkEntry {H : Type} : Lit × DataW H → Nat
  | (.string bytes, d) => bytes.length + uptoBulk d + 1
  | (_, d) => uptoBulk d + 1
 end
def uptoSmall : (H : Type) → List (DataW H) → Bool := fun _ ds => decide (uptoBulkAll ds ≤ 1048576)
def OpenSpec.upto (s : _root_.Go.ChangeSpec) : _root_.Go.OpenSpec := { _root_.Go.OpenSpec.ofChange s with cond := some uptoSmall }

/-- 'lamplighterlaw06.DelimRight', WHERE WHAT IT READS IS OF BULK AT MOST 1048576: true; the input reads as it did. -/
def delimRightUptoRow : OpenClaim := { program := "ytkjhjeaeffooaaa", sum := "ce10e1231cdf14af28f0c2c55074f58aa7aacf972dfe1e0f51bd1ace8c9f2f12", func := "lamplighter/lamplighterlaw06.DelimRight", spec := "delimRight", inPlace := ["internal/bytealg.IndexByte"], apart := false, narrowed := true }
def DelimRightUptoSaid : Prop := delimRightUptoRow.holds Try.pinned (OpenSpec.upto delimRightSpec)

/-- 'lamplighterlaw06.DelimReads', WHERE WHAT IT READS IS OF BULK AT MOST 1048576: true; the input reads as it did. -/
def delimReadsUptoRow : OpenClaim := { program := "ytkjhjeaeffooaaa", sum := "ce10e1231cdf14af28f0c2c55074f58aa7aacf972dfe1e0f51bd1ace8c9f2f12", func := "lamplighter/lamplighterlaw06.DelimReads", spec := "delimReads", inPlace := ["internal/bytealg.IndexByte"], apart := false, narrowed := true }
def DelimReadsUptoSaid : Prop := delimReadsUptoRow.holds Try.pinned (OpenSpec.upto delimReadsSpec)

/-- 'lamplighterlaw06.DelimBack', WHERE WHAT IT READS IS OF BULK AT MOST 1048576: true; the input reads as it did. -/
def delimBackUptoRow : OpenClaim := { program := "ytkjhjeaeffooaaa", sum := "ce10e1231cdf14af28f0c2c55074f58aa7aacf972dfe1e0f51bd1ace8c9f2f12", func := "lamplighter/lamplighterlaw06.DelimBack", spec := "delimBack", inPlace := ["internal/bytealg.IndexByte"], apart := false, narrowed := true }
def DelimBackUptoSaid : Prop := delimBackUptoRow.holds Try.pinned (OpenSpec.upto delimBackSpec)

end Rows
end Go.Proofs.Ytkjhjeaeffooaaa
