/-
  NARROWER THAN 'FOR EVERY INPUT', by the rows' own cells (each row's printed sentence says how): DelimParts: laid · DelimCuts: laid · DelimJoins: laid.
  DERIVED. THE GIVEN ROWS OF THIS SEAT. 3 by the template 'for every input the law returns true; each argument reads behind the call as it read before'; 0 by the template 'total and deterministic' (their statements: YtkjhjeaeffooaaaDoorTotals.lean).
  GIVEN WITH THE SEED: the statements are not yours to turn. If you find one false, say at which input.
  Laid BY PROGRAM, IN A SANDBOX (cutbox-rows.mjs): the forced cells as the released guide's own fill.sh prints them over the translation a9a8d736513d21f4… (all of the seat's roots in one cut). By AI agents, Wed Nov 11 2026. No macro, syntax, notation, axiom, sorry.
-/
import Derived.Test.YtkjhjeaeffooaaaDoorChecked
import GoSem.PinnedTables
import GoSem.Claim
import GoSem.ClaimJoined
import GoSem.ClaimMapViews
import Derived.JoinedTies
import Derived.KernelRfl
namespace Go.Proofs.YtkjhjeaeffooaaaDoor
/- THE CELL 'sum', in the pinned program and in every row, IS THE sha256 OF THE DUMP (.gsa) THAT YtkjhjeaeffooaaaDoorProg.lean LOADS. Nothing in Lean hashes anything: it is a label: what it is worth is what the hold of that sum in a sandbox is worth. -/
noncomputable def Tryd.pinned : Pinned := { name := "ytkjhjeaeffooaaadoor", sum := "a9a8d736513d21f49c89e627fab22a5b178af6b615ef237b0aabe523288da884", checked := Tryd.checked }
namespace Rows
def none {H : Type} : Left H := { results := [], args := [] }

/- WHAT THE LISTED PACKAGE-LEVEL VARIABLES READ AS WHEN THE CALL BEGINS. Each datum BY PROGRAM (the guide's laid-datum.mjs) off the statement by which the dump's own 'gosem.cut.vars' lays the variable. In a bare row this is a premise. The card (YtkjhjeaeffooaaaDoorCards.lean) ties it to the program's text. -/
def laid_unicode_utf8_acceptRanges {H : Type} : DataW H := .agg [.agg [.lit (.int .u8 128), .lit (.int .u8 191)], .agg [.lit (.int .u8 160), .lit (.int .u8 191)], .agg [.lit (.int .u8 128), .lit (.int .u8 159)], .agg [.lit (.int .u8 144), .lit (.int .u8 191)], .agg [.lit (.int .u8 128), .lit (.int .u8 143)], .agg [.lit (.int .u8 0), .lit (.int .u8 0)], .agg [.lit (.int .u8 0), .lit (.int .u8 0)], .agg [.lit (.int .u8 0), .lit (.int .u8 0)], .agg [.lit (.int .u8 0), .lit (.int .u8 0)], .agg [.lit (.int .u8 0), .lit (.int .u8 0)], .agg [.lit (.int .u8 0), .lit (.int .u8 0)], .agg [.lit (.int .u8 0), .lit (.int .u8 0)], .agg [.lit (.int .u8 0), .lit (.int .u8 0)], .agg [.lit (.int .u8 0), .lit (.int .u8 0)], .agg [.lit (.int .u8 0), .lit (.int .u8 0)], .agg [.lit (.int .u8 0), .lit (.int .u8 0)]]
/-- One of Go's own tables, pinned by name: the form's constant. -/
def laid_unicode_utf8_first : DataW Unit := Go.Pinned.utf8First

/-- 'lamplighterlaw06.DelimParts': WHATEVER THE INPUT: true; the input reads as it did. -/
def delimPartsSpec : ChangeSpec := { name := "delimParts", fn := fun _ => fun
  | [d1, d2, d3] => { results := [.lit (.bool true)], args := [d1, d2, d3] }
  | _ => none }
def delimPartsRow : OpenClaim := { program := "ytkjhjeaeffooaaadoor", sum := "a9a8d736513d21f49c89e627fab22a5b178af6b615ef237b0aabe523288da884", func := "lamplighter/lamplighterlaw06.DelimParts", spec := "delimParts", inPlace := ["internal/bytealg.IndexByte", "internal/bytealg.CountString", "internal/bytealg.IndexByteString", "internal/bytealg.IndexString"], named := ["unicode/utf8.first", "unicode/utf8.acceptRanges", "internal/bytealg.MaxLen"], apart := false, laid := [("unicode/utf8.acceptRanges", laid_unicode_utf8_acceptRanges), ("unicode/utf8.first", laid_unicode_utf8_first)] }
def DelimPartsSaid : Prop := delimPartsRow.holds Tryd.pinned (OpenSpec.ofChange delimPartsSpec)

/-- ITS FALSE NEIGHBOUR: 'it returns false'. Refute it at one input. -/
def delimPartsWrong : ChangeSpec := { name := "delimParts", fn := fun _ => fun
  | [d1, d2, d3] => { results := [.lit (.bool false)], args := [d1, d2, d3] }
  | _ => none }
def DelimPartsWrongFalsely : Prop := delimPartsRow.holds Tryd.pinned (OpenSpec.ofChange delimPartsWrong)

/-- 'lamplighterlaw06.DelimCuts': WHATEVER THE INPUT: true; the input reads as it did. -/
def delimCutsSpec : ChangeSpec := { name := "delimCuts", fn := fun _ => fun
  | [d1, d2, d3] => { results := [.lit (.bool true)], args := [d1, d2, d3] }
  | _ => none }
def delimCutsRow : OpenClaim := { program := "ytkjhjeaeffooaaadoor", sum := "a9a8d736513d21f49c89e627fab22a5b178af6b615ef237b0aabe523288da884", func := "lamplighter/lamplighterlaw06.DelimCuts", spec := "delimCuts", inPlace := ["internal/bytealg.IndexByte", "internal/bytealg.CountString", "internal/bytealg.IndexByteString", "internal/bytealg.IndexString", "internal/abi.NoEscape", "internal/bytealg.MakeNoZero"], named := ["unicode/utf8.first", "unicode/utf8.acceptRanges", "internal/bytealg.MaxLen"], apart := false, laid := [("unicode/utf8.acceptRanges", laid_unicode_utf8_acceptRanges), ("unicode/utf8.first", laid_unicode_utf8_first)] }
def DelimCutsSaid : Prop := delimCutsRow.holds Tryd.pinned (OpenSpec.ofChange delimCutsSpec)

/-- ITS FALSE NEIGHBOUR: 'it returns false'. Refute it at one input. -/
def delimCutsWrong : ChangeSpec := { name := "delimCuts", fn := fun _ => fun
  | [d1, d2, d3] => { results := [.lit (.bool false)], args := [d1, d2, d3] }
  | _ => none }
def DelimCutsWrongFalsely : Prop := delimCutsRow.holds Tryd.pinned (OpenSpec.ofChange delimCutsWrong)

/-- 'lamplighterlaw06.DelimJoins': WHATEVER THE INPUT: true; the input reads as it did. -/
def delimJoinsSpec : ChangeSpec := { name := "delimJoins", fn := fun _ => fun
  | [d1, d2, d3] => { results := [.lit (.bool true)], args := [d1, d2, d3] }
  | _ => none }
def delimJoinsRow : OpenClaim := { program := "ytkjhjeaeffooaaadoor", sum := "a9a8d736513d21f49c89e627fab22a5b178af6b615ef237b0aabe523288da884", func := "lamplighter/lamplighterlaw06.DelimJoins", spec := "delimJoins", inPlace := ["internal/bytealg.IndexByte", "internal/bytealg.CountString", "internal/bytealg.IndexByteString", "internal/bytealg.IndexString", "internal/abi.NoEscape", "internal/bytealg.MakeNoZero"], named := ["unicode/utf8.first", "unicode/utf8.acceptRanges", "internal/bytealg.MaxLen"], apart := false, laid := [("unicode/utf8.acceptRanges", laid_unicode_utf8_acceptRanges), ("unicode/utf8.first", laid_unicode_utf8_first)] }
def DelimJoinsSaid : Prop := delimJoinsRow.holds Tryd.pinned (OpenSpec.ofChange delimJoinsSpec)

/-- ITS FALSE NEIGHBOUR: 'it returns false'. Refute it at one input. -/
def delimJoinsWrong : ChangeSpec := { name := "delimJoins", fn := fun _ => fun
  | [d1, d2, d3] => { results := [.lit (.bool false)], args := [d1, d2, d3] }
  | _ => none }
def DelimJoinsWrongFalsely : Prop := delimJoinsRow.holds Tryd.pinned (OpenSpec.ofChange delimJoinsWrong)

/- THE SECOND FORM. 'bulk': how many values and letters a reading holds, each counted each time it is reached (what is shared counts as often as it is met; a slice's spare places count too). A statement '..UptoSaid' is the law's where the arguments, and the package variables that the reading takes, are together of bulk at most 1048576: NARROWER than '..Said'. Prove '..Said' where nothing that the law and all that it calls make is longer than what came in: it says more and counts as full. Else prove '..UptoSaid'. A law counts once. -/
mutual
def uptoBulk {H : Type} : DataW H → Nat
  | .lit (.string bytes) => bytes.length + 1
  | .lit _ => 1
  | .nil => 1
  | .ptr d => uptoBulk d + 1
  | .slice elems spare => uptoBulkAll elems + uptoBulkAll spare + 1
  | .agg parts => uptoBulkAll parts + 1
  | .iface _ d => uptoBulk d + 1
  | .map entries => uptoBulkEntries entries + 1
  | .held _ => 1
def uptoBulkAll {H : Type} : List (DataW H) → Nat
  | [] => 0
  | d :: r => uptoBulk d + uptoBulkAll r
def uptoBulkEntries {H : Type} : List (Lit × DataW H) → Nat
  | [] => 0
  | x :: r => uptoBulkEntry x + uptoBulkEntries r
def uptoBulkEntry {H : Type} : Lit × DataW H → Nat
  | (.string bytes, d) => bytes.length + uptoBulk d + 1
  | (_, d) => uptoBulk d + 1
 end
def uptoSmall : (H : Type) → List (DataW H) → Bool := fun _ ds => decide (uptoBulkAll ds ≤ 1048576)
def OpenSpec.upto (s : _root_.Go.ChangeSpec) : _root_.Go.OpenSpec := { _root_.Go.OpenSpec.ofChange s with cond := some uptoSmall }

/-- 'lamplighterlaw06.DelimParts', WHERE WHAT IT READS IS OF BULK AT MOST 1048576: true; the input reads as it did. -/
def delimPartsUptoRow : OpenClaim := { program := "ytkjhjeaeffooaaadoor", sum := "a9a8d736513d21f49c89e627fab22a5b178af6b615ef237b0aabe523288da884", func := "lamplighter/lamplighterlaw06.DelimParts", spec := "delimParts", inPlace := ["internal/bytealg.IndexByte", "internal/bytealg.CountString", "internal/bytealg.IndexByteString", "internal/bytealg.IndexString"], named := ["unicode/utf8.first", "unicode/utf8.acceptRanges", "internal/bytealg.MaxLen"], apart := false, laid := [("unicode/utf8.acceptRanges", laid_unicode_utf8_acceptRanges), ("unicode/utf8.first", laid_unicode_utf8_first)], narrowed := true }
def DelimPartsUptoSaid : Prop := delimPartsUptoRow.holds Tryd.pinned (OpenSpec.upto delimPartsSpec)

/-- 'lamplighterlaw06.DelimCuts', WHERE WHAT IT READS IS OF BULK AT MOST 1048576: true; the input reads as it did. -/
def delimCutsUptoRow : OpenClaim := { program := "ytkjhjeaeffooaaadoor", sum := "a9a8d736513d21f49c89e627fab22a5b178af6b615ef237b0aabe523288da884", func := "lamplighter/lamplighterlaw06.DelimCuts", spec := "delimCuts", inPlace := ["internal/bytealg.IndexByte", "internal/bytealg.CountString", "internal/bytealg.IndexByteString", "internal/bytealg.IndexString", "internal/abi.NoEscape", "internal/bytealg.MakeNoZero"], named := ["unicode/utf8.first", "unicode/utf8.acceptRanges", "internal/bytealg.MaxLen"], apart := false, laid := [("unicode/utf8.acceptRanges", laid_unicode_utf8_acceptRanges), ("unicode/utf8.first", laid_unicode_utf8_first)], narrowed := true }
def DelimCutsUptoSaid : Prop := delimCutsUptoRow.holds Tryd.pinned (OpenSpec.upto delimCutsSpec)

/-- 'lamplighterlaw06.DelimJoins', WHERE WHAT IT READS IS OF BULK AT MOST 1048576: true; the input reads as it did. -/
def delimJoinsUptoRow : OpenClaim := { program := "ytkjhjeaeffooaaadoor", sum := "a9a8d736513d21f49c89e627fab22a5b178af6b615ef237b0aabe523288da884", func := "lamplighter/lamplighterlaw06.DelimJoins", spec := "delimJoins", inPlace := ["internal/bytealg.IndexByte", "internal/bytealg.CountString", "internal/bytealg.IndexByteString", "internal/bytealg.IndexString", "internal/abi.NoEscape", "internal/bytealg.MakeNoZero"], named := ["unicode/utf8.first", "unicode/utf8.acceptRanges", "internal/bytealg.MaxLen"], apart := false, laid := [("unicode/utf8.acceptRanges", laid_unicode_utf8_acceptRanges), ("unicode/utf8.first", laid_unicode_utf8_first)], narrowed := true }
def DelimJoinsUptoSaid : Prop := delimJoinsUptoRow.holds Tryd.pinned (OpenSpec.upto delimJoinsSpec)

end Rows
end Go.Proofs.YtkjhjeaeffooaaaDoor
