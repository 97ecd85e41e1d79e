/-
  No cell of these rows narrows 'for every input' (looked for: loops, veiled, ifaces, maps, wideKeys, modest, calm, conditions, laid).
  DERIVED. THE GIVEN ROWS OF THIS SEAT. 7 by the template 'for every input the law returns true; each argument reads behind the call as it read before'; 0 by the template 'total and deterministic' (their statements: YtcldnibedimepaaTotals.lean).
  GIVEN WITH THE SEED: the statements are not yours to turn. If you find one false, say at which input.
  Laid BY PROGRAM, IN A SANDBOX (cutbox-rows.mjs): the forced cells as the released guide's own fill.sh prints them over the translation b6d4b5748b7c1d29… (all of the seat's roots in one cut). By AI agents, Wed Nov 11 2026. No macro, syntax, notation, axiom, sorry.
-/
import Derived.Test.YtcldnibedimepaaChecked
import GoSem.Claim
import GoSem.ClaimJoined
import GoSem.ClaimMapViews
import Derived.JoinedTies
import Derived.KernelRfl
namespace Go.Proofs.Ytcldnibedimepaa
/- THE CELL 'sum', in the pinned program and in every row, IS THE sha256 OF THE DUMP (.gsa) THAT YtcldnibedimepaaProg.lean LOADS. Nothing in Lean hashes anything: it is a label: what it is worth is what the hold of that sum in a sandbox is worth. -/
noncomputable def Try.pinned : Pinned := { name := "ytcldnibedimepaa", sum := "b6d4b5748b7c1d29ec3643b48c089c48c621e98e99f16eb020aa16454a57651a", checked := Try.checked }
namespace Rows
def none {H : Type} : Left H := { results := [], args := [] }

/-- 'lamplighterlaw08.SegmentCounts': WHATEVER THE INPUT: true; the input reads as it did. -/
def segmentCountsSpec : ChangeSpec := { name := "segmentCounts", fn := fun _ => fun
  | [d1, d2] => { results := [.lit (.bool true)], args := [d1, d2] }
  | _ => none }
def segmentCountsRow : OpenClaim := { program := "ytcldnibedimepaa", sum := "b6d4b5748b7c1d29ec3643b48c089c48c621e98e99f16eb020aa16454a57651a", func := "lamplighter/lamplighterlaw08.SegmentCounts", spec := "segmentCounts", inPlace := ["internal/bytealg.IndexByteString", "internal/bytealg.IndexString"], unfollowed := true, recurses := true, named := ["internal/bytealg.MaxLen"], apart := false }
def SegmentCountsSaid : Prop := segmentCountsRow.holds Try.pinned (OpenSpec.ofChange segmentCountsSpec)

/-- ITS FALSE NEIGHBOUR: 'it returns false'. Refute it at one input. -/
def segmentCountsWrong : ChangeSpec := { name := "segmentCounts", fn := fun _ => fun
  | [d1, d2] => { results := [.lit (.bool false)], args := [d1, d2] }
  | _ => none }
def SegmentCountsWrongFalsely : Prop := segmentCountsRow.holds Try.pinned (OpenSpec.ofChange segmentCountsWrong)

/-- 'lamplighterlaw08.SegmentParts': WHATEVER THE INPUT: true; the input reads as it did. -/
def segmentPartsSpec : ChangeSpec := { name := "segmentParts", fn := fun _ => fun
  | [d1, d2] => { results := [.lit (.bool true)], args := [d1, d2] }
  | _ => none }
def segmentPartsRow : OpenClaim := { program := "ytcldnibedimepaa", sum := "b6d4b5748b7c1d29ec3643b48c089c48c621e98e99f16eb020aa16454a57651a", func := "lamplighter/lamplighterlaw08.SegmentParts", spec := "segmentParts", inPlace := ["internal/bytealg.IndexByteString", "internal/bytealg.IndexString"], unfollowed := true, recurses := true, named := ["internal/bytealg.MaxLen"], apart := false }
def SegmentPartsSaid : Prop := segmentPartsRow.holds Try.pinned (OpenSpec.ofChange segmentPartsSpec)

/-- ITS FALSE NEIGHBOUR: 'it returns false'. Refute it at one input. -/
def segmentPartsWrong : ChangeSpec := { name := "segmentParts", fn := fun _ => fun
  | [d1, d2] => { results := [.lit (.bool false)], args := [d1, d2] }
  | _ => none }
def SegmentPartsWrongFalsely : Prop := segmentPartsRow.holds Try.pinned (OpenSpec.ofChange segmentPartsWrong)

/-- 'lamplighterlaw08.SegmentNested': WHATEVER THE INPUT: true; the input reads as it did. -/
def segmentNestedSpec : ChangeSpec := { name := "segmentNested", fn := fun _ => fun
  | [d] => { results := [.lit (.bool true)], args := [d] }
  | _ => none }
def segmentNestedRow : OpenClaim := { program := "ytcldnibedimepaa", sum := "b6d4b5748b7c1d29ec3643b48c089c48c621e98e99f16eb020aa16454a57651a", func := "lamplighter/lamplighterlaw08.SegmentNested", spec := "segmentNested", inPlace := ["internal/bytealg.IndexByteString", "internal/bytealg.IndexString"], unfollowed := true, recurses := true, named := ["internal/bytealg.MaxLen"], apart := false }
def SegmentNestedSaid : Prop := segmentNestedRow.holds Try.pinned (OpenSpec.ofChange segmentNestedSpec)

/-- ITS FALSE NEIGHBOUR: 'it returns false'. Refute it at one input. -/
def segmentNestedWrong : ChangeSpec := { name := "segmentNested", fn := fun _ => fun
  | [d] => { results := [.lit (.bool false)], args := [d] }
  | _ => none }
def SegmentNestedWrongFalsely : Prop := segmentNestedRow.holds Try.pinned (OpenSpec.ofChange segmentNestedWrong)

/-- 'lamplighterlaw08.SegmentSplits': WHATEVER THE INPUT: true; the input reads as it did. -/
def segmentSplitsSpec : ChangeSpec := { name := "segmentSplits", fn := fun _ => fun
  | [d1, d2] => { results := [.lit (.bool true)], args := [d1, d2] }
  | _ => none }
def segmentSplitsRow : OpenClaim := { program := "ytcldnibedimepaa", sum := "b6d4b5748b7c1d29ec3643b48c089c48c621e98e99f16eb020aa16454a57651a", func := "lamplighter/lamplighterlaw08.SegmentSplits", spec := "segmentSplits", inPlace := ["internal/bytealg.IndexByteString", "internal/bytealg.IndexString"], unfollowed := true, recurses := true, named := ["internal/bytealg.MaxLen"], apart := false }
def SegmentSplitsSaid : Prop := segmentSplitsRow.holds Try.pinned (OpenSpec.ofChange segmentSplitsSpec)

/-- ITS FALSE NEIGHBOUR: 'it returns false'. Refute it at one input. -/
def segmentSplitsWrong : ChangeSpec := { name := "segmentSplits", fn := fun _ => fun
  | [d1, d2] => { results := [.lit (.bool false)], args := [d1, d2] }
  | _ => none }
def SegmentSplitsWrongFalsely : Prop := segmentSplitsRow.holds Try.pinned (OpenSpec.ofChange segmentSplitsWrong)

/-- 'lamplighterlaw08.SegmentBack': WHATEVER THE INPUT: true; the input reads as it did. -/
def segmentBackSpec : ChangeSpec := { name := "segmentBack", fn := fun _ => fun
  | [d1, d2] => { results := [.lit (.bool true)], args := [d1, d2] }
  | _ => none }
def segmentBackRow : OpenClaim := { program := "ytcldnibedimepaa", sum := "b6d4b5748b7c1d29ec3643b48c089c48c621e98e99f16eb020aa16454a57651a", func := "lamplighter/lamplighterlaw08.SegmentBack", spec := "segmentBack", inPlace := ["internal/bytealg.IndexByteString", "internal/bytealg.IndexString"], unfollowed := true, recurses := true, named := ["internal/bytealg.MaxLen"], apart := false }
def SegmentBackSaid : Prop := segmentBackRow.holds Try.pinned (OpenSpec.ofChange segmentBackSpec)

/-- ITS FALSE NEIGHBOUR: 'it returns false'. Refute it at one input. -/
def segmentBackWrong : ChangeSpec := { name := "segmentBack", fn := fun _ => fun
  | [d1, d2] => { results := [.lit (.bool false)], args := [d1, d2] }
  | _ => none }
def SegmentBackWrongFalsely : Prop := segmentBackRow.holds Try.pinned (OpenSpec.ofChange segmentBackWrong)

/-- 'lamplighterlaw08.SegmentFields': WHATEVER THE INPUT: true; the input reads as it did. -/
def segmentFieldsSpec : ChangeSpec := { name := "segmentFields", fn := fun _ => fun
  | [d1, d2, d3] => { results := [.lit (.bool true)], args := [d1, d2, d3] }
  | _ => none }
def segmentFieldsRow : OpenClaim := { program := "ytcldnibedimepaa", sum := "b6d4b5748b7c1d29ec3643b48c089c48c621e98e99f16eb020aa16454a57651a", func := "lamplighter/lamplighterlaw08.SegmentFields", spec := "segmentFields", inPlace := ["internal/bytealg.IndexByteString", "internal/bytealg.IndexString", "internal/abi.NoEscape", "internal/bytealg.MakeNoZero"], unfollowed := true, recurses := true, named := ["internal/bytealg.MaxLen"], apart := false }
def SegmentFieldsSaid : Prop := segmentFieldsRow.holds Try.pinned (OpenSpec.ofChange segmentFieldsSpec)

/-- ITS FALSE NEIGHBOUR: 'it returns false'. Refute it at one input. -/
def segmentFieldsWrong : ChangeSpec := { name := "segmentFields", fn := fun _ => fun
  | [d1, d2, d3] => { results := [.lit (.bool false)], args := [d1, d2, d3] }
  | _ => none }
def SegmentFieldsWrongFalsely : Prop := segmentFieldsRow.holds Try.pinned (OpenSpec.ofChange segmentFieldsWrong)

/-- 'lamplighterlaw08.SegmentMakes': WHATEVER THE INPUT: true; the input reads as it did. -/
def segmentMakesSpec : ChangeSpec := { name := "segmentMakes", fn := fun _ => fun
  | [d1, d2] => { results := [.lit (.bool true)], args := [d1, d2] }
  | _ => none }
def segmentMakesRow : OpenClaim := { program := "ytcldnibedimepaa", sum := "b6d4b5748b7c1d29ec3643b48c089c48c621e98e99f16eb020aa16454a57651a", func := "lamplighter/lamplighterlaw08.SegmentMakes", spec := "segmentMakes", inPlace := ["internal/bytealg.IndexByteString", "internal/bytealg.IndexString", "internal/abi.NoEscape", "internal/bytealg.MakeNoZero"], unfollowed := true, recurses := true, named := ["internal/bytealg.MaxLen"], apart := false }
def SegmentMakesSaid : Prop := segmentMakesRow.holds Try.pinned (OpenSpec.ofChange segmentMakesSpec)

/-- ITS FALSE NEIGHBOUR: 'it returns false'. Refute it at one input. -/
def segmentMakesWrong : ChangeSpec := { name := "segmentMakes", fn := fun _ => fun
  | [d1, d2] => { results := [.lit (.bool false)], args := [d1, d2] }
  | _ => none }
def SegmentMakesWrongFalsely : Prop := segmentMakesRow.holds Try.pinned (OpenSpec.ofChange segmentMakesWrong)

/- THE SECOND FORM. 'bulk': how many values and letters a reading holds, each counted each time it is reached (what is shared counts as often as it is met; a slice's spare places count too). A statement '..UptoSaid' is the law's where the arguments, and the package variables that the reading takes, are together of bulk at most 1048576: NARROWER than '..Said'. Prove '..Said' where nothing that the law and all that it calls make is longer than what came in: it says more and counts as full. Else prove '..UptoSaid'. A law counts once. -/
mutual
def uptoBulk {H : Type} : DataW H → Nat
  | .lit (.string bytes) => bytes.length + 1
  | .lit _ => 1
  | .nil => 1
  | .ptr d => uptoBulk d + 1
  | .slice elems spare => uptoBulkAll elems + uptoBulkAll spare + 1
  | .agg parts => uptoBulkAll parts + 1
  | .iface _ d => uptoBulk d + 1
  | .map entries => uptoBulkEntries entries + 1
  | .held _ => 1
def uptoBulkAll {H : Type} : List (DataW H) → Nat
  | [] => 0
  | d :: r => uptoBulk d + uptoBulkAll r
def uptoBulkEntries {H : Type} : List (Lit × DataW H) → Nat
  | [] => 0
  | x :: r => uptoBulkEntry x + uptoBulkEntries r
def uptoBulkEntry {H : Type} : Lit × DataW H → Nat
  | (.string bytes, d) => bytes.length + uptoBulk d + 1
  | (_, d) => uptoBulk d + 1
 end
def uptoSmall : (H : Type) → List (DataW H) → Bool := fun _ ds => decide (uptoBulkAll ds ≤ 1048576)
def OpenSpec.upto (s : _root_.Go.ChangeSpec) : _root_.Go.OpenSpec := { _root_.Go.OpenSpec.ofChange s with cond := some uptoSmall }

/-- 'lamplighterlaw08.SegmentCounts', WHERE WHAT IT READS IS OF BULK AT MOST 1048576: true; the input reads as it did. -/
def segmentCountsUptoRow : OpenClaim := { program := "ytcldnibedimepaa", sum := "b6d4b5748b7c1d29ec3643b48c089c48c621e98e99f16eb020aa16454a57651a", func := "lamplighter/lamplighterlaw08.SegmentCounts", spec := "segmentCounts", inPlace := ["internal/bytealg.IndexByteString", "internal/bytealg.IndexString"], unfollowed := true, recurses := true, named := ["internal/bytealg.MaxLen"], apart := false, narrowed := true }
def SegmentCountsUptoSaid : Prop := segmentCountsUptoRow.holds Try.pinned (OpenSpec.upto segmentCountsSpec)

/-- 'lamplighterlaw08.SegmentParts', WHERE WHAT IT READS IS OF BULK AT MOST 1048576: true; the input reads as it did. -/
def segmentPartsUptoRow : OpenClaim := { program := "ytcldnibedimepaa", sum := "b6d4b5748b7c1d29ec3643b48c089c48c621e98e99f16eb020aa16454a57651a", func := "lamplighter/lamplighterlaw08.SegmentParts", spec := "segmentParts", inPlace := ["internal/bytealg.IndexByteString", "internal/bytealg.IndexString"], unfollowed := true, recurses := true, named := ["internal/bytealg.MaxLen"], apart := false, narrowed := true }
def SegmentPartsUptoSaid : Prop := segmentPartsUptoRow.holds Try.pinned (OpenSpec.upto segmentPartsSpec)

/-- 'lamplighterlaw08.SegmentNested', WHERE WHAT IT READS IS OF BULK AT MOST 1048576: true; the input reads as it did. -/
def segmentNestedUptoRow : OpenClaim := { program := "ytcldnibedimepaa", sum := "b6d4b5748b7c1d29ec3643b48c089c48c621e98e99f16eb020aa16454a57651a", func := "lamplighter/lamplighterlaw08.SegmentNested", spec := "segmentNested", inPlace := ["internal/bytealg.IndexByteString", "internal/bytealg.IndexString"], unfollowed := true, recurses := true, named := ["internal/bytealg.MaxLen"], apart := false, narrowed := true }
def SegmentNestedUptoSaid : Prop := segmentNestedUptoRow.holds Try.pinned (OpenSpec.upto segmentNestedSpec)

/-- 'lamplighterlaw08.SegmentSplits', WHERE WHAT IT READS IS OF BULK AT MOST 1048576: true; the input reads as it did. -/
def segmentSplitsUptoRow : OpenClaim := { program := "ytcldnibedimepaa", sum := "b6d4b5748b7c1d29ec3643b48c089c48c621e98e99f16eb020aa16454a57651a", func := "lamplighter/lamplighterlaw08.SegmentSplits", spec := "segmentSplits", inPlace := ["internal/bytealg.IndexByteString", "internal/bytealg.IndexString"], unfollowed := true, recurses := true, named := ["internal/bytealg.MaxLen"], apart := false, narrowed := true }
def SegmentSplitsUptoSaid : Prop := segmentSplitsUptoRow.holds Try.pinned (OpenSpec.upto segmentSplitsSpec)

/-- 'lamplighterlaw08.SegmentBack', WHERE WHAT IT READS IS OF BULK AT MOST 1048576: true; the input reads as it did. -/
def segmentBackUptoRow : OpenClaim := { program := "ytcldnibedimepaa", sum := "b6d4b5748b7c1d29ec3643b48c089c48c621e98e99f16eb020aa16454a57651a", func := "lamplighter/lamplighterlaw08.SegmentBack", spec := "segmentBack", inPlace := ["internal/bytealg.IndexByteString", "internal/bytealg.IndexString"], unfollowed := true, recurses := true, named := ["internal/bytealg.MaxLen"], apart := false, narrowed := true }
def SegmentBackUptoSaid : Prop := segmentBackUptoRow.holds Try.pinned (OpenSpec.upto segmentBackSpec)

/-- 'lamplighterlaw08.SegmentFields', WHERE WHAT IT READS IS OF BULK AT MOST 1048576: true; the input reads as it did. -/
def segmentFieldsUptoRow : OpenClaim := { program := "ytcldnibedimepaa", sum := "b6d4b5748b7c1d29ec3643b48c089c48c621e98e99f16eb020aa16454a57651a", func := "lamplighter/lamplighterlaw08.SegmentFields", spec := "segmentFields", inPlace := ["internal/bytealg.IndexByteString", "internal/bytealg.IndexString", "internal/abi.NoEscape", "internal/bytealg.MakeNoZero"], unfollowed := true, recurses := true, named := ["internal/bytealg.MaxLen"], apart := false, narrowed := true }
def SegmentFieldsUptoSaid : Prop := segmentFieldsUptoRow.holds Try.pinned (OpenSpec.upto segmentFieldsSpec)

/-- 'lamplighterlaw08.SegmentMakes', WHERE WHAT IT READS IS OF BULK AT MOST 1048576: true; the input reads as it did. -/
def segmentMakesUptoRow : OpenClaim := { program := "ytcldnibedimepaa", sum := "b6d4b5748b7c1d29ec3643b48c089c48c621e98e99f16eb020aa16454a57651a", func := "lamplighter/lamplighterlaw08.SegmentMakes", spec := "segmentMakes", inPlace := ["internal/bytealg.IndexByteString", "internal/bytealg.IndexString", "internal/abi.NoEscape", "internal/bytealg.MakeNoZero"], unfollowed := true, recurses := true, named := ["internal/bytealg.MaxLen"], apart := false, narrowed := true }
def SegmentMakesUptoSaid : Prop := segmentMakesUptoRow.holds Try.pinned (OpenSpec.upto segmentMakesSpec)

end Rows
end Go.Proofs.Ytcldnibedimepaa
