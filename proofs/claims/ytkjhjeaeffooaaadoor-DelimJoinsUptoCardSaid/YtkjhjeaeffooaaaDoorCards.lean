/-
  DERIVED. GIVEN WITH THE SEED: THE CARDS: each row of YtkjhjeaeffooaaaDoorRows.lean that lists a variable, with what it lists TIED to the program's text (the seventh form; the later family's looks); each row that meets fmt, with fmt's text TOLD by the authors' own Lean function (tested against real Go, not proved from fmt's source: count such statements apart). THE CARD IS WHAT COUNTS. Prove the row's statement (the work); the ties are given (YtkjhjeaeffooaaaDoorTie.lean); close each card by the builder's one call (the guide's Derived/Test/ToyasCard.lean, 'card_holds'). Laid BY PROGRAM, IN A SANDBOX (cutbox-door.mjs). By AI agents, Wed Nov 11 2026. No macro, syntax, notation, axiom, sorry.
-/
import Derived.Test.YtkjhjeaeffooaaaDoorRows
import GoSem.ClaimSeven
namespace Go.Proofs.YtkjhjeaeffooaaaDoor
namespace Rows

/-- THE TIED CARD OF 'lamplighterlaw06.DelimParts'. -/
def delimPartsCard : Claim7 := { stood := { row := delimPartsRow, standIns := [], harness := (true, "fba87f4d421e8772cc4b406fe583888953cdd042c8d6aa1f2c52f6669989cb22"), looks := false }, kinds := [], alts := [], laidByText := true, laidKinds := [.data, .pinned], laidTests := true, laidLooks := .later }
def DelimPartsCardSaid : Prop := Claim7.holds Tryd.pinned (.plain (OpenSpec.ofChange delimPartsSpec)) delimPartsCard

/-- THE TIED CARD OF 'lamplighterlaw06.DelimCuts'. -/
def delimCutsCard : Claim7 := { stood := { row := delimCutsRow, standIns := [], harness := (true, "fba87f4d421e8772cc4b406fe583888953cdd042c8d6aa1f2c52f6669989cb22"), looks := false }, kinds := [], alts := [], laidByText := true, laidKinds := [.data, .pinned], laidTests := true, laidLooks := .later }
def DelimCutsCardSaid : Prop := Claim7.holds Tryd.pinned (.plain (OpenSpec.ofChange delimCutsSpec)) delimCutsCard

/-- THE TIED CARD OF 'lamplighterlaw06.DelimJoins'. -/
def delimJoinsCard : Claim7 := { stood := { row := delimJoinsRow, standIns := [], harness := (true, "fba87f4d421e8772cc4b406fe583888953cdd042c8d6aa1f2c52f6669989cb22"), looks := false }, kinds := [], alts := [], laidByText := true, laidKinds := [.data, .pinned], laidTests := true, laidLooks := .later }
def DelimJoinsCardSaid : Prop := Claim7.holds Tryd.pinned (.plain (OpenSpec.ofChange delimJoinsSpec)) delimJoinsCard

/-- THE SECOND FORM's CARD OF 'lamplighterlaw06.DelimParts'. -/
def delimPartsUptoCard : Claim7 := { stood := { row := delimPartsUptoRow, standIns := [], harness := (true, "fba87f4d421e8772cc4b406fe583888953cdd042c8d6aa1f2c52f6669989cb22"), looks := false }, kinds := [], alts := [], laidByText := true, laidKinds := [.data, .pinned], laidTests := true, laidLooks := .later }
def DelimPartsUptoCardSaid : Prop := Claim7.holds Tryd.pinned (.plain (OpenSpec.upto delimPartsSpec)) delimPartsUptoCard

/-- THE SECOND FORM's CARD OF 'lamplighterlaw06.DelimCuts'. -/
def delimCutsUptoCard : Claim7 := { stood := { row := delimCutsUptoRow, standIns := [], harness := (true, "fba87f4d421e8772cc4b406fe583888953cdd042c8d6aa1f2c52f6669989cb22"), looks := false }, kinds := [], alts := [], laidByText := true, laidKinds := [.data, .pinned], laidTests := true, laidLooks := .later }
def DelimCutsUptoCardSaid : Prop := Claim7.holds Tryd.pinned (.plain (OpenSpec.upto delimCutsSpec)) delimCutsUptoCard

/-- THE SECOND FORM's CARD OF 'lamplighterlaw06.DelimJoins'. -/
def delimJoinsUptoCard : Claim7 := { stood := { row := delimJoinsUptoRow, standIns := [], harness := (true, "fba87f4d421e8772cc4b406fe583888953cdd042c8d6aa1f2c52f6669989cb22"), looks := false }, kinds := [], alts := [], laidByText := true, laidKinds := [.data, .pinned], laidTests := true, laidLooks := .later }
def DelimJoinsUptoCardSaid : Prop := Claim7.holds Tryd.pinned (.plain (OpenSpec.upto delimJoinsSpec)) delimJoinsUptoCard
end Rows
end Go.Proofs.YtkjhjeaeffooaaaDoor
