/-
  DERIVED. GIVEN WITH THE SEED: THE CARDS: each row of YtnhamlpcpngafaaGreatDoorRows.lean that lists a variable, with what it lists TIED to the program's text (the seventh form; the later family's looks); each row that meets fmt, with fmt's text TOLD by the authors' own Lean function (tested against real Go, not proved from fmt's source: count such statements apart). THE CARD IS WHAT COUNTS. Prove the row's statement (the work); the ties are given (YtnhamlpcpngafaaGreatDoorTie.lean); close each card by the builder's one call (the guide's Derived/Test/ToyasCard.lean, 'card_holds'). Laid BY PROGRAM, IN A SANDBOX (cutbox-door.mjs). By AI agents, Wed Nov 11 2026. No macro, syntax, notation, axiom, sorry.
-/
import Derived.Test.YtnhamlpcpngafaaGreatDoorRows
import GoSem.ClaimSeven
namespace Go.Proofs.YtnhamlpcpngafaaGreatDoor
namespace Rows

/-- THE TIED CARD OF 'spinneretlaw16.StepWhole'. -/
def stepWholeCard : Claim7 := { stood := { row := stepWholeRow, standIns := [], harness := (true, "e45953b18713943beffe62ef625154c29565ba920218f338ea1f01f027a39786"), looks := false }, kinds := [], alts := [], laidByText := true, laidKinds := [.data, .data, .data], laidTests := true, laidLooks := .later }
def StepWholeCardSaid : Prop := Claim7.holds Tryz.pinned (.plain (OpenSpec.ofChange stepWholeSpec)) stepWholeCard

/-- THE SECOND FORM's CARD OF 'spinneretlaw16.StepWhole'. -/
def stepWholeUptoCard : Claim7 := { stood := { row := stepWholeUptoRow, standIns := [], harness := (true, "e45953b18713943beffe62ef625154c29565ba920218f338ea1f01f027a39786"), looks := false }, kinds := [], alts := [], laidByText := true, laidKinds := [.data, .data, .data], laidTests := true, laidLooks := .later }
def StepWholeUptoCardSaid : Prop := Claim7.holds Tryz.pinned (.plain (OpenSpec.upto stepWholeSpec)) stepWholeUptoCard
end Rows
end Go.Proofs.YtnhamlpcpngafaaGreatDoor
