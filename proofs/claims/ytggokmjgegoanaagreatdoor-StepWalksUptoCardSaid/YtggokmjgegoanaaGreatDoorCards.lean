/-
  DERIVED. GIVEN WITH THE SEED: THE CARDS: each row of YtggokmjgegoanaaGreatDoorRows.lean that lists a variable, with what it lists TIED to the program's text (the seventh form; the later family's looks); each row that meets fmt, with fmt's text TOLD by the authors' own Lean function (tested against real Go, not proved from fmt's source: count such statements apart). THE CARD IS WHAT COUNTS. Prove the row's statement (the work); the ties are given (YtggokmjgegoanaaGreatDoorTie.lean); close each card by the builder's one call (the guide's Derived/Test/ToyasCard.lean, 'card_holds'). Laid BY PROGRAM, IN A SANDBOX (cutbox-door.mjs). By AI agents, Wed Nov 11 2026. No macro, syntax, notation, axiom, sorry.
-/
import Derived.Test.YtggokmjgegoanaaGreatDoorRows
import GoSem.ClaimSeven
namespace Go.Proofs.YtggokmjgegoanaaGreatDoor
namespace Rows

/-- THE TIED CARD OF 'spinneretlaw16.StepWalks'. -/
def stepWalksCard : Claim7 := { stood := { row := stepWalksRow, standIns := [], harness := (true, "342bfec491a46d1cee4a2fcabfa1cfa52cd20683cebea4c3da84d566e7e61194"), looks := false }, kinds := [], alts := [], laidByText := true, laidKinds := [.data, .data, .data], laidTests := true, laidLooks := .later }
def StepWalksCardSaid : Prop := Claim7.holds Tryz.pinned (.plain (OpenSpec.ofChange stepWalksSpec)) stepWalksCard

/-- THE SECOND FORM's CARD OF 'spinneretlaw16.StepWalks'. -/
def stepWalksUptoCard : Claim7 := { stood := { row := stepWalksUptoRow, standIns := [], harness := (true, "342bfec491a46d1cee4a2fcabfa1cfa52cd20683cebea4c3da84d566e7e61194"), looks := false }, kinds := [], alts := [], laidByText := true, laidKinds := [.data, .data, .data], laidTests := true, laidLooks := .later }
def StepWalksUptoCardSaid : Prop := Claim7.holds Tryz.pinned (.plain (OpenSpec.upto stepWalksSpec)) stepWalksUptoCard
end Rows
end Go.Proofs.YtggokmjgegoanaaGreatDoor
