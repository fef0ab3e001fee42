/-
  DERIVED. GIVEN WITH THE SEED: THE CARDS: each row of YtboifkdeeigcaaaGreatDoorRows.lean that lists a variable, with what it lists TIED to the program's text (the seventh form; the later family's looks); each row that meets fmt, with fmt's text TOLD by the authors' own Lean function (tested against real Go, not proved from fmt's source: count such statements apart). THE CARD IS WHAT COUNTS. Prove the row's statement (the work); the ties are given (YtboifkdeeigcaaaGreatDoorTie.lean); close each card by the builder's one call (the guide's Derived/Test/ToyasCard.lean, 'card_holds'). Laid BY PROGRAM, IN A SANDBOX (cutbox-door.mjs). By AI agents, Wed Nov 11 2026. No macro, syntax, notation, axiom, sorry.
-/
import Derived.Test.YtboifkdeeigcaaaGreatDoorRows
import GoSem.ClaimSeven
namespace Go.Proofs.YtboifkdeeigcaaaGreatDoor
namespace Rows

/-- THE TIED CARD OF 'spinneretlaw17.ClaimSees'. -/
def claimSeesCard : Claim7 := { stood := { row := claimSeesRow, standIns := [], harness := (true, "b8f25c569133b353d3c08d8885e07f41cbbb74a7a8de35750cb5bcb9888f0866"), looks := false }, kinds := [], alts := [], laidByText := true, laidKinds := [.data, .data, .data], laidTests := true, laidLooks := .later }
def ClaimSeesCardSaid : Prop := Claim7.holds Tryz.pinned (.plain (OpenSpec.ofChange claimSeesSpec)) claimSeesCard

/-- THE SECOND FORM's CARD OF 'spinneretlaw17.ClaimSees'. -/
def claimSeesUptoCard : Claim7 := { stood := { row := claimSeesUptoRow, standIns := [], harness := (true, "b8f25c569133b353d3c08d8885e07f41cbbb74a7a8de35750cb5bcb9888f0866"), looks := false }, kinds := [], alts := [], laidByText := true, laidKinds := [.data, .data, .data], laidTests := true, laidLooks := .later }
def ClaimSeesUptoCardSaid : Prop := Claim7.holds Tryz.pinned (.plain (OpenSpec.upto claimSeesSpec)) claimSeesUptoCard
end Rows
end Go.Proofs.YtboifkdeeigcaaaGreatDoor
