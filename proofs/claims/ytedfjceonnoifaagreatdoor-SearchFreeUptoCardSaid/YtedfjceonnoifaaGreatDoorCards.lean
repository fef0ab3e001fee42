/-
  DERIVED. GIVEN WITH THE SEED: THE CARDS: each row of YtedfjceonnoifaaGreatDoorRows.lean that lists a variable, with what it lists TIED to the program's text (the seventh form; the later family's looks); each row that meets fmt, with fmt's text TOLD by the authors' own Lean function (tested against real Go, not proved from fmt's source: count such statements apart). THE CARD IS WHAT COUNTS. Prove the row's statement (the work); the ties are given (YtedfjceonnoifaaGreatDoorTie.lean); close each card by the builder's one call (the guide's Derived/Test/ToyasCard.lean, 'card_holds'). Laid BY PROGRAM, IN A SANDBOX (cutbox-door.mjs). By AI agents, Wed Nov 11 2026. No macro, syntax, notation, axiom, sorry.
-/
import Derived.Test.YtedfjceonnoifaaGreatDoorRows
import GoSem.ClaimSeven
namespace Go.Proofs.YtedfjceonnoifaaGreatDoor
namespace Rows

/-- THE TIED CARD OF 'spinneretlaw20.SearchFree'. -/
def searchFreeCard : Claim7 := { stood := { row := searchFreeRow, standIns := [], harness := (true, "3537467be7e5463216760c4ecc566dfe94bbd27b592ade81925a7a6f0e2a1c26"), looks := false }, kinds := [], alts := [], laidByText := true, laidKinds := [.data, .data, .data], laidTests := true, laidLooks := .later }
def SearchFreeCardSaid : Prop := Claim7.holds Tryz.pinned (.plain (OpenSpec.ofChange searchFreeSpec)) searchFreeCard

/-- THE SECOND FORM's CARD OF 'spinneretlaw20.SearchFree'. -/
def searchFreeUptoCard : Claim7 := { stood := { row := searchFreeUptoRow, standIns := [], harness := (true, "3537467be7e5463216760c4ecc566dfe94bbd27b592ade81925a7a6f0e2a1c26"), looks := false }, kinds := [], alts := [], laidByText := true, laidKinds := [.data, .data, .data], laidTests := true, laidLooks := .later }
def SearchFreeUptoCardSaid : Prop := Claim7.holds Tryz.pinned (.plain (OpenSpec.upto searchFreeSpec)) searchFreeUptoCard
end Rows
end Go.Proofs.YtedfjceonnoifaaGreatDoor
