/-
  DERIVED. GIVEN WITH THE SEED: THE CARDS: each row of YtddhibmbpmcnpaaGreatDoorRows.lean that lists a variable, with what it lists TIED to the program's text (the seventh form; the later family's looks); each row that meets fmt, with fmt's text TOLD by the authors' own Lean function (tested against real Go, not proved from fmt's source: count such statements apart). THE CARD IS WHAT COUNTS. Prove the row's statement (the work); the ties are given (YtddhibmbpmcnpaaGreatDoorTie.lean); close each card by the builder's one call (the guide's Derived/Test/ToyasCard.lean, 'card_holds'). Laid BY PROGRAM, IN A SANDBOX (cutbox-door.mjs). By AI agents, Wed Nov 11 2026. No macro, syntax, notation, axiom, sorry.
-/
import Derived.Test.YtddhibmbpmcnpaaGreatDoorRows
import GoSem.ClaimSeven
namespace Go.Proofs.YtddhibmbpmcnpaaGreatDoor
namespace Rows

/-- THE TIED CARD OF 'spinneretlaw20.SearchIdle'. -/
def searchIdleCard : Claim7 := { stood := { row := searchIdleRow, standIns := [], harness := (true, "67a3b58ffc982d377810c62eb63e1ed3493ab0403e71fba1a4253551c83703a8"), looks := false }, kinds := [], alts := [], laidByText := true, laidKinds := [.data, .data, .data], laidTests := true, laidLooks := .later }
def SearchIdleCardSaid : Prop := Claim7.holds Tryz.pinned (.plain (OpenSpec.ofChange searchIdleSpec)) searchIdleCard

/-- THE TIED CARD OF 'spinneretlaw20.SearchSpare'. -/
def searchSpareCard : Claim7 := { stood := { row := searchSpareRow, standIns := [], harness := (true, "67a3b58ffc982d377810c62eb63e1ed3493ab0403e71fba1a4253551c83703a8"), looks := false }, kinds := [], alts := [], laidByText := true, laidKinds := [.data, .data, .data], laidTests := true, laidLooks := .later }
def SearchSpareCardSaid : Prop := Claim7.holds Tryz.pinned (.plain (OpenSpec.ofChange searchSpareSpec)) searchSpareCard

/-- THE SECOND FORM's CARD OF 'spinneretlaw20.SearchIdle'. -/
def searchIdleUptoCard : Claim7 := { stood := { row := searchIdleUptoRow, standIns := [], harness := (true, "67a3b58ffc982d377810c62eb63e1ed3493ab0403e71fba1a4253551c83703a8"), looks := false }, kinds := [], alts := [], laidByText := true, laidKinds := [.data, .data, .data], laidTests := true, laidLooks := .later }
def SearchIdleUptoCardSaid : Prop := Claim7.holds Tryz.pinned (.plain (OpenSpec.upto searchIdleSpec)) searchIdleUptoCard

/-- THE SECOND FORM's CARD OF 'spinneretlaw20.SearchSpare'. -/
def searchSpareUptoCard : Claim7 := { stood := { row := searchSpareUptoRow, standIns := [], harness := (true, "67a3b58ffc982d377810c62eb63e1ed3493ab0403e71fba1a4253551c83703a8"), looks := false }, kinds := [], alts := [], laidByText := true, laidKinds := [.data, .data, .data], laidTests := true, laidLooks := .later }
def SearchSpareUptoCardSaid : Prop := Claim7.holds Tryz.pinned (.plain (OpenSpec.upto searchSpareSpec)) searchSpareUptoCard
end Rows
end Go.Proofs.YtddhibmbpmcnpaaGreatDoor
