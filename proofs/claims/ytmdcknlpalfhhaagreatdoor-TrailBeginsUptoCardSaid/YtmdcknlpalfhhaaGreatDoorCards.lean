/-
  DERIVED. GIVEN WITH THE SEED: THE CARDS: each row of YtmdcknlpalfhhaaGreatDoorRows.lean that lists a variable, with what it lists TIED to the program's text (the seventh form; the later family's looks); each row that meets fmt, with fmt's text TOLD by the authors' own Lean function (tested against real Go, not proved from fmt's source: count such statements apart). THE CARD IS WHAT COUNTS. Prove the row's statement (the work); the ties are given (YtmdcknlpalfhhaaGreatDoorTie.lean); close each card by the builder's one call (the guide's Derived/Test/ToyasCard.lean, 'card_holds'). Laid BY PROGRAM, IN A SANDBOX (cutbox-door.mjs). By AI agents, Wed Nov 11 2026. No macro, syntax, notation, axiom, sorry.
-/
import Derived.Test.YtmdcknlpalfhhaaGreatDoorRows
import GoSem.ClaimSeven
namespace Go.Proofs.YtmdcknlpalfhhaaGreatDoor
namespace Rows

/-- THE TIED CARD OF 'spinneretlaw24.SimGoesOn'. -/
def simGoesOnCard : Claim7 := { stood := { row := simGoesOnRow, standIns := [], harness := (true, "f73c18341cc031216601e1aceb4c98479287cde74ee07bbedebfb7538b2c4883"), looks := true }, kinds := [], alts := [], laidByText := true, laidKinds := [.data, .data, .data], laidTests := true, laidLooks := .later }
def SimGoesOnCardSaid : Prop := Claim7.holds Tryz.pinned (.plain (OpenSpec.ofChange simGoesOnSpec)) simGoesOnCard

/-- THE TIED CARD OF 'spinneretlaw23.TrailBegins'. -/
def trailBeginsCard : Claim7 := { stood := { row := trailBeginsRow, standIns := [], harness := (true, "f73c18341cc031216601e1aceb4c98479287cde74ee07bbedebfb7538b2c4883"), looks := true }, kinds := [], alts := [], laidByText := true, laidKinds := [.data, .data, .data, .data, .sentinel, .sentinel, .pinned], laidTests := true, laidLooks := .later }
def TrailBeginsCardSaid : Prop := Claim7.holds Tryz.pinned (.plain (OpenSpec.ofChange trailBeginsSpec)) trailBeginsCard

/-- THE SECOND FORM's CARD OF 'spinneretlaw24.SimGoesOn'. -/
def simGoesOnUptoCard : Claim7 := { stood := { row := simGoesOnUptoRow, standIns := [], harness := (true, "f73c18341cc031216601e1aceb4c98479287cde74ee07bbedebfb7538b2c4883"), looks := true }, kinds := [], alts := [], laidByText := true, laidKinds := [.data, .data, .data], laidTests := true, laidLooks := .later }
def SimGoesOnUptoCardSaid : Prop := Claim7.holds Tryz.pinned (.plain (OpenSpec.upto simGoesOnSpec)) simGoesOnUptoCard

/-- THE SECOND FORM's CARD OF 'spinneretlaw23.TrailBegins'. -/
def trailBeginsUptoCard : Claim7 := { stood := { row := trailBeginsUptoRow, standIns := [], harness := (true, "f73c18341cc031216601e1aceb4c98479287cde74ee07bbedebfb7538b2c4883"), looks := true }, kinds := [], alts := [], laidByText := true, laidKinds := [.data, .data, .data, .data, .sentinel, .sentinel, .pinned], laidTests := true, laidLooks := .later }
def TrailBeginsUptoCardSaid : Prop := Claim7.holds Tryz.pinned (.plain (OpenSpec.upto trailBeginsSpec)) trailBeginsUptoCard
end Rows
end Go.Proofs.YtmdcknlpalfhhaaGreatDoor
