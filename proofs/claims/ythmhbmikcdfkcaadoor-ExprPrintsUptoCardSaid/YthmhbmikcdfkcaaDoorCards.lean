/-
  DERIVED. GIVEN WITH THE SEED: THE CARDS: each row of YthmhbmikcdfkcaaDoorRows.lean that lists a variable, with what it lists TIED to the program's text (the seventh form; the later family's looks); each row that meets fmt, with fmt's text TOLD by the authors' own Lean function (tested against real Go, not proved from fmt's source: count such statements apart). THE CARD IS WHAT COUNTS. Prove the row's statement (the work); the ties are given (YthmhbmikcdfkcaaDoorTie.lean); close each card by the builder's one call (the guide's Derived/Test/ToyasCard.lean, 'card_holds'). Laid BY PROGRAM, IN A SANDBOX (cutbox-door.mjs). By AI agents, Wed Nov 11 2026. No macro, syntax, notation, axiom, sorry.
-/
import Derived.Test.YthmhbmikcdfkcaaDoorRows
import GoSem.ClaimSeven
namespace Go.Proofs.YthmhbmikcdfkcaaDoor
namespace Rows

/-- THE TIED CARD OF 'spinneretlaw14.ExprPrints'. -/
def exprPrintsCard : Claim7 := { stood := { row := exprPrintsRow, standIns := [], harness := (true, "5f962d455d5f8aa989b21a356c8c8e00abcfc64a6f7d0a85de646503b72a0387"), looks := false }, kinds := [], alts := [], laidByText := true, laidKinds := [.data, .data, .data], laidTests := true, laidLooks := .later }
def ExprPrintsCardSaid : Prop := Claim7.holds Tryd.pinned (.plain (OpenSpec.ofChange exprPrintsSpec)) exprPrintsCard

/-- THE TIED CARD OF 'spinneretlaw14.ExprBounds'. -/
def exprBoundsCard : Claim7 := { stood := { row := exprBoundsRow, standIns := [], harness := (true, "5f962d455d5f8aa989b21a356c8c8e00abcfc64a6f7d0a85de646503b72a0387"), looks := false }, kinds := [], alts := [], laidByText := true, laidKinds := [.data, .data, .data], laidTests := true, laidLooks := .later }
def ExprBoundsCardSaid : Prop := Claim7.holds Tryd.pinned (.plain (OpenSpec.ofChange exprBoundsSpec)) exprBoundsCard

/-- THE SECOND FORM's CARD OF 'spinneretlaw14.ExprPrints'. -/
def exprPrintsUptoCard : Claim7 := { stood := { row := exprPrintsUptoRow, standIns := [], harness := (true, "5f962d455d5f8aa989b21a356c8c8e00abcfc64a6f7d0a85de646503b72a0387"), looks := false }, kinds := [], alts := [], laidByText := true, laidKinds := [.data, .data, .data], laidTests := true, laidLooks := .later }
def ExprPrintsUptoCardSaid : Prop := Claim7.holds Tryd.pinned (.plain (OpenSpec.upto exprPrintsSpec)) exprPrintsUptoCard

/-- THE SECOND FORM's CARD OF 'spinneretlaw14.ExprBounds'. -/
def exprBoundsUptoCard : Claim7 := { stood := { row := exprBoundsUptoRow, standIns := [], harness := (true, "5f962d455d5f8aa989b21a356c8c8e00abcfc64a6f7d0a85de646503b72a0387"), looks := false }, kinds := [], alts := [], laidByText := true, laidKinds := [.data, .data, .data], laidTests := true, laidLooks := .later }
def ExprBoundsUptoCardSaid : Prop := Claim7.holds Tryd.pinned (.plain (OpenSpec.upto exprBoundsSpec)) exprBoundsUptoCard
end Rows
end Go.Proofs.YthmhbmikcdfkcaaDoor
