/-
  DERIVED. GIVEN WITH THE SEED: THE CARDS: each row of YtdjjlkekbphbaaaDoorRows.lean that lists a variable, with what it lists TIED to the program's text (the seventh form; the later family's looks); each row that meets fmt, with fmt's text TOLD by the authors' own Lean function (tested against real Go, not proved from fmt's source: count such statements apart). THE CARD IS WHAT COUNTS. Prove the row's statement (the work); the ties are given (YtdjjlkekbphbaaaDoorTie.lean); close each card by the builder's one call (the guide's Derived/Test/ToyasCard.lean, 'card_holds'). Laid BY PROGRAM, IN A SANDBOX (cutbox-door.mjs). By AI agents, Wed Nov 11 2026. No macro, syntax, notation, axiom, sorry.
-/
import Derived.Test.YtdjjlkekbphbaaaDoorRows
import GoSem.ClaimSeven
namespace Go.Proofs.YtdjjlkekbphbaaaDoor
namespace Rows

/-- THE TIED CARD OF 'spinneretlaw12.StateBack'. -/
def stateBackCard : Claim7 := { stood := { row := stateBackRow, standIns := [], harness := (true, "9488cee4bfdab73f4bfcd50cdaa7cc3ae1f59a459cbf2ea3b977f3cf356afe37"), looks := true }, kinds := [], alts := [], laidByText := true, laidKinds := [.data, .data, .data, .sentinel, .sentinel], laidTests := true, laidLooks := .later }
def StateBackCardSaid : Prop := Claim7.holds Tryd.pinned (.plain (OpenSpec.ofChange stateBackSpec)) stateBackCard

/-- THE TIED CARD OF 'spinneretlaw14.ExprBounds'. -/
def exprBoundsCard : Claim7 := { stood := { row := exprBoundsRow, standIns := [], harness := (true, "9488cee4bfdab73f4bfcd50cdaa7cc3ae1f59a459cbf2ea3b977f3cf356afe37"), looks := true }, kinds := [], alts := [], laidByText := true, laidKinds := [.data, .data, .data], laidTests := true, laidLooks := .later }
def ExprBoundsCardSaid : Prop := Claim7.holds Tryd.pinned (.plain (OpenSpec.ofChange exprBoundsSpec)) exprBoundsCard

/-- THE TIED CARD OF 'spinneretlaw14.ExprPrints'. -/
def exprPrintsCard : Claim7 := { stood := { row := exprPrintsRow, standIns := [], harness := (true, "9488cee4bfdab73f4bfcd50cdaa7cc3ae1f59a459cbf2ea3b977f3cf356afe37"), looks := true }, kinds := [], alts := [], laidByText := true, laidKinds := [.data, .data, .data], laidTests := true, laidLooks := .later }
def ExprPrintsCardSaid : Prop := Claim7.holds Tryd.pinned (.plain (OpenSpec.ofChange exprPrintsSpec)) exprPrintsCard

/-- THE SECOND FORM's CARD OF 'spinneretlaw12.StateBack'. -/
def stateBackUptoCard : Claim7 := { stood := { row := stateBackUptoRow, standIns := [], harness := (true, "9488cee4bfdab73f4bfcd50cdaa7cc3ae1f59a459cbf2ea3b977f3cf356afe37"), looks := true }, kinds := [], alts := [], laidByText := true, laidKinds := [.data, .data, .data, .sentinel, .sentinel], laidTests := true, laidLooks := .later }
def StateBackUptoCardSaid : Prop := Claim7.holds Tryd.pinned (.plain (OpenSpec.upto stateBackSpec)) stateBackUptoCard

/-- THE SECOND FORM's CARD OF 'spinneretlaw14.ExprBounds'. -/
def exprBoundsUptoCard : Claim7 := { stood := { row := exprBoundsUptoRow, standIns := [], harness := (true, "9488cee4bfdab73f4bfcd50cdaa7cc3ae1f59a459cbf2ea3b977f3cf356afe37"), looks := true }, kinds := [], alts := [], laidByText := true, laidKinds := [.data, .data, .data], laidTests := true, laidLooks := .later }
def ExprBoundsUptoCardSaid : Prop := Claim7.holds Tryd.pinned (.plain (OpenSpec.upto exprBoundsSpec)) exprBoundsUptoCard

/-- THE SECOND FORM's CARD OF 'spinneretlaw14.ExprPrints'. -/
def exprPrintsUptoCard : Claim7 := { stood := { row := exprPrintsUptoRow, standIns := [], harness := (true, "9488cee4bfdab73f4bfcd50cdaa7cc3ae1f59a459cbf2ea3b977f3cf356afe37"), looks := true }, kinds := [], alts := [], laidByText := true, laidKinds := [.data, .data, .data], laidTests := true, laidLooks := .later }
def ExprPrintsUptoCardSaid : Prop := Claim7.holds Tryd.pinned (.plain (OpenSpec.upto exprPrintsSpec)) exprPrintsUptoCard
end Rows
end Go.Proofs.YtdjjlkekbphbaaaDoor
