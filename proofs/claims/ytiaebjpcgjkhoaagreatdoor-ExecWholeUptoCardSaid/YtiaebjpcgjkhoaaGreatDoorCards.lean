/-
  DERIVED. GIVEN WITH THE SEED: THE CARDS: each row of YtiaebjpcgjkhoaaGreatDoorRows.lean that lists a variable, with what it lists TIED to the program's text (the seventh form; the later family's looks); each row that meets fmt, with fmt's text TOLD by the authors' own Lean function (tested against real Go, not proved from fmt's source: count such statements apart). THE CARD IS WHAT COUNTS. Prove the row's statement (the work); the ties are given (YtiaebjpcgjkhoaaGreatDoorTie.lean); close each card by the builder's one call (the guide's Derived/Test/ToyasCard.lean, 'card_holds'). Laid BY PROGRAM, IN A SANDBOX (cutbox-door.mjs). By AI agents, Wed Nov 11 2026. No macro, syntax, notation, axiom, sorry.
-/
import Derived.Test.YtiaebjpcgjkhoaaGreatDoorRows
import GoSem.ClaimSeven
namespace Go.Proofs.YtiaebjpcgjkhoaaGreatDoor
namespace Rows

/-- THE TIED CARD OF 'spinneretlaw15.ExecWhole'. -/
def execWholeCard : Claim7 := { stood := { row := execWholeRow, standIns := [], harness := (true, "b3857cc49fd38c0070989791b5b4ae5c639db6961ba1d4ec9d7d4f60ece2bc52"), looks := false }, kinds := [], alts := [], laidByText := true, laidKinds := [.data, .data, .data], laidTests := true, laidLooks := .later }
def ExecWholeCardSaid : Prop := Claim7.holds Tryz.pinned (.plain (OpenSpec.ofChange execWholeSpec)) execWholeCard

/-- THE TIED CARD OF 'spinneretlaw15.ExecElse'. -/
def execElseCard : Claim7 := { stood := { row := execElseRow, standIns := [], harness := (true, "b3857cc49fd38c0070989791b5b4ae5c639db6961ba1d4ec9d7d4f60ece2bc52"), looks := false }, kinds := [], alts := [], laidByText := true, laidKinds := [.data, .data, .data], laidTests := true, laidLooks := .later }
def ExecElseCardSaid : Prop := Claim7.holds Tryz.pinned (.plain (OpenSpec.ofChange execElseSpec)) execElseCard

/-- THE TIED CARD OF 'spinneretlaw15.ExecMeets'. -/
def execMeetsCard : Claim7 := { stood := { row := execMeetsRow, standIns := [], harness := (true, "b3857cc49fd38c0070989791b5b4ae5c639db6961ba1d4ec9d7d4f60ece2bc52"), looks := false }, kinds := [], alts := [], laidByText := true, laidKinds := [.data, .data, .data], laidTests := true, laidLooks := .later }
def ExecMeetsCardSaid : Prop := Claim7.holds Tryz.pinned (.plain (OpenSpec.ofChange execMeetsSpec)) execMeetsCard

/-- THE SECOND FORM's CARD OF 'spinneretlaw15.ExecWhole'. -/
def execWholeUptoCard : Claim7 := { stood := { row := execWholeUptoRow, standIns := [], harness := (true, "b3857cc49fd38c0070989791b5b4ae5c639db6961ba1d4ec9d7d4f60ece2bc52"), looks := false }, kinds := [], alts := [], laidByText := true, laidKinds := [.data, .data, .data], laidTests := true, laidLooks := .later }
def ExecWholeUptoCardSaid : Prop := Claim7.holds Tryz.pinned (.plain (OpenSpec.upto execWholeSpec)) execWholeUptoCard

/-- THE SECOND FORM's CARD OF 'spinneretlaw15.ExecElse'. -/
def execElseUptoCard : Claim7 := { stood := { row := execElseUptoRow, standIns := [], harness := (true, "b3857cc49fd38c0070989791b5b4ae5c639db6961ba1d4ec9d7d4f60ece2bc52"), looks := false }, kinds := [], alts := [], laidByText := true, laidKinds := [.data, .data, .data], laidTests := true, laidLooks := .later }
def ExecElseUptoCardSaid : Prop := Claim7.holds Tryz.pinned (.plain (OpenSpec.upto execElseSpec)) execElseUptoCard

/-- THE SECOND FORM's CARD OF 'spinneretlaw15.ExecMeets'. -/
def execMeetsUptoCard : Claim7 := { stood := { row := execMeetsUptoRow, standIns := [], harness := (true, "b3857cc49fd38c0070989791b5b4ae5c639db6961ba1d4ec9d7d4f60ece2bc52"), looks := false }, kinds := [], alts := [], laidByText := true, laidKinds := [.data, .data, .data], laidTests := true, laidLooks := .later }
def ExecMeetsUptoCardSaid : Prop := Claim7.holds Tryz.pinned (.plain (OpenSpec.upto execMeetsSpec)) execMeetsUptoCard
end Rows
end Go.Proofs.YtiaebjpcgjkhoaaGreatDoor
