/-
  No cell of these rows narrows 'for every input' (looked for: loops, veiled, ifaces, maps, wideKeys, modest, calm, conditions, laid).
  DERIVED. THE GIVEN ROWS OF THIS SEAT. 4 by the template 'for every input the law returns true; each argument reads behind the call as it read before'; 0 by the template 'total and deterministic' (their statements: YtcnadgfpnhemeaaTotals.lean).
  GIVEN WITH THE SEED: the statements are not yours to turn. If you find one false, say at which input.
  Laid BY PROGRAM, IN A SANDBOX (cutbox-rows.mjs): the forced cells as the released guide's own fill.sh prints them over the translation ca2697b1cd802065… (all of the seat's roots in one cut). By AI agents, Wed Nov 11 2026. No macro, syntax, notation, axiom, sorry.
-/
import Derived.Test.YtcnadgfpnhemeaaChecked
import GoSem.Claim
import GoSem.ClaimJoined
import GoSem.ClaimMapViews
import Derived.JoinedTies
import Derived.KernelRfl
namespace Go.Proofs.Ytcnadgfpnhemeaa
/- THE CELL 'sum', in the pinned program and in every row, IS THE sha256 OF THE DUMP (.gsa) THAT YtcnadgfpnhemeaaProg.lean LOADS. Nothing in Lean hashes anything: it is a label: what it is worth is what the hold of that sum in a sandbox is worth. -/
noncomputable def Try.pinned : Pinned := { name := "ytcnadgfpnhemeaa", sum := "ca2697b1cd802065557cb6449684c7d0d28bb37b3f8e8a5d4e5e404256fb0d89", checked := Try.checked }
namespace Rows
def none {H : Type} : Left H := { results := [], args := [] }

/-- 'spinneretlaw05.ValueFits': WHATEVER THE INPUT: true; the input reads as it did. -/
def valueFitsSpec : ChangeSpec := { name := "valueFits", fn := fun _ => fun
  | [d1, d2] => { results := [.lit (.bool true)], args := [d1, d2] }
  | _ => none }
def valueFitsRow : OpenClaim := { program := "ytcnadgfpnhemeaa", sum := "ca2697b1cd802065557cb6449684c7d0d28bb37b3f8e8a5d4e5e404256fb0d89", func := "spinneret/spinneretlaw05.ValueFits", spec := "valueFits", apart := false }
def ValueFitsSaid : Prop := valueFitsRow.holds Try.pinned (OpenSpec.ofChange valueFitsSpec)

/-- ITS FALSE NEIGHBOUR: 'it returns false'. Refute it at one input. -/
def valueFitsWrong : ChangeSpec := { name := "valueFits", fn := fun _ => fun
  | [d1, d2] => { results := [.lit (.bool false)], args := [d1, d2] }
  | _ => none }
def ValueFitsWrongFalsely : Prop := valueFitsRow.holds Try.pinned (OpenSpec.ofChange valueFitsWrong)

/-- 'spinneretlaw05.ValueOne': WHATEVER THE INPUT: true; the input reads as it did. -/
def valueOneSpec : ChangeSpec := { name := "valueOne", fn := fun _ => fun
  | [d1, d2] => { results := [.lit (.bool true)], args := [d1, d2] }
  | _ => none }
def valueOneRow : OpenClaim := { program := "ytcnadgfpnhemeaa", sum := "ca2697b1cd802065557cb6449684c7d0d28bb37b3f8e8a5d4e5e404256fb0d89", func := "spinneret/spinneretlaw05.ValueOne", spec := "valueOne", apart := false }
def ValueOneSaid : Prop := valueOneRow.holds Try.pinned (OpenSpec.ofChange valueOneSpec)

/-- ITS FALSE NEIGHBOUR: 'it returns false'. Refute it at one input. -/
def valueOneWrong : ChangeSpec := { name := "valueOne", fn := fun _ => fun
  | [d1, d2] => { results := [.lit (.bool false)], args := [d1, d2] }
  | _ => none }
def ValueOneWrongFalsely : Prop := valueOneRow.holds Try.pinned (OpenSpec.ofChange valueOneWrong)

/-- 'spinneretlaw05.ValueTwo': WHATEVER THE INPUT: true; the input reads as it did. -/
def valueTwoSpec : ChangeSpec := { name := "valueTwo", fn := fun _ => fun
  | [d1, d2, d3] => { results := [.lit (.bool true)], args := [d1, d2, d3] }
  | _ => none }
def valueTwoRow : OpenClaim := { program := "ytcnadgfpnhemeaa", sum := "ca2697b1cd802065557cb6449684c7d0d28bb37b3f8e8a5d4e5e404256fb0d89", func := "spinneret/spinneretlaw05.ValueTwo", spec := "valueTwo", apart := false }
def ValueTwoSaid : Prop := valueTwoRow.holds Try.pinned (OpenSpec.ofChange valueTwoSpec)

/-- ITS FALSE NEIGHBOUR: 'it returns false'. Refute it at one input. -/
def valueTwoWrong : ChangeSpec := { name := "valueTwo", fn := fun _ => fun
  | [d1, d2, d3] => { results := [.lit (.bool false)], args := [d1, d2, d3] }
  | _ => none }
def ValueTwoWrongFalsely : Prop := valueTwoRow.holds Try.pinned (OpenSpec.ofChange valueTwoWrong)

/-- 'spinneretlaw05.ValueRing': WHATEVER THE INPUT: true; the input reads as it did. -/
def valueRingSpec : ChangeSpec := { name := "valueRing", fn := fun _ => fun
  | [d1, d2, d3] => { results := [.lit (.bool true)], args := [d1, d2, d3] }
  | _ => none }
def valueRingRow : OpenClaim := { program := "ytcnadgfpnhemeaa", sum := "ca2697b1cd802065557cb6449684c7d0d28bb37b3f8e8a5d4e5e404256fb0d89", func := "spinneret/spinneretlaw05.ValueRing", spec := "valueRing", apart := false }
def ValueRingSaid : Prop := valueRingRow.holds Try.pinned (OpenSpec.ofChange valueRingSpec)

/-- ITS FALSE NEIGHBOUR: 'it returns false'. Refute it at one input. -/
def valueRingWrong : ChangeSpec := { name := "valueRing", fn := fun _ => fun
  | [d1, d2, d3] => { results := [.lit (.bool false)], args := [d1, d2, d3] }
  | _ => none }
def ValueRingWrongFalsely : Prop := valueRingRow.holds Try.pinned (OpenSpec.ofChange valueRingWrong)

/- THE SECOND FORM. 'bulk': how many values and letters a reading holds, each counted each time it is reached (what is shared counts as often as it is met; a slice's spare places count too). A statement '..UptoSaid' is the law's where the arguments, and the package variables that the reading takes, are together of bulk at most 1048576: NARROWER than '..Said'. Prove '..Said' where nothing that the law and all that it calls make is longer than what came in: it says more and counts as full. Else prove '..UptoSaid'. A law counts once. -/
mutual
def uptoBulk {H : Type} : DataW H → Nat
  | .lit (.string bytes) => bytes.length + 1
  | .lit _ => 1
  | .nil => 1
  | .ptr d => uptoBulk d + 1
  | .slice elems spare => uptoBulkAll elems + uptoBulkAll spare + 1
  | .agg parts => uptoBulkAll parts + 1
  | .iface _ d => uptoBulk d + 1
  | .map entries => uptoBulkEntries entries + 1
  | .held _ => 1
def uptoBulkAll {H : Type} : List (DataW H) → Nat
  | [] => 0
  | d :: r => uptoBulk d + uptoBulkAll r
def uptoBulkEntries {H : Type} : List (Lit × DataW H) → Nat
  | [] => 0
  | x :: r => uptoBulkEntry x + uptoBulkEntries r
def uptoBulkEntry {H : Type} : Lit × DataW H → Nat
  | (.string bytes, d) => bytes.length + uptoBulk d + 1
  | (_, d) => uptoBulk d + 1
 end
def uptoSmall : (H : Type) → List (DataW H) → Bool := fun _ ds => decide (uptoBulkAll ds ≤ 1048576)
def OpenSpec.upto (s : _root_.Go.ChangeSpec) : _root_.Go.OpenSpec := { _root_.Go.OpenSpec.ofChange s with cond := some uptoSmall }

/-- 'spinneretlaw05.ValueFits', WHERE WHAT IT READS IS OF BULK AT MOST 1048576: true; the input reads as it did. -/
def valueFitsUptoRow : OpenClaim := { program := "ytcnadgfpnhemeaa", sum := "ca2697b1cd802065557cb6449684c7d0d28bb37b3f8e8a5d4e5e404256fb0d89", func := "spinneret/spinneretlaw05.ValueFits", spec := "valueFits", apart := false, narrowed := true }
def ValueFitsUptoSaid : Prop := valueFitsUptoRow.holds Try.pinned (OpenSpec.upto valueFitsSpec)

/-- 'spinneretlaw05.ValueOne', WHERE WHAT IT READS IS OF BULK AT MOST 1048576: true; the input reads as it did. -/
def valueOneUptoRow : OpenClaim := { program := "ytcnadgfpnhemeaa", sum := "ca2697b1cd802065557cb6449684c7d0d28bb37b3f8e8a5d4e5e404256fb0d89", func := "spinneret/spinneretlaw05.ValueOne", spec := "valueOne", apart := false, narrowed := true }
def ValueOneUptoSaid : Prop := valueOneUptoRow.holds Try.pinned (OpenSpec.upto valueOneSpec)

/-- 'spinneretlaw05.ValueTwo', WHERE WHAT IT READS IS OF BULK AT MOST 1048576: true; the input reads as it did. -/
def valueTwoUptoRow : OpenClaim := { program := "ytcnadgfpnhemeaa", sum := "ca2697b1cd802065557cb6449684c7d0d28bb37b3f8e8a5d4e5e404256fb0d89", func := "spinneret/spinneretlaw05.ValueTwo", spec := "valueTwo", apart := false, narrowed := true }
def ValueTwoUptoSaid : Prop := valueTwoUptoRow.holds Try.pinned (OpenSpec.upto valueTwoSpec)

/-- 'spinneretlaw05.ValueRing', WHERE WHAT IT READS IS OF BULK AT MOST 1048576: true; the input reads as it did. -/
def valueRingUptoRow : OpenClaim := { program := "ytcnadgfpnhemeaa", sum := "ca2697b1cd802065557cb6449684c7d0d28bb37b3f8e8a5d4e5e404256fb0d89", func := "spinneret/spinneretlaw05.ValueRing", spec := "valueRing", apart := false, narrowed := true }
def ValueRingUptoSaid : Prop := valueRingUptoRow.holds Try.pinned (OpenSpec.upto valueRingSpec)

end Rows
end Go.Proofs.Ytcnadgfpnhemeaa
