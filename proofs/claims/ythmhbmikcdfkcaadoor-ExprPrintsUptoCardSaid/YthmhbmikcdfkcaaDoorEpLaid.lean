/-
  What the rows of layer 14 list; a world and arguments for the witness.
-/
import Derived.Test.YthmhbmikcdfkcaaDoorGpR
import Derived.Test.YthmhbmikcdfkcaaDoorLawKit
import Derived.Test.YthmhbmikcdfkcaaDoorCards
import Derived.Test.YthmhbmikcdfkcaaDoorTie
import Derived.Deep.DeepHandedRow
import Derived.Lib.LaidTab
import Derived.Stop.LaidErr
import Derived.OpenShut
namespace Go.Proofs.YthmhbmikcdfkcaaDoor
open Go.ChangeShapes Go.WideShapes Go.ChangeAt Go.RowKit

/-! ### What is listed, and what the library's functions ask -/
theorem gTabT : (Tryd.prog.globals[0]?).map (·.type) = some 127 := by kernel_rfl
theorem cellsTab : Tryd.prog.cellsOf 127 = 20 := by kernel_rfl
theorem cellsU64 : Tryd.prog.cellsOf 80 = 1 := by kernel_rfl
theorem gDbT : (Tryd.prog.globals[2]?).map (·.type) = some 150 := by kernel_rfl
theorem cellsDb : Tryd.prog.cellsOf 150 = 64 := by kernel_rfl
theorem cellsU8 : Tryd.prog.cellsOf 5 = 1 := by kernel_rfl
theorem noHandles : Rows.exprPrintsRow.laid.filter (fun x => x.2.handleName?.isSome) = [] := by kernel_rfl
theorem libAt_of {W : World} (h : laidMetH Tryd.prog Rows.exprPrintsRow.laid W) : LibAt W ∧ ∀ k, k ∈ libB → k < W.heap.size := by
  unfold laidMetH at h
  rw [noHandles] at h
  have h : laidMet Tryd.prog Rows.exprPrintsRow.laid W := h
  have h1 := h.tail
  have h2 := h1.tail
  have hL : LibAt W := ⟨Lib.tabIs_of_head libTab gTabT Tryd.underlying127 Tryd.underlying80 cellsU64 cellsTab h2,
    Lib.tabIs_of_head libDb gDbT Tryd.underlying150 Tryd.underlying5 cellsU8 cellsDb h1⟩
  refine ⟨hL, fun k hk => ?_⟩
  have lt : ∀ {g i : Nat} {v : Value}, W.cell? ⟨g, i, none⟩ = some v → g < W.heap.size := fun {g i v} h => by
    rcases Nat.lt_or_ge g W.heap.size with h' | h'
    · exact h'
    · simp [World.cell?, Array.getElem?_eq_none h'] at h
  simp only [libB, List.mem_cons, List.mem_nil_iff, or_false] at hk
  rcases hk with rfl | rfl
  · exact lt (hL.tab.cell libTab 0 (by decide))
  · exact lt (hL.db.cell libDb 0 (by decide))
/-! ### A world for the witness -/
def flat1 : DataW Unit → Value
  | .lit (.int k n) => .int k n
  | _ => undef
def flatT : DataW Unit → Array Value
  | .agg l => (l.flatMap fun x => match x with
    | .agg m => m.map flat1
    | y => [flat1 y]).toArray
  | _ => #[]
def putO (c : Array Value) : Obj → Obj
  | .cells _ t frozen => .cells c t frozen
  | o => o
noncomputable def laidWorld (os : Os) : World :=
  let w0 := World.holding Tryd.prog os ⟨#[], #[], []⟩
  { w0 with heap := ((w0.heap.modify 1 (putO (flatT Rows.laid_math_bits_deBruijn32tab))).modify 2 (putO (flatT Rows.laid_math_bits_deBruijn64tab))).modify 0 (putO (flatT Rows.laid_internal_strconv_uint64pow10)) }
def nilS : Value := .slice none 0 0
def wArgs : Array Value := #[.string ⟨#[]⟩, nilS]
set_option maxRecDepth 100000 in
theorem laid_met (os : Os) : laidMet Tryd.prog Rows.exprPrintsRow.laid ((laidWorld os).forCall (fun _ _ => 0) ⟨#[], wArgs, []⟩).memory :=
  laidMet_of_run' 8 (by kernel_rfl) (by kernel_rfl)
end Go.Proofs.YthmhbmikcdfkcaaDoor
