/-
  What the library's functions look up: package-level variables, which nobody writes to. (Here: none.)
-/
import Derived.WalkKit
namespace Go.Proofs.Ytiflenddalmfaaa
open Go.RowKit
/-- The blocks of these variables. -/
def libB : List Nat := []
/-- What they hold. -/
def LibAt (_ : World) : Prop := True
theorem LibAt.congr {w w' : World} (h : LibAt w) (_ : ∀ k, k ∈ libB → w'.heap[k]? = w.heap[k]?) : LibAt w' := h
end Go.Proofs.Ytiflenddalmfaaa
