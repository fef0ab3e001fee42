/-
  What the library's functions look up: package-level variables, which nobody writes to: strconv's table of powers of ten, math/bits' table of places.
-/
import Derived.Test.YthmhbmikcdfkcaaDoorProg
import Derived.Lib.ItoaMem
import Derived.WalkKit
namespace Go.Proofs.YthmhbmikcdfkcaaDoor
open Go.RowKit
/-- The blocks of these variables. -/
def libB : List Nat := [0, 2]
/-- The table of places. -/
def bruijnTab : List Int := [0, 1, 56, 2, 57, 49, 28, 3, 61, 58, 42, 50, 38, 29, 17, 4, 62, 47, 59, 36, 45, 43, 51, 22, 53, 39, 33, 30, 24, 18, 12, 5, 63, 55, 48, 27, 60, 41, 37, 16, 46, 35, 44, 21, 52, 32, 23, 11, 54, 26, 40, 15, 34, 20, 31, 10, 25, 14, 19, 9, 13, 8, 7, 6]
/-- What they hold. -/
structure LibAt (w : World) : Prop where
  tab : Lib.TabIs Tryd.prog w "internal/strconv.uint64pow10" .u64 Lib.pow10Tab
  db : Lib.TabIs Tryd.prog w "math/bits.deBruijn64tab" .u8 bruijnTab
theorem libTab : Tryd.prog.globalNamed "internal/strconv.uint64pow10" = some 0 := by kernel_rfl
theorem libDb : Tryd.prog.globalNamed "math/bits.deBruijn64tab" = some 2 := by kernel_rfl
theorem LibAt.congr {w w' : World} (h : LibAt w) (e : ∀ k, k ∈ libB → w'.heap[k]? = w.heap[k]?) : LibAt w' where
  tab := by
    have := h.tab
    unfold Lib.TabIs World.var? at this ⊢
    rw [libTab] at this ⊢
    simp only [Option.bind_some] at this ⊢
    rw [e _ (by simp [libB])]
    exact this
  db := by
    have := h.db
    unfold Lib.TabIs World.var? at this ⊢
    rw [libDb] at this ⊢
    simp only [Option.bind_some] at this ⊢
    rw [e _ (by simp [libB])]
    exact this
end Go.Proofs.YthmhbmikcdfkcaaDoor
