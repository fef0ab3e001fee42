/-
  What the library's functions look up: package-level variables, which nobody writes to: the two errors of strconv's, its table of powers of ten.
-/
import Derived.Test.YtdjjlkekbphbaaaDoorShelf
import Derived.WalkKit
namespace Go.Proofs.YtdjjlkekbphbaaaDoor
open Go.RowKit
/-- The blocks of these variables. -/
def libB : List Nat := [1, 2, 0]
/-- What they hold. -/
structure LibAt (w : World) : Prop where
  syn : ∃ t p, w.cell? ⟨1, 0, none⟩ = some (.iface t p)
  ran : ∃ t p, w.cell? ⟨2, 0, none⟩ = some (.iface t p)
  tab : Lib.TabIs Tryd.prog w "internal/strconv.uint64pow10" .u64 Lib.pow10Tab
theorem libTab : Tryd.prog.globalNamed "internal/strconv.uint64pow10" = some 0 := by kernel_rfl
theorem LibAt.congr {w w' : World} (h : LibAt w) (e : ∀ k, k ∈ libB → w'.heap[k]? = w.heap[k]?) : LibAt w' where
  syn := let ⟨t, p, hm⟩ := h.syn; ⟨t, p, (World.cell?_of_block (e _ (by simp [libB]))).trans hm⟩
  ran := let ⟨t, p, hm⟩ := h.ran; ⟨t, p, (World.cell?_of_block (e _ (by simp [libB]))).trans hm⟩
  tab := by
    have := h.tab
    unfold Lib.TabIs World.var? at this ⊢
    rw [libTab] at this ⊢
    simp only [Option.bind_some] at this ⊢
    rw [e _ (by simp [libB])]
    exact this
end Go.Proofs.YtdjjlkekbphbaaaDoor
