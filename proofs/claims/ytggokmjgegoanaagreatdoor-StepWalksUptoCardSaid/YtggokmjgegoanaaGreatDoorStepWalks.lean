/-
  The law StepWalks: along any walk, each state that is come to may be, each step is one of the document's; its card. (Of arguments of bulk at most 1048576.)
-/
import Derived.Test.YtggokmjgegoanaaGreatDoorTkF
import Derived.SevenTiedAt
namespace Go.Proofs.YtggokmjgegoanaaGreatDoor.stepWalks
open Go.ChangeShapes Go.WideShapes Go.ChangeAt Go.RowKit
open Go.Proofs.YtggokmjgegoanaaGreatDoor
theorem facts : joinedFacts Tryz.pinned.checked.prog 3 Tryz.f3 (Rows.OpenSpec.upto Rows.stepWalksSpec).bare Rows.stepWalksUptoRow = true := by kernel_rfl
theorem inst : Tryz.f3.isInstance Tryz.pinned.checked.prog Rows.stepWalksUptoRow.origin Rows.stepWalksUptoRow.targs := AqV (by kernel_rfl)
theorem wrap : Tryz.f3.isWrapper Tryz.pinned.checked.prog Rows.stepWalksUptoRow.wrapper Rows.stepWalksUptoRow.mainSum := by
  unfold Func.isWrapper; first | (rw [Ari (by decide +kernel)]; kernel_rfl) | (rw [AqY (by decide +kernel)]; exact ⟨rfl, rfl⟩)
theorem said : Rows.StepWalksUptoSaid :=
  OpenClaim.holds_of_cond 3 Tryz.f3 rfl rfl rfl rfl rfl rfl rfl ⟨rfl, rfl, rfl, rfl, rfl⟩ rfl rfl rfl rfl rfl (by kernel_rfl) Tryz.func3 facts inst wrap
    (fun os started H enc _ F => by rw [OpenClaim.pre_eq_preRow]; exact Ao6 os started H enc F)
theorem plain (f : FuncId) (fn : Func) (hf : Tryz.pinned.checked.prog.funcNamed "spinneret/spinneretlaw16.StepWalks" = some f) (hfn : Tryz.pinned.checked.prog.funcs[f]? = some fn) :
    false = Tryz.pinned.checked.prog.looks [] ∧ ∀ (j : Nat) t, fn.params[j]? = some t → Tryz.pinned.checked.prog.wantsStandIn t = false := by
  obtain rfl : f = 3 := Aq8 ((show Tryz.prog.funcNamed "spinneret/spinneretlaw16.StepWalks" = some 3 by kernel_rfl).symm.trans hf) |>.symm
  obtain rfl : fn = Tryz.f3 := (Aq8 (Tryz.func3.symm.trans hfn)).symm
  refine ⟨by kernel_rfl, fun j t ht => ?_⟩
  rw [Tryz.params3] at ht
  have hm := Array.mem_of_getElem? ht
  simp only [List.mem_toArray, Ary, List.mem_nil_iff, or_false] at hm
  rcases hm with rfl | rfl
  · exact (show Tryz.prog.wantsStandIn 29 = false by kernel_rfl)
  · exact (show Tryz.prog.wantsStandIn 25 = false by kernel_rfl)
theorem proved : Rows.StepWalksUptoCardSaid :=
  Claim7.holds_tied_plain_at .later [] _ _ _ _ said (fun _ h => by cases h) (by kernel_rfl) (fun _ h => by cases h) stepWalksUpto_row_tie rfl ⟨rfl, rfl⟩ (by kernel_rfl) rfl plain (by kernel_rfl)
end Go.Proofs.YtggokmjgegoanaaGreatDoor.stepWalks
