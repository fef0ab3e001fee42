/-
  The law SearchIdle: a claim that always holds changes no verdict; its card. (Of arguments of bulk at most 1048576.)
-/
import Derived.Test.YtddhibmbpmcnpaaGreatDoorYnF
import Derived.SevenTiedAt
namespace Go.Proofs.YtddhibmbpmcnpaaGreatDoor.searchIdle
open Go.ChangeShapes Go.WideShapes Go.ChangeAt Go.RowKit
open Go.Proofs.YtddhibmbpmcnpaaGreatDoor
theorem facts : joinedFacts Tryz.pinned.checked.prog 3 Tryz.f3 (Rows.OpenSpec.upto Rows.searchIdleSpec).bare Rows.searchIdleUptoRow = true := by kernel_rfl
theorem inst : Tryz.f3.isInstance Tryz.pinned.checked.prog Rows.searchIdleUptoRow.origin Rows.searchIdleUptoRow.targs := Asd (by kernel_rfl)
theorem wrap : Tryz.f3.isWrapper Tryz.pinned.checked.prog Rows.searchIdleUptoRow.wrapper Rows.searchIdleUptoRow.mainSum := by
  unfold Func.isWrapper; first | (rw [AsE (by decide +kernel)]; kernel_rfl) | (rw [Asv (by decide +kernel)]; exact ⟨rfl, rfl⟩)
theorem said : Rows.SearchIdleUptoSaid :=
  OpenClaim.holds_of_cond 3 Tryz.f3 rfl rfl rfl rfl rfl rfl rfl ⟨rfl, rfl, rfl, rfl, rfl⟩ rfl rfl rfl rfl rfl (by kernel_rfl) Tryz.func3 facts inst wrap
    (fun os started H enc _ F => by rw [OpenClaim.pre_eq_preRow]; exact ApZ os started H enc F)
theorem plain (f : FuncId) (fn : Func) (hf : Tryz.pinned.checked.prog.funcNamed "spinneret/spinneretlaw20.SearchIdle" = some f) (hfn : Tryz.pinned.checked.prog.funcs[f]? = some fn) :
    false = Tryz.pinned.checked.prog.looks [] ∧ ∀ (j : Nat) t, fn.params[j]? = some t → Tryz.pinned.checked.prog.wantsStandIn t = false := by
  obtain rfl : f = 3 := Aso ((show Tryz.prog.funcNamed "spinneret/spinneretlaw20.SearchIdle" = some 3 by kernel_rfl).symm.trans hf) |>.symm
  obtain rfl : fn = Tryz.f3 := (Aso (Tryz.func3.symm.trans hfn)).symm
  refine ⟨by kernel_rfl, fun j t ht => ?_⟩
  rw [Tryz.params3] at ht
  have hm := Array.mem_of_getElem? ht
  simp only [List.mem_toArray, AsN, List.mem_nil_iff, or_false] at hm
  rcases hm with rfl | rfl
  · exact (show Tryz.prog.wantsStandIn 29 = false by kernel_rfl)
  · exact (show Tryz.prog.wantsStandIn 31 = false by kernel_rfl)
theorem proved : Rows.SearchIdleUptoCardSaid :=
  Claim7.holds_tied_plain_at .later [] _ _ _ _ said (fun _ h => by cases h) (by kernel_rfl) (fun _ h => by cases h) searchIdleUpto_row_tie rfl ⟨rfl, rfl⟩ (by kernel_rfl) rfl plain (by kernel_rfl)
end Go.Proofs.YtddhibmbpmcnpaaGreatDoor.searchIdle
