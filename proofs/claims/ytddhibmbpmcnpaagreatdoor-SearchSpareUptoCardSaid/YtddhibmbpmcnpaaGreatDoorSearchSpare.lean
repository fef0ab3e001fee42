/-
  The law SearchSpare: a proctype that nobody begins changes nothing; its card. (Of arguments of bulk at most 1048576.)
-/
import Derived.Test.YtddhibmbpmcnpaaGreatDoorYmF
import Derived.SevenTiedAt
namespace Go.Proofs.YtddhibmbpmcnpaaGreatDoor.searchSpare
open Go.ChangeShapes Go.WideShapes Go.ChangeAt Go.RowKit
open Go.Proofs.YtddhibmbpmcnpaaGreatDoor
theorem facts : joinedFacts Tryz.pinned.checked.prog 4 Tryz.f4 (Rows.OpenSpec.upto Rows.searchSpareSpec).bare Rows.searchSpareUptoRow = true := by kernel_rfl
theorem inst : Tryz.f4.isInstance Tryz.pinned.checked.prog Rows.searchSpareUptoRow.origin Rows.searchSpareUptoRow.targs := Asd (by kernel_rfl)
theorem wrap : Tryz.f4.isWrapper Tryz.pinned.checked.prog Rows.searchSpareUptoRow.wrapper Rows.searchSpareUptoRow.mainSum := by
  unfold Func.isWrapper; first | (rw [AsE (by decide +kernel)]; kernel_rfl) | (rw [Asv (by decide +kernel)]; exact ⟨rfl, rfl⟩)
theorem said : Rows.SearchSpareUptoSaid :=
  OpenClaim.holds_of_cond 4 Tryz.f4 rfl rfl rfl rfl rfl rfl rfl ⟨rfl, rfl, rfl, rfl, rfl⟩ rfl rfl rfl rfl rfl (by kernel_rfl) Tryz.func4 facts inst wrap
    (fun os started H enc _ F => by rw [OpenClaim.pre_eq_preRow]; exact ApZ os started H enc F)
theorem plain (f : FuncId) (fn : Func) (hf : Tryz.pinned.checked.prog.funcNamed "spinneret/spinneretlaw20.SearchSpare" = some f) (hfn : Tryz.pinned.checked.prog.funcs[f]? = some fn) :
    false = Tryz.pinned.checked.prog.looks [] ∧ ∀ (j : Nat) t, fn.params[j]? = some t → Tryz.pinned.checked.prog.wantsStandIn t = false := by
  obtain rfl : f = 4 := Aso ((show Tryz.prog.funcNamed "spinneret/spinneretlaw20.SearchSpare" = some 4 by kernel_rfl).symm.trans hf) |>.symm
  obtain rfl : fn = Tryz.f4 := (Aso (Tryz.func4.symm.trans hfn)).symm
  refine ⟨by kernel_rfl, fun j t ht => ?_⟩
  rw [Tryz.params4] at ht
  have hm := Array.mem_of_getElem? ht
  simp only [List.mem_toArray, AsN, List.mem_nil_iff, or_false] at hm
  rcases hm with rfl | rfl
  · exact (show Tryz.prog.wantsStandIn 29 = false by kernel_rfl)
  · exact (show Tryz.prog.wantsStandIn 31 = false by kernel_rfl)
theorem proved : Rows.SearchSpareUptoCardSaid :=
  Claim7.holds_tied_plain_at .later [] _ _ _ _ said (fun _ h => by cases h) (by kernel_rfl) (fun _ h => by cases h) searchSpareUpto_row_tie rfl ⟨rfl, rfl⟩ (by kernel_rfl) rfl plain (by kernel_rfl)
end Go.Proofs.YtddhibmbpmcnpaaGreatDoor.searchSpare
