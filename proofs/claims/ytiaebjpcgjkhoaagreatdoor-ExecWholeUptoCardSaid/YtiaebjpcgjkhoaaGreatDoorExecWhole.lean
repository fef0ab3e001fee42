/-
  The law ExecWhole: opened, walked, closed; its card.
-/
import Derived.Test.YtiaebjpcgjkhoaaGreatDoorWkF
import Derived.SevenTiedAt
namespace Go.Proofs.YtiaebjpcgjkhoaaGreatDoor.execWhole
open Go.ChangeShapes Go.WideShapes Go.ChangeAt Go.RowKit
open Go.Proofs.YtiaebjpcgjkhoaaGreatDoor
theorem says1 {w : World} {E : AR} {x : VV} {u : Value} (h1 : V w E none x u) : Dj w E none [x] #[u] := by
  refine ⟨rfl, fun j y hy => ?_⟩
  cases j with
  | zero => obtain rfl := Option.some.inj hy; exact h1
  | succ j => simp at hy
theorem walk {w : World} {cs : Array Value} {x : D.Env} (hL : Cq w) (hB : ∀ k, k ∈ Fy → k < w.heap.size) (hx : Is Yj w cs.toList x) (hmu : Yj.mu x ≤ 1048576) :
    Calls Tryz.prog 3 #[.agg cs] w fun e w' => e = .returned (.bool true) ∧ Below w.heap.size w w' := by
  obtain ⟨h1, h2, h3⟩ := AgD.ok (E := ⟨fun _ => False, fun _ => False⟩) (m := none) (fun _ h => h) hmu hx
  refine ((Ue h3).start hL hB (says1 (.agg h1 fun j y hy => ?_))).mono ?_
  · have := h2 j y hy
    rwa [show cs.toList.getD j undef = cs.getD j undef by simp [List.getD, Array.getD_eq_getD_getElem?]] at this
  rintro e w' ⟨u, rfl, hbel, hu⟩
  exact ⟨by rw [hu.sc_inv], hbel⟩
theorem reads (os : Os) {H : Type} (enc : TypeId × Value → H) : ∃ places, DataW.whole enc Tryz.prog ((Mz os).forCall (fun _ _ => 0) ⟨#[], XP, []⟩).memory Tryz.f3.params.toList Rows.execWholeSpec.vars false XP.toList 8 =
    some ([.agg [.agg [.nil, .nil, .nil, .nil, .nil, .lit (.int .i64 0), .nil], .agg [.nil, .nil, .nil, .lit (.int .i64 0), .lit (.int .i64 0), .lit (.int .i64 0)], .lit (.int .i64 0), .lit (.bool false), .nil]], [], places) := ⟨[], by kernel_rfl⟩
set_option maxRecDepth 100000 in
theorem lifted (os : Os) (started : os.Started) (H : Type) (enc : TypeId × Value → H) (F : Stop.Interp) :
    ReturnsInHanded {} Tryz.checked os 3 .any ((Rows.OpenSpec.upto Rows.execWholeSpec).preRow enc Tryz.prog Tryz.f3 Rows.execWholeUptoRow.domain false Rows.execWholeUptoRow.laid) (((Rows.OpenSpec.upto Rows.execWholeSpec).at F).post enc Tryz.prog Tryz.f3 false true false false) := by
  obtain ⟨places, hx⟩ := reads os enc
  refine returnsInHanded_of_row (C := Tryz.checked) (s := Rows.OpenSpec.upto Rows.execWholeSpec) own started (by kernel_rfl) Tryz.func3
    (witness_row_at (enc := enc) (C := Tryz.checked) false (Mz os) XP rfl (by kernel_rfl) (by kernel_rfl) (by kernel_rfl)
      (OpenSpec.preRow_of_cond 8 hx (by kernel_rfl) (fun k hk => by cases hk; kernel_rfl) (by kernel_rfl) (Adj os))) ?_
  intro W base args ds gs before hval0 hW _ hcond _ hlaid hS _
  have hcond : Rows.uptoSmall H (ds ++ gs) = true := hcond _ rfl
  have hlaid : laidMetH Tryz.prog Rows.execWholeRow.laid W := hlaid
  have hval : ∀ (j : Nat) t v, Tryz.f3.params[j]? = some t → args[j]? = some v → Value.okWide Tryz.prog W .any base t v := hval0
  have hW' := hW
  obtain ⟨p, q, hA0, hV, rfl, hfz, hnd⟩ := hW
  have hA : DataW.TrodAll enc Tryz.prog W 0 (fun _ => true) true Tryz.f3.params.toList args.toList ds p := hA0
  rw [Tryz.params3] at hA hval
  obtain ⟨v0, d0, rfl, rfl, h0⟩ := trodAll_one hA
  obtain ⟨x, hx, hmu, _⟩ := Pkg.open_one AaL h0
  obtain ⟨cs, rfl, hcs⟩ := okWide_struct Tryz.underlying36 (hval 0 36 v0 rfl rfl)
  have hbulk : Rows.uptoBulk d0 ≤ 1048576 := by
    have h := of_decide_eq_true hcond
    have e : Rows.uptoBulkAll ([d0] ++ gs) = Rows.uptoBulk d0 + Rows.uptoBulkAll gs := by
      simp only [List.cons_append, List.nil_append, Rows.uptoBulkAll]
    rw [e] at h
    omega
  obtain ⟨hL, hB⟩ := Adg hlaid
  refine (walk hL hB hx (by omega)).mono fun e W' ⟨he, hb⟩ => ?_
  subst he
  exact ⟨_, rfl, Adi AeT (by kernel_rfl) rfl Tryz.underlying4 rfl hW' (fun ds h => match ds, h with | [_], _ => rfl) hb⟩
theorem said : Rows.ExecWholeUptoSaid :=
  OpenClaim.holds_of_cond 3 Tryz.f3 rfl rfl rfl rfl rfl rfl rfl ⟨rfl, rfl, rfl, rfl, rfl⟩ rfl rfl rfl rfl rfl (by kernel_rfl) Tryz.func3 (by kernel_rfl)
    (of_decide_eq_true (by kernel_rfl)) (by unfold Func.isWrapper; first | (rw [if_pos (by decide +kernel)]; kernel_rfl) | (rw [if_neg (by decide +kernel)]; exact ⟨rfl, rfl⟩))
    (fun os started H enc _ F => by rw [OpenClaim.pre_eq_preRow]; exact lifted os started H enc F)
theorem plain (f : FuncId) (fn : Func) (hf : Tryz.pinned.checked.prog.funcNamed "spinneret/spinneretlaw15.ExecWhole" = some f) (hfn : Tryz.pinned.checked.prog.funcs[f]? = some fn) :
    false = Tryz.pinned.checked.prog.looks [] ∧ ∀ (j : Nat) t, fn.params[j]? = some t → Tryz.pinned.checked.prog.wantsStandIn t = false := by
  obtain rfl : f = 3 := Option.some.inj ((show Tryz.prog.funcNamed "spinneret/spinneretlaw15.ExecWhole" = some 3 by kernel_rfl).symm.trans hf) |>.symm
  obtain rfl : fn = Tryz.f3 := (Option.some.inj (Tryz.func3.symm.trans hfn)).symm
  refine ⟨by kernel_rfl, fun j t ht => ?_⟩
  rw [Tryz.params3] at ht
  have hm := Array.mem_of_getElem? ht
  simp only [List.mem_toArray, List.mem_cons, List.mem_nil_iff, or_false] at hm
  obtain rfl := hm
  exact (show Tryz.prog.wantsStandIn 36 = false by kernel_rfl)
theorem proved : Rows.ExecWholeUptoCardSaid :=
  Claim7.holds_tied_plain_at .later [] _ _ _ _ said (fun _ h => by cases h) (by kernel_rfl) (fun _ h => by cases h) execWholeUpto_row_tie rfl ⟨rfl, rfl⟩ (by kernel_rfl) rfl plain (by kernel_rfl)
end Go.Proofs.YtiaebjpcgjkhoaaGreatDoor.execWhole
