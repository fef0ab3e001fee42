/-
  The law ExprBounds: opened, walked, closed; its card.
-/
import Derived.Test.YthmhbmikcdfkcaaDoorEbLaid
import Derived.SevenTiedAt
namespace Go.Proofs.YthmhbmikcdfkcaaDoor.exprBounds
open Go.ChangeShapes Go.WideShapes Go.ChangeAt Go.RowKit
open Go.Proofs.YthmhbmikcdfkcaaDoor

theorem walk {w : World} {cs : Array Value} {x : D.Env} {z : Int} (hL : LibAt w) (hB : ∀ k, k ∈ libB → k < w.heap.size) (hx : Is p_Env w cs.toList x) (hmu : p_Env.mu x ≤ 1048576) :
    Calls Tryd.prog 4 #[.agg cs, .int .i64 z] w fun e w' => e = .returned (.bool true) ∧ Below w.heap.size w w' := by
  obtain ⟨h1, h2, h3⟩ := ev_Env.ok (E := ⟨fun _ => False, fun _ => False⟩) (m := none) (fun _ h => h) hmu hx
  refine ((law_spec z h3).start hL hB (says2 (.agg h1 fun j y hy => ?_) .sc)).mono ?_
  · have := h2 j y hy
    rwa [show cs.toList.getD j undef = cs.getD j undef by simp [List.getD, Array.getD_eq_getD_getElem?]] at this
  rintro e w' ⟨u, rfl, hbel, hu⟩
  exact ⟨by rw [hu.sc_inv], hbel⟩
theorem reads (os : Os) {H : Type} (enc : TypeId × Value → H) : ∃ places, DataW.whole enc Tryd.prog ((laidWorld os).forCall (fun _ _ => 0) ⟨#[], wArgs, []⟩).memory Tryd.f4.params.toList Rows.exprBoundsSpec.vars false wArgs.toList 8 =
    some ([.agg [.agg [.nil, .nil, .nil, .nil, .nil, .lit (.int .i64 0), .nil], .agg [.nil, .nil, .nil, .lit (.int .i64 0), .lit (.int .i64 0), .lit (.int .i64 0)], .lit (.int .i64 0), .lit (.bool false), .nil], .lit (.int .i64 0)], [], places) := ⟨[], by kernel_rfl⟩
set_option maxRecDepth 100000 in
theorem lifted (os : Os) (started : os.Started) (H : Type) (enc : TypeId × Value → H) (F : Stop.Interp) :
    ReturnsInHanded {} Tryd.checked os 4 .any ((Rows.OpenSpec.upto Rows.exprBoundsSpec).preRow enc Tryd.prog Tryd.f4 Rows.exprBoundsUptoRow.domain false Rows.exprBoundsUptoRow.laid) (((Rows.OpenSpec.upto Rows.exprBoundsSpec).at F).post enc Tryd.prog Tryd.f4 false true false false) := by
  obtain ⟨places, hx⟩ := reads os enc
  refine returnsInHanded_of_row (C := Tryd.checked) (s := Rows.OpenSpec.upto Rows.exprBoundsSpec) own started (by kernel_rfl) Tryd.func4
    (witness_row_at (enc := enc) (C := Tryd.checked) false (laidWorld os) wArgs rfl (by kernel_rfl) (by kernel_rfl) (by kernel_rfl)
      (OpenSpec.preRow_of_cond 8 hx (by kernel_rfl) (fun k hk => by cases hk; kernel_rfl) (by kernel_rfl) (laid_met os))) ?_
  intro W base args ds gs before hval0 hW _ hcond _ hlaid hS _
  have hcond : Rows.uptoSmall H (ds ++ gs) = true := hcond _ rfl
  have hlaid : laidMetH Tryd.prog Rows.exprBoundsRow.laid W := hlaid
  have hval : ∀ (j : Nat) t v, Tryd.f4.params[j]? = some t → args[j]? = some v → Value.okWide Tryd.prog W .any base t v := hval0
  have hW' := hW
  obtain ⟨p, q, hA0, hV, rfl, hfz, hnd⟩ := hW
  have hA : DataW.TrodAll enc Tryd.prog W 0 (fun _ => true) true Tryd.f4.params.toList args.toList ds p := hA0
  rw [Tryd.params4] at hA hval
  obtain ⟨v0, v1, d0, d1, p0, p1, rfl, rfl, rfl, h0, h1⟩ := trodAll_two hA
  obtain ⟨x, hx, hmu, _⟩ := Pkg.open_one opens_Env h0
  obtain ⟨cs, rfl, hcs⟩ := okWide_struct Tryd.underlying39 (hval 0 39 v0 rfl rfl)
  obtain ⟨z, rfl, rfl, rfl, wz⟩ := open_int Tryd.underlying2 (hval 1 2 v1 rfl rfl) h1
  have hbulk : Rows.uptoBulk d0 ≤ 1048576 := by
    have h := of_decide_eq_true hcond
    have e : Rows.uptoBulkAll ([d0, .lit (.int .i64 z)] ++ gs) = Rows.uptoBulk d0 + Rows.uptoBulkAll ([.lit (.int .i64 z)] ++ gs) := by
      simp only [List.cons_append, List.nil_append, Rows.uptoBulkAll]
    rw [e] at h
    omega
  obtain ⟨hL, hB⟩ := libAt_of hlaid
  refine (walk hL hB hx (by omega)).mono fun e W' ⟨he, hb⟩ => ?_
  subst he
  exact ⟨_, rfl, law_post laidOut (by kernel_rfl) rfl Tryd.underlying4 rfl hW' (fun ds h => match ds, h with | [_, _], _ => rfl) hb⟩
theorem said : Rows.ExprBoundsUptoSaid :=
  OpenClaim.holds_of_cond 4 Tryd.f4 rfl rfl rfl rfl rfl rfl rfl ⟨rfl, rfl, rfl, rfl, rfl⟩ rfl rfl rfl rfl rfl (by kernel_rfl) Tryd.func4 (by kernel_rfl)
    (of_decide_eq_true (by kernel_rfl)) (by unfold Func.isWrapper; first | (rw [if_pos (by decide +kernel)]; kernel_rfl) | (rw [if_neg (by decide +kernel)]; exact ⟨rfl, rfl⟩))
    (fun os started H enc _ F => by rw [OpenClaim.pre_eq_preRow]; exact lifted os started H enc F)
/-- No parameter wants a stand-in; nobody looks. -/
theorem plain (f : FuncId) (fn : Func) (hf : Tryd.pinned.checked.prog.funcNamed "spinneret/spinneretlaw14.ExprBounds" = some f) (hfn : Tryd.pinned.checked.prog.funcs[f]? = some fn) :
    false = Tryd.pinned.checked.prog.looks [] ∧ ∀ (j : Nat) t, fn.params[j]? = some t → Tryd.pinned.checked.prog.wantsStandIn t = false := by
  obtain rfl : f = 4 := Option.some.inj ((show Tryd.prog.funcNamed "spinneret/spinneretlaw14.ExprBounds" = some 4 by kernel_rfl).symm.trans hf) |>.symm
  obtain rfl : fn = Tryd.f4 := (Option.some.inj (Tryd.func4.symm.trans hfn)).symm
  refine ⟨by kernel_rfl, fun j t ht => ?_⟩
  rw [Tryd.params4] at ht
  have hm := Array.mem_of_getElem? ht
  simp only [List.mem_toArray, List.mem_cons, List.mem_nil_iff, or_false] at hm
  rcases hm with rfl | rfl
  · exact (show Tryd.prog.wantsStandIn 39 = false by kernel_rfl)
  · exact (show Tryd.prog.wantsStandIn 2 = false by kernel_rfl)
/-- **The card.** -/
theorem proved : Rows.ExprBoundsUptoCardSaid :=
  Claim7.holds_tied_plain_at .later [] _ _ _ _ said (fun _ h => by cases h) (by kernel_rfl) (fun _ h => by cases h) exprBoundsUpto_row_tie rfl ⟨rfl, rfl⟩ (by kernel_rfl) rfl plain (by kernel_rfl)
end Go.Proofs.YthmhbmikcdfkcaaDoor.exprBounds
