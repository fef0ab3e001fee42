/-
  The law ExprPrints: opened, walked, closed; its card.
-/
import Derived.Test.YthmhbmikcdfkcaaDoorEpLaid
import Derived.SevenTiedAt
namespace Go.Proofs.YthmhbmikcdfkcaaDoor.exprPrints
open Go.ChangeShapes Go.WideShapes Go.ChangeAt Go.RowKit
open Go.Proofs.YthmhbmikcdfkcaaDoor

theorem walk {w : World} {t : ByteArray} {v : Value} {l : List Int} (hL : LibAt w) (hB : ∀ k, k ∈ libB → k < w.heap.size) (hv : Is (Pkg.slice 1 8 (Pkg.int .i64)) w [v] l) (hmu : (Pkg.slice 1 8 (Pkg.int .i64)).mu l ≤ 1048576) (ht : t.size ≤ 1048576) :
    Calls Tryd.prog 3 #[.string t, v] w fun e w' => e = .returned (.bool true) ∧ Below w.heap.size w w' := by
  obtain ⟨h1, h2, h3⟩ := evL_Int.ok (E := ⟨fun _ => False, fun _ => False⟩) (m := none) (fun _ h => h) hmu hv
  refine ((plaw_spec h3 ht).start hL hB (says2 .sc (h2 0 _ rfl))).mono ?_
  rintro e w' ⟨u, rfl, hbel, hu⟩
  exact ⟨by rw [hu.sc_inv], hbel⟩
theorem reads (os : Os) {H : Type} (enc : TypeId × Value → H) : ∃ places, DataW.whole enc Tryd.prog ((laidWorld os).forCall (fun _ _ => 0) ⟨#[], wArgs, []⟩).memory Tryd.f3.params.toList Rows.exprPrintsSpec.vars false wArgs.toList 8 =
    some ([.lit (.string []), .nil], [], places) := ⟨[], by kernel_rfl⟩
set_option maxRecDepth 100000 in
theorem lifted (os : Os) (started : os.Started) (H : Type) (enc : TypeId × Value → H) (F : Stop.Interp) :
    ReturnsInHanded {} Tryd.checked os 3 .any ((Rows.OpenSpec.upto Rows.exprPrintsSpec).preRow enc Tryd.prog Tryd.f3 Rows.exprPrintsUptoRow.domain false Rows.exprPrintsUptoRow.laid) (((Rows.OpenSpec.upto Rows.exprPrintsSpec).at F).post enc Tryd.prog Tryd.f3 false true false false) := by
  obtain ⟨places, hx⟩ := reads os enc
  refine returnsInHanded_of_row (C := Tryd.checked) (s := Rows.OpenSpec.upto Rows.exprPrintsSpec) own started (by kernel_rfl) Tryd.func3
    (witness_row_at (enc := enc) (C := Tryd.checked) false (laidWorld os) wArgs rfl (by kernel_rfl) (by kernel_rfl) (by kernel_rfl)
      (OpenSpec.preRow_of_cond 8 hx (by kernel_rfl) (fun k hk => by cases hk; kernel_rfl) (by kernel_rfl) (laid_met os))) ?_
  intro W base args ds gs before hval0 hW _ hcond _ hlaid hS _
  have hcond : Rows.uptoSmall H (ds ++ gs) = true := hcond _ rfl
  have hlaid : laidMetH Tryd.prog Rows.exprPrintsRow.laid W := hlaid
  have hval : ∀ (j : Nat) t v, Tryd.f3.params[j]? = some t → args[j]? = some v → Value.okWide Tryd.prog W .any base t v := hval0
  have hW' := hW
  obtain ⟨p, q, hA0, hV, rfl, hfz, hnd⟩ := hW
  have hA : DataW.TrodAll enc Tryd.prog W 0 (fun _ => true) true Tryd.f3.params.toList args.toList ds p := hA0
  rw [Tryd.params3] at hA hval
  obtain ⟨v0, v1, d0, d1, p0, p1, rfl, rfl, rfl, h0, h1⟩ := trodAll_two hA
  obtain ⟨t, rfl, rfl, rfl, _⟩ := Go.ChangeMaps.open_string Tryd.underlying9 (hval 0 9 v0 rfl rfl) h0
  obtain ⟨l, hl, hmu, _⟩ := Pkg.open_one (Pkg.opens_slice (size := 1) (bytes := 8) Tryd.underlying22 (by kernel_rfl) (by kernel_rfl) (by decide) (Pkg.opens_int Tryd.underlying2)) h1
  have hv := okWide_slice Tryd.underlying22 (hval 1 22 v1 rfl rfl)
  have hbulk : (t.size + 1) + Rows.uptoBulk d1 ≤ 1048576 := by
    have h := of_decide_eq_true hcond
    have e : Rows.uptoBulkAll ([DataW.lit (.string t.data.toList), d1] ++ gs) = (t.size + 1) + (Rows.uptoBulk d1 + Rows.uptoBulkAll gs) := by
      simp only [List.cons_append, List.nil_append, Rows.uptoBulkAll, Rows.uptoBulk]
      rfl
    rw [e] at h
    omega
  obtain ⟨hL, hB⟩ := libAt_of hlaid
  have hl : Is (Pkg.slice 1 8 (Pkg.int .i64)) W [v1] l := by obtain ⟨a0, len, cap, rfl⟩ := hv; exact hl
  refine (walk hL hB hl (by omega) (by omega)).mono fun e W' ⟨he, hb⟩ => ?_
  subst he
  exact ⟨_, rfl, law_post laidOut (by kernel_rfl) rfl Tryd.underlying4 rfl hW' (fun ds h => match ds, h with | [_, _], _ => rfl) hb⟩
theorem said : Rows.ExprPrintsUptoSaid :=
  OpenClaim.holds_of_cond 3 Tryd.f3 rfl rfl rfl rfl rfl rfl rfl ⟨rfl, rfl, rfl, rfl, rfl⟩ rfl rfl rfl rfl rfl (by kernel_rfl) Tryd.func3 (by kernel_rfl)
    (of_decide_eq_true (by kernel_rfl)) (by unfold Func.isWrapper; first | (rw [if_pos (by decide +kernel)]; kernel_rfl) | (rw [if_neg (by decide +kernel)]; exact ⟨rfl, rfl⟩))
    (fun os started H enc _ F => by rw [OpenClaim.pre_eq_preRow]; exact lifted os started H enc F)
/-- No parameter wants a stand-in; nobody looks. -/
theorem plain (f : FuncId) (fn : Func) (hf : Tryd.pinned.checked.prog.funcNamed "spinneret/spinneretlaw14.ExprPrints" = some f) (hfn : Tryd.pinned.checked.prog.funcs[f]? = some fn) :
    false = Tryd.pinned.checked.prog.looks [] ∧ ∀ (j : Nat) t, fn.params[j]? = some t → Tryd.pinned.checked.prog.wantsStandIn t = false := by
  obtain rfl : f = 3 := Option.some.inj ((show Tryd.prog.funcNamed "spinneret/spinneretlaw14.ExprPrints" = some 3 by kernel_rfl).symm.trans hf) |>.symm
  obtain rfl : fn = Tryd.f3 := (Option.some.inj (Tryd.func3.symm.trans hfn)).symm
  refine ⟨by kernel_rfl, fun j t ht => ?_⟩
  rw [Tryd.params3] at ht
  have hm := Array.mem_of_getElem? ht
  simp only [List.mem_toArray, List.mem_cons, List.mem_nil_iff, or_false] at hm
  rcases hm with rfl | rfl
  · exact (show Tryd.prog.wantsStandIn 9 = false by kernel_rfl)
  · exact (show Tryd.prog.wantsStandIn 22 = false by kernel_rfl)
/-- **The card.** -/
theorem proved : Rows.ExprPrintsUptoCardSaid :=
  Claim7.holds_tied_plain_at .later [] _ _ _ _ said (fun _ h => by cases h) (by kernel_rfl) (fun _ h => by cases h) exprPrintsUpto_row_tie rfl ⟨rfl, rfl⟩ (by kernel_rfl) rfl plain (by kernel_rfl)
end Go.Proofs.YthmhbmikcdfkcaaDoor.exprPrints
