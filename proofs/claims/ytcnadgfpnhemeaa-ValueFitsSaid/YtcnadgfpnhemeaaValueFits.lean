/-
  ValueFits: what becomes of a number in a variable of a type is as the chapter says, and fitted once it stays: for every type and every number.
-/
import Derived.Test.YtcnadgfpnhemeaaValFit
import Derived.Test.YtcnadgfpnhemeaaLawKit
import Derived.Lib.SmallJoins
namespace Go.Proofs.Ytcnadgfpnhemeaa.valueFits
open Go.ChangeShapes Go.WideShapes Go.ChangeAt Go.RowKit Go.Joins
open Go.Proofs.Ytcnadgfpnhemeaa

set_option maxHeartbeats 400000 in
theorem walk (b v : Int) (s : Bool) (w : World) :
    Calls Try.prog 3 #[.agg #[.int .i64 b, .bool s], .int .i64 v] w fun e w' => e = .returned (.bool true) ∧ Below w.heap.size w w' := by
  go_enter Try.func3, Try.ntmps3
  go_wp2_with fail
  refine (vfit b v s _).mono ?_; rintro e w1 ⟨rfl, hb1⟩; obtain ⟨hc1, hf1⟩ := bcell hb1; have hz1 := hb1.size; simp at hz1
  go_wp2_with fail
  refine (vfit b _ s _).mono ?_; rintro e w2 ⟨rfl, hb2⟩; obtain ⟨hc2, hf2⟩ := bcell hb2; have hz2 := hb2.size; rw [fitP_idem]
  have hx2 : w.heap.size < w1.heap.size := by omega
  go_wp2_with fail
  refine (vfits b _ s _).mono ?_; rintro e w3 ⟨rfl, hb3⟩; obtain ⟨hc3, hf3⟩ := bcell hb3; have hz3 := hb3.size
  have hx3 : w.heap.size < w2.heap.size := by omega
  go_wp2_with fail
  refine (vfits b _ s _).mono ?_; rintro e w4 ⟨rfl, hb4⟩; obtain ⟨hc4, hf4⟩ := bcell hb4; have hz4 := hb4.size; rw [fitP_idem, beq_self_eq_true, Bool.and_true]
  have hx4 : w.heap.size < w3.heap.size := by omega
  go_wp2_with fail
  refine (rright b s _).mono ?_; rintro e w5 ⟨rfl, hb5⟩; obtain ⟨hc5, hf5⟩ := bcell hb5; have hz5 := hb5.size
  have hx5 : w.heap.size < w4.heap.size := by omega
  go_wp2_with fail
  refine (rfit b v s _).mono ?_; rintro e w6 ⟨rfl, hb6⟩
  generalize rightB b = r
  by_cases he : fitP b s v = v
  · have he' : (fitP b s v == v) = true := by simpa using he
    cases r
    all_goals
      go_wp2
      go_ret
      exact ⟨by simp [*], ((((((below_one _ _).trans (hb1.mono (by simp))).trans (hb2.mono (by omega))).trans (hb3.mono (by omega))).trans (hb4.mono (by omega))).trans (hb5.mono (by omega))).trans (hb6.mono (by omega))⟩
  · have he' : (fitP b s v == v) = false := by simpa using he
    cases r
    all_goals
      go_wp2
      go_ret
      exact ⟨by simp [*], ((((((below_one _ _).trans (hb1.mono (by simp))).trans (hb2.mono (by omega))).trans (hb3.mono (by omega))).trans (hb4.mono (by omega))).trans (hb5.mono (by omega))).trans (hb6.mono (by omega))⟩
theorem cellsT : Try.prog.cellsOf 23 = 2 := by kernel_rfl

set_option maxRecDepth 100000 in
theorem lifted (os : Os) (started : os.Started) (H : Type) (enc : TypeId × Value → H) :
    ReturnsInHanded {} Try.checked os 3 .any (Rows.valueFitsSpec.pre6 enc Try.prog Try.f3 Rows.valueFitsRow.domain false) (Rows.valueFitsSpec.post enc Try.prog Try.f3 false true false false) := by
  refine returnsInHanded_of_change (C := Try.checked) own started (by kernel_rfl) Try.func3
    (ChangeSpec.witness6 (enc := enc) (C := Try.checked) false ⟨#[], #[.agg #[.int .i64 0, .bool false], .int .i64 0], []⟩ 8 (by kernel_rfl) (by kernel_rfl) (by kernel_rfl) (by kernel_rfl)) ?_
  intro W base args ds gs before hval0 hW hcnd _
  have hval : ∀ (j : Nat) t v, Try.f3.params[j]? = some t → args[j]? = some v → Value.okWide Try.prog W .any base t v := hval0
  have hW' := hW
  obtain ⟨p, q, hA0, hV, rfl, hfz, hnd⟩ := hW
  have hA : DataW.TrodAll enc Try.prog W 0 (fun _ => true) true Try.f3.params.toList args.toList ds p := hA0
  rw [Try.params3] at hA hval
  obtain ⟨v0, v1, d0, d1, p0, p1, rfl, rfl, rfl, h0, h1⟩ := trodAll_two hA
  obtain ⟨c0, c1, y0, y1, m, rfl, rfl, rfl, hy0, hy1⟩ := open_agg2 Try.underlying23 (by kernel_rfl) cellsT (hval 0 23 v0 rfl rfl) h0
  obtain ⟨b, e0, rfl, wb⟩ := DataW.trod_int Try.underlying3 hy0
  obtain ⟨s, e1, rfl⟩ := DataW.trod_bool Try.underlying4 hy1
  simp at e0 e1
  subst e0 e1
  obtain ⟨v, rfl, rfl, rfl, wv⟩ := open_int Try.underlying2 (hval 1 2 v1 rfl rfl) h1
  refine (walk b v s W).mono fun e W' ⟨he, hb⟩ => ?_
  subst he
  exact ⟨_, rfl, law_post laidOut (by kernel_rfl) rfl Try.underlying4 rfl hW' (fun ds h => match ds, h with | [_, _], _ => rfl) hb⟩

theorem over : Rows.valueFitsRow.holds Try.pinned (OpenSpec.ofChange Rows.valueFitsSpec) :=
  OpenClaim.holds_of_wide 3 Try.f3 rfl rfl rfl rfl rfl rfl rfl ⟨rfl, rfl, rfl, rfl, rfl⟩ rfl rfl rfl rfl rfl (by kernel_rfl) Try.func3 (by kernel_rfl)
    (of_decide_eq_true (by kernel_rfl)) (by unfold Func.isWrapper; first | (rw [if_pos (by decide +kernel)]; kernel_rfl) | (rw [if_neg (by decide +kernel)]; exact ⟨rfl, rfl⟩))
    (fun os started H enc _ => lifted os started H enc)

theorem proved : Rows.ValueFitsSaid := over
end Go.Proofs.Ytcnadgfpnhemeaa.valueFits
