/-
  The law SimGoesOn: opened, walked, closed; its card.
-/
import Derived.Test.YtmdcknlpalfhhaaGreatDoorSkF
import Derived.SevenTiedAt
namespace Go.Proofs.YtmdcknlpalfhhaaGreatDoor.simGoesOn
open Go.ChangeShapes Go.WideShapes Go.ChangeAt Go.RowKit
open Go.Proofs.YtmdcknlpalfhhaaGreatDoor
theorem says3 {w : World} {E : AF} {x y z : VV} {u v s : Value} (h1 : V w E none x u) (h2 : V w E none y v) (h3 : V w E none z s) : CT w E none [x, y, z] #[u, v, s] := by
  refine ⟨rfl, fun j q hq => ?_⟩
  match j, hq with
  | 0, hq => obtain rfl := Ak9 hq; exact h1
  | 1, hq => obtain rfl := Ak9 hq; exact h2
  | 2, hq => obtain rfl := Ak9 hq; exact h3
  | j + 3, hq => simp at hq
theorem walk {w : World} {cs : Array Value} {x : D.Model} {v1 v2 : Value} {l1 l2 : List Int} (hL : Cn w) (hB : ∀ k, k ∈ D8 → k < w.heap.size) (hx : Is OE w cs.toList x) (hmu : OE.mu x ≤ 1048576)
    (hv1 : Is (Pkg.slice 1 8 (Pkg.int .i64)) w [v1] l1) (hm1 : (Pkg.slice 1 8 (Pkg.int .i64)).mu l1 ≤ 1048576) (hv2 : Is (Pkg.slice 1 8 (Pkg.int .i64)) w [v2] l2) (hm2 : (Pkg.slice 1 8 (Pkg.int .i64)).mu l2 ≤ 1048576) :
    Calls Tryz.prog 3 #[.agg cs, v1, v2] w fun e w' => e = .returned (.bool true) ∧ Below w.heap.size w w' := by
  obtain ⟨h1, h2, h3⟩ := Aff.ok (E := ⟨fun _ => False, fun _ => False, 0, []⟩) (m := none) (fun _ h => h) hmu hx
  obtain ⟨_, a2, _⟩ := GB.ok (E := ⟨fun _ => False, fun _ => False, 0, []⟩) (m := none) (fun _ h => h) hm1 hv1
  obtain ⟨_, b2, _⟩ := GB.ok (E := ⟨fun _ => False, fun _ => False, 0, []⟩) (m := none) (fun _ h => h) hm2 hv2
  refine ((Ach h3).start hL hB (says3 (.agg h1 fun j y hy => ?_) (a2 0 _ rfl) (b2 0 _ rfl))).mono ?_
  · have := h2 j y hy
    rwa [show cs.toList.getD j undef = cs.getD j undef by simp [List.getD]] at this
  rintro e w' ⟨u, rfl, hbel, hu⟩
  exact ⟨by rw [hu.sc_inv], hbel⟩
theorem reads (os : Os) {H : Type} (enc : TypeId × Value → H) : ∃ places, DataW.whole enc Tryz.prog ((Nl os).forCall (fun _ _ => 0) ⟨#[], Yz, []⟩).memory Tryz.f3.params.toList Rows.simGoesOnSpec.vars false Yz.toList 8 =
    some ([.agg [.nil, .nil, .nil, .nil, .nil, .lit (.int .i64 0), .nil], .nil, .nil], [], places) := ⟨[], by kernel_rfl⟩
set_option maxRecDepth 100000 in
theorem lifted (os : Os) (started : os.Started) (H : Type) (enc : TypeId × Value → H) (F : Stop.Interp) :
    ReturnsInHanded {} Tryz.checked os 3 .any ((Rows.OpenSpec.upto Rows.simGoesOnSpec).preRow enc Tryz.prog Tryz.f3 Rows.simGoesOnUptoRow.domain false Rows.simGoesOnUptoRow.laid) (((Rows.OpenSpec.upto Rows.simGoesOnSpec).at F).post enc Tryz.prog Tryz.f3 false true false false) := by
  obtain ⟨places, hx⟩ := reads os enc
  refine returnsInHanded_of_row (C := Tryz.checked) (s := Rows.OpenSpec.upto Rows.simGoesOnSpec) own started (by kernel_rfl) Tryz.func3
    (witness_row_at (enc := enc) (C := Tryz.checked) false (Nl os) Yz rfl (by kernel_rfl) (by kernel_rfl) (by kernel_rfl)
      (OpenSpec.preRow_of_cond 8 hx (by kernel_rfl) (fun k hk => by cases hk; kernel_rfl) (by kernel_rfl) (AeN os))) ?_
  intro W base args ds gs before hval0 hW _ hcond _ hlaid hS _
  have hcond : Rows.uptoSmall H (ds ++ gs) = true := hcond _ rfl
  have hlaid : laidMetH Tryz.prog Rows.simGoesOnRow.laid W := hlaid
  have hval : ∀ (j : Nat) t v, Tryz.f3.params[j]? = some t → args[j]? = some v → Value.okWide Tryz.prog W .any base t v := hval0
  have hW' := hW
  obtain ⟨p, q, hA0, hV, rfl, hfz, hnd⟩ := hW
  have hA : DataW.TrodAll enc Tryz.prog W 0 (fun _ => true) true Tryz.f3.params.toList args.toList ds p := hA0
  rw [Tryz.params3] at hA hval
  obtain ⟨v0, v1, v2, d0, d1, d2, p0, p1, p2, rfl, rfl, rfl, h0, h1, h2⟩ := trodAll_three hA
  obtain ⟨x, hx, hmu, _⟩ := Pkg.open_one UW h0
  obtain ⟨cs, rfl, hcs⟩ := okWide_struct Tryz.underlying29 (hval 0 29 v0 rfl rfl)
  obtain ⟨l1, hl1, hm1, _⟩ := Pkg.open_one (Pkg.opens_slice (size := 1) (bytes := 8) Tryz.underlying25 (by kernel_rfl) (by kernel_rfl) (by decide) (Pkg.opens_int Tryz.underlying3)) h1
  have hv1 := okWide_slice Tryz.underlying25 (hval 1 25 v1 rfl rfl)
  obtain ⟨l2, hl2, hm2, _⟩ := Pkg.open_one (Pkg.opens_slice (size := 1) (bytes := 8) Tryz.underlying25 (by kernel_rfl) (by kernel_rfl) (by decide) (Pkg.opens_int Tryz.underlying3)) h2
  have hv2 := okWide_slice Tryz.underlying25 (hval 2 25 v2 rfl rfl)
  have hbulk : Rows.uptoBulk d0 + (Rows.uptoBulk d1 + Rows.uptoBulk d2) ≤ 1048576 := by
    have h := AkW hcond
    have e : Rows.uptoBulkAll ([d0, d1, d2] ++ gs) = Rows.uptoBulk d0 + (Rows.uptoBulk d1 + (Rows.uptoBulk d2 + Rows.uptoBulkAll gs)) := by
      simp only [Al2, Al9, Rows.uptoBulkAll]
    rw [e] at h
    omega
  obtain ⟨hL, hB⟩ := AeJ hlaid
  have hl1 : Is (Pkg.slice 1 8 (Pkg.int .i64)) W [v1] l1 := by obtain ⟨a0, len, cap, rfl⟩ := hv1; exact hl1
  have hl2 : Is (Pkg.slice 1 8 (Pkg.int .i64)) W [v2] l2 := by obtain ⟨a0, len, cap, rfl⟩ := hv2; exact hl2
  refine (walk hL hB hx (by omega) hl1 (by omega) hl2 (by omega)).mono fun e W' ⟨he, hb⟩ => ?_
  subst he
  exact ⟨_, rfl, AeM Ag2 (by kernel_rfl) rfl Tryz.underlying4 rfl hW' (fun ds h => match ds, h with | [_, _, _], _ => rfl) hb⟩
theorem said : Rows.SimGoesOnUptoSaid :=
  OpenClaim.holds_of_cond 3 Tryz.f3 rfl rfl rfl rfl rfl rfl rfl ⟨rfl, rfl, rfl, rfl, rfl⟩ rfl rfl rfl rfl rfl (by kernel_rfl) Tryz.func3 (by kernel_rfl)
    (AkW (by kernel_rfl)) (by unfold Func.isWrapper; first | (rw [Alj (by decide +kernel)]; kernel_rfl) | (rw [Ak3 (by decide +kernel)]; exact ⟨rfl, rfl⟩))
    (fun os started H enc _ F => by rw [OpenClaim.pre_eq_preRow]; exact lifted os started H enc F)
theorem plain (f : FuncId) (fn : Func) (hf : Tryz.pinned.checked.prog.funcNamed "spinneret/spinneretlaw24.SimGoesOn" = some f) (hfn : Tryz.pinned.checked.prog.funcs[f]? = some fn) :
    true = Tryz.pinned.checked.prog.looks [] ∧ ∀ (j : Nat) t, fn.params[j]? = some t → Tryz.pinned.checked.prog.wantsStandIn t = false := by
  obtain rfl : f = 3 := Ak9 ((show Tryz.prog.funcNamed "spinneret/spinneretlaw24.SimGoesOn" = some 3 by kernel_rfl).symm.trans hf) |>.symm
  obtain rfl : fn = Tryz.f3 := (Ak9 (Tryz.func3.symm.trans hfn)).symm
  refine ⟨by kernel_rfl, fun j t ht => ?_⟩
  rw [Tryz.params3] at ht
  have hm := Array.mem_of_getElem? ht
  simp only [List.mem_toArray, AlC, List.mem_nil_iff, or_false] at hm
  rcases hm with rfl | rfl | rfl
  · exact (show Tryz.prog.wantsStandIn 29 = false by kernel_rfl)
  · exact (show Tryz.prog.wantsStandIn 25 = false by kernel_rfl)
  · exact (show Tryz.prog.wantsStandIn 25 = false by kernel_rfl)
theorem proved : Rows.SimGoesOnUptoCardSaid :=
  Claim7.holds_tied_plain_at .later [] _ _ _ _ said (fun _ h => by cases h) (by kernel_rfl) (fun _ h => by cases h) simGoesOnUpto_row_tie rfl ⟨rfl, rfl⟩ (by kernel_rfl) rfl plain (by kernel_rfl)
end Go.Proofs.YtmdcknlpalfhhaaGreatDoor.simGoesOn
