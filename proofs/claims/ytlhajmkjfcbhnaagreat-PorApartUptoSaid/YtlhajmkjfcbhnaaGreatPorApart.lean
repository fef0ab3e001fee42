/-
  The law PorApart: what a process does at a place of its own and what any other one does next to it don't touch. (Of arguments of bulk at most 1048576.)
-/
import Derived.Test.YtlhajmkjfcbhnaaGreatPkE
import Derived.JoinedCond
import Derived.OpenShut
namespace Go.Proofs.YtlhajmkjfcbhnaaGreat.porApart
open Go.ChangeShapes Go.WideShapes Go.ChangeAt Go.RowKit
open Go.Proofs.YtlhajmkjfcbhnaaGreat
theorem Lu {w : World} {E : A0} {x y : VV} {u v : Value} (h1 : V w E none x u) (h2 : V w E none y v) : DM w E none [x, y] #[u, v] := by
  refine ⟨rfl, fun j q hq => ?_⟩
  match j, hq with
  | 0, hq => obtain rfl := Option.some.inj hq; exact h1
  | 1, hq => obtain rfl := Option.some.inj hq; exact h2
  | j + 2, hq => simp at hq
theorem walk {w : World} {cs cs2 : Array Value} {x : D.Model} {s : D.State} (hx : Is NZ w cs.toList x) (hmu : NZ.mu x ≤ 1048576) (hx2 : Is NX w cs2.toList s) (hmu2 : NX.mu s ≤ 1048576) :
    Calls Tryz.prog 3 #[.agg cs, .agg cs2] w fun e w' => e = .returned (.bool true) ∧ Below w.heap.size w w' := by
  obtain ⟨h1, h2, h3⟩ := Aft.ok (E := ⟨fun _ => False, fun _ => False, 0, []⟩) (m := none) (fun _ h => h) hmu hx
  obtain ⟨k1, k2, k3⟩ := Afr.ok (E := ⟨fun _ => False, fun _ => False, 0, []⟩) (m := none) (fun _ h => h) hmu2 hx2
  refine ((AbC h3 (Ac3 k3)).start trivial (fun k hk => by cases hk) (Lu (.agg h1 fun j y hy => ?_) (.agg k1 fun j y hy => ?_))).mono ?_
  · have := h2 j y hy
    rwa [show cs.toList.getD j undef = cs.getD j undef by simp [List.getD, Array.getD_eq_getD_getElem?]] at this
  · have := k2 j y hy
    rwa [show cs2.toList.getD j undef = cs2.getD j undef by simp [List.getD, Array.getD_eq_getD_getElem?]] at this
  rintro e w' ⟨u, rfl, hbel, hu⟩
  exact ⟨by rw [hu.sc_inv], hbel⟩
set_option maxRecDepth 100000 in
theorem lifted (os : Os) (started : os.Started) (H : Type) (enc : TypeId × Value → H) (F : Stop.Interp) :
    ReturnsInHanded {} Tryz.checked os 3 .any ((Rows.OpenSpec.upto Rows.porApartSpec).pre6 enc Tryz.prog Tryz.f3 Rows.porApartUptoRow.domain false) (((Rows.OpenSpec.upto Rows.porApartSpec).at F).post enc Tryz.prog Tryz.f3 false true false false) := by
  refine returnsInHanded_of_cond (C := Tryz.checked) (s := Rows.OpenSpec.upto Rows.porApartSpec) (k := Rows.uptoSmall) rfl own started (by kernel_rfl) Tryz.func3
    (OpenSpec.witness (enc := enc) (C := Tryz.checked) (s := Rows.OpenSpec.upto Rows.porApartSpec) (k := Rows.uptoSmall) rfl false ⟨#[], #[.agg #[.slice none 0 0, .slice none 0 0, .slice none 0 0, .slice none 0 0, .slice none 0 0, .int .i64 0, .slice none 0 0], .agg #[.slice none 0 0, .slice none 0 0, .slice none 0 0, .int .i64 0, .int .i64 0, .int .i64 0]], []⟩ 8 (by kernel_rfl) (by kernel_rfl) (by kernel_rfl)
      (x := ([.agg [.nil, .nil, .nil, .nil, .nil, .lit (.int .i64 0), .nil], .agg [.nil, .nil, .nil, .lit (.int .i64 0), .lit (.int .i64 0), .lit (.int .i64 0)]], [], [])) (by kernel_rfl) rfl (by kernel_rfl)) ?_
  intro W base args ds gs before hval0 hW hcnd hcond _
  have hcond : Rows.uptoSmall H (ds ++ gs) = true := hcond
  have hval : ∀ (j : Nat) t v, Tryz.f3.params[j]? = some t → args[j]? = some v → Value.okWide Tryz.prog W .any base t v := hval0
  have hW' := hW
  obtain ⟨p, q, hA0, hV, rfl, hfz, hnd⟩ := hW
  have hA : DataW.TrodAll enc Tryz.prog W 0 (fun _ => true) true Tryz.f3.params.toList args.toList ds p := hA0
  rw [Tryz.params3] at hA hval
  obtain ⟨v0, v1, d0, d1, p0, p1, rfl, rfl, rfl, h0, h1⟩ := trodAll_two hA
  obtain ⟨x, hx, hmu, _⟩ := Pkg.open_one Ut h0
  obtain ⟨cs, rfl, hcs⟩ := okWide_struct Tryz.underlying29 (hval 0 29 v0 rfl rfl)
  obtain ⟨s, hs, hms, _⟩ := Pkg.open_one Ur h1
  obtain ⟨cs2, rfl, hcs2⟩ := okWide_struct Tryz.underlying33 (hval 1 33 v1 rfl rfl)
  have hbulk : Rows.uptoBulk d0 + Rows.uptoBulk d1 ≤ 1048576 := by
    have h := of_decide_eq_true hcond
    have e : Rows.uptoBulkAll ([d0, d1] ++ gs) = Rows.uptoBulk d0 + (Rows.uptoBulk d1 + Rows.uptoBulkAll gs) := by
      simp only [List.cons_append, List.nil_append, Rows.uptoBulkAll]
    rw [e] at h
    omega
  refine (walk hx (by omega) hs (by omega)).mono fun e W' ⟨he, hb⟩ => ?_
  subst he
  exact ⟨_, rfl, Ae7 AgW (by kernel_rfl) rfl Tryz.underlying4 rfl hW' (fun ds h => match ds, h with | [_, _], _ => rfl) hb⟩
theorem proved : Rows.PorApartUptoSaid :=
  OpenClaim.holds_of_cond 3 Tryz.f3 rfl rfl rfl rfl rfl rfl rfl ⟨rfl, rfl, rfl, rfl, rfl⟩ rfl rfl rfl rfl rfl (by kernel_rfl) Tryz.func3 (by kernel_rfl)
    (of_decide_eq_true (by kernel_rfl)) (by unfold Func.isWrapper; first | (rw [if_pos (by decide +kernel)]; kernel_rfl) | (rw [if_neg (by decide +kernel)]; exact ⟨rfl, rfl⟩))
    (fun os started H enc _ F => lifted os started H enc F)
end Go.Proofs.YtlhajmkjfcbhnaaGreat.porApart
