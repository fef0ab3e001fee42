/-
  The law ChansPut: opened, walked, closed.
-/
import Derived.Test.YtiflenddalmfaaaCpL
import Derived.Test.YtiflenddalmfaaaLawKit
import Derived.SizedLaws
import Derived.JoinedOf
import Derived.OpenShut
namespace Go.Proofs.Ytiflenddalmfaaa.chansPut
open Go.ChangeShapes Go.WideShapes Go.ChangeAt Go.RowKit
open Go.Proofs.Ytiflenddalmfaaa

theorem walk {w : World} {cs ds : Array Value} {v2 : Value} {sh : D.Shape} {c : D.Chan} {m : List Int} (hsh : Is p_Shape w cs.toList sh) (hc : Is p_Chan w ds.toList c) (hcr : p_Chan.rho c) (hm : Is pM w [v2] m) (hmr : pM.rho m) :
    Calls Try.prog 3 #[.agg cs, .agg ds, v2] w fun e w' => e = .returned (.bool true) ∧ Below w.heap.size w w' := by
  obtain ⟨b, hb, hw, hb2⟩ := is_cons_int.1 (is_via.1 hsh)
  obtain ⟨v, b2, rfl, hts, hb2⟩ := is_cons_slice.1 hb2
  obtain rfl := is_unit.1 hb2
  obtain rfl : cs = #[.int .i64 sh.Room, v] := by cases cs; simpa using hb
  obtain ⟨b, hd, hw', hd2⟩ := is_cons_int.1 (is_via.1 hc)
  obtain ⟨v', b2, rfl, hq, hd2⟩ := is_cons_slice.1 hd2
  obtain rfl := is_unit.1 hd2
  obtain rfl : ds = #[.int .i64 c.Shape, v'] := by cases ds; simpa using hd
  have hq : Is pQ w [v'] c.Queue := hq
  have hlt := reachBytes_lt
  have e : reachBytes = 140737488351232 := rfl
  have hq1 : c.Queue.length * 24 ≤ reachBytes := hcr.2.1.1
  have hq2 : ∀ y ∈ c.Queue, y.length * 8 ≤ reachBytes := fun y hy => (hcr.2.1.2 y hy).1
  have hm1 : m.length * 8 ≤ reachBytes := hmr.1
  exact law_calls sh.Room c.Shape hts hq hm ⟨small_def hq1 hq2, by omega, by omega⟩
set_option maxRecDepth 100000 in
theorem lifted (os : Os) (started : os.Started) (H : Type) (enc : TypeId × Value → H) :
    ReturnsInHanded {} Try.checked os 3 .any (Rows.chansPutSpec.pre6 enc Try.prog Try.f3 Rows.chansPutRow.domain false) (Rows.chansPutSpec.post enc Try.prog Try.f3 false true false false) := by
  refine returnsInHanded_of_change_sized (C := Try.checked) own started (by kernel_rfl) Try.func3
    (ChangeSpec.witness6 (enc := enc) (C := Try.checked) false ⟨#[], #[.agg #[.int .i64 0, .slice none 0 0], .agg #[.int .i64 0, .slice none 0 0], .slice none 0 0], []⟩ 8 (by kernel_rfl) (by kernel_rfl) (by kernel_rfl) (by kernel_rfl)) ?_
  intro W base args ds gs before hval0 hW hcnd hsz _
  have hval : ∀ (j : Nat) t v, Try.f3.params[j]? = some t → args[j]? = some v → Value.okWide Try.prog W .any base t v := hval0
  have hW' := hW
  obtain ⟨p, q, hA0, hV, rfl, hfz, hnd⟩ := hW
  have hA : DataW.TrodAll enc Try.prog W 0 (fun _ => true) true Try.f3.params.toList args.toList ds p := hA0
  rw [Try.params3] at hA hval hsz
  obtain ⟨v0, v1, v2, d0, d1, d2, p0, p1, p2, rfl, rfl, rfl, h0, h1, h2⟩ := trodAll_three hA
  obtain ⟨sh, hsh, _, hsr⟩ := Pkg.open_one opens_Shape h0
  obtain ⟨cs, rfl, hcs⟩ := okWide_struct Try.underlying24 (hval 0 24 v0 rfl rfl)
  obtain ⟨c, hc, _, hcr⟩ := Pkg.open_one opens_Chan h1
  have hcr := hcr fun n hn => of_decide_eq_true (List.all_eq_true.1 hsz n (DataW.weights_mem_each (j := 1) rfl rfl n hn))
  obtain ⟨es, rfl, hes⟩ := okWide_struct Try.underlying27 (hval 1 27 v1 rfl rfl)
  obtain ⟨m, hm, _, hmr⟩ := Pkg.open_one (Pkg.opens_slice (size := 1) (bytes := 8) Try.underlying29 (by kernel_rfl) (by kernel_rfl) (by decide) (Pkg.opens_int Try.underlying2)) h2
  have hmr := hmr fun n hn => of_decide_eq_true (List.all_eq_true.1 hsz n (DataW.weights_mem_each (j := 2) rfl rfl n hn))
  have hv := okWide_slice Try.underlying29 (hval 2 29 v2 rfl rfl)
  have hm : Is pM W [v2] m := by obtain ⟨a0, len, cap, rfl⟩ := hv; exact hm
  refine (walk hsh hc hcr hm hmr).mono fun e W' ⟨he, hb⟩ => ?_
  subst he
  exact ⟨_, rfl, law_post laidOut (by kernel_rfl) rfl Try.underlying4 rfl hW' (fun ds h => match ds, h with | [_, _, _], _ => rfl) hb⟩

theorem over : Rows.chansPutRow.holds Try.pinned (OpenSpec.ofChange Rows.chansPutSpec) :=
  OpenClaim.holds_of_wide 3 Try.f3 rfl rfl rfl rfl rfl rfl rfl ⟨rfl, rfl, rfl, rfl, rfl⟩ rfl rfl rfl rfl rfl (by kernel_rfl) Try.func3 (by kernel_rfl)
    (of_decide_eq_true (by kernel_rfl)) (by unfold Func.isWrapper; first | (rw [if_pos (by decide +kernel)]; kernel_rfl) | (rw [if_neg (by decide +kernel)]; exact ⟨rfl, rfl⟩))
    (fun os started H enc _ => lifted os started H enc)

theorem proved : Rows.ChansPutSaid := over
end Go.Proofs.Ytiflenddalmfaaa.chansPut
