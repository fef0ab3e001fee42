/-
  The law ChansQueue: opened, walked, closed.
-/
import Derived.Test.YtnodhjlpoaahbaaChQueW
import Derived.Test.YtnodhjlpoaahbaaLawKit
import Derived.Deep.CondSized
import Derived.OpenShut
namespace Go.Proofs.Ytnodhjlpoaahbaa.chansQueue
open Go.ChangeShapes Go.WideShapes Go.ChangeAt Go.RowKit
open Go.Proofs.Ytnodhjlpoaahbaa

theorem small_def {l : List (List Int)} (h1 : l.length * 24 ≤ reachBytes) (h2 : ∀ m ∈ l, m.length * 8 ≤ reachBytes) : Small l := by
  have e := reachBytes_lt
  exact ⟨by omega, fun m hm => by have := h2 m hm; omega⟩
/-- What the reading says, said of trees. -/
theorem v_is_M {w : World} {E : Prot} (hE : ∀ k, ¬ E.fz k) {m : Option Phi} {x : List Int} {v : Value} (h : Is pM w [v] x) : V w E m (encM true x) v ∧ WfM x := by
  obtain ⟨ao, cap, rfl, h1, h2, h3, h4⟩ := is_ints h
  refine ⟨V.sl_mk h1 h2 fun hp => ?_, fun y hy => ?_⟩
  · obtain ⟨b, off, rfl, hb, hc⟩ := h4 hp
    refine ⟨b, off, rfl, hb, hE b, fun i _ => rfl, fun i _ => .int .i64 (x.getD i 0), fun i j y hi hy => ?_, fun i j y hi hy => ?_⟩
    · match j, hy with
      | 0, _ =>
        have := hc i hi
        simp only [Nat.mul_one, Nat.add_zero]
        exact this
      | j + 1, hy => simp at hy
    · match j, hy with
      | 0, hy => simp only [List.getElem?_cons_zero, Option.some.injEq] at hy; subst hy; exact .sc
      | j + 1, hy => simp at hy
  · obtain ⟨i, hi, rfl⟩ := List.mem_iff_getElem.1 hy
    have := h3 i hi
    rwa [getD_of (List.getElem?_eq_getElem hi)] at this
theorem v_is_Q {w : World} {E : Prot} (hE : ∀ k, ¬ E.fz k) {m : Option Phi} {q : List (List Int)} {v : Value} (h : Is pQ w [v] q) : V w E m (encQ q) v ∧ WfQ q := by
  obtain ⟨ao, cap, rfl, h1, h2, h3⟩ := is_slice1 h
  refine ⟨V.sl_mk h1 h2 fun hp => ?_, fun y hy => ?_⟩
  · obtain ⟨b, off, rfl, hb, hel⟩ := h3 hp
    refine ⟨b, off, rfl, hb, hE b, fun i _ => rfl, fun i _ => (w.cell? ⟨b, off + i, none⟩).getD undef, fun i j y hi hy => ?_, fun i j y hi hy => ?_⟩
    · match j, hy with
      | 0, _ =>
        obtain ⟨u, h4, _⟩ := hel i (q.getD i []) (by simp [List.getD, hi])
        simp only [Nat.mul_one, Nat.add_zero]
        rw [h4]; rfl
      | j + 1, hy => simp at hy
    · match j, hy with
      | 0, hy =>
        simp only [List.getElem?_cons_zero, Option.some.injEq] at hy; subst hy
        obtain ⟨u, h4, hu⟩ := hel i (q.getD i []) (by simp [List.getD, hi])
        show V w E.hold none _ ((w.cell? ⟨b, off + i, none⟩).getD undef)
        rw [h4]; exact (v_is_M (E := E.hold) hE hu).1
      | j + 1, hy => simp at hy
  · obtain ⟨i, hi, rfl⟩ := List.mem_iff_getElem.1 hy
    have hp : 0 < q.length := by omega
    obtain ⟨b, off, rfl, hb, hel⟩ := h3 hp
    obtain ⟨u, h4, hu⟩ := hel i q[i] (List.getElem?_eq_getElem hi)
    exact (v_is_M (m := m) hE hu).2
theorem v_is_Ts {w : World} {E : Prot} (hE : ∀ k, ¬ E.fz k) {m : Option Phi} {l : List D.Type} {v : Value} (h : Is (Pkg.slice 2 16 p_Type) w [v] l) : V w E m (encTs l) v ∧ WfTs l := by
  obtain ⟨ao, cap, rfl, h1, h2, h3⟩ := is_slice h
  have key : ∀ (cs : List Value) (y : D.Type), Is p_Type w cs y → cs = [.int .i64 y.Bits, .bool y.Signed] ∧ (Lit.int .i64 y.Bits).wf = true := by
    intro cs y hy
    obtain ⟨b, rfl, hw, hb⟩ := is_cons_int.1 (is_via.1 hy)
    obtain ⟨c, rfl, hc⟩ := is_cons_bool.1 hb
    obtain rfl := is_unit.1 hc
    exact ⟨rfl, hw⟩
  refine ⟨V.sl_mk h1 h2 fun hp => ?_, fun y hy => ?_⟩
  · obtain ⟨b, off, rfl, hb, hel⟩ := h3 hp
    refine ⟨b, off, rfl, hb, hE b, fun i _ => rfl, fun i j => ([.int .i64 (l.getD i default).Bits, .bool (l.getD i default).Signed] : List Value).getD j undef, fun i j y hi hy => ?_, fun i j y hi hy => ?_⟩
    · obtain ⟨es, he, hc, hx⟩ := hel i (l.getD i default) (by simp [List.getD, hi])
      obtain ⟨rfl, _⟩ := key _ _ hx
      match j, hy with
      | 0, _ => exact hc 0 (by omega)
      | 1, _ => exact hc 1 (by omega)
      | j + 2, hy => simp [encT] at hy
    · match j, hy with
      | 0, hy => simp only [encT, List.getElem?_cons_zero, Option.some.injEq] at hy; subst hy; exact .sc
      | 1, hy => simp only [encT, List.getElem?_cons_succ, List.getElem?_cons_zero, Option.some.injEq] at hy; subst hy; exact .sc
      | j + 2, hy => simp [encT] at hy
  · obtain ⟨i, hi, rfl⟩ := List.mem_iff_getElem.1 hy
    obtain ⟨b, off, rfl, hb, hel⟩ := h3 (by omega)
    obtain ⟨es, he, hc, hx⟩ := hel i l[i] (List.getElem?_eq_getElem hi)
    exact (key _ _ hx).2
theorem says_two {w : World} {m : Option Phi} {x y : VV} {a b : Value} (h1 : V w ⟨fun _ => False, fun _ => False⟩ m x a) (h2 : V w ⟨fun _ => False, fun _ => False⟩ m y b) : Says w ⟨fun _ => False, fun _ => False⟩ m [x, y] #[a, b] :=
  ⟨rfl, fun j z hz => by
    match j, hz with
    | 0, hz => simp only [List.getElem?_cons_zero, Option.some.injEq] at hz; subst hz; exact h1
    | 1, hz => simp only [List.getElem?_cons_succ, List.getElem?_cons_zero, Option.some.injEq] at hz; subst hz; exact h2
    | j + 2, hz => simp at hz⟩
theorem walk {w : World} {cs : Array Value} {v1 : Value} {sh : D.Shape} {l : List (List Int)} (hsh : Is p_Shape w cs.toList sh) (hsr : p_Shape.rho sh) (hl : Is pQ w [v1] l) (hlr : pQ.rho l) :
    Calls Try.prog 7 #[.agg cs, v1] w fun e w' => e = .returned (.bool true) ∧ Below w.heap.size w w' := by
  obtain ⟨b, hb, hw, hb2⟩ := is_cons_int.1 (is_via.1 hsh)
  obtain ⟨v, c, rfl, hts, hc⟩ := is_cons_slice.1 hb2
  obtain rfl := is_unit.1 hc
  obtain rfl : cs = #[.int .i64 sh.Room, v] := by cases cs; simpa using hb
  obtain ⟨q1, q2⟩ := v_is_Ts (E := ⟨fun _ => False, fun _ => False⟩) (fun _ h => h) (m := none) hts
  obtain ⟨q3, q4⟩ := v_is_Q (E := ⟨fun _ => False, fun _ => False⟩) (fun _ h => h) (m := none) hl
  have hr2 : sh.Fields.length * 16 ≤ reachBytes := hsr.2.1.1
  have hlt := reachBytes_lt
  refine ((que_spec (room := sh.Room) q2 q4 (small_def hlr.1 fun m hm => (hlr.2 m hm).1) (by show sh.Fields.length * 8 ≤ _; omega)).start (says_two (v_agg2 .sc q1) q3)).mono ?_
  rintro e w' ⟨u, rfl, hbel, hu⟩
  exact ⟨by rw [hu.sc_inv], hbel⟩
set_option maxRecDepth 100000 in
theorem lifted (os : Os) (started : os.Started) (H : Type) (enc : TypeId × Value → H) (F : Stop.Interp) :
    ReturnsInHanded {} Try.checked os 7 .any ((Rows.OpenSpec.upto Rows.chansQueueSpec).pre6 enc Try.prog Try.f7 Rows.chansQueueUptoRow.domain false) (((Rows.OpenSpec.upto Rows.chansQueueSpec).at F).post enc Try.prog Try.f7 false true false false) := by
  refine returnsInHanded_of_cond_sized (C := Try.checked) (s := Rows.OpenSpec.upto Rows.chansQueueSpec) (k := Rows.uptoSmall) rfl own started (by kernel_rfl) Try.func7
    (OpenSpec.witness (enc := enc) (C := Try.checked) (s := Rows.OpenSpec.upto Rows.chansQueueSpec) (k := Rows.uptoSmall) rfl false ⟨#[], #[.agg #[.int .i64 0, .slice none 0 0], .slice none 0 0], []⟩ 8 (by kernel_rfl) (by kernel_rfl) (by kernel_rfl)
      (x := ([.agg [.lit (.int .i64 0), .nil], .nil], [], [])) (by kernel_rfl) rfl (by kernel_rfl)) ?_
  intro W base args ds gs before hval0 hW hcnd hk hsz _
  have hval : ∀ (j : Nat) t v, Try.f7.params[j]? = some t → args[j]? = some v → Value.okWide Try.prog W .any base t v := hval0
  have hW' := hW
  obtain ⟨p, q, hA0, hV, rfl, hfz, hnd⟩ := hW
  have hA : DataW.TrodAll enc Try.prog W 0 (fun _ => true) true Try.f7.params.toList args.toList ds p := hA0
  rw [Try.params7] at hA hval hsz
  obtain ⟨v0, v1, d0, d1, p0, p1, rfl, rfl, rfl, h0, h1⟩ := trodAll_two hA
  obtain ⟨sh, hsh, _, hsr⟩ := Pkg.open_one opens_Shape h0
  have hsr := hsr fun n hn => of_decide_eq_true (List.all_eq_true.1 hsz n (DataW.weights_mem_each (j := 0) rfl rfl n hn))
  obtain ⟨cs, rfl, hcs⟩ := okWide_struct Try.underlying52 (hval 0 52 v0 rfl rfl)
  obtain ⟨l, hl, _, hlr⟩ := Pkg.open_one (Pkg.opens_slice (size := 1) (bytes := 24) Try.underlying53 (by kernel_rfl) (by kernel_rfl) (by decide) (Pkg.opens_slice (size := 1) (bytes := 8) Try.underlying57 (by kernel_rfl) (by kernel_rfl) (by decide) (Pkg.opens_int Try.underlying2))) h1
  have hlr := hlr fun n hn => of_decide_eq_true (List.all_eq_true.1 hsz n (DataW.weights_mem_each (j := 1) rfl rfl n hn))
  have hv := okWide_slice Try.underlying53 (hval 1 53 v1 rfl rfl)
  have hl : Is pQ W [v1] l := by obtain ⟨a0, len, cap, rfl⟩ := hv; exact hl
  refine (walk hsh hsr hl hlr).mono fun e W' ⟨he, hb⟩ => ?_
  subst he
  exact ⟨_, rfl, law_post laidOut (by kernel_rfl) rfl Try.underlying4 rfl hW' (fun ds h => match ds, h with | [_, _], _ => rfl) hb⟩

theorem proved : Rows.ChansQueueUptoSaid :=
  OpenClaim.holds_of_cond 7 Try.f7 rfl rfl rfl rfl rfl rfl rfl ⟨rfl, rfl, rfl, rfl, rfl⟩ rfl rfl rfl rfl rfl (by kernel_rfl) Try.func7 (by kernel_rfl)
    (of_decide_eq_true (by kernel_rfl)) (by unfold Func.isWrapper; first | (rw [if_pos (by decide +kernel)]; kernel_rfl) | (rw [if_neg (by decide +kernel)]; exact ⟨rfl, rfl⟩))
    (fun os started H enc _ F => lifted os started H enc F)
end Go.Proofs.Ytnodhjlpoaahbaa.chansQueue
