/-
  Layer 12 on trees: are two states the same, and the first state of a small model.
-/
import Derived.Test.YtdjjlkekbphbaaaDoorStEnc
import Derived.Test.YtdjjlkekbphbaaaDoorSt3H
namespace Go.Proofs.YtdjjlkekbphbaaaDoor
open Go.RowKit
/-! ### The same -/
theorem equali_spec {x y : List Int} (hx : Len x.length) : VSpec Tryd.prog 55 [] [encL_Int true x, encL_Int true y] [] (boolV (decide (x = y))) := by
  unfold Len at hx
  refine vspec_raw tb_ok mixed Tryd.func55 (by kernel_rfl) rfl (equali_raw _ x y) ⟨fun h => leafB ?_, fun h => ?_⟩
  · symm; rw [decide_eq_false_iff_not]; rintro rfl; simp at h
  · have hlen : x.length = y.length := by simp at h; omega
    refine loop_idx tb_ok mixed x.length (fun k => stEqI x y k) (fun k => ∀ i, i < k → x.getD i 0 = y.getD i 0) (by kernel_rfl) (by kernel_rfl) (fun i hi => by omega) ?_
    intro k hk hI J next
    refine Asks.raw (equali1_raw _ x y k J) ⟨fun hlt => ?_, fun hge => leafB ?_⟩
    · have hlt' : k < x.length := by have := lt_of hlt; omega
      have hto : (k : Int).toNat = k := by omega
      rw [hto]
      refine ⟨⟨by omega, by omega⟩, ⟨by omega, by omega⟩, fun hy => leafB ?_, fun hy => next _ hlt' (succ_of (n := 0) hI (by simpa using hy)) (Up.of ?_)⟩
      · symm; rw [decide_eq_false_iff_not]; rintro rfl; simp at hy
      · rw [wrap_succ (by omega)]; rfl
    · have hge' : x.length ≤ k := by have := ge_of hge; omega
      symm; rw [decide_eq_true_eq]
      exact ext_getD hlen fun i hi => hI i (by omega)
theorem equalm_spec {x y : List Int} (hx : Len x.length) : VSpec Tryd.prog 52 [] [encL_Int true x, encL_Int true y] [] (boolV (decide (x = y))) := by
  unfold Len at hx
  refine vspec_raw tb_ok mixed Tryd.func52 (by kernel_rfl) rfl (equalm_raw _ x y) ⟨fun h => leafB ?_, fun h => ?_⟩
  · symm; rw [decide_eq_false_iff_not]; rintro rfl; simp at h
  · have hlen : x.length = y.length := by simp at h; omega
    refine loop_idx tb_ok mixed x.length (fun k => stEqI x y k) (fun k => ∀ i, i < k → x.getD i 0 = y.getD i 0) (by kernel_rfl) (by kernel_rfl) (fun i hi => by omega) ?_
    intro k hk hI J next
    refine Asks.raw (equalm1_raw _ x y k J) ⟨fun hlt => ?_, fun hge => leafB ?_⟩
    · have hlt' : k < x.length := by have := lt_of hlt; omega
      have hto : (k : Int).toNat = k := by omega
      rw [hto]
      refine ⟨⟨by omega, by omega⟩, ⟨by omega, by omega⟩, fun hy => leafB ?_, fun hy => next _ hlt' (succ_of (n := 0) hI (by simpa using hy)) (Up.of ?_)⟩
      · symm; rw [decide_eq_false_iff_not]; rintro rfl; simp at hy
      · rw [wrap_succ (by omega)]; rfl
    · have hge' : x.length ≤ k := by have := ge_of hge; omega
      symm; rw [decide_eq_true_eq]
      exact ext_getD hlen fun i hi => hI i (by omega)
theorem same11_spec {x y : List Int} (hx : Len x.length) : VSpec Tryd.prog 51 [] [encL_Int true x, encL_Int true y] [] (boolV (decide (x = y))) :=
  vspec_raw tb_ok mixed Tryd.func51 (by kernel_rfl) rfl (same11_raw _ x y) ⟨_, equalm_spec hx, leafB rfl⟩
theorem eqm_spec {x y : List (List Int)} (hx : Len x.length) (hm : ∀ l ∈ x, Len l.length) : VSpec Tryd.prog 50 [] [encL_Ints true x, encL_Ints true y, .fn (.func 51) []] [] (boolV (decide (x = y))) := by
  unfold Len at hx
  refine vspec_raw tb_ok mixed Tryd.func50 (by kernel_rfl) rfl (eqm_raw _ x y) ⟨fun h => leafB ?_, fun h => ?_⟩
  · symm; rw [decide_eq_false_iff_not]; rintro rfl; simp at h
  · have hlen : x.length = y.length := by simp at h; omega
    refine loop_idx tb_ok mixed x.length (fun k => stEqM x y k) (fun k => ∀ i, i < k → x.getD i [] = y.getD i []) (by kernel_rfl) (by kernel_rfl) (fun i hi => by omega) ?_
    intro k hk hI J next
    refine Asks.raw (eqm1_raw _ x y k J) ⟨fun hlt => ?_, fun hge => leafB ?_⟩
    · have hlt' : k < x.length := by have := lt_of hlt; omega
      have hto : (k : Int).toNat = k := by omega
      rw [hto]
      refine ⟨⟨by omega, by omega⟩, ⟨by omega, by omega⟩, _, same11_spec (hm _ (getD_mem hlt')), fun hy => leafB ?_, fun hy => next _ hlt' (succ_of (n := 0) hI (by simpa using hy)) (Up.of ?_)⟩
      · symm; rw [decide_eq_false_iff_not]; rintro rfl; simp at hy
      · rw [wrap_succ (by omega)]; rfl
    · have hge' : x.length ≤ k := by have := ge_of hge; omega
      symm; rw [decide_eq_true_eq]
      exact ext_getD hlen fun i hi => hI i (by omega)
theorem same1_spec {x y : D.Chan} (hx : SmallC x) : VSpec Tryd.prog 49 [] [.agg (enc_Chan x), .agg (enc_Chan y)] [] (boolV (decide (x = y))) :=
  vspec_raw tb_ok mixed Tryd.func49 (by kernel_rfl) rfl (same1_raw _ x y) ⟨decide (x.Queue = y.Queue), fun _ => eqm_spec hx.q hx.m, leafB (by
    obtain ⟨a, b⟩ := x; obtain ⟨c, d⟩ := y
    rw [Bool.eq_iff_iff]; by_cases h : a = c <;> simp [h])⟩
theorem same2_spec {x y : D.Process} (hx : Len x.Frame.length) : VSpec Tryd.prog 54 [] [.agg (enc_Process x), .agg (enc_Process y)] [] (boolV (decide (x = y))) :=
  vspec_raw tb_ok mixed Tryd.func54 (by kernel_rfl) rfl (same2_raw _ x y) ⟨decide (x.Frame = y.Frame), fun _ => equali_spec hx, leafB (by
    obtain ⟨a, b, e, f⟩ := x; obtain ⟨c, d, g, h⟩ := y
    rw [Bool.eq_iff_iff]; by_cases h1 : a = c <;> by_cases h2 : b = d <;> by_cases h3 : e = g <;> simp [h1, h2, h3])⟩
theorem eqc_spec {x y : List D.Chan} (hx : Len x.length) (hm : ∀ l ∈ x, SmallC l) : VSpec Tryd.prog 48 [] [encL_Chan true x, encL_Chan true y, .fn (.func 49) []] [] (boolV (decide (x = y))) := by
  unfold Len at hx
  refine vspec_raw tb_ok mixed Tryd.func48 (by kernel_rfl) rfl (eqc_raw _ x y) ⟨fun h => leafB ?_, fun h => ?_⟩
  · symm; rw [decide_eq_false_iff_not]; rintro rfl; simp at h
  · have hlen : x.length = y.length := by simp at h; omega
    refine loop_idx tb_ok mixed x.length (fun k => stEqC x y k) (fun k => ∀ i, i < k → x.getD i default = y.getD i default) (by kernel_rfl) (by kernel_rfl) (fun i hi => by omega) ?_
    intro k hk hI J next
    refine Asks.raw (eqc1_raw _ x y k J) ⟨fun hlt => ?_, fun hge => leafB ?_⟩
    · have hlt' : k < x.length := by have := lt_of hlt; omega
      have hto : (k : Int).toNat = k := by omega
      rw [hto]
      refine ⟨⟨by omega, by omega⟩, ⟨by omega, by omega⟩, _, same1_spec (hm _ (getD_mem hlt')), fun hy => leafB ?_, fun hy => next _ hlt' (succ_of (n := 0) hI (by simpa using hy)) (Up.of ?_)⟩
      · symm; rw [decide_eq_false_iff_not]; rintro rfl; simp at hy
      · rw [wrap_succ (by omega)]; rfl
    · have hge' : x.length ≤ k := by have := ge_of hge; omega
      symm; rw [decide_eq_true_eq]
      exact ext_getD hlen fun i hi => hI i (by omega)
theorem eqp_spec {x y : List D.Process} (hx : Len x.length) (hm : ∀ l ∈ x, Len l.Frame.length) : VSpec Tryd.prog 53 [] [encL_Process true x, encL_Process true y, .fn (.func 54) []] [] (boolV (decide (x = y))) := by
  unfold Len at hx
  refine vspec_raw tb_ok mixed Tryd.func53 (by kernel_rfl) rfl (eqp_raw _ x y) ⟨fun h => leafB ?_, fun h => ?_⟩
  · symm; rw [decide_eq_false_iff_not]; rintro rfl; simp at h
  · have hlen : x.length = y.length := by simp at h; omega
    refine loop_idx tb_ok mixed x.length (fun k => stEqP x y k) (fun k => ∀ i, i < k → x.getD i default = y.getD i default) (by kernel_rfl) (by kernel_rfl) (fun i hi => by omega) ?_
    intro k hk hI J next
    refine Asks.raw (eqp1_raw _ x y k J) ⟨fun hlt => ?_, fun hge => leafB ?_⟩
    · have hlt' : k < x.length := by have := lt_of hlt; omega
      have hto : (k : Int).toNat = k := by omega
      rw [hto]
      refine ⟨⟨by omega, by omega⟩, ⟨by omega, by omega⟩, _, same2_spec (hm _ (getD_mem hlt')), fun hy => leafB ?_, fun hy => next _ hlt' (succ_of (n := 0) hI (by simpa using hy)) (Up.of ?_)⟩
      · symm; rw [decide_eq_false_iff_not]; rintro rfl; simp at hy
      · rw [wrap_succ (by omega)]; rfl
    · have hge' : x.length ≤ k := by have := ge_of hge; omega
      symm; rw [decide_eq_true_eq]
      exact ext_getD hlen fun i hi => hI i (by omega)
theorem same_spec {x y : D.State} (hx : SmallS' x) : VSpec Tryd.prog 18 [] [.agg (enc_State x), .agg (enc_State y)] [] (boolV (decide (x = y))) :=
  vspec_raw tb_ok mixed Tryd.func18 (by kernel_rfl) rfl (same_raw _ x y) ⟨decide (x.Chans = y.Chans), eqc_spec hx.c hx.cs, decide (x.Procs = y.Procs), eqp_spec hx.p hx.ps, decide (x.Globals = y.Globals), fun _ => equali_spec hx.g, leafB (by
    obtain ⟨a, b, c, d, e, f⟩ := x; obtain ⟨a', b', c', d', e', f'⟩ := y
    rw [Bool.eq_iff_iff]; by_cases h1 : a = a' <;> by_cases h2 : b = b' <;> by_cases h3 : c = c' <;> by_cases h4 : d = d' <;> by_cases h5 : e = e' <;> simp [h1, h2, h3, h4, h5])⟩
/-! ### The first state of a small model -/
def firP (p : D.Proc) : D.Process := ⟨0, p.Start, p.Prio, p.Init⟩
def firS (m : D.Model) (p : D.Proc) : D.State := ⟨m.Init, [], [firP p, firP p], 0, -1, -1⟩
theorem begin_spec {m : D.Model} {typ : Int} {F : Nat → List VV} (hl : 0 ≤ typ ∧ typ < m.Procs.length) (hi : Len (prAt m typ).Init.length) : VSpec Tryd.prog 47 [] [.agg (enc_Model m), intV typ, .sl false 0 1 F] [] (.agg (enc_Process ⟨typ, (prAt m typ).Start, (prAt m typ).Prio, (prAt m typ).Init⟩)) := by
  have h0 : VSpec Tryd.prog 47 [] [.agg (enc_Model m), intV typ, encL_Int false []] [] (.agg (enc_Process ⟨typ, (prAt m typ).Start, (prAt m typ).Prio, (prAt m typ).Init⟩)) := by
    refine vspec_raw tb_ok mixed Tryd.func47 (by kernel_rfl) rfl (begin_raw _ m typ []) ⟨hl, (prAt m typ).Init, clone_at hi rfl (fun _ _ => rfl), ?_⟩
    refine loop_idx tb_ok mixed 0 (fun k => stBeg m typ (prAt m typ) (prAt m typ).Init [] k) (fun _ => True) (by kernel_rfl) (by kernel_rfl) trivial ?_
    intro k hk _ J next
    refine Asks.raw (begin1_raw _ m typ (prAt m typ) _ [] k J) ⟨fun hlt => ?_, fun _ => ⟨trivial, VV.le_refl _⟩⟩
    have := lt_of hlt
    simp at this; omega
  exact h0.le trivial ⟨VV.le_refl _, VV.le_refl _, VV.le_sl (.inl rfl) fun i hi => absurd hi (by simp), trivial⟩ trivial (VV.le_refl _)
theorem first_spec {m : D.Model} {p : D.Proc} (hw : wf_Model m) (hmay : mayP m = true) (hc : m.Chans = []) (hp : m.Procs = [p]) (ha : p.Active = 2) (hn : p.Params = 0) (hcl : m.Claim = -1) : VSpec Tryd.prog 16 [] [.agg (enc_Model m)] [] (.tup [.agg (enc_State (firS m p)), intV 0]) := by
  have hgi : Len m.Init.length := by have := hw.Init.1; unfold Len; omega
  have hp1 : m.Procs.length = 1 := by rw [hp]; rfl
  have hpi : Len p.Init.length := by have := (hw.Procs.2 p (by rw [hp]; simp)).Init.1; unfold Len; omega
  have hp0 : m.Procs.getD 0 default = p := by rw [hp]; rfl
  refine vspec_raw tb_ok mixed Tryd.func16 (by kernel_rfl) rfl (first_raw _ _ m) ⟨mayP m, may_spec hw, fun h => absurd h (by rw [hmay]; simp), fun _ => ⟨m.Init, clone_at hgi rfl (fun _ _ => rfl), ?_⟩⟩
  refine loop_raw tb_ok mixed (fun gg st => gg = 0 ∧ st = stFir1 m 0) (by kernel_rfl) (by kernel_rfl) ⟨_, Up.of ⟨rfl, rfl⟩⟩ ?_
  rintro gg st ⟨rfl, rfl⟩
  refine Asks.raw (first1_raw _ _ m 0 _) ⟨fun hlt => ?_, fun _ => ?_⟩
  · have := lt_of hlt
    rw [hc] at this; simp at this
  refine loop_raw tb_ok mixed (fun gg st => ∃ (k : Nat), k ≤ 1 ∧ gg = 1 - k ∧ st = stFir2 m m.Init (List.replicate (2 * k) (firP p)) k) (by kernel_rfl) (by kernel_rfl)
    ⟨_, Up.cv (Cv.ownBox 2 2 4 (rowsPr []) rfl rfl) (Up.of ⟨0, by omega, rfl, rfl⟩)⟩ ?_
  rintro gg st ⟨k, hk, rfl, rfl⟩
  refine Asks.raw (first2_raw _ _ m m.Init _ k _) ⟨fun hlt => ?_, fun hge => ?_⟩
  · obtain rfl : k = 0 := by have := lt_of hlt; omega
    refine ⟨by omega, ?_⟩
    rw [show ((0 : Nat) : Int).toNat = 0 from rfl, hp0]
    refine loop_raw tb_ok mixed (fun gg st => ∃ (j : Nat), j ≤ 2 ∧ gg = 2 - j ∧ st = stFir3 m m.Init (List.replicate j (firP p)) 0 p p.Active j) (by kernel_rfl) (by kernel_rfl)
      ⟨_, Up.of ⟨0, by omega, rfl, rfl⟩⟩ ?_
    rintro gg st ⟨j, hj, rfl, rfl⟩
    refine Asks.raw (first3_raw _ _ m m.Init _ 0 p p.Active j _ _) ⟨fun hlt2 => ?_, fun hge2 => ?_⟩
    · have hlt2' := lt_of hlt2
      refine ⟨by rw [hn]; decide, firP p, ?_, by simp <;> omega, 2 - (j + 1), by omega, ?_⟩
      · have hb := fun F => begin_spec (m := m) (typ := 0) (F := F) (by omega) (by show Len (m.Procs.getD 0 default).Init.length; rw [hp0]; exact hpi)
        rw [show prAt m 0 = p from hp0] at hb
        rw [hn]
        exact hb _
      · rw [wrap_succ (by omega)]
        refine Up.mk (l' := [(1, .bp 0 0), (2, .bp 1 0), (4, .bp 2 0), (7, intV 0), (8, .bp 4 0), (33, encL_Proc true m.Procs), (34, intV m.Procs.length), (35, intV 0), (41, intV p.Active), (42, intV ((j + 1 : Nat) : Int))])
          (hs' := [.box (enc_Model m), boxZ, bxFir m.Init (List.replicate (j + 1) (firP p)).length, .arr true 0 (List.replicate (j + 1) (firP p)).length 4 (rowsPr (List.replicate (j + 1) (firP p))), .box (enc_Proc p)]) (leT_refl _) ?_
          ⟨j + 1, by omega, rfl, rfl⟩
        have e : List.replicate (j + 1) (firP p) = List.replicate j (firP p) ++ [firP p] := List.replicate_succ'
        rw [e, show (List.replicate j (firP p)).length + 1 = (List.replicate j (firP p) ++ [firP p]).length by simp]
        exact ⟨Ob.le_refl _, Ob.le_refl _, Ob.le_refl _, Ob.le_arr fun i hi => leL_eq (rows_app (f := enc_Process) (d := default) (l := List.replicate j (firP p)) (r := [firP p]) (F := fun i => enc_Process ((List.replicate j (firP p)).getD i default)) (G := fun i => List.take 4 (List.drop (i * 4) (enc_Process (firP p)))) (fun _ _ => rfl) (one_at (f := enc_Process) (d := default) (x := firP p) (G := fun i => List.take 4 (List.drop (i * 4) (enc_Process (firP p)))) rfl) hi), Ob.le_refl _, trivial⟩
    · obtain rfl : j = 2 := by have := ge_of hge2; omega
      exact ⟨0, by omega, Up.of ⟨1, by omega, rfl, by rfl⟩⟩
  · obtain rfl : k = 1 := by have := ge_of hge; omega
    exact ⟨fun h => absurd h (by rw [hcl]; simp), fun _ => ⟨trivial, VV.le_tup ⟨VV.le_agg ⟨VV.le_refl _, VV.le_nil, VV.le_refl _, VV.le_refl _, VV.le_refl _, VV.le_refl _, trivial⟩, VV.le_refl _, trivial⟩⟩⟩
theorem one_row {fz : Bool} {s : Nat} {f f' : Nat → List VV} (h : leL (f 0) (f' 0)) : VV.le (.sl fz 1 s f) (.sl fz 1 s f') := VV.le_sl (.inl rfl) fun i hi => by
  obtain rfl : i = 0 := by omega
  exact h
def twoM : D.Model := ⟨[⟨8, false⟩], [3], [], [], [⟨ByteArray.empty, 0, [], [], [⟨[], [], false, false, false, false, false⟩], 0, 0, 2, 1, -1⟩], -1, []⟩
theorem two_spec : VSpec Tryd.prog 17 [] [] [] (.agg (enc_Model twoM)) :=
  vspec_raw tb_ok mixed Tryd.func17 (by kernel_rfl) rfl (two_raw twoM) ⟨trivial, VV.le_agg ⟨one_row ⟨VV.le_refl _, VV.le_refl _, trivial⟩, one_row ⟨VV.le_refl _, trivial⟩, VV.le_nil, VV.le_nil, one_row ⟨VV.le_refl _, VV.le_refl _, VV.le_nil, VV.le_nil, one_row ⟨VV.le_nil, VV.le_nil, VV.le_refl _, VV.le_refl _, VV.le_refl _, VV.le_refl _, VV.le_refl _, trivial⟩, VV.le_refl _, VV.le_refl _, VV.le_refl _, VV.le_refl _, VV.le_refl _, trivial⟩, VV.le_refl _, VV.le_nil, trivial⟩⟩
theorem may_two : mayP twoM = true := by kernel_rfl
end Go.Proofs.YtdjjlkekbphbaaaDoor
