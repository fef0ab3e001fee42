/-
  Texts, joined: ExW1, ExW2, ExW3, ExW4, ExW5.
-/
import Derived.Test.YthmhbmikcdfkcaaDoorGpF
import Derived.Test.YthmhbmikcdfkcaaDoorExP
import Derived.Test.YthmhbmikcdfkcaaDoorExOne
/-
  Layer 14 on trees, I: what an expression is reckoned to; the parts.
-/
namespace Go.Proofs.YthmhbmikcdfkcaaDoor
open Go.RowKit

/-! ### What is known of a state that may be, in a model that may be -/
theorem tab_exprs {m : D.Model} (h : tablesP m = (0, 0)) : exprsP m < 0 := by
  unfold tablesP at h
  generalize (decide (128 < m.Globals.length) || !decide (m.Init.length = m.Globals.length)) = c1 at h
  generalize decide (0 ≤ typesP m.Globals m.Init) = c2 at h
  generalize (decide (32 < m.Shapes.length) || decide (32 < m.Chans.length)) = c3 at h
  generalize decide (0 ≤ shapesP m) = c4 at h
  generalize decide (0 ≤ chansP m) = c5 at h
  generalize (decide (m.Procs.length < 1) || (decide (16 < m.Procs.length) || (decide (m.Claim < -1) || (decide ((m.Procs.length : Int) ≤ m.Claim) || decide (4096 < m.Exprs.length))))) = c6 at h
  cases c7 : decide (0 ≤ exprsP m) with
  | true => rw [c7] at h; cases c1 <;> cases c2 <;> cases c3 <;> cases c4 <;> cases c5 <;> cases c6 <;> simp at h
  | false => have := of_decide_eq_false c7; omega
structure EnvOk (e : D.Env) : Prop where
  fits : stFits e.M e.S = true
  may : mayP e.M = true
  wf : wf_Model e.M
  pid : -1 ≤ e.Pid ∧ e.Pid < e.S.Procs.length
section
variable {e : D.Env}
theorem EnvOk.fit (h : EnvOk e) : Fit e.S := fit_of h.may h.fits
theorem EnvOk.tab (h : EnvOk e) : TabOk e.M := tab_ok (ok_tables h.may).1
theorem EnvOk.expr (h : EnvOk e) : ∀ i : Nat, i < e.M.Exprs.length → exprP e.M i = true := exprs_ok (tab_exprs (ok_tables h.may).1)
theorem EnvOk.chan (h : EnvOk e) {c : D.Chan} (hc : c ∈ e.S.Chans) : chanP e.M c = true := by
  have h := h.fits
  unfold stFits at h
  simp only [Bool.and_eq_true] at h
  exact (allL_iff (d := default) (f := fun c => chanP e.M c)).1 h.1.1.2 c hc
theorem EnvOk.proc (h : EnvOk e) {p : D.Process} (hp : p ∈ e.S.Procs) : processP e.M p = true := by
  have h := h.fits
  unfold stFits at h
  simp only [Bool.and_eq_true] at h
  exact (allL_iff (d := default) (f := fun c => processP e.M c)).1 h.1.2 p hp
theorem EnvOk.globals (h : EnvOk e) : e.S.Globals.length = e.M.Globals.length ∧ typedP e.M.Globals e.S.Globals = true := by
  have h := h.fits
  unfold stFits headP at h
  simp only [Bool.and_eq_true] at h
  have := h.1.1.1.1.1.1.1.1.1
  exact ⟨typed_len this, this⟩
theorem proc_facts {m : D.Model} {p : D.Process} (h : processP m p = true) : (0 ≤ p.Type_ ∧ p.Type_ < m.Procs.length) ∧ (0 ≤ p.Loc ∧ p.Loc < (prAt m p.Type_).Locs.length) ∧ p.Frame.length = (prAt m p.Type_).Frame.length ∧ typedP (prAt m p.Type_).Frame p.Frame = true ∧ p.Prio = (prAt m p.Type_).Prio ∧ p.Type_ ≠ m.Claim := by
  unfold processP procP at h
  simp only [Bool.and_eq_true, decide_eq_true_eq] at h
  obtain ⟨⟨⟨⟨⟨h1, h2⟩, h3⟩, h4⟩, h5⟩, h6⟩ := h
  exact ⟨⟨h1, h2⟩, inP_iff.1 h4, typed_len h6, h6, h5, h3⟩
theorem chan_facts {m : D.Model} {c : D.Chan} (h : chanP m c = true) : (0 ≤ c.Shape ∧ c.Shape < m.Shapes.length) ∧ (c.Queue.length : Int) ≤ (shAt m c.Shape).Room ∧ ∀ x ∈ c.Queue, typedP (shAt m c.Shape).Fields x = true := by
  unfold chanP at h
  simp only [Bool.and_eq_true, decide_eq_true_eq] at h
  exact ⟨inP_iff.1 h.1.1, h.1.2, fun x hx => (allL_iff (d := []) (f := fun x => typedP (shAt m c.Shape).Fields x)).1 h.2 x hx⟩
end
/-! ### Leaves -/
abbrev vII (p : Int × Int) : VV := .tup [intV p.1, intV p.2]
abbrev vIII (p : Int × Int × Int) : VV := .tup [intV p.1, intV p.2.1, intV p.2.2]
theorem leafQ {a b : Int} {q : Int × Int} (h : (a, b) = q) : leO [] [] ∧ VV.le (.tup [.sc (.int .i64 a), .sc (.int .i64 b)]) (.tup [.sc (.int .i64 q.1), .sc (.int .i64 q.2)]) := by
  subst h; exact ⟨trivial, VV.le_refl _⟩
theorem leafR {a b c : Int} {q : Int × Int × Int} (h : (a, b, c) = q) : leO [] [] ∧ VV.le (.tup [.sc (.int .i64 a), .sc (.int .i64 b), .sc (.int .i64 c)]) (.tup [.sc (.int .i64 q.1), .sc (.int .i64 q.2.1), .sc (.int .i64 q.2.2)]) := by
  subst h; exact ⟨trivial, VV.le_refl _⟩
theorem ct {α : Type} {c : Bool} {a b x : α} (h : c = true) (k : x = a) : x = bif c then a else b := by rw [h]; exact k
theorem cf {α : Type} {c : Bool} {a b x : α} (h : c = false) (k : x = b) : x = bif c then a else b := by rw [h]; exact k
theorem it {α : Type} {c : Prop} [Decidable c] {a b x : α} (h : c) (k : x = a) : x = if c then a else b := by rw [if_pos h]; exact k
theorem ie {α : Type} {c : Prop} [Decidable c] {a b x : α} (h : ¬ c) (k : x = b) : x = if c then a else b := by rw [if_neg h]; exact k
/-- An expression is reckoned to this. -/
abbrev EvS (e : D.Env) (a : Int) (p : Int × Int) : Prop := VSpec Tryd.prog 25 [] [.tp (enc_Env e), intV a] [] (vII p)
theorem truth_spec {b : Bool} : VSpec Tryd.prog 39 [] [boolV b] [] (vII (truthP b)) :=
  vspec_raw tb_ok mixed Tryd.func39 (by kernel_rfl) rfl (truth_raw _ _ b) ⟨fun h => leafQ (by rw [h]; rfl), fun h => leafQ (by rw [h]; rfl)⟩
theorem ne_dec (a b : Int) : (a != b) = decide (a ≠ b) := by rw [Bool.eq_iff_iff]; simp
theorem xchan_spec {e : D.Env} {ev : Evl} {a : Int} (h : EvS e a (ev a)) : VSpec Tryd.prog 29 [] [.tp (enc_Env e), intV a] [] (vII (chanV e ev a)) := by
  refine vspec_raw tb_ok mixed Tryd.func29 (by kernel_rfl) rfl (xchan_raw _ _ e a) ⟨ev a, h, fun h => leafQ (ct (by simpa using h) rfl), fun h => ⟨fun h2 => leafQ (cf (by simpa using h) (ct ?_ rfl)), fun h2 => leafQ (cf (by simpa using h) (cf ?_ rfl))⟩⟩
  · rw [bif_or] at h2; exact h2
  · rw [bif_or] at h2; exact h2
theorem chan_in {e : D.Env} {ev : Evl} {a : Int} (hE : EnvOk e) (h : ¬ (chanV e ev a).2 ≠ 0) : 1 ≤ (chanV e ev a).1 ∧ (chanV e ev a).1 ≤ e.S.Chans.length ∧ e.S.Chans.length ≤ 32 := by
  have hc := hE.fit.c
  unfold chanV at h ⊢
  cases h1 : decide ((ev a).2 ≠ 0) with
  | true => rw [h1] at h; have := of_decide_eq_true h1; exact absurd h (by simpa using this)
  | false =>
    rw [h1] at h
    simp only [cond_false] at h ⊢
    cases h2 : (decide ((ev a).1 < 1) || decide ((e.S.Chans.length : Int) < (ev a).1)) with
    | true => rw [h2] at h; simp at h
    | false =>
      simp only [Bool.or_eq_false_iff, decide_eq_false_iff_not] at h2
      simp only [cond_false]
      omega
theorem index_spec {l : List Int} {v : Int} (hl : Len l.length) : VSpec Tryd.prog 69 [] [encL_Int true l, intV v] [] (intV (idxP v 0 l)) := by
  unfold Len at hl
  refine vspec_raw tb_ok mixed Tryd.func69 (by kernel_rfl) rfl (index_raw _ l v) ?_
  refine loop_idx tb_ok mixed l.length (fun k => stIdx l v k) (fun k => idxP v 0 l = idxP v k (l.drop k)) (by kernel_rfl) (by kernel_rfl) rfl ?_
  intro k hk hI J next
  refine Asks.raw (index1_raw _ l v k J) ⟨fun hlt => ?_, fun hge => leafI ?_⟩
  · have hlt' : k < l.length := by have := lt_of hlt; omega
    have hto : (k : Int).toNat = k := by omega
    rw [hto]
    rw [drop_cons (d := 0) hlt'] at hI
    rw [idxP_cons] at hI
    refine ⟨by omega, fun hy => leafI ?_, fun hy => next _ hlt' ?_ (Up.of ?_)⟩
    · rw [ieq] at hy; rw [hI, hy, cond_true]
    · rw [ieq] at hy; rw [hI, hy, cond_false]
    · rw [wrap_succ (by omega)]; rfl
  · have hge' : l.length ≤ k := by have := ge_of hge; omega
    rw [hI, List.drop_of_length_le hge']; rfl
theorem contains_spec {l : List Int} {v : Int} (hl : Len l.length) : VSpec Tryd.prog 55 [] [encL_Int true l, intV v] [] (boolV (decide (v ∈ l))) :=
  vspec_raw tb_ok mixed Tryd.func55 (by kernel_rfl) rfl (contains_raw _ l v) ⟨_, index_spec hl, leafB (by rw [idx_mem (k := 0)])⟩
theorem asks_spec {e : D.Env} {ev : Evl} {x : D.Expr} (hE : EnvOk e) (h : EvS e x.A (ev x.A)) : VSpec Tryd.prog 37 [] [.tp (enc_Env e), .agg (enc_Expr x)] [] (vII (asksV e ev x)) := by
  refine vspec_raw tb_ok mixed Tryd.func37 (by kernel_rfl) rfl (asks_raw _ _ e x) ⟨chanV e ev x.A, xchan_spec h, fun h => leafQ (ct (by simpa using h) rfl), fun h => ?_⟩
  have h0 : decide ((chanV e ev x.A).2 ≠ 0) = false := by simpa using h
  have hq : asksV e ev x = askP x.Op (shAt e.M (chAt e (chanV e ev x.A).1).Shape).Room (chAt e (chanV e ev x.A).1).Queue.length := by unfold asksV; rw [h0]; rfl
  rw [hq]
  have hn := chan_in hE (of_decide_eq_false h0)
  generalize (chanV e ev x.A).1 = n at hn
  rw [wrap_id (by omega) (by omega)]
  have hc := hE.chan (getD_mem (d := default) (show (n - 1).toNat < e.S.Chans.length by omega))
  have hs := (chan_facts hc).1
  refine ⟨by omega, hs, fun h1 => leafQ (it (by simpa using h1) rfl), fun h1 => ⟨fun h2 => ⟨_, truth_spec, leafQ (ie (by simpa using h1) (it (by simpa using h2) rfl))⟩, fun h2 => ⟨fun h3 => ⟨_, truth_spec, leafQ (ie (by simpa using h1) (ie (by simpa using h2) (it (by simpa using h3) rfl)))⟩, fun h3 => ⟨fun h4 => ⟨_, truth_spec, leafQ (ie (by simpa using h1) (ie (by simpa using h2) (ie (by simpa using h3) (it (by simpa using h4) ?_))))⟩, fun h4 => ⟨_, truth_spec, leafQ (ie (by simpa using h1) (ie (by simpa using h2) (ie (by simpa using h3) (ie (by simpa using h4) ?_))))⟩⟩⟩⟩⟩
  · rw [ieq]; rfl
  · rfl
theorem remote_spec {e : D.Env} {ev : Evl} {x : D.Expr} (h : EvS e x.A (ev x.A)) (hl : Len x.Args.length) : VSpec Tryd.prog 41 [] [.tp (enc_Env e), .agg (enc_Expr x)] [] (vII (remoteV e ev x)) := by
  refine vspec_raw tb_ok mixed Tryd.func41 (by kernel_rfl) rfl (remote_raw _ _ e x) ⟨ev x.A, h, fun h => leafQ (ct (by simpa using h) rfl), fun h => ?_⟩
  have h0 : decide ((ev x.A).2 ≠ 0) = false := by simpa using h
  have hq : remoteV e ev x = bif decide ((ev x.A).1 < 0) || (decide ((e.S.Procs.length : Int) ≤ (ev x.A).1) || (decide (x.Op = 38) && decide ((psAt e (ev x.A).1).Type_ ≠ x.N))) then (0, 52)
      else bif decide (x.Op = 37) then ((psAt e (ev x.A).1).Loc, 0) else truthP (decide ((psAt e (ev x.A).1).Loc ∈ x.Args)) := by unfold remoteV; rw [h0]; rfl
  rw [hq]
  generalize (ev x.A).1 = n
  refine ⟨fun h1 => ?_, fun h1 => ?_, fun h1 => ⟨fun h2 => ⟨?_, leafQ (cf ?_ (ct (by simpa using h2) rfl))⟩, fun h2 => ⟨?_, _, contains_spec hl, _, truth_spec, leafQ (cf ?_ (cf (by simpa using h2) rfl))⟩⟩⟩
  · simp at h1; omega
  · simp only [bif_or, bif_and, ieq, ne_dec, ge_iff_le, Bool.or_assoc] at h1; exact leafQ (ct h1 rfl)
  · simp at h1; omega
  · simp only [bif_or, bif_and, ieq, ne_dec, ge_iff_le, Bool.or_assoc] at h1; exact h1
  · simp at h1; omega
  · simp only [bif_or, bif_and, ieq, ne_dec, ge_iff_le, Bool.or_assoc] at h1; exact h1
theorem lpart_spec {e : D.Env} {a : Int} {p : Int × Int} (h : EvS e a p) : VSpec Tryd.prog 53 [] [intV a, .tp [.tp (enc_Env e)]] [] (vII p) :=
  vspec_raw tb_ok mixed Tryd.func53 (by kernel_rfl) rfl (lpart_raw _ _ e a) ⟨p, h, leafQ rfl⟩
theorem logic_spec {e : D.Env} {ev : Evl} {x : D.Expr} (h : EvS e x.A (ev x.A)) (hB : EvS e x.B (ev x.B)) (hC : x.Op = 24 → EvS e x.C (ev x.C)) : VSpec Tryd.prog 36 [] [.tp (enc_Env e), .agg (enc_Expr x)] [] (vII (logicV ev x)) := by
  refine vspec_raw tb_ok mixed Tryd.func36 (by kernel_rfl) rfl (logic_raw _ _ e x) ⟨ev x.A, h, fun h => leafQ (ct (by simpa using h) rfl), fun h => ?_⟩
  have h0 : decide ((ev x.A).2 ≠ 0) = false := by simpa using h
  have hq : logicV ev x = bif decide (x.Op = 24) then (bif decide ((ev x.A).1 ≠ 0) then ev x.B else ev x.C)
      else bif (decide (x.Op = 22) && decide ((ev x.A).1 = 0)) || (decide (x.Op = 23) && decide ((ev x.A).1 ≠ 0)) then truthP (decide ((ev x.A).1 ≠ 0))
      else bif decide ((ev x.B).2 ≠ 0) then (0, (ev x.B).2) else truthP (decide ((ev x.B).1 ≠ 0)) := by unfold logicV; rw [h0]; rfl
  rw [hq]
  generalize (ev x.A).1 = n
  refine ⟨fun h1 => ⟨_, lpart_spec hB, ?_⟩, fun h1 => ⟨fun h2 => ⟨_, lpart_spec (hC (by simpa using h2)), ?_⟩, fun h2 => ⟨fun h3 => ⟨_, truth_spec, ?_⟩, fun h3 => ⟨_, lpart_spec hB, fun h4 => ?_, fun h4 => ⟨_, truth_spec, ?_⟩⟩⟩⟩⟩
  · simp only [bif_and, ieq, ne_dec, Bool.and_eq_true] at h1
    exact leafQ (ct h1.1 (ct h1.2 rfl))
  · have h2' : decide (x.Op = 24) = true := by simpa using h2
    simp only [bif_and, ieq, ne_dec, h2', Bool.true_and] at h1
    exact leafQ (ct h2' (cf h1 rfl))
  · have h2' : decide (x.Op = 24) = false := by simpa using h2
    simp only [bif_and, bif_or, ieq, ne_dec] at h3
    rw [ne_dec]
    exact leafQ (cf h2' (ct h3 rfl))
  · have h2' : decide (x.Op = 24) = false := by simpa using h2
    simp only [bif_and, bif_or, ieq, ne_dec] at h3
    exact leafQ (cf h2' (cf h3 (ct (by simpa using h4) rfl)))
  · have h2' : decide (x.Op = 24) = false := by simpa using h2
    simp only [bif_and, bif_or, ieq, ne_dec] at h3
    rw [ne_dec]
    exact leafQ (cf h2' (cf h3 (cf (by simpa using h4) rfl)))
theorem one_spec' {op a : Int} : VSpec Tryd.prog 56 [] [intV op, intV a] [] (vII (oneV op a, oneE op)) := by
  refine VSpec.hand ⟨_, Tryd.func56, rfl, by kernel_rfl⟩ fun w E vs hA hL _ _ hs => ?_
  obtain ⟨u1, us1, rfl, v1, hs⟩ := hs.cons_inv
  obtain ⟨u2, us2, rfl, v2, hs⟩ := hs.cons_inv
  obtain rfl := hs.nil_inv
  rw [v1.sc_inv, v2.sc_inv]
  refine (vone op a w).mono ?_
  rintro e w' ⟨rfl, rfl⟩
  exact ⟨_, rfl, v_tup2 .sc .sc, Below.refl _ _⟩
theorem two_spec' {op a b : Int} : VSpec Tryd.prog 57 [] [intV op, intV a, intV b] [] (vII (twoV op a b, twoE op b)) := by
  refine VSpec.hand ⟨_, Tryd.func57, rfl, by kernel_rfl⟩ fun w E vs hA hL _ _ hs => ?_
  obtain ⟨u1, us1, rfl, v1, hs⟩ := hs.cons_inv
  obtain ⟨u2, us2, rfl, v2, hs⟩ := hs.cons_inv
  obtain ⟨u3, us3, rfl, v3, hs⟩ := hs.cons_inv
  obtain rfl := hs.nil_inv
  rw [v1.sc_inv, v2.sc_inv, v3.sc_inv]
  refine (vtwo op a b w).mono ?_
  rintro e w' ⟨rfl, rfl⟩
  exact ⟨_, rfl, v_tup2 .sc .sc, Below.refl _ _⟩
theorem sums_spec {e : D.Env} {ev : Evl} {x : D.Expr} (h : EvS e x.A (ev x.A)) (hB : ¬ (x.Op = 3 ∨ x.Op = 4 ∨ x.Op = 5) → EvS e x.B (ev x.B)) : VSpec Tryd.prog 42 [] [.tp (enc_Env e), .agg (enc_Expr x)] [] (vII (sumsV ev x)) := by
  refine vspec_raw tb_ok mixed Tryd.func42 (by kernel_rfl) rfl (sums_raw _ _ e x) ⟨ev x.A, h, fun h => leafQ (ct (by simpa using h) rfl), fun h => ?_⟩
  have h0 : decide ((ev x.A).2 ≠ 0) = false := by simpa using h
  have hq : sumsV ev x = bif decide (x.Op = 3) || (decide (x.Op = 4) || decide (x.Op = 5)) then (oneV x.Op (ev x.A).1, oneE x.Op)
      else bif decide ((ev x.B).2 ≠ 0) then (0, (ev x.B).2) else (twoV x.Op (ev x.A).1 (ev x.B).1, twoE x.Op (ev x.B).1) := by unfold sumsV; rw [h0]; rfl
  rw [hq]
  generalize (ev x.A).1 = n
  refine ⟨fun h1 => ⟨_, one_spec', leafQ (ct ?_ rfl)⟩, fun h1 => ⟨ev x.B, hB ?_, fun h2 => leafQ (cf ?_ (ct (by simpa using h2) rfl)), fun h2 => ⟨_, two_spec', leafQ (cf ?_ (cf (by simpa using h2) rfl))⟩⟩⟩
  · simpa only [bif_or, ieq, Bool.or_assoc] using h1
  · simp at h1; omega
  · simpa only [bif_or, ieq, Bool.or_assoc] using h1
  · simpa only [bif_or, ieq, Bool.or_assoc] using h1
end Go.Proofs.YthmhbmikcdfkcaaDoor
/-
  Layer 14 on trees, II: what is asked of channels, variables, all of an expression.
-/
namespace Go.Proofs.YthmhbmikcdfkcaaDoor
open Go.RowKit
/-! ### Messages that match -/
theorem mtch_spec {x l mt : List Int} (hm : Len mt.length) : VSpec Tryd.prog 68 [] [encL_Int true x, encL_Int false l, encL_Int true mt] [] (boolV (matchesP x l mt)) := by
  unfold Len at hm
  refine vspec_raw tb_ok mixed Tryd.func68 (by kernel_rfl) rfl (mtch_raw _ x l mt) ⟨fun h => leafB ?_, fun h => ?_⟩
  · symm; unfold matchesP
    rw [bif_or] at h
    rw [Bool.eq_false_iff]; intro hq
    simp only [Bool.and_eq_true, decide_eq_true_eq] at hq
    simp at h; omega
  · have hl : mt.length ≤ x.length ∧ mt.length ≤ l.length := by simp at h; omega
    have e0 : matchesP x l mt = allI mt.length fun i => !(decide (mt.getD i 0 = 1) && decide (x.getD i 0 ≠ l.getD i 0)) := by
      unfold matchesP
      rw [decide_eq_true hl.1, decide_eq_true hl.2]; rfl
    rw [e0]
    refine loop_idx tb_ok mixed mt.length (fun k => stMtch x l mt k) (fun k => ∀ i, i < k → (!(decide (mt.getD i 0 = 1) && decide (x.getD i 0 ≠ l.getD i 0))) = true) (by kernel_rfl) (by kernel_rfl) (fun i hi => by omega) ?_
    intro k hk hI J next
    refine Asks.raw (mtch1_raw _ x l mt k J) ⟨fun hlt => ?_, fun hge => leafB ?_⟩
    · have hlt' : k < mt.length := by have := lt_of hlt; omega
      have hto : (k : Int).toNat = k := by omega
      rw [hto]
      refine ⟨by omega, fun _ => by omega, fun _ => by omega, fun hy => leafB ?_, fun hy => next _ hlt' (succ_of (n := 0) hI ?_) (Up.of ?_)⟩
      · simp only [bif_and, ieq, ne_dec] at hy
        exact (allI_no (f := fun i => !(decide (mt.getD i 0 = 1) && decide (x.getD i 0 ≠ l.getD i 0))) hlt' (by rw [hy]; rfl)).symm
      · simp only [bif_and, ieq, ne_dec] at hy
        rw [hy]; rfl
      · rw [wrap_succ (by omega)]; rfl
    · have hge' : mt.length ≤ k := by have := ge_of hge; omega
      exact (allI_iff.2 fun i hi => hI i (by omega)).symm
theorem findG_cons {l mt : List Int} {any : Bool} {k : Nat} {x : List Int} {q : List (List Int)} : findG l mt any k (x :: q) = bif matchesP x l mt then (k : Int) else bif any then findG l mt any (k + 1) q else -1 := rfl
theorem find_spec {c : D.Chan} {l mt : List Int} {any : Bool} (hc : Len c.Queue.length) (hm : Len mt.length) : VSpec Tryd.prog 54 [] [.agg (enc_Chan c), encL_Int false l, encL_Int true mt, boolV any] [] (intV (findP c l mt any)) := by
  unfold Len at hc
  refine vspec_raw tb_ok mixed Tryd.func54 (by kernel_rfl) rfl (find_raw _ c l mt any) ?_
  unfold findP
  refine loop_idx tb_ok mixed c.Queue.length (fun k => stFind c l mt any k) (fun k => findG l mt any 0 c.Queue = findG l mt any k (c.Queue.drop k)) (by kernel_rfl) (by kernel_rfl) rfl ?_
  intro k hk hI J next
  refine Asks.raw (find1_raw _ c l mt any k J) ⟨fun hlt => ?_, fun hge => leafI ?_⟩
  · have hlt' : k < c.Queue.length := by have := lt_of hlt; omega
    have hto : (k : Int).toNat = k := by omega
    rw [hto]
    rw [drop_cons (d := []) hlt', findG_cons] at hI
    refine ⟨by omega, _, mtch_spec hm, fun hy => leafI ?_, fun hy => ⟨fun ha => leafI ?_, fun ha => next _ hlt' ?_ (Up.of ?_)⟩⟩
    · rw [hI, hy, cond_true]
    · rw [hI, hy, cond_false, show any = false by simpa using ha, cond_false]
    · rw [hI, hy, cond_false, show any = true by simpa using ha, cond_true]
    · rw [wrap_succ (by omega)]; rfl
  · have hge' : c.Queue.length ≤ k := by have := ge_of hge; omega
    rw [hI, List.drop_of_length_le hge']; rfl
/-! ### Could be received -/
theorem errI_zero {f : Nat → Int} : ∀ {n : Nat}, (∀ i, i < n → f i = 0) → errI n f = 0
  | 0, _ => rfl
  | n + 1, h => by
    unfold errI
    rw [errI_zero fun i hi => h i (by omega), h n (by omega)]; rfl
theorem errI_hit {f : Nat → Int} {k : Nat} (h : ∀ i, i < k → f i = 0) (hf : f k ≠ 0) : ∀ {n : Nat}, k < n → errI n f = f k
  | 0, hk => by omega
  | n + 1, hk => by
    unfold errI
    by_cases hkn : k = n
    · subst hkn; rw [errI_zero h]; rfl
    · rw [errI_hit h hf (n := n) (by omega), decide_eq_true hf, cond_true]
def wantAt (ev : Evl) (args mt : List Int) (k : Nat) : List Int := (List.range args.length).map fun i => if i < k then (wantV ev (args.getD i 0) (mt.getD i 0)).1 else 0
theorem wantAt_len {ev : Evl} {args mt : List Int} {k : Nat} : (wantAt ev args mt k).length = args.length := by simp [wantAt]
theorem wantAt_get {ev : Evl} {args mt : List Int} {k i : Nat} (hi : i < args.length) : (wantAt ev args mt k).getD i 0 = if i < k then (wantV ev (args.getD i 0) (mt.getD i 0)).1 else 0 := by
  simp [wantAt, List.getD, hi]
theorem wantAt_all {ev : Evl} {args mt : List Int} : wantAt ev args mt args.length = wantsV ev args mt := by
  unfold wantAt wantsV
  apply List.map_congr_left
  intro i hi
  rw [if_pos (List.mem_range.1 hi)]
theorem poll_spec {e : D.Env} {ev : Evl} {x : D.Expr} (hE : EnvOk e) (h : EvS e x.A (ev x.A)) (ha : ∀ a ∈ x.Args, EvS e a (ev a)) (hl : x.Args.length ≤ 8) (hm : x.Match.length = x.Args.length) : VSpec Tryd.prog 38 [] [.tp (enc_Env e), .agg (enc_Expr x)] [] (vII (pollV e ev x)) := by
  refine vspec_raw tb_ok mixed Tryd.func38 (by kernel_rfl) rfl (poll_raw _ _ e x) ⟨chanV e ev x.A, xchan_spec h, fun h => leafQ (ct (by simpa using h) rfl), fun h => ?_⟩
  have h0 : decide ((chanV e ev x.A).2 ≠ 0) = false := by simpa using h
  have hq : pollV e ev x = bif decide ((shAt e.M (chAt e (chanV e ev x.A).1).Shape).Fields.length ≠ x.Args.length) then (0, 49)
      else bif decide (wantsE ev x.Args x.Match x.Args.length ≠ 0) then (0, wantsE ev x.Args x.Match x.Args.length)
      else truthP (decide (0 ≤ findP (chAt e (chanV e ev x.A).1) (wantsV ev x.Args x.Match) x.Match (decide (x.N = 1)))) := by unfold pollV; rw [h0]; rfl
  rw [hq]
  have hn := chan_in hE (of_decide_eq_false h0)
  generalize (chanV e ev x.A).1 = n at hn
  rw [wrap_id (by omega) (by omega)]
  have hcm := getD_mem (d := default) (show (n - 1).toNat < e.S.Chans.length by omega)
  have hc := hE.chan hcm
  have hs := (chan_facts hc).1
  have hql := (hE.fit.q _ hcm).1
  refine ⟨by omega, hs, fun h1 => leafQ (ct ?_ rfl), fun h1 => ⟨by omega, ?_⟩⟩
  · rw [ne_dec] at h1
    have := of_decide_eq_true h1
    rw [decide_eq_true_eq]
    intro hh
    apply this
    have hh' : (e.M.Shapes.getD (e.S.Chans.getD (n - 1).toNat default).Shape.toNat default).Fields.length = x.Args.length := hh
    rw [hh']
  have h1' : decide ((shAt e.M (chAt e n).Shape).Fields.length ≠ x.Args.length) = false := by
    rw [ne_dec] at h1
    have := of_decide_eq_false h1
    rw [decide_eq_false_iff_not]
    intro hh
    apply this
    intro h2
    apply hh
    exact Int.ofNat.inj h2
  rw [h1', cond_false]
  have hcdef : e.S.Chans.getD (n - 1).toNat default = chAt e n := rfl
  clear hq h1 hs hc
  generalize chAt e n = c at hcdef
  have hqc : c.Queue.length ≤ 16 := by rw [← hcdef]; exact hql
  refine loop_raw tb_ok mixed (fun gg st => ∃ k : Nat, k ≤ x.Args.length ∧ gg = x.Args.length - k ∧ (∀ i, i < k → (wantV ev (x.Args.getD i 0) (x.Match.getD i 0)).2 = 0) ∧ st = stPoll e x c (wantAt ev x.Args x.Match k) k) (by kernel_rfl) (by kernel_rfl)
    ⟨x.Args.length, Up.mk (l' := [(0, .tp (enc_Env e)), (3, .bp 0 0), (8, .bp 1 0), (9, .ow 2 0 (wantAt ev x.Args x.Match 0).length), (51, encL_Int true x.Args), (52, intV x.Args.length), (53, intV ((0 : Nat) : Int))])
      (hs' := [.box (enc_Expr x), .box (enc_Chan c), .arr true 0 (wantAt ev x.Args x.Match 0).length 1 (rowsIn (wantAt ev x.Args x.Match 0))]) ?_ ?_ ⟨0, Nat.zero_le _, rfl, fun i hi => by omega, rfl⟩⟩ ?_
  · rw [wantAt_len]; exact leT_refl _
  · rw [wantAt_len]
    refine ⟨Ob.le_refl _, by rw [← hcdef]; exact Ob.le_refl _, Ob.le_arr fun i hi => leL_eq ?_, trivial⟩
    have hz : rowsIn (wantAt ev x.Args x.Match 0) i = [intV 0] := by
      unfold rowsIn
      rw [wantAt_get (by omega), if_neg (Nat.not_lt_zero _)]
    refine Eq.trans ?_ hz.symm
    rfl
  · rintro gg st ⟨k, hk, rfl, hI, rfl⟩
    refine Asks.raw (poll1_raw _ _ e x c _ k _) ⟨fun hlt => ?_, fun hge => ?_⟩
    · have hlt' : k < x.Args.length := by have := lt_of hlt; omega
      have hto : (k : Int).toNat = k := by omega
      rw [hto]
      refine ⟨by omega, by omega, fun hy => ?_, fun hy => ⟨ev (x.Args.getD k 0), ha _ (getD_mem hlt'), by rw [wantAt_len]; omega, fun hz => leafQ ?_, fun hz => ?_⟩⟩
      · rw [ne_dec] at hy
        have h1 := of_decide_eq_true hy
        have hv : wantV ev (x.Args.getD k 0) (x.Match.getD k 0) = (0, 0) := by unfold wantV; rw [decide_eq_false h1]; rfl
        have e1 : wantAt ev x.Args x.Match k = wantAt ev x.Args x.Match (k + 1) := by
          unfold wantAt
          apply List.map_congr_left
          intro i _
          by_cases hik : i = k
          · subst hik; rw [if_neg (Nat.lt_irrefl _), if_pos (Nat.lt_succ_self _), hv]
          · by_cases hlt2 : i < k
            · rw [if_pos hlt2, if_pos (by omega)]
            · rw [if_neg hlt2, if_neg (by omega)]
        rw [e1, wrap_succ (by omega)]
        exact ⟨x.Args.length - (k + 1), by omega, Up.of ⟨k + 1, by omega, rfl, succ_of (n := 0) hI (by rw [hv]), rfl⟩⟩
      · have hm1 : decide (x.Match.getD k 0 = 1) = true := by rw [ne_dec] at hy; simpa using hy
        have hv : wantV ev (x.Args.getD k 0) (x.Match.getD k 0) = ev (x.Args.getD k 0) := by unfold wantV; rw [hm1]; rfl
        have hnz : (wantV ev (x.Args.getD k 0) (x.Match.getD k 0)).2 ≠ 0 := by rw [hv]; simpa using hz
        have he : wantsE ev x.Args x.Match x.Args.length = (ev (x.Args.getD k 0)).2 := by
          unfold wantsE
          rw [errI_hit (f := fun i => (wantV ev (x.Args.getD i 0) (x.Match.getD i 0)).2) hI hnz hlt', hv]
        rw [he]
        exact ct (by simpa using hz) rfl
      · have hm1 : decide (x.Match.getD k 0 = 1) = true := by rw [ne_dec] at hy; simpa using hy
        have hv : wantV ev (x.Args.getD k 0) (x.Match.getD k 0) = ev (x.Args.getD k 0) := by unfold wantV; rw [hm1]; rfl
        have h2 : (ev (x.Args.getD k 0)).2 = 0 := by simpa using hz
        rw [wrap_succ (by omega)]
        refine ⟨x.Args.length - (k + 1), by omega, Up.mk (l' := [(0, .tp (enc_Env e)), (3, .bp 0 0), (8, .bp 1 0), (9, .ow 2 0 (wantAt ev x.Args x.Match (k + 1)).length), (51, encL_Int true x.Args), (52, intV x.Args.length), (53, intV ((k + 1 : Nat) : Int))])
          (hs' := [.box (enc_Expr x), .box (enc_Chan c), .arr true 0 (wantAt ev x.Args x.Match (k + 1)).length 1 (rowsIn (wantAt ev x.Args x.Match (k + 1)))]) ?_ ?_ ⟨k + 1, by omega, rfl, succ_of (n := 0) hI (by rw [hv]; exact h2), rfl⟩⟩
        · rw [wantAt_len, wantAt_len]; exact leT_refl _
        · rw [wantAt_len, wantAt_len]
          refine ⟨Ob.le_refl _, Ob.le_refl _, Ob.le_arr fun i hi => leL_eq ?_, trivial⟩
          show (bif i.beq k then [intV (ev (x.Args.getD k 0)).1] else [intV ((wantAt ev x.Args x.Match k).getD i 0)]) = [intV ((wantAt ev x.Args x.Match (k + 1)).getD i 0)]
          rw [wantAt_get hi, wantAt_get hi]
          cases hq : i.beq k with
          | true =>
            have := Nat.eq_of_beq_eq_true hq; subst this
            rw [cond_true, if_pos (Nat.lt_succ_self _), hv]
          | false =>
            have : i ≠ k := Nat.ne_of_beq_eq_false hq
            rw [cond_false]
            by_cases hlt2 : i < k
            · rw [if_pos hlt2, if_pos (by omega)]
            · rw [if_neg hlt2, if_neg (by omega)]
    · obtain rfl : k = x.Args.length := by have := ge_of hge; omega
      have he : wantsE ev x.Args x.Match x.Args.length = 0 := errI_zero hI
      rw [he, wantAt_all]
      refine ⟨_, find_spec (by unfold Len; omega) (by unfold Len; omega), _, truth_spec, leafQ (cf rfl ?_)⟩
      rw [ieq]
end Go.Proofs.YthmhbmikcdfkcaaDoor
/-
  Layer 14 on trees, III: variables; all of an expression.
-/
namespace Go.Proofs.YthmhbmikcdfkcaaDoor
open Go.RowKit
/-! ### Variables -/
theorem holder_spec {e : D.Env} {ev : Evl} {v : D.Var} (hE : EnvOk e) (hv : wf_Var v) (hw : ¬ (v.Scope = 0 ∨ v.Scope = 1) → EvS e v.Who (ev v.Who)) : VSpec Tryd.prog 43 [] [.tp (enc_Env e), .agg (enc_Var v)] [] (vII (holderV e ev v)) := by
  have hp := hE.pid
  refine vspec_raw tb_ok mixed Tryd.func43 (by kernel_rfl) rfl (holder_raw _ _ e v) ⟨fun h => ⟨_, reach_spec hv, fun h1 => leafQ ?_, fun h1 => leafQ ?_⟩, fun h => ⟨fun h1 => ⟨_, fun _ => reach_spec hv, fun h2 => ?_, fun h2 => leafQ ?_, fun h2 => leafQ ?_⟩, fun h1 => ⟨_, hw ?_, fun h2 => leafQ ?_, fun h2 => ⟨fun h3 => ?_, fun h3 => leafQ ?_, fun h3 => ⟨_, reach_spec hv, ?_, fun h4 => leafQ ?_, fun h4 => leafQ ?_⟩⟩⟩⟩⟩
  · exact ct (by simpa using h) (ct h1 rfl)
  · exact ct (by simpa using h) (cf h1 rfl)
  · simp at h2; omega
  · exact cf (by simpa using h) (ct (by simpa using h1) (ct (by rw [bif_or] at h2; exact h2) rfl))
  · exact cf (by simpa using h) (ct (by simpa using h1) (cf (by rw [bif_or] at h2; exact h2) rfl))
  · simp at h h1; omega
  · exact cf (by simpa using h) (cf (by simpa using h1) (ct (by simpa using h2) rfl))
  · simp at h3; omega
  · refine cf (by simpa using h) (cf (by simpa using h1) (cf (by simpa using h2) (ct ?_ rfl)))
    simp only [bif_or, ne_dec, ge_iff_le, Bool.or_assoc] at h3; exact h3
  · simp at h3; omega
  · refine cf (by simpa using h) (cf (by simpa using h1) (cf (by simpa using h2) (cf ?_ (ct h4 rfl))))
    simp only [bif_or, ne_dec, ge_iff_le, Bool.or_assoc] at h3; exact h3
  · refine cf (by simpa using h) (cf (by simpa using h1) (cf (by simpa using h2) (cf ?_ (cf h4 rfl))))
    simp only [bif_or, ne_dec, ge_iff_le, Bool.or_assoc] at h3; exact h3
theorem dimsV_cons {ev : Evl} {n : Int} {d : D.Dim} {l : List D.Dim} : dimsV ev n (d :: l) = bif decide ((ev d.I).2 ≠ 0) then (0, (ev d.I).2) else bif decide ((ev d.I).1 < 0) || decide (d.Len ≤ (ev d.I).1) then (0, 47) else dimsV ev (n + (ev d.I).1 * d.Stride) l := rfl
structure DimOk (d : D.Dim) : Prop where
  l1 : 1 ≤ d.Len
  l2 : d.Len ≤ 128
  s1 : 0 ≤ d.Stride
  s2 : d.Stride ≤ 128
theorem mul_in {i s n : Int} (h0 : 0 ≤ i) (h1 : i < n) (h2 : n ≤ 128) (s0 : 0 ≤ s) (s1 : s ≤ 128) : 0 ≤ i * s ∧ i * s ≤ (n - 1) * s ∧ (n - 1) * s ≤ 16384 := by
  have a := Int.mul_nonneg h0 s0
  have b := Int.mul_le_mul_of_nonneg_right (show i ≤ n - 1 by omega) s0
  have c := Int.mul_le_mul (show n - 1 ≤ 128 by omega) s1 s0 (by omega)
  omega
theorem slot_spec {e : D.Env} {ev : Evl} {x : Int} (hE : EnvOk e) (hx : 0 ≤ x ∧ x < e.M.Exprs.length) (hv : wf_Var (exAt e.M x).V) (hw : (exAt e.M x).Op = 2 → ¬ ((exAt e.M x).V.Scope = 0 ∨ (exAt e.M x).V.Scope = 1) → EvS e (exAt e.M x).V.Who (ev (exAt e.M x).V.Who))
    (hs : (exAt e.M x).Op = 2 → 0 ≤ (exAt e.M x).V.Slot ∧ (exAt e.M x).V.Slot ≤ 128 ∧ (exAt e.M x).V.Dims.length ≤ 4) (hd : (exAt e.M x).Op = 2 → ∀ d ∈ (exAt e.M x).V.Dims, DimOk d ∧ EvS e d.I (ev d.I)) : VSpec Tryd.prog 26 [] [.tp (enc_Env e), intV x] [] (vIII (slotV e ev (exAt e.M x))) := by
  refine vspec_raw tb_ok mixed Tryd.func26 (by kernel_rfl) rfl (slot_raw _ _ _ e x) ⟨hx, hx, fun h => leafR (ct (by simpa [exAt] using h) rfl), fun h => ?_⟩
  have h0 : (exAt e.M x).Op = 2 := by simpa [exAt] using h
  change ∃ y : Int × Int, VSpec Tryd.prog 43 [] [.tp (enc_Env e), .agg (enc_Var (exAt e.M x).V)] [] (vII y) ∧ _
  replace hw := hw h0
  replace hs := hs h0
  replace hd := hd h0
  have hq : slotV e ev (exAt e.M x) = bif decide ((holderV e ev (exAt e.M x).V).2 ≠ 0) then (0, 0, (holderV e ev (exAt e.M x).V).2)
      else bif decide ((dimsV ev (exAt e.M x).V.Slot (exAt e.M x).V.Dims).2 ≠ 0) then (0, 0, (dimsV ev (exAt e.M x).V.Slot (exAt e.M x).V.Dims).2) else ((holderV e ev (exAt e.M x).V).1, (dimsV ev (exAt e.M x).V.Slot (exAt e.M x).V.Dims).1, 0) := by
    unfold slotV; rw [decide_eq_false (by rw [h0]; simp)]; rfl
  rw [hq]
  refine ⟨_, holder_spec hE hv hw, fun h1 => leafR (ct (by simpa using h1) rfl), fun h1 => ?_⟩
  have h1' : decide ((holderV e ev (exAt e.M x).V).2 ≠ 0) = false := by simpa using h1
  rw [h1', cond_false]
  generalize (holderV e ev (exAt e.M x).V).1 = who
  have hsl := hs.1
  have hsl2 := hs.2
  change SatC _ [1, 1, 1, 1, 1, 1, 0, 1, 0] (stSlot e (exAt e.M x).V.Dims who (exAt e.M x).V.Slot 0)
  clear hq hw hv h h1 h1' hs
  generalize (exAt e.M x).V.Dims = ds at hd hsl2 ⊢
  generalize (exAt e.M x).V.Slot = sl at hsl hsl2 ⊢
  generalize hR : dimsV ev sl ds = R
  refine loop_raw tb_ok mixed (fun gg st => ∃ (k : Nat) (n : Int), k ≤ ds.length ∧ gg = ds.length - k ∧ 0 ≤ n ∧ n ≤ 128 + 16384 * k ∧ dimsV ev n (ds.drop k) = R ∧ st = stSlot e ds who n k) (by kernel_rfl) (by kernel_rfl)
    ⟨ds.length, Up.of ⟨0, sl, Nat.zero_le _, rfl, hsl, by omega, hR, rfl⟩⟩ ?_
  rintro gg st ⟨k, n, hk, rfl, hn0, hn1, hI, rfl⟩
  refine Asks.raw (slot1_raw _ _ _ e x ds who n k _) ⟨fun hlt => ?_, fun hge => ?_⟩
  · have hlt' : k < ds.length := by have := lt_of hlt; omega
    have hto : (k : Int).toNat = k := by omega
    rw [hto]
    obtain ⟨hD, hE'⟩ := hd _ (getD_mem (d := default) hlt')
    rw [drop_cons (d := default) hlt', dimsV_cons] at hI
    generalize ds.getD k default = d at hD hE' hI ⊢
    refine ⟨by omega, _, hE', fun h2 => leafR ?_, fun h2 => ⟨fun h3 => leafR ?_, fun h3 => ?_⟩⟩
    · have h2' : decide ((ev d.I).2 ≠ 0) = true := by simpa using h2
      rw [h2', cond_true] at hI
      subst hI
      exact ct h2' rfl
    · have h2' : decide ((ev d.I).2 ≠ 0) = false := by simpa using h2
      rw [bif_or] at h3
      rw [h2', cond_false] at hI
      have h3' : (decide ((ev d.I).1 < 0) || decide (d.Len ≤ (ev d.I).1)) = true := h3
      rw [h3', cond_true] at hI
      subst hI
      exact ct rfl rfl
    · have h2' : decide ((ev d.I).2 ≠ 0) = false := by simpa using h2
      rw [bif_or] at h3
      have h3' : (decide ((ev d.I).1 < 0) || decide (d.Len ≤ (ev d.I).1)) = false := h3
      rw [h2', cond_false, h3', cond_false] at hI
      simp only [Bool.or_eq_false_iff, decide_eq_false_iff_not] at h3'
      have hm := mul_in (i := (ev d.I).1) (s := d.Stride) (n := d.Len) (by omega) (by omega) hD.l2 hD.s1 hD.s2
      have hk4 : k < 4 := by omega
      rw [wrap_id (n := (ev d.I).1 * d.Stride) (by omega) (by omega), wrap_id (by omega) (by omega), wrap_succ (by omega)]
      exact ⟨ds.length - (k + 1), by omega, Up.of ⟨k + 1, n + (ev d.I).1 * d.Stride, by omega, rfl, by omega, by omega, hI, rfl⟩⟩
  · obtain rfl : k = ds.length := by have := ge_of hge; omega
    rw [List.drop_length] at hI
    subst hI
    exact leafR (cf rfl rfl)
end Go.Proofs.YthmhbmikcdfkcaaDoor
/-
  Layer 14 on trees, IV: all of an expression.
-/
namespace Go.Proofs.YthmhbmikcdfkcaaDoor
open Go.RowKit
theorem progress_spec {e : D.Env} (hE : EnvOk e) : VSpec Tryd.prog 40 [] [.tp (enc_Env e)] [] (boolV (progressP e)) := by
  have hpl := hE.fit.p
  refine vspec_raw tb_ok mixed Tryd.func40 (by kernel_rfl) rfl (progress_raw _ e) ?_
  refine loop_idx tb_ok mixed e.S.Procs.length (fun k => stProg e k) (fun k => ∀ i, i < k → (!((locsOf e.M (e.S.Procs.getD i default).Type_).getD (e.S.Procs.getD i default).Loc.toNat default).Progress) = true) (by kernel_rfl) (by kernel_rfl) (fun i hi => by omega) ?_
  intro k hk hI J next
  refine Asks.raw (progress1_raw _ e k J) ⟨fun hlt => ?_, fun hge => leafB ?_⟩
  · have hlt' : k < e.S.Procs.length := by have := lt_of hlt; omega
    have hto : (k : Int).toNat = k := by omega
    rw [hto]
    have hf := proc_facts (hE.proc (getD_mem (d := default) hlt'))
    refine ⟨by omega, hf.1, hf.2.1, fun hy => leafB ?_, fun hy => next _ hlt' (succ_of (n := 0) hI ?_) (Up.of ?_)⟩
    · unfold progressP
      rw [allI_no (f := fun i => !((locsOf e.M (e.S.Procs.getD i default).Type_).getD (e.S.Procs.getD i default).Loc.toNat default).Progress) hlt' (by show (!_) = false; unfold locsOf; rw [hy]; rfl)]; rfl
    · show (!_) = true
      unfold locsOf; rw [hy]; rfl
    · rw [wrap_succ (by omega)]; rfl
  · have hge' : e.S.Procs.length ≤ k := by have := ge_of hge; omega
    unfold progressP
    rw [allI_iff.2 fun i hi => hI i (by omega)]; rfl
/-! ### What is known of an expression of a model that may be -/
structure ExOk (m : D.Model) (k : Int) (x : D.Expr) : Prop where
  op : 1 ≤ x.Op ∧ x.Op ≤ 39
  a : 1 ≤ partsP x.Op → 0 ≤ x.A ∧ x.A < k
  b : 2 ≤ partsP x.Op → 0 ≤ x.B ∧ x.B < k
  c : 3 ≤ partsP x.Op → 0 ≤ x.C ∧ x.C < k
  num : x.Op = 1 → fitsP ⟨32, true⟩ x.N = true
  var : x.Op = 2 → variableP m k x.V = true
  poll : x.Op = 30 → matchedP m k x.Args x.Match = true
theorem part_in {k op p : Int} {i : Nat} (h : partP k op i p = true) (hi : i < partsP op) : 0 ≤ p ∧ p < k := by
  unfold partP at h
  rw [decide_eq_true hi, cond_true] at h
  exact inP_iff.1 h
theorem ex_ok {m : D.Model} {k : Int} (h : exprP m k = true) : ExOk m k (exAt m k) := by
  unfold exprP at h
  simp only [Bool.and_eq_true, decide_eq_true_eq] at h
  obtain ⟨⟨h1, ⟨hA, hB⟩, hC⟩, h3⟩ := h
  refine ⟨h1, fun hi => part_in hA (by omega), fun hi => part_in hB (by omega), fun hi => part_in hC (by omega), fun ho => ?_, fun ho => ?_, fun ho => ?_⟩
  · rw [if_pos ho] at h3; exact h3
  · rw [if_neg (by omega), if_pos ho] at h3; exact h3
  · rw [if_neg (by omega), if_neg (by omega), if_pos ho, Bool.and_eq_true] at h3; exact h3.1
theorem mem_below {k : Int} {l : List Int} (h : belowP k l = true) : ∀ a ∈ l, 0 ≤ a ∧ a < k := fun a ha =>
  inP_iff.1 ((allL_iff (d := 0) (f := fun a => inP k a)).1 h a ha)
structure VarOk (m : D.Model) (k : Int) (v : D.Var) : Prop where
  scope : 0 ≤ v.Scope ∧ v.Scope ≤ 2
  slot : 0 ≤ v.Slot ∧ v.Slot ≤ 128
  dims : v.Dims.length ≤ 4
  who : v.Scope = 2 → 0 ≤ v.Who ∧ v.Who < k
  dim : ∀ d ∈ v.Dims, DimOk d ∧ 0 ≤ d.I ∧ d.I < k
theorem var_ok {m : D.Model} {k : Int} {v : D.Var} (h : variableP m k v = true) : VarOk m k v := by
  unfold variableP at h
  simp only [Bool.and_eq_true, decide_eq_true_eq] at h
  obtain ⟨⟨⟨⟨⟨⟨h1, h2⟩, h3⟩, h4⟩, h5⟩, h6⟩, h7⟩ := h
  refine ⟨⟨h1, h2⟩, ⟨h3, h4⟩, h5, fun hs => ?_, fun d hd => ?_⟩
  · rw [decide_eq_true hs, cond_true, Bool.and_eq_true] at h6; exact inP_iff.1 h6.1
  · have := (allL_iff (d := default) (f := fun d => dimP k d)).1 h7 d hd
    unfold dimP at this
    simp only [Bool.and_eq_true, decide_eq_true_eq] at this
    obtain ⟨⟨⟨⟨a1, a2⟩, a3⟩, a4⟩, a5⟩ := this
    have := inP_iff.1 a1
    exact ⟨⟨a2, a3, a4, a5⟩, this⟩
/-! ### What a variable's slot is -/
theorem dims_in {ev : Evl} : ∀ {l : List D.Dim} {n r k : Int}, (∀ d ∈ l, DimOk d) → 0 ≤ n → n < r → (dimsV ev n l).2 = 0 → (dimsV ev n l).1 = k → 0 ≤ k ∧ k < reachL r l
  | [], n, r, k, _, h0, h1, _, hk => by subst hk; exact ⟨h0, h1⟩
  | d :: l, n, r, k, hd, h0, h1, h2, hk => by
    have hD := hd d (List.mem_cons_self ..)
    rw [dimsV_cons] at h2 hk
    cases c1 : decide ((ev d.I).2 ≠ 0) with
    | true => rw [c1, cond_true] at h2; exact absurd h2 (of_decide_eq_true c1)
    | false =>
      rw [c1, cond_false] at h2 hk
      cases c2 : (decide ((ev d.I).1 < 0) || decide (d.Len ≤ (ev d.I).1)) with
      | true => rw [c2, cond_true] at h2; simp at h2
      | false =>
        rw [c2, cond_false] at h2 hk
        simp only [Bool.or_eq_false_iff, decide_eq_false_iff_not] at c2
        have hm := mul_in (i := (ev d.I).1) (s := d.Stride) (n := d.Len) (by omega) (by omega) hD.l2 hD.s1 hD.s2
        have := dims_in (r := r + (d.Len - 1) * d.Stride) (fun x hx => hd x (List.mem_cons_of_mem _ hx)) (by omega) (by omega) h2 hk
        have hb : dimBad d = false := by
          have := hD.l1; have := hD.l2; have := hD.s1; have := hD.s2
          unfold dimBad; simp; omega
        show 0 ≤ k ∧ k < reachL r (d :: l)
        unfold reachL
        rw [hb, cond_false]
        exact this
structure SlotIn (e : D.Env) (who k : Int) : Prop where
  glob : who < 0 → 0 ≤ k ∧ k < e.S.Globals.length
  own : 0 ≤ who → who < e.S.Procs.length ∧ 0 ≤ k ∧ k < (psAt e who).Frame.length
theorem reach_var {m : D.Model} {k : Int} {v : D.Var} (h : VarOk m k v) : reachP v = reachL (v.Slot + 1) v.Dims := by
  have h1 := h.slot; have h2 := h.dims
  unfold reachP
  have : (decide (v.Slot < 0) || (decide (1073741824 < v.Slot) || decide (4 < v.Dims.length))) = false := by simp; omega
  rw [this, cond_false]
theorem slot_in {e : D.Env} {ev : Evl} {x : D.Expr} {k : Int} (hE : EnvOk e) (hv : x.Op = 2 → VarOk e.M k x.V) (h : (slotV e ev x).2.2 = 0) : SlotIn e (slotV e ev x).1 (slotV e ev x).2.1 := by
  have hpid := hE.pid
  unfold slotV at h ⊢
  cases c0 : decide (x.Op ≠ 2) with
  | true => rw [c0, cond_true] at h; simp at h
  | false =>
    rw [c0, cond_false] at h
    rw [cond_false]
    have hv := hv (by simpa using c0)
    have hr := reach_var hv
    cases c1 : decide ((holderV e ev x.V).2 ≠ 0) with
    | true => rw [c1, cond_true] at h; exact absurd h (of_decide_eq_true c1)
    | false =>
      rw [c1, cond_false] at h
      rw [cond_false]
      cases c2 : decide ((dimsV ev x.V.Slot x.V.Dims).2 ≠ 0) with
      | true => rw [c2, cond_true] at h; exact absurd h (of_decide_eq_true c2)
      | false =>
        rw [cond_false]
        have hd := dims_in (ev := ev) (l := x.V.Dims) (n := x.V.Slot) (r := x.V.Slot + 1) (fun d hd => (hv.dim d hd).1) hv.slot.1 (by omega) (by simpa using c2) rfl
        rw [← hr] at hd
        show SlotIn e (holderV e ev x.V).1 (dimsV ev x.V.Slot x.V.Dims).1
        generalize (dimsV ev x.V.Slot x.V.Dims).1 = n at hd
        unfold holderV at c1 ⊢
        cases d1 : decide (x.V.Scope = 0) with
        | true =>
          rw [d1, cond_true] at c1
          rw [cond_true]
          cases d2 : decide ((e.S.Globals.length : Int) < reachP x.V) with
          | true => rw [d2, cond_true] at c1; simp at c1
          | false =>
            have := of_decide_eq_false d2
            exact ⟨fun _ => ⟨hd.1, by omega⟩, fun h => by simp at h⟩
        | false =>
          rw [d1, cond_false] at c1
          rw [cond_false]
          cases d2 : decide (x.V.Scope = 1) with
          | true =>
            rw [d2, cond_true] at c1
            rw [cond_true]
            cases d3 : (decide (e.Pid < 0) || decide (((psAt e e.Pid).Frame.length : Int) < reachP x.V)) with
            | true => rw [d3, cond_true] at c1; simp at c1
            | false =>
              simp only [Bool.or_eq_false_iff, decide_eq_false_iff_not] at d3
              exact (show SlotIn e e.Pid n from ⟨fun h => absurd h d3.1, fun _ => ⟨hpid.2, hd.1, by omega⟩⟩)
          | false =>
            rw [d2, cond_false] at c1
            rw [cond_false]
            cases d3 : decide ((ev x.V.Who).2 ≠ 0) with
            | true => rw [d3, cond_true] at c1; rw [d3] at c1; exact absurd c1 (by simp)
            | false =>
              rw [d3, cond_false] at c1
              rw [cond_false]
              cases d4 : (decide ((ev x.V.Who).1 < 0) || (decide ((e.S.Procs.length : Int) ≤ (ev x.V.Who).1) || decide ((psAt e (ev x.V.Who).1).Type_ ≠ x.V.Type_))) with
              | true => rw [d4, cond_true] at c1; simp at c1
              | false =>
                rw [d4, cond_false] at c1
                rw [cond_false]
                simp only [Bool.or_eq_false_iff, decide_eq_false_iff_not] at d4
                cases d5 : decide (((psAt e (ev x.V.Who).1).Frame.length : Int) < reachP x.V) with
                | true => rw [d5, cond_true] at c1; simp at c1
                | false =>
                  have := of_decide_eq_false d5
                  exact (show SlotIn e (ev x.V.Who).1 n from ⟨fun h => absurd h d4.1, fun _ => ⟨by omega, hd.1, by omega⟩⟩)
/-! ### All of an expression -/
theorem poll_ok {m : D.Model} {k : Int} {a t : List Int} (h : matchedP m k a t = true) : a.length ≤ 8 ∧ t.length = a.length ∧ ∀ x ∈ a, 0 ≤ x ∧ x < k := by
  unfold matchedP at h
  simp only [Bool.and_eq_true, decide_eq_true_eq] at h
  exact ⟨h.1.1.1.2, h.1.1.2, mem_below h.1.2⟩
theorem ex_mem {m : D.Model} {x : Int} (hx : 0 ≤ x ∧ x < m.Exprs.length) : exAt m x ∈ m.Exprs := getD_mem (d := default) (by omega)
theorem args_len {e : D.Env} {x : Int} (hE : EnvOk e) (hx : 0 ≤ x ∧ x < e.M.Exprs.length) : Len (exAt e.M x).Args.length := by
  have := (hE.wf.Exprs.2 _ (ex_mem hx)).Args.1
  unfold Len; omega
theorem slot_at {e : D.Env} {ev : Evl} {x : Int} (hE : EnvOk e) (hx : 0 ≤ x ∧ x < e.M.Exprs.length) (hok : ExOk e.M x (exAt e.M x)) (hev : ∀ a, 0 ≤ a → a < x → EvS e a (ev a)) : VSpec Tryd.prog 26 [] [.tp (enc_Env e), intV x] [] (vIII (slotV e ev (exAt e.M x))) := by
  refine slot_spec hE hx (hE.wf.Exprs.2 _ (ex_mem hx)).V (fun ho hs => ?_) (fun ho => ?_) (fun ho d hd => ?_)
  · have hv := var_ok (hok.var ho)
    have h1 := hv.scope
    exact hev _ (hv.who (by omega)).1 (hv.who (by omega)).2
  · have hv := var_ok (hok.var ho)
    exact ⟨hv.slot.1, hv.slot.2, hv.dims⟩
  · have hv := var_ok (hok.var ho)
    exact ⟨(hv.dim d hd).1, hev _ (hv.dim d hd).2.1 (hv.dim d hd).2.2⟩
theorem read_leaf {e : D.Env} {ev : Evl} {x : Int} (hE : EnvOk e) (hop : (e.M.Exprs.getD x.toNat default).Op = 2) (hok : ExOk e.M x (exAt e.M x)) (hsl : VSpec Tryd.prog 26 [] [.tp (enc_Env e), intV x] [] (vIII (slotV e ev (exAt e.M x)))) :
    ∃ y : Int × Int × Int, VSpec Tryd.prog 26 [] [.tp (enc_Env e), intV x] [] (vIII y) ∧ ((y.2.2 != 0) = true → leO [] [] ∧ VV.le (.tup [.sc (.int .i64 0), .sc (.int .i64 y.2.2)]) (vII (evalV e ev (exAt e.M x)))) ∧ ((y.2.2 != 0) = false →
      (decide (y.1 < 0) = true → (0 ≤ y.2.1 ∧ y.2.1 < (e.S.Globals.length : Int)) ∧ leO [] [] ∧ VV.le (.tup [.sc (.int .i64 (e.S.Globals.getD y.2.1.toNat 0)), .sc (.int .i64 0)]) (vII (evalV e ev (exAt e.M x)))) ∧
      (decide (y.1 < 0) = false → (0 ≤ y.1 ∧ y.1 < (e.S.Procs.length : Int)) ∧ (0 ≤ y.2.1 ∧ y.2.1 < ((e.S.Procs.getD y.1.toNat default).Frame.length : Int)) ∧ leO [] [] ∧ VV.le (.tup [.sc (.int .i64 ((e.S.Procs.getD y.1.toNat default).Frame.getD y.2.1.toNat 0)), .sc (.int .i64 0)]) (vII (evalV e ev (exAt e.M x))))) := by
  have hop' : (exAt e.M x).Op = 2 := hop
  have he : evalV e ev (exAt e.M x) = readV e ev (exAt e.M x) := by unfold evalV; rw [hop']; rfl
  rw [he]
  have hin := slot_in (e := e) (ev := ev) hE (fun ho => var_ok (hok.var ho))
  refine ⟨slotV e ev (exAt e.M x), hsl, fun h => leafQ (ct (by simpa using h) rfl), fun h => ⟨fun h1 => ?_, fun h1 => ?_⟩⟩
  · have h0 : decide ((slotV e ev (exAt e.M x)).2.2 ≠ 0) = false := by simpa using h
    exact ⟨(hin (by simpa using h0)).glob (of_decide_eq_true h1), leafQ (cf h0 (ct h1 rfl))⟩
  · have h0 : decide ((slotV e ev (exAt e.M x)).2.2 ≠ 0) = false := by simpa using h
    have hi := hin (by simpa using h0)
    have := of_decide_eq_false h1
    exact ⟨⟨by omega, (hi.own (by omega)).1⟩, (hi.own (by omega)).2, leafQ (cf h0 (cf h1 rfl))⟩
theorem able_leaf {e : D.Env} {ev : Evl} {x : Int} (hop : (e.M.Exprs.getD x.toNat default).Op = 36) (h : EvS e (exAt e.M x).A (ev (exAt e.M x).A)) :
    ∃ y : Int × Int, VSpec Tryd.prog 25 [] [.tp (enc_Env e), intV (exAt e.M x).A] [] (vII y) ∧ ((y.2 != 0) = true → leO [] [] ∧ VV.le (.tup [.sc (.int .i64 0), .sc (.int .i64 y.2)]) (vII (evalV e ev (exAt e.M x)))) ∧ ((y.2 != 0) = false →
      ((true && (bif decide (y.1 ≥ 0) then decide (y.1 < (e.Able.length : Int)) else false) == true) = true → 0 ≤ y.1 ∧ y.1 < (e.Able.length : Int)) ∧
      ∃ y1 : Int × Int, VSpec Tryd.prog 39 [] [boolV (bif bif decide (y.1 ≥ 0) then decide (y.1 < (e.Able.length : Int)) else false then e.Able.getD y.1.toNat false else false)] [] (vII y1) ∧ leO [] [] ∧ VV.le (vII y1) (vII (evalV e ev (exAt e.M x)))) := by
  have hop' : (exAt e.M x).Op = 36 := hop
  have he : evalV e ev (exAt e.M x) = ableV e ev (exAt e.M x) := by unfold evalV; rw [hop']; rfl
  rw [he]
  refine ⟨_, h, fun h1 => leafQ (ct (by simpa using h1) rfl), fun h1 => ⟨fun h2 => ?_, _, truth_spec, leafQ (cf (by simpa using h1) ?_)⟩⟩
  · simp at h2; omega
  · simp only [bif_and, ge_iff_le, Bool.and_assoc]
set_option maxHeartbeats 4000000 in
theorem eval_step {e : D.Env} {ev : Evl} {x : Int} (hE : EnvOk e) (hx : 0 ≤ x ∧ x < e.M.Exprs.length) (hev : ∀ a, 0 ≤ a → a < x → EvS e a (ev a)) : EvS e x (evalV e ev (exAt e.M x)) := by
  have hxn : ((x.toNat : Nat) : Int) = x := by omega
  have hok : ExOk e.M x (exAt e.M x) := ex_ok (by have := hE.expr x.toNat (by omega); rwa [hxn] at this)
  have hsl := slot_at hE hx hok hev
  refine vspec_raw tb_ok mixed Tryd.func25 (by kernel_rfl) rfl (eval_raw _ _ e x) ⟨hx, ?_⟩
  have hcase : (exAt e.M x).Op = 1 ∨ (exAt e.M x).Op = 2 ∨ (exAt e.M x).Op = 3 ∨ (exAt e.M x).Op = 4 ∨ (exAt e.M x).Op = 5 ∨ (exAt e.M x).Op = 6 ∨ (exAt e.M x).Op = 7 ∨ (exAt e.M x).Op = 8 ∨ (exAt e.M x).Op = 9 ∨ (exAt e.M x).Op = 10 ∨ (exAt e.M x).Op = 11 ∨ (exAt e.M x).Op = 12 ∨ (exAt e.M x).Op = 13 ∨ (exAt e.M x).Op = 14 ∨ (exAt e.M x).Op = 15 ∨ (exAt e.M x).Op = 16 ∨ (exAt e.M x).Op = 17 ∨ (exAt e.M x).Op = 18 ∨ (exAt e.M x).Op = 19 ∨ (exAt e.M x).Op = 20 ∨ (exAt e.M x).Op = 21 ∨ (exAt e.M x).Op = 22 ∨ (exAt e.M x).Op = 23 ∨ (exAt e.M x).Op = 24 ∨ (exAt e.M x).Op = 25 ∨ (exAt e.M x).Op = 26 ∨ (exAt e.M x).Op = 27 ∨ (exAt e.M x).Op = 28 ∨ (exAt e.M x).Op = 29 ∨ (exAt e.M x).Op = 30 ∨ (exAt e.M x).Op = 31 ∨ (exAt e.M x).Op = 32 ∨ (exAt e.M x).Op = 33 ∨ (exAt e.M x).Op = 34 ∨ (exAt e.M x).Op = 35 ∨ (exAt e.M x).Op = 36 ∨ (exAt e.M x).Op = 37 ∨ (exAt e.M x).Op = 38 ∨ (exAt e.M x).Op = 39 := by have := hok.op; omega
  rcases hcase with ho | ho | ho | ho | ho | ho | ho | ho | ho | ho | ho | ho | ho | ho | ho | ho | ho | ho | ho | ho | ho | ho | ho | ho | ho | ho | ho | ho | ho | ho | ho | ho | ho | ho | ho | ho | ho | ho | ho
  · have hop : (e.M.Exprs.getD x.toNat default).Op = 1 := ho
    repeat (first
      | refine ⟨fun h => absurd h (by rw [hop]; decide), fun _ => ?_⟩
      | refine ⟨fun _ => ?_, fun h => absurd h (by rw [hop]; decide)⟩)
    exact leafQ (by unfold evalV; rw [ho]; rfl)
  · have hop : (e.M.Exprs.getD x.toNat default).Op = 2 := ho
    repeat (first
      | refine ⟨fun h => absurd h (by rw [hop]; decide), fun _ => ?_⟩
      | refine ⟨fun _ => ?_, fun h => absurd h (by rw [hop]; decide)⟩)
    exact read_leaf hE hop hok hsl
  · have hop : (e.M.Exprs.getD x.toNat default).Op = 3 := ho
    repeat (first
      | refine ⟨fun h => absurd h (by rw [hop]; decide), fun _ => ?_⟩
      | refine ⟨fun _ => ?_, fun h => absurd h (by rw [hop]; decide)⟩)
    exact ⟨_, sums_spec (hev _ (hok.a (by rw [ho]; decide)).1 (hok.a (by rw [ho]; decide)).2) (fun h => absurd (by omega) h), leafQ (by unfold evalV; rw [ho]; rfl)⟩
  · have hop : (e.M.Exprs.getD x.toNat default).Op = 4 := ho
    repeat (first
      | refine ⟨fun h => absurd h (by rw [hop]; decide), fun _ => ?_⟩
      | refine ⟨fun _ => ?_, fun h => absurd h (by rw [hop]; decide)⟩)
    exact ⟨_, sums_spec (hev _ (hok.a (by rw [ho]; decide)).1 (hok.a (by rw [ho]; decide)).2) (fun h => absurd (by omega) h), leafQ (by unfold evalV; rw [ho]; rfl)⟩
  · have hop : (e.M.Exprs.getD x.toNat default).Op = 5 := ho
    repeat (first
      | refine ⟨fun h => absurd h (by rw [hop]; decide), fun _ => ?_⟩
      | refine ⟨fun _ => ?_, fun h => absurd h (by rw [hop]; decide)⟩)
    exact ⟨_, sums_spec (hev _ (hok.a (by rw [ho]; decide)).1 (hok.a (by rw [ho]; decide)).2) (fun h => absurd (by omega) h), leafQ (by unfold evalV; rw [ho]; rfl)⟩
  · have hop : (e.M.Exprs.getD x.toNat default).Op = 6 := ho
    repeat (first
      | refine ⟨fun h => absurd h (by rw [hop]; decide), fun _ => ?_⟩
      | refine ⟨fun _ => ?_, fun h => absurd h (by rw [hop]; decide)⟩)
    exact ⟨_, sums_spec (hev _ (hok.a (by rw [ho]; decide)).1 (hok.a (by rw [ho]; decide)).2) (fun _ => hev _ (hok.b (by rw [ho]; decide)).1 (hok.b (by rw [ho]; decide)).2), leafQ (by unfold evalV; rw [ho]; rfl)⟩
  · have hop : (e.M.Exprs.getD x.toNat default).Op = 7 := ho
    repeat (first
      | refine ⟨fun h => absurd h (by rw [hop]; decide), fun _ => ?_⟩
      | refine ⟨fun _ => ?_, fun h => absurd h (by rw [hop]; decide)⟩)
    exact ⟨_, sums_spec (hev _ (hok.a (by rw [ho]; decide)).1 (hok.a (by rw [ho]; decide)).2) (fun _ => hev _ (hok.b (by rw [ho]; decide)).1 (hok.b (by rw [ho]; decide)).2), leafQ (by unfold evalV; rw [ho]; rfl)⟩
  · have hop : (e.M.Exprs.getD x.toNat default).Op = 8 := ho
    repeat (first
      | refine ⟨fun h => absurd h (by rw [hop]; decide), fun _ => ?_⟩
      | refine ⟨fun _ => ?_, fun h => absurd h (by rw [hop]; decide)⟩)
    exact ⟨_, sums_spec (hev _ (hok.a (by rw [ho]; decide)).1 (hok.a (by rw [ho]; decide)).2) (fun _ => hev _ (hok.b (by rw [ho]; decide)).1 (hok.b (by rw [ho]; decide)).2), leafQ (by unfold evalV; rw [ho]; rfl)⟩
  · have hop : (e.M.Exprs.getD x.toNat default).Op = 9 := ho
    repeat (first
      | refine ⟨fun h => absurd h (by rw [hop]; decide), fun _ => ?_⟩
      | refine ⟨fun _ => ?_, fun h => absurd h (by rw [hop]; decide)⟩)
    exact ⟨_, sums_spec (hev _ (hok.a (by rw [ho]; decide)).1 (hok.a (by rw [ho]; decide)).2) (fun _ => hev _ (hok.b (by rw [ho]; decide)).1 (hok.b (by rw [ho]; decide)).2), leafQ (by unfold evalV; rw [ho]; rfl)⟩
  · have hop : (e.M.Exprs.getD x.toNat default).Op = 10 := ho
    repeat (first
      | refine ⟨fun h => absurd h (by rw [hop]; decide), fun _ => ?_⟩
      | refine ⟨fun _ => ?_, fun h => absurd h (by rw [hop]; decide)⟩)
    exact ⟨_, sums_spec (hev _ (hok.a (by rw [ho]; decide)).1 (hok.a (by rw [ho]; decide)).2) (fun _ => hev _ (hok.b (by rw [ho]; decide)).1 (hok.b (by rw [ho]; decide)).2), leafQ (by unfold evalV; rw [ho]; rfl)⟩
  · have hop : (e.M.Exprs.getD x.toNat default).Op = 11 := ho
    repeat (first
      | refine ⟨fun h => absurd h (by rw [hop]; decide), fun _ => ?_⟩
      | refine ⟨fun _ => ?_, fun h => absurd h (by rw [hop]; decide)⟩)
    exact ⟨_, sums_spec (hev _ (hok.a (by rw [ho]; decide)).1 (hok.a (by rw [ho]; decide)).2) (fun _ => hev _ (hok.b (by rw [ho]; decide)).1 (hok.b (by rw [ho]; decide)).2), leafQ (by unfold evalV; rw [ho]; rfl)⟩
  · have hop : (e.M.Exprs.getD x.toNat default).Op = 12 := ho
    repeat (first
      | refine ⟨fun h => absurd h (by rw [hop]; decide), fun _ => ?_⟩
      | refine ⟨fun _ => ?_, fun h => absurd h (by rw [hop]; decide)⟩)
    exact ⟨_, sums_spec (hev _ (hok.a (by rw [ho]; decide)).1 (hok.a (by rw [ho]; decide)).2) (fun _ => hev _ (hok.b (by rw [ho]; decide)).1 (hok.b (by rw [ho]; decide)).2), leafQ (by unfold evalV; rw [ho]; rfl)⟩
  · have hop : (e.M.Exprs.getD x.toNat default).Op = 13 := ho
    repeat (first
      | refine ⟨fun h => absurd h (by rw [hop]; decide), fun _ => ?_⟩
      | refine ⟨fun _ => ?_, fun h => absurd h (by rw [hop]; decide)⟩)
    exact ⟨_, sums_spec (hev _ (hok.a (by rw [ho]; decide)).1 (hok.a (by rw [ho]; decide)).2) (fun _ => hev _ (hok.b (by rw [ho]; decide)).1 (hok.b (by rw [ho]; decide)).2), leafQ (by unfold evalV; rw [ho]; rfl)⟩
  · have hop : (e.M.Exprs.getD x.toNat default).Op = 14 := ho
    repeat (first
      | refine ⟨fun h => absurd h (by rw [hop]; decide), fun _ => ?_⟩
      | refine ⟨fun _ => ?_, fun h => absurd h (by rw [hop]; decide)⟩)
    exact ⟨_, sums_spec (hev _ (hok.a (by rw [ho]; decide)).1 (hok.a (by rw [ho]; decide)).2) (fun _ => hev _ (hok.b (by rw [ho]; decide)).1 (hok.b (by rw [ho]; decide)).2), leafQ (by unfold evalV; rw [ho]; rfl)⟩
  · have hop : (e.M.Exprs.getD x.toNat default).Op = 15 := ho
    repeat (first
      | refine ⟨fun h => absurd h (by rw [hop]; decide), fun _ => ?_⟩
      | refine ⟨fun _ => ?_, fun h => absurd h (by rw [hop]; decide)⟩)
    exact ⟨_, sums_spec (hev _ (hok.a (by rw [ho]; decide)).1 (hok.a (by rw [ho]; decide)).2) (fun _ => hev _ (hok.b (by rw [ho]; decide)).1 (hok.b (by rw [ho]; decide)).2), leafQ (by unfold evalV; rw [ho]; rfl)⟩
  · have hop : (e.M.Exprs.getD x.toNat default).Op = 16 := ho
    repeat (first
      | refine ⟨fun h => absurd h (by rw [hop]; decide), fun _ => ?_⟩
      | refine ⟨fun _ => ?_, fun h => absurd h (by rw [hop]; decide)⟩)
    exact ⟨_, sums_spec (hev _ (hok.a (by rw [ho]; decide)).1 (hok.a (by rw [ho]; decide)).2) (fun _ => hev _ (hok.b (by rw [ho]; decide)).1 (hok.b (by rw [ho]; decide)).2), leafQ (by unfold evalV; rw [ho]; rfl)⟩
  · have hop : (e.M.Exprs.getD x.toNat default).Op = 17 := ho
    repeat (first
      | refine ⟨fun h => absurd h (by rw [hop]; decide), fun _ => ?_⟩
      | refine ⟨fun _ => ?_, fun h => absurd h (by rw [hop]; decide)⟩)
    exact ⟨_, sums_spec (hev _ (hok.a (by rw [ho]; decide)).1 (hok.a (by rw [ho]; decide)).2) (fun _ => hev _ (hok.b (by rw [ho]; decide)).1 (hok.b (by rw [ho]; decide)).2), leafQ (by unfold evalV; rw [ho]; rfl)⟩
  · have hop : (e.M.Exprs.getD x.toNat default).Op = 18 := ho
    repeat (first
      | refine ⟨fun h => absurd h (by rw [hop]; decide), fun _ => ?_⟩
      | refine ⟨fun _ => ?_, fun h => absurd h (by rw [hop]; decide)⟩)
    exact ⟨_, sums_spec (hev _ (hok.a (by rw [ho]; decide)).1 (hok.a (by rw [ho]; decide)).2) (fun _ => hev _ (hok.b (by rw [ho]; decide)).1 (hok.b (by rw [ho]; decide)).2), leafQ (by unfold evalV; rw [ho]; rfl)⟩
  · have hop : (e.M.Exprs.getD x.toNat default).Op = 19 := ho
    repeat (first
      | refine ⟨fun h => absurd h (by rw [hop]; decide), fun _ => ?_⟩
      | refine ⟨fun _ => ?_, fun h => absurd h (by rw [hop]; decide)⟩)
    exact ⟨_, sums_spec (hev _ (hok.a (by rw [ho]; decide)).1 (hok.a (by rw [ho]; decide)).2) (fun _ => hev _ (hok.b (by rw [ho]; decide)).1 (hok.b (by rw [ho]; decide)).2), leafQ (by unfold evalV; rw [ho]; rfl)⟩
  · have hop : (e.M.Exprs.getD x.toNat default).Op = 20 := ho
    repeat (first
      | refine ⟨fun h => absurd h (by rw [hop]; decide), fun _ => ?_⟩
      | refine ⟨fun _ => ?_, fun h => absurd h (by rw [hop]; decide)⟩)
    exact ⟨_, sums_spec (hev _ (hok.a (by rw [ho]; decide)).1 (hok.a (by rw [ho]; decide)).2) (fun _ => hev _ (hok.b (by rw [ho]; decide)).1 (hok.b (by rw [ho]; decide)).2), leafQ (by unfold evalV; rw [ho]; rfl)⟩
  · have hop : (e.M.Exprs.getD x.toNat default).Op = 21 := ho
    repeat (first
      | refine ⟨fun h => absurd h (by rw [hop]; decide), fun _ => ?_⟩
      | refine ⟨fun _ => ?_, fun h => absurd h (by rw [hop]; decide)⟩)
    exact ⟨_, sums_spec (hev _ (hok.a (by rw [ho]; decide)).1 (hok.a (by rw [ho]; decide)).2) (fun _ => hev _ (hok.b (by rw [ho]; decide)).1 (hok.b (by rw [ho]; decide)).2), leafQ (by unfold evalV; rw [ho]; rfl)⟩
  · have hop : (e.M.Exprs.getD x.toNat default).Op = 22 := ho
    repeat (first
      | refine ⟨fun h => absurd h (by rw [hop]; decide), fun _ => ?_⟩
      | refine ⟨fun _ => ?_, fun h => absurd h (by rw [hop]; decide)⟩)
    exact ⟨_, logic_spec (hev _ (hok.a (by rw [ho]; decide)).1 (hok.a (by rw [ho]; decide)).2) (hev _ (hok.b (by rw [ho]; decide)).1 (hok.b (by rw [ho]; decide)).2) (fun h => absurd h (by rw [hop]; decide)), leafQ (by unfold evalV; rw [ho]; rfl)⟩
  · have hop : (e.M.Exprs.getD x.toNat default).Op = 23 := ho
    repeat (first
      | refine ⟨fun h => absurd h (by rw [hop]; decide), fun _ => ?_⟩
      | refine ⟨fun _ => ?_, fun h => absurd h (by rw [hop]; decide)⟩)
    exact ⟨_, logic_spec (hev _ (hok.a (by rw [ho]; decide)).1 (hok.a (by rw [ho]; decide)).2) (hev _ (hok.b (by rw [ho]; decide)).1 (hok.b (by rw [ho]; decide)).2) (fun h => absurd h (by rw [hop]; decide)), leafQ (by unfold evalV; rw [ho]; rfl)⟩
  · have hop : (e.M.Exprs.getD x.toNat default).Op = 24 := ho
    repeat (first
      | refine ⟨fun h => absurd h (by rw [hop]; decide), fun _ => ?_⟩
      | refine ⟨fun _ => ?_, fun h => absurd h (by rw [hop]; decide)⟩)
    exact ⟨_, logic_spec (hev _ (hok.a (by rw [ho]; decide)).1 (hok.a (by rw [ho]; decide)).2) (hev _ (hok.b (by rw [ho]; decide)).1 (hok.b (by rw [ho]; decide)).2) (fun _ => hev _ (hok.c (by rw [ho]; decide)).1 (hok.c (by rw [ho]; decide)).2), leafQ (by unfold evalV; rw [ho]; rfl)⟩
  · have hop : (e.M.Exprs.getD x.toNat default).Op = 25 := ho
    repeat (first
      | refine ⟨fun h => absurd h (by rw [hop]; decide), fun _ => ?_⟩
      | refine ⟨fun _ => ?_, fun h => absurd h (by rw [hop]; decide)⟩)
    exact ⟨_, asks_spec hE (hev _ (hok.a (by rw [ho]; decide)).1 (hok.a (by rw [ho]; decide)).2), leafQ (by unfold evalV; rw [ho]; rfl)⟩
  · have hop : (e.M.Exprs.getD x.toNat default).Op = 26 := ho
    repeat (first
      | refine ⟨fun h => absurd h (by rw [hop]; decide), fun _ => ?_⟩
      | refine ⟨fun _ => ?_, fun h => absurd h (by rw [hop]; decide)⟩)
    exact ⟨_, asks_spec hE (hev _ (hok.a (by rw [ho]; decide)).1 (hok.a (by rw [ho]; decide)).2), leafQ (by unfold evalV; rw [ho]; rfl)⟩
  · have hop : (e.M.Exprs.getD x.toNat default).Op = 27 := ho
    repeat (first
      | refine ⟨fun h => absurd h (by rw [hop]; decide), fun _ => ?_⟩
      | refine ⟨fun _ => ?_, fun h => absurd h (by rw [hop]; decide)⟩)
    exact ⟨_, asks_spec hE (hev _ (hok.a (by rw [ho]; decide)).1 (hok.a (by rw [ho]; decide)).2), leafQ (by unfold evalV; rw [ho]; rfl)⟩
  · have hop : (e.M.Exprs.getD x.toNat default).Op = 28 := ho
    repeat (first
      | refine ⟨fun h => absurd h (by rw [hop]; decide), fun _ => ?_⟩
      | refine ⟨fun _ => ?_, fun h => absurd h (by rw [hop]; decide)⟩)
    exact ⟨_, asks_spec hE (hev _ (hok.a (by rw [ho]; decide)).1 (hok.a (by rw [ho]; decide)).2), leafQ (by unfold evalV; rw [ho]; rfl)⟩
  · have hop : (e.M.Exprs.getD x.toNat default).Op = 29 := ho
    repeat (first
      | refine ⟨fun h => absurd h (by rw [hop]; decide), fun _ => ?_⟩
      | refine ⟨fun _ => ?_, fun h => absurd h (by rw [hop]; decide)⟩)
    exact ⟨_, asks_spec hE (hev _ (hok.a (by rw [ho]; decide)).1 (hok.a (by rw [ho]; decide)).2), leafQ (by unfold evalV; rw [ho]; rfl)⟩
  · have hop : (e.M.Exprs.getD x.toNat default).Op = 30 := ho
    repeat (first
      | refine ⟨fun h => absurd h (by rw [hop]; decide), fun _ => ?_⟩
      | refine ⟨fun _ => ?_, fun h => absurd h (by rw [hop]; decide)⟩)
    exact ⟨_, poll_spec hE (hev _ (hok.a (by rw [ho]; decide)).1 (hok.a (by rw [ho]; decide)).2) (fun a ha => hev _ ((poll_ok (hok.poll ho)).2.2 a ha).1 ((poll_ok (hok.poll ho)).2.2 a ha).2) (poll_ok (hok.poll ho)).1 (poll_ok (hok.poll ho)).2.1, leafQ (by unfold evalV; rw [ho]; rfl)⟩
  · have hop : (e.M.Exprs.getD x.toNat default).Op = 31 := ho
    repeat (first
      | refine ⟨fun h => absurd h (by rw [hop]; decide), fun _ => ?_⟩
      | refine ⟨fun _ => ?_, fun h => absurd h (by rw [hop]; decide)⟩)
    exact leafQ (by unfold evalV; rw [ho]; rfl)
  · have hop : (e.M.Exprs.getD x.toNat default).Op = 32 := ho
    repeat (first
      | refine ⟨fun h => absurd h (by rw [hop]; decide), fun _ => ?_⟩
      | refine ⟨fun _ => ?_, fun h => absurd h (by rw [hop]; decide)⟩)
    exact leafQ (by unfold evalV; rw [ho]; rfl)
  · have hop : (e.M.Exprs.getD x.toNat default).Op = 33 := ho
    repeat (first
      | refine ⟨fun h => absurd h (by rw [hop]; decide), fun _ => ?_⟩
      | refine ⟨fun _ => ?_, fun h => absurd h (by rw [hop]; decide)⟩)
    exact leafQ (by unfold evalV; rw [ho]; rfl)
  · have hop : (e.M.Exprs.getD x.toNat default).Op = 34 := ho
    repeat (first
      | refine ⟨fun h => absurd h (by rw [hop]; decide), fun _ => ?_⟩
      | refine ⟨fun _ => ?_, fun h => absurd h (by rw [hop]; decide)⟩)
    exact ⟨_, progress_spec hE, _, truth_spec, leafQ (by unfold evalV; rw [ho]; rfl)⟩
  · have hop : (e.M.Exprs.getD x.toNat default).Op = 35 := ho
    repeat (first
      | refine ⟨fun h => absurd h (by rw [hop]; decide), fun _ => ?_⟩
      | refine ⟨fun _ => ?_, fun h => absurd h (by rw [hop]; decide)⟩)
    exact ⟨_, truth_spec, leafQ (by unfold evalV; rw [ho]; rfl)⟩
  · have hop : (e.M.Exprs.getD x.toNat default).Op = 36 := ho
    repeat (first
      | refine ⟨fun h => absurd h (by rw [hop]; decide), fun _ => ?_⟩
      | refine ⟨fun _ => ?_, fun h => absurd h (by rw [hop]; decide)⟩)
    exact able_leaf hop (hev _ (hok.a (by rw [ho]; decide)).1 (hok.a (by rw [ho]; decide)).2)
  · have hop : (e.M.Exprs.getD x.toNat default).Op = 37 := ho
    repeat (first
      | refine ⟨fun h => absurd h (by rw [hop]; decide), fun _ => ?_⟩
      | refine ⟨fun _ => ?_, fun h => absurd h (by rw [hop]; decide)⟩)
    exact ⟨_, remote_spec (hev _ (hok.a (by rw [ho]; decide)).1 (hok.a (by rw [ho]; decide)).2) (args_len hE hx), leafQ (by unfold evalV; rw [ho]; rfl)⟩
  · have hop : (e.M.Exprs.getD x.toNat default).Op = 38 := ho
    repeat (first
      | refine ⟨fun h => absurd h (by rw [hop]; decide), fun _ => ?_⟩
      | refine ⟨fun _ => ?_, fun h => absurd h (by rw [hop]; decide)⟩)
    exact ⟨_, remote_spec (hev _ (hok.a (by rw [ho]; decide)).1 (hok.a (by rw [ho]; decide)).2) (args_len hE hx), leafQ (by unfold evalV; rw [ho]; rfl)⟩
  · have hop : (e.M.Exprs.getD x.toNat default).Op = 39 := ho
    repeat (first
      | refine ⟨fun h => absurd h (by rw [hop]; decide), fun _ => ?_⟩
      | refine ⟨fun _ => ?_, fun h => absurd h (by rw [hop]; decide)⟩)
    exact leafQ (by unfold evalV; rw [ho]; rfl)
end Go.Proofs.YthmhbmikcdfkcaaDoor
/-
  Layer 14 on trees, V: Eval, Slot, Chan.
-/
namespace Go.Proofs.YthmhbmikcdfkcaaDoor
open Go.RowKit
theorem evalF_spec {e : D.Env} (hE : EnvOk e) : ∀ (n : Nat) (x : Int), 0 ≤ x → x < e.M.Exprs.length → x < n → EvS e x (evalF e n x)
  | 0, x, h0, _, h2 => by omega
  | n + 1, x, h0, h1, h2 => eval_step hE ⟨h0, h1⟩ fun a ha hlt => evalF_spec hE n a ha (by omega) (by omega)
theorem subP_spec {e : D.Env} (hE : EnvOk e) {x a : Int} (hx : x < e.M.Exprs.length) (h0 : 0 ≤ a) (h1 : a < x) : EvS e a (subP e a) := evalF_spec hE _ a h0 (by omega) (by omega)
theorem exAll_spec {e : D.Env} (hE : EnvOk e) {x : Int} (hx : 0 ≤ x ∧ x < e.M.Exprs.length) : EvS e x (evalV e (subP e) (exAt e.M x)) := eval_step hE hx fun _ h0 h1 => subP_spec hE hx.2 h0 h1
theorem excheck_spec {e : D.Env} (hw : wf_Model e.M) (hs : SmallS' e.S) (x : Int) : VSpec Tryd.prog 24 [] [.agg (enc_Env e), intV x] [] (intV (exCheck e x)) := by
  refine vspec_raw tb_ok mixed Tryd.func24 (by kernel_rfl) rfl (excheck_raw _ e x) ⟨_, stcheck_spec hw hs (fun h => (lim_of h).clp), fun h => leafI (ct (by simpa using h) rfl), fun h => ⟨fun h1 => leafI (cf (by simpa using h) (ct ?_ rfl)), fun h1 => leafI (cf (by simpa using h) (cf ?_ rfl))⟩⟩
  · simp only [bif_or, ge_iff_le, Bool.or_assoc] at h1; exact h1
  · simp only [bif_or, ge_iff_le, Bool.or_assoc] at h1; exact h1
theorem env_ok {e : D.Env} {x : Int} (hw : wf_Model e.M) (h : exCheck e x = 0) : EnvOk e ∧ 0 ≤ x ∧ x < e.M.Exprs.length := by
  unfold exCheck at h
  cases c1 : decide (stCheck e.M e.S ≠ 0) with
  | true => rw [c1, cond_true] at h; exact absurd h (of_decide_eq_true c1)
  | false =>
    rw [c1, cond_false] at h
    obtain ⟨h1, h2⟩ := check_zero (show stCheck e.M e.S = 0 by simpa using c1)
    cases c2 : (decide (e.Pid < -1) || (decide ((e.S.Procs.length : Int) ≤ e.Pid) || (decide (x < 0) || decide ((e.M.Exprs.length : Int) ≤ x)))) with
    | true => rw [c2, cond_true] at h; simp at h
    | false =>
      simp only [Bool.or_eq_false_iff, decide_eq_false_iff_not] at c2
      exact ⟨⟨h2, h1, hw, by omega, by omega⟩, by omega, by omega⟩
theorem eeval_spec {e : D.Env} (hw : wf_Model e.M) (hs : SmallS' e.S) (x : Int) : VSpec Tryd.prog 8 [] [.agg (enc_Env e), intV x] [] (vII (evalP e x)) := by
  refine vspec_raw tb_ok mixed Tryd.func8 (by kernel_rfl) rfl (eeval_raw _ _ e x) ⟨_, excheck_spec hw hs x, fun h => leafQ (ct (by simpa using h) rfl), fun h => ?_⟩
  obtain ⟨hE, hx⟩ := env_ok (x := x) hw (by simpa using h)
  exact ⟨_, exAll_spec hE hx, leafQ (cf (by simpa using h) rfl)⟩
theorem eslot_spec {e : D.Env} (hw : wf_Model e.M) (hs : SmallS' e.S) (x : Int) : VSpec Tryd.prog 9 [] [.agg (enc_Env e), intV x] [] (vIII (slotP e x)) := by
  refine vspec_raw tb_ok mixed Tryd.func9 (by kernel_rfl) rfl (eslot_raw _ _ _ e x) ⟨_, excheck_spec hw hs x, fun h => leafR (ct (by simpa using h) rfl), fun h => ?_⟩
  obtain ⟨hE, hx⟩ := env_ok (x := x) hw (by simpa using h)
  have hxn : ((x.toNat : Nat) : Int) = x := by omega
  have hok : ExOk e.M x (exAt e.M x) := ex_ok (by have := hE.expr x.toNat (by omega); rwa [hxn] at this)
  exact ⟨_, slot_at hE hx hok fun a h0 h1 => subP_spec hE hx.2 h0 h1, leafR (cf (by simpa using h) rfl)⟩
theorem echan_spec {e : D.Env} (hw : wf_Model e.M) (hs : SmallS' e.S) (x : Int) : VSpec Tryd.prog 12 [] [.agg (enc_Env e), intV x] [] (vII (echanP e x)) := by
  refine vspec_raw tb_ok mixed Tryd.func12 (by kernel_rfl) rfl (echan_raw _ _ e x) ⟨_, excheck_spec hw hs x, fun h => leafQ (ct (by simpa using h) rfl), fun h => ?_⟩
  obtain ⟨hE, hx⟩ := env_ok (x := x) hw (by simpa using h)
  exact ⟨_, xchan_spec (evalF_spec hE _ x hx.1 hx.2 hx.2), leafQ (cf (by simpa using h) rfl)⟩
end Go.Proofs.YthmhbmikcdfkcaaDoor
