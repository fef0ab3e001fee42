/-
  Layer 12 on trees, I: which states may be; when two are the same.
-/
import Derived.Test.YtdjjlkekbphbaaaDoorStH
import Derived.Test.YtdjjlkekbphbaaaDoorStL
import Derived.Test.YtdjjlkekbphbaaaDoorStClone
namespace Go.Proofs.YtdjjlkekbphbaaaDoor
open Go.RowKit

theorem leS_agg {xs ys : List VV} (hl : ys.length = xs.length) (h : ∀ (j : Nat) x y, xs[j]? = some x → ys[j]? = some y → leS x y) : leS (.agg xs) (.agg ys) := by
  intro w E m v hE hv
  obtain ⟨vs, rfl, h1, h2⟩ := hv.agg_inv
  refine .agg (h1.trans hl.symm) fun j y hy => ?_
  have hj : j < xs.length := by rw [← hl]; exact (List.getElem?_eq_some_iff.1 hy).1
  exact h j _ y (List.getElem?_eq_getElem hj) hy w E m _ hE (h2 j _ (List.getElem?_eq_getElem hj))
theorem succ_of {n k : Nat} {P : Nat → Prop} (hI : ∀ i, i < k → P i) (h : P k) : ∀ i, i < k + 1 → P i := fun i hi => by
  rcases Nat.lt_succ_iff_lt_or_eq.1 hi with h' | rfl
  · exact hI i h'
  · exact h
/-- Lists that are no longer than what a text of the form's reach can say. -/
def Len (n : Nat) : Prop := n ≤ 1099511627776
theorem typed_spec {t : List D.Type} {l : List Int} (hl : Len l.length) : VSpec Tryd.prog 59 [] [encL_Type true t, encL_Int true l] [] (boolV (typedP t l)) := by
  unfold Len at hl
  refine vspec_raw tb_ok mixed Tryd.func59 (by kernel_rfl) rfl (typed_raw _ t l) ⟨fun h => leafB ?_, fun h => ?_⟩
  · unfold typedP
    have : decide (t.length = l.length) = false := by simp at h; simp; omega
    rw [this, Bool.false_and]
  · have hlen : t.length = l.length := by simp at h; omega
    have e : typedP t l = allI l.length fun i => fitsP (t.getD i default) (l.getD i 0) := by unfold typedP; rw [show decide (t.length = l.length) = true by simpa using hlen, Bool.true_and]
    rw [e]
    refine loop_idx tb_ok mixed l.length (fun k => stTyped t l k) (fun k => ∀ i, i < k → fitsP (t.getD i default) (l.getD i 0) = true) (by kernel_rfl) (by kernel_rfl) (fun i hi => by omega) ?_
    intro k hk hI J next
    refine Asks.raw (typed1_raw _ t l k J) ⟨fun hlt => ?_, fun hge => leafB ?_⟩
    · have hlt' : k < l.length := by have := lt_of hlt; omega
      refine ⟨⟨by omega, by omega⟩, ⟨by omega, by omega⟩, fitsP (t.getD k default) (l.getD k 0), fits_spec _ _, fun hy => leafB ?_, fun hy => next _ hlt' (succ_of (n := 0) hI (by simpa using hy)) (Up.of ?_)⟩
      · exact (allI_no (f := fun i => fitsP (t.getD i default) (l.getD i 0)) hlt' (by simpa using hy)).symm
      · rw [wrap_succ (by omega)]; rfl
    · have hge' : l.length ≤ k := by have := ge_of hge; omega
      exact (allI_iff.2 fun i hi => hI i (by omega)).symm
structure SmallC (c : D.Chan) : Prop where
  q : Len c.Queue.length
  m : ∀ x ∈ c.Queue, Len x.length
theorem channel_spec {m : D.Model} {c : D.Chan} (hc : SmallC c) : VSpec Tryd.prog 60 [] [.agg (enc_Model m), .agg (enc_Chan c)] [] (boolV (chanP m c)) := by
  have hq := hc.q
  unfold Len at hq
  refine vspec_raw tb_ok mixed Tryd.func60 (by kernel_rfl) rfl (channel_raw _ m c) ⟨fun h => ?_, fun h => leafB ?_, fun h => ?_⟩
  · simp at h; omega
  · symm; rw [Bool.eq_false_iff]; intro hcc
    unfold chanP at hcc
    simp only [Bool.and_eq_true, decide_eq_true_eq] at hcc
    have := inP_iff.1 hcc.1.1
    have hr : (shAt m c.Shape).Room = (m.Shapes.getD c.Shape.toNat default).Room := rfl
    rw [hr] at hcc
    generalize (m.Shapes.getD c.Shape.toNat default).Room = rm at h hcc
    simp at h; omega
  · have hs : 0 ≤ c.Shape ∧ c.Shape < m.Shapes.length ∧ (c.Queue.length : Int) ≤ (shAt m c.Shape).Room := by
      have hr : (shAt m c.Shape).Room = (m.Shapes.getD c.Shape.toNat default).Room := rfl
      rw [hr]
      generalize (m.Shapes.getD c.Shape.toNat default).Room = rm at h ⊢
      simp at h; omega
    have e : chanP m c = allI c.Queue.length fun i => typedP (shAt m c.Shape).Fields (c.Queue.getD i []) := by
      unfold chanP
      rw [inP_iff.2 ⟨hs.1, hs.2.1⟩, show decide ((c.Queue.length : Int) ≤ (shAt m c.Shape).Room) = true by simpa using hs.2.2]; rfl
    rw [e]
    refine loop_idx tb_ok mixed c.Queue.length (fun k => stChannel m c k) (fun k => ∀ i, i < k → typedP (shAt m c.Shape).Fields (c.Queue.getD i []) = true) (by kernel_rfl) (by kernel_rfl) (fun i hi => by omega) ?_
    intro k hk hI J next
    refine Asks.raw (channel1_raw _ m c k J) ⟨fun hlt => ?_, fun hge => leafB ?_⟩
    · have hlt' : k < c.Queue.length := by have := lt_of hlt; omega
      refine ⟨⟨by omega, by omega⟩, ⟨hs.1, hs.2.1⟩, typedP (shAt m c.Shape).Fields (c.Queue.getD k []), typed_spec (hc.m _ (getD_mem hlt')), fun hy => leafB ?_, fun hy => next _ hlt' (succ_of (n := 0) hI (by simpa using hy)) (Up.of ?_)⟩
      · exact (allI_no (f := fun i => typedP (shAt m c.Shape).Fields (c.Queue.getD i [])) hlt' (by simpa using hy)).symm
      · rw [wrap_succ (by omega)]; rfl
    · have hge' : c.Queue.length ≤ k := by have := ge_of hge; omega
      exact (allI_iff.2 fun i hi => hI i (by omega)).symm
theorem process_spec {m : D.Model} {p : D.Process} (hp : Len p.Frame.length) : VSpec Tryd.prog 61 [] [.agg (enc_Model m), .agg (enc_Process p)] [] (boolV (processP m p)) := by
  have hpr : (prAt m p.Type_) = m.Procs.getD p.Type_.toNat default := rfl
  refine vspec_raw tb_ok mixed Tryd.func61 (by kernel_rfl) rfl (process_raw _ m p) ⟨fun h => leafB ?_, fun h => ⟨?_, typedP (prAt m p.Type_).Frame p.Frame, fun _ => typed_spec hp, leafB ?_⟩⟩
  · unfold processP procP
    have : (decide (0 ≤ p.Type_) && decide (p.Type_ < m.Procs.length) && decide (p.Type_ ≠ m.Claim)) = false := by
      rw [Bool.eq_false_iff]; intro hc; simp at hc h; omega
    rw [this]; rfl
  · simp at h; omega
  · unfold processP procP inP
    have : (decide (0 ≤ p.Type_) && decide (p.Type_ < m.Procs.length) && decide (p.Type_ ≠ m.Claim)) = true := by simp at h ⊢; omega
    rw [this, Bool.true_and, ← hpr]
    simp only [ieq, bif_and, ge_iff_le]
structure SmallS' (s : D.State) : Prop where
  g : Len s.Globals.length
  c : Len s.Chans.length
  p : Len s.Procs.length
  cs : ∀ c ∈ s.Chans, SmallC c
  ps : ∀ p ∈ s.Procs, Len p.Frame.length
theorem stfits_spec' {m : D.Model} {s : D.State} (hs : SmallS' s) (hcl : m.Claim < m.Procs.length) : VSpec Tryd.prog 25 [] [.agg (enc_Model m), .agg (encSt false s)] [] (boolV (stFits m s)) := by
  have hc := hs.c
  have hp := hs.p
  unfold Len at hc hp
  have ht : (bif bif bif bif bif bif !(typedP m.Globals s.Globals) then true else decide ((s.Chans.length : Int) > 32) then true else decide ((s.Procs.length : Int) > 16) then true else decide (s.Last < 0) then true else decide (s.Last ≥ 16) then true else decide (s.Alone < (-1 : Int)) then true else decide (s.Alone ≥ (s.Procs.length : Int))) = !(headP m s) := by
    unfold headP
    cases typedP m.Globals s.Globals
    · rfl
    · rw [Bool.eq_iff_iff]; simp; omega
  refine vspec_raw tb_ok mixed Tryd.func25 (by kernel_rfl) rfl (stfits_raw _ m s) ⟨typedP m.Globals s.Globals, typed_spec hs.g, ?_⟩
  rw [ht]
  have e0 : stFits m s = (headP m s && (allI s.Chans.length fun i => chanP m (s.Chans.getD i default)) && (allI s.Procs.length fun i => processP m (s.Procs.getD i default)) && claimAt m s) := rfl
  generalize stFits m s = b at e0 ⊢
  refine ⟨fun h => leafB ?_, fun h => ?_⟩
  · rw [show headP m s = false by simpa using h] at e0; rw [e0]; rfl
  rw [show headP m s = true by simpa using h, Bool.true_and] at e0
  refine loop_idx tb_ok mixed s.Chans.length (fun k => stFits1 m s k) (fun k => ∀ i, i < k → chanP m (s.Chans.getD i default) = true) (by kernel_rfl) (by kernel_rfl) (fun i hi => by omega) ?_
  intro k hk hI J next
  refine Asks.raw (stfits1_raw _ m s k J) ⟨fun hlt => ?_, fun hge => ?_⟩
  · have hlt' : k < s.Chans.length := by have := lt_of hlt; omega
    refine ⟨⟨by omega, by omega⟩, chanP m (s.Chans.getD k default), channel_spec (hs.cs _ (getD_mem hlt')), fun hy => leafB ?_, fun hy => next _ hlt' (succ_of (n := 0) hI (by simpa using hy)) (Up.of ?_)⟩
    · rw [allI_no (f := fun i => chanP m (s.Chans.getD i default)) hlt' (by simpa using hy)] at e0
      rw [e0]; rfl
    · rw [wrap_succ (by omega)]; rfl
  have hge' : s.Chans.length ≤ k := by have := ge_of hge; omega
  rw [(allI_iff (n := s.Chans.length) (f := fun i => chanP m (s.Chans.getD i default))).2 fun i hi => hI i (by omega), Bool.true_and] at e0
  clear hI next
  refine loop_idx tb_ok mixed s.Procs.length (fun k => stFits2 m s k) (fun k => ∀ i, i < k → processP m (s.Procs.getD i default) = true) (by kernel_rfl) (by kernel_rfl) (fun i hi => by omega) ?_
  intro k hk hI J next
  refine Asks.raw (stfits2_raw _ m s k J) ⟨fun hlt => ?_, fun hge => ?_⟩
  · have hlt' : k < s.Procs.length := by have := lt_of hlt; omega
    refine ⟨⟨by omega, by omega⟩, processP m (s.Procs.getD k default), process_spec (hs.ps _ (getD_mem hlt')), fun hy => leafB ?_, fun hy => next _ hlt' (succ_of (n := 0) hI (by simpa using hy)) (Up.of ?_)⟩
    · rw [allI_no (f := fun i => processP m (s.Procs.getD i default)) hlt' (by simpa using hy)] at e0
      rw [e0]; rfl
    · rw [wrap_succ (by omega)]; rfl
  have hge' : s.Procs.length ≤ k := by have := ge_of hge; omega
  rw [(allI_iff (n := s.Procs.length) (f := fun i => processP m (s.Procs.getD i default))).2 fun i hi => hI i (by omega), Bool.true_and] at e0
  unfold claimAt at e0
  refine ⟨fun h2 => leafB ?_, fun h2 => ⟨fun _ => ⟨?_, hcl⟩, leafB ?_⟩⟩
  · rw [h2, cond_true] at e0; rw [e0, ieq]
  · have := of_decide_eq_false h2; omega
  · rw [h2, cond_false] at e0
    rw [e0, bif_and]; rfl
theorem stfits_spec {m : D.Model} {s : D.State} (hs : SmallS' s) (hcl : m.Claim < m.Procs.length) : VSpec Tryd.prog 25 [] [.agg (enc_Model m), .agg (enc_State s)] [] (boolV (stFits m s)) := by
  refine (stfits_spec' hs hcl).frz rfl fun j x y hx hy => ?_
  match j, hx, hy with
  | 0, hx, hy => simp only [List.getElem?_cons_zero, Option.some.injEq] at hx hy; subst hx hy; exact leS_refl _
  | 1, hx, hy =>
    simp only [List.getElem?_cons_succ, List.getElem?_cons_zero, Option.some.injEq] at hx hy
    subst hx hy
    refine leS_agg rfl fun j x y hx hy => ?_
    match j, hx, hy with
    | 0, hx, hy => simp only [enc_State, encSt, List.getElem?_cons_zero, Option.some.injEq] at hx hy; subst hx hy; exact leS_refl _
    | 1, hx, hy => simp only [enc_State, encSt, List.getElem?_cons_succ, List.getElem?_cons_zero, Option.some.injEq] at hx hy; subst hx hy; exact leS_sl
    | 2, hx, hy => simp only [enc_State, encSt, List.getElem?_cons_succ, List.getElem?_cons_zero, Option.some.injEq] at hx hy; subst hx hy; exact leS_sl
    | 3, hx, hy => simp only [enc_State, encSt, List.getElem?_cons_succ, List.getElem?_cons_zero, Option.some.injEq] at hx hy; subst hx hy; exact leS_refl _
    | 4, hx, hy => simp only [enc_State, encSt, List.getElem?_cons_succ, List.getElem?_cons_zero, Option.some.injEq] at hx hy; subst hx hy; exact leS_refl _
    | 5, hx, hy => simp only [enc_State, encSt, List.getElem?_cons_succ, List.getElem?_cons_zero, Option.some.injEq] at hx hy; subst hx hy; exact leS_refl _
    | j + 6, hx, hy => simp [enc_State] at hx
  | j + 2, hx, hy => simp at hx
theorem may_spec {m : D.Model} (hw : wf_Model m) : VSpec Tryd.prog 21 [] [.agg (enc_Model m)] [] (boolV (mayP m)) :=
  vspec_raw tb_ok mixed Tryd.func21 (by kernel_rfl) rfl (may_raw _ m) ⟨checkP m, check_spec hw, leafB (ieq _ _)⟩
theorem stcheck_spec {m : D.Model} {s : D.State} (hw : wf_Model m) (hs : SmallS' s) (hcl : mayP m = true → m.Claim < m.Procs.length) : VSpec Tryd.prog 19 [] [.agg (enc_Model m), .agg (enc_State s)] [] (intV (stCheck m s)) := by
  refine vspec_raw tb_ok mixed Tryd.func19 (by kernel_rfl) rfl (stcheck_raw _ m s) ⟨mayP m, may_spec hw, fun h => leafI ?_, fun h => ⟨stFits m s, stfits_spec hs (hcl (by simpa using h)), fun h2 => leafI ?_, fun h2 => leafI ?_⟩⟩
  · unfold stCheck; rw [show mayP m = false by simpa using h]; rfl
  · unfold stCheck; rw [show mayP m = true by simpa using h, show stFits m s = false by simpa using h2]; rfl
  · unfold stCheck; rw [show mayP m = true by simpa using h, show stFits m s = true by simpa using h2]; rfl

/-! ### The same -/
theorem ext_getD {α : Type} {x y : List α} {d : α} (hl : x.length = y.length) (h : ∀ i, i < x.length → x.getD i d = y.getD i d) : x = y := by
  apply List.ext_getElem hl
  intro i h1 h2
  have := h i h1
  simpa [List.getD, h1, h2] using this
theorem numbs_spec {x y : List Int} (hx : Len x.length) : VSpec Tryd.prog 26 [] [encL_Int true x, encL_Int true y] [] (boolV (decide (x = y))) := by
  unfold Len at hx
  refine vspec_raw tb_ok mixed Tryd.func26 (by kernel_rfl) rfl (numbs_raw _ x y) ⟨fun h => leafB ?_, fun h => ?_⟩
  · symm; rw [decide_eq_false_iff_not]; rintro rfl; simp at h
  · have hlen : x.length = y.length := by simp at h; omega
    refine loop_idx tb_ok mixed x.length (fun k => stNumbs x y k) (fun k => ∀ i, i < k → x.getD i 0 = y.getD i 0) (by kernel_rfl) (by kernel_rfl) (fun i hi => by omega) ?_
    intro k hk hI J next
    refine Asks.raw (numbs1_raw _ x y k J) ⟨fun hlt => ?_, fun hge => leafB ?_⟩
    · have hlt' : k < x.length := by have := lt_of hlt; omega
      have hto : (k : Int).toNat = k := by omega
      rw [hto]
      refine ⟨⟨by omega, by omega⟩, ⟨by omega, by omega⟩, fun hy => leafB ?_, fun hy => next _ hlt' (succ_of (n := 0) hI (by simpa using hy)) (Up.of ?_)⟩
      · symm; rw [decide_eq_false_iff_not]; rintro rfl; simp at hy
      · rw [wrap_succ (by omega)]; rfl
    · have hge' : x.length ≤ k := by have := ge_of hge; omega
      symm; rw [decide_eq_true_eq]
      exact ext_getD hlen fun i hi => hI i (by omega)
theorem samechan_spec {x y : D.Chan} (hx : SmallC x) : VSpec Tryd.prog 27 [] [.agg (enc_Chan x), .agg (enc_Chan y)] [] (boolV (decide (x = y))) := by
  have hq := hx.q
  unfold Len at hq
  refine vspec_raw tb_ok mixed Tryd.func27 (by kernel_rfl) rfl (samechan_raw _ x y) ⟨fun h => leafB ?_, fun h => ?_⟩
  · symm; rw [decide_eq_false_iff_not]; rintro rfl; simp at h
  · have hlen : x.Shape = y.Shape ∧ x.Queue.length = y.Queue.length := by simp at h; omega
    refine loop_idx tb_ok mixed x.Queue.length (fun k => stSameC x y k) (fun k => ∀ i, i < k → x.Queue.getD i [] = y.Queue.getD i []) (by kernel_rfl) (by kernel_rfl) (fun i hi => by omega) ?_
    intro k hk hI J next
    refine Asks.raw (samechan1_raw _ x y k J) ⟨fun hlt => ?_, fun hge => leafB ?_⟩
    · have hlt' : k < x.Queue.length := by have := lt_of hlt; omega
      have hto : (k : Int).toNat = k := by omega
      rw [hto]
      refine ⟨⟨by omega, by omega⟩, ⟨by omega, by omega⟩, _, numbs_spec (hx.m _ (getD_mem hlt')), fun hy => leafB ?_, fun hy => next _ hlt' (succ_of (n := 0) hI (by simpa using hy)) (Up.of ?_)⟩
      · symm; rw [decide_eq_false_iff_not]; rintro rfl; simp at hy
      · rw [wrap_succ (by omega)]; rfl
    · have hge' : x.Queue.length ≤ k := by have := ge_of hge; omega
      symm; rw [decide_eq_true_eq]
      exact D.Chan.ext hlen.1 (ext_getD hlen.2 fun i hi => hI i (by omega))
theorem rsame_spec {x y : D.State} (hx : SmallS' x) : VSpec Tryd.prog 9 [] [.agg (enc_State x), .agg (enc_State y)] [] (boolV (decide (x = y))) := by
  have hc := hx.c
  have hp := hx.p
  unfold Len at hc hp
  refine vspec_raw tb_ok mixed Tryd.func9 (by kernel_rfl) rfl (rsame_raw _ x y) ⟨decide (x.Globals = y.Globals), numbs_spec hx.g, fun h => leafB ?_, fun h => ?_⟩
  · symm; rw [decide_eq_false_iff_not]; rintro rfl; simp at h
  have hall : x.Globals = y.Globals ∧ x.Last = y.Last ∧ x.Alone = y.Alone ∧ x.Claim = y.Claim ∧ x.Chans.length = y.Chans.length ∧ x.Procs.length = y.Procs.length := by
    by_cases hg : x.Globals = y.Globals
    · refine ⟨hg, ?_⟩
      rw [show decide (x.Globals = y.Globals) = true by simpa using hg] at h
      simp at h; omega
    · rw [show decide (x.Globals = y.Globals) = false by simpa using hg] at h
      simp at h
  refine loop_idx tb_ok mixed x.Chans.length (fun k => stSame1 x y k) (fun k => ∀ i, i < k → x.Chans.getD i default = y.Chans.getD i default) (by kernel_rfl) (by kernel_rfl) (fun i hi => by omega) ?_
  intro k hk hI J next
  refine Asks.raw (rsame1_raw _ x y k J) ⟨fun hlt => ?_, fun hge => ?_⟩
  · have hlt' : k < x.Chans.length := by have := lt_of hlt; omega
    have hto : (k : Int).toNat = k := by omega
    rw [hto]
    refine ⟨⟨by omega, by omega⟩, ⟨by omega, by omega⟩, _, samechan_spec (hx.cs _ (getD_mem hlt')), fun hy => leafB ?_, fun hy => next _ hlt' (succ_of (n := 0) hI (by simpa using hy)) (Up.of ?_)⟩
    · symm; rw [decide_eq_false_iff_not]; rintro rfl; simp at hy
    · rw [wrap_succ (by omega)]; rfl
  have hge' : x.Chans.length ≤ k := by have := ge_of hge; omega
  have ec : x.Chans = y.Chans := ext_getD hall.2.2.2.2.1 fun i hi => hI i (by omega)
  clear hI next
  refine loop_idx tb_ok mixed x.Procs.length (fun k => stSame2 x y k) (fun k => ∀ i, i < k → x.Procs.getD i default = y.Procs.getD i default) (by kernel_rfl) (by kernel_rfl) (fun i hi => by omega) ?_
  intro k hk hI J next
  refine Asks.raw (rsame2_raw _ x y k J) ⟨fun hlt => ?_, fun hge => leafB ?_⟩
  · have hlt' : k < x.Procs.length := by have := lt_of hlt; omega
    have hto : (k : Int).toNat = k := by omega
    rw [hto]
    refine ⟨⟨by omega, by omega⟩, ⟨by omega, by omega⟩, _, numbs_spec (hx.ps _ (getD_mem hlt')), fun hy => leafB ?_, fun hy => next _ hlt' (succ_of (n := 0) hI ?_) (Up.of ?_)⟩
    · symm; rw [decide_eq_false_iff_not]; rintro rfl; simp at hy
    · generalize x.Procs.getD k default = p at hy ⊢
      generalize y.Procs.getD k default = q at hy ⊢
      by_cases hf : p.Frame = q.Frame
      · rw [show decide (p.Frame = q.Frame) = true by simpa using hf] at hy
        have : p.Type_ = q.Type_ ∧ p.Loc = q.Loc ∧ p.Prio = q.Prio := by simp at hy; omega
        exact D.Process.ext this.1 this.2.1 this.2.2 hf
      · rw [show decide (p.Frame = q.Frame) = false by simpa using hf] at hy
        simp at hy
    · rw [wrap_succ (by omega)]; rfl
  · have hge' : x.Procs.length ≤ k := by have := ge_of hge; omega
    symm; rw [decide_eq_true_eq]
    exact D.State.ext hall.1 ec (ext_getD hall.2.2.2.2.2 fun i hi => hI i (by omega)) hall.2.1 hall.2.2.1 hall.2.2.2.1
end Go.Proofs.YtdjjlkekbphbaaaDoor
