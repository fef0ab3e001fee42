/-
  Layer 11 on trees, VI: all of a proctype; the tables; Check.
-/
import Derived.Test.YtdjjlkekbphbaaaDoorGdW5
namespace Go.Proofs.YtdjjlkekbphbaaaDoor
open Go.RowKit

theorem wf_trans {t : D.Trans} (h : wf_Trans t) : SmallS t.S := ⟨h.S.Args.1, h.S.Match.1⟩
theorem wf_ways {l : D.Loc} (h : wf_Loc l) : (waysP l).length ≤ 1048577 ∧ ∀ w ∈ waysP l, wfL_Trans w := by
  refine ⟨by have := h.Esc.1; simp [waysP]; omega, fun w hw => ?_⟩
  rcases List.mem_cons.1 hw with rfl | hw
  · exact h.Out
  · exact h.Esc.2 w hw
theorem proc_spec {m : D.Model} {i : Int} (hr : Ready m) (hi0 : 0 ≤ i) (hi : i < m.Procs.length) (hpv : (m.Procs.getD i.toNat default).Provided < m.Exprs.length) :
    VSpec Tryd.prog 81 [] [tpM m, intV i] [] (boolV (procAllP m i)) := by
  have hw := hr.wf.Procs.2 _ (getD_mem (d := default) (show i.toNat < m.Procs.length by omega))
  refine vspec_raw tb_ok mixed Tryd.func81 (by kernel_rfl) rfl (proc_raw _ m i) ⟨⟨hi0, hi⟩, ?_⟩
  generalize hb : procAllP m i = b
  unfold procAllP at hb
  simp only at hb
  generalize m.Procs.getD i.toNat default = p at hw hpv hb ⊢
  have hl := hw.Locs.1
  have bad : ∀ k, k < p.Locs.length → locP m i (p.Locs.getD k default) = false → false = b := fun k hk hf => by
    rw [allI_no (f := fun k => locP m i (p.Locs.getD k default)) hk hf] at hb
    simpa using hb
  refine loop_idx tb_ok mixed p.Locs.length (fun k => stProc1 m i p k) (fun k => ∀ j, j < k → locP m i (p.Locs.getD j default) = true) (by kernel_rfl) (by kernel_rfl) (fun i hi => by omega) ?_
  intro k hk hI J next
  refine Asks.raw (proc1_raw _ m i p k J) ⟨fun hlt => ?_, fun hge => ⟨usesP m i [p.Provided] (-1), fun hy => ?_, leafB ?_⟩⟩
  · have hlt' : k < p.Locs.length := by have := lt_of hlt; omega
    have hto : (k : Int).toNat = k := by omega
    rw [hto]
    have hwl := hw.Locs.2 _ (getD_mem (d := default) hlt')
    have bad' := bad k hlt'
    have next' : ∀ st', locP m i (p.Locs.getD k default) = true → Up (fun s => s = stProc1 m i p ((k + 1 : Nat) : Int)) st' → J st' := fun st' h hu => next st' hlt' (fun j hj => by
      rcases Nat.lt_succ_iff_lt_or_eq.1 hj with h' | rfl
      · exact hI j h'
      · exact h) hu
    generalize p.Locs.getD k default = l at hwl bad' next' ⊢
    obtain ⟨hws, hwe⟩ := wf_ways hwl
    refine ⟨⟨by omega, by omega⟩, waysP l, ways_spec hwl.Esc.1, ?_⟩
    unfold locP at bad' next'
    generalize waysP l = ws at hws hwe bad' next' ⊢
    refine loop_idx tb_ok mixed ws.length (fun j => stProc2 m i p k ws j) (fun j => ∀ x, x < j → transP m i (ws.getD x []) = true) (by kernel_rfl) (by kernel_rfl) (fun i hi => by omega) ?_
    intro j hj hI2 J2 next2
    refine Asks.raw (proc2_raw _ m i p k ws j J J2) ⟨fun hlt2 => ?_, fun hge2 => ?_⟩
    · have hlt2' : j < ws.length := by have := lt_of hlt2; omega
      have hto2 : (j : Int).toNat = j := by omega
      rw [hto2]
      have hwle := hwe _ (getD_mem (d := []) hlt2')
      have bad2 : transP m i (ws.getD j []) = false → false = b := fun hf => bad' (allI_no (f := fun x => transP m i (ws.getD x [])) hlt2' hf)
      have next2' : ∀ st', transP m i (ws.getD j []) = true → Up (fun s => s = stProc2 m i p k ws ((j + 1 : Nat) : Int)) st' → J2 st' := fun st' h hu => next2 st' hlt2' (fun x hx => by
        rcases Nat.lt_succ_iff_lt_or_eq.1 hx with h' | rfl
        · exact hI2 x h'
        · exact h) hu
      generalize ws.getD j [] = w at hwle bad2 next2' ⊢
      have hwl1 := hwle.1
      refine ⟨⟨by omega, by omega⟩, ?_⟩
      refine loop_idx tb_ok mixed w.length (fun h => stProc3 m i p k ws j w h) (fun h => ∀ x, x < h → wayP m i (w.getD x default).S = true) (by kernel_rfl) (by kernel_rfl) (fun i hi => by omega) ?_
      intro h hh hI3 J3 next3
      refine Asks.raw (proc3_raw _ m i p k ws j w h J J2 J3) ⟨fun hlt3 => ?_, fun hge3 => ?_⟩
      · have hlt3' : h < w.length := by have := lt_of hlt3; omega
        have hto3 : (h : Int).toNat = h := by omega
        rw [hto3]
        have hst := wf_trans (hwle.2 _ (getD_mem (d := default) hlt3'))
        refine ⟨⟨by omega, by omega⟩, wayP m i (w.getD h default).S, way_spec hr hi0 hi hst, fun hy => leafB ?_, fun hy => next3 _ hlt3' (fun x hx => ?_) (Up.of ?_)⟩
        · exact bad2 (allI_no (f := fun x => wayP m i (w.getD x default).S) hlt3' (by simpa using hy))
        · rcases Nat.lt_succ_iff_lt_or_eq.1 hx with h' | rfl
          · exact hI3 x h'
          · simpa using hy
        · rw [wrap_succ (by omega)]; rfl
      · have hge3' : w.length ≤ h := by have := ge_of hge3; omega
        refine next2' _ (allI_iff.2 fun x hx => hI3 x (by omega)) (Up.of ?_)
        rw [wrap_succ (by omega)]; rfl
    · have hge2' : ws.length ≤ j := by have := ge_of hge2; omega
      refine next' _ (allI_iff.2 fun x hx => hI2 x (by omega)) (Up.of ?_)
      rw [wrap_succ (by omega)]; rfl
  · have h0 : 0 ≤ p.Provided := by simp at hy; omega
    refine VSpec.frz (uses_at (list := [p.Provided]) (n := 1) hr hi0 hi (fun x hx => ?_) (by simp) rfl row_one) rfl ?_
    · obtain rfl := List.mem_singleton.1 hx; exact ⟨h0, hpv⟩
    · intro j x y hx hy
      match j with
      | 0 => simp at hx hy; subst hx hy; exact leS_refl _
      | 1 => simp at hx hy; subst hx hy; exact leS_refl _
      | 2 => simp only [List.getElem?_cons_succ, List.getElem?_cons_zero, Option.some.injEq] at hx hy; subst hx hy; exact leS_sl
      | 3 => simp at hx hy; subst hx hy; exact leS_refl _
      | j + 4 => simp at hx
  · have hge' : p.Locs.length ≤ k := by have := ge_of hge; omega
    rw [← hb, (allI_iff (n := p.Locs.length) (f := fun k => locP m i (p.Locs.getD k default))).2 fun j hj => hI j (by omega), Bool.true_and, bif_or]

/-! ### The tables -/
theorem exprsL_ok {m : D.Model} : ∀ (g i : Nat) (had : List Bool), g + i = m.Exprs.length → exprsL m g i had < 0 → ∀ j, i ≤ j → j < m.Exprs.length → exprP m j = true
  | 0, i, had, h, _, j, h1, h2 => by omega
  | g + 1, i, had, h, hn, j, h1, h2 => by
    unfold exprsL at hn
    cases he : exprP m i with
    | false => rw [he, cond_false] at hn; omega
    | true =>
      rw [he, cond_true] at hn
      split at hn
      · rename_i had' _
        by_cases hij : i = j
        · subst hij; exact he
        · exact exprsL_ok g (i + 1) had' (by omega) hn j (by omega) h2
      · omega
theorem exprs_ok {m : D.Model} (h : exprsP m < 0) : ∀ k : Nat, k < m.Exprs.length → exprP m k = true := fun k hk => exprsL_ok _ 0 _ rfl h k (Nat.zero_le _) hk
theorem badI_neg {n : Nat} {f : Nat → Bool} (h : badI n f < 0) : ∀ i, i < n → f i = true := by
  rcases badI_cases (n := n) (f := f) with ⟨_, h2⟩ | ⟨k, _, h2, _⟩
  · exact h2
  · omega
theorem badI_ge {n : Nat} {f : Nat → Bool} : -1 ≤ badI n f := by
  rcases badI_cases (n := n) (f := f) with ⟨h1, _⟩ | ⟨k, _, h2, _⟩ <;> omega
theorem ngt (n k : Nat) : decide ((n : Int) > k) = decide (k < n) := by rw [Bool.eq_iff_iff, decide_eq_true_eq, decide_eq_true_eq]; omega
theorem tables_spec {m : D.Model} (hw : wf_Model m) : VSpec Tryd.prog 77 [] [tpM m] [] (.tup [intV (tablesP m).1, intV (tablesP m).2]) := by
  have hG := hw.Globals.1
  have hS := hw.Shapes.1
  have hC := hw.Chans.1
  have hE := hw.Exprs.1
  refine vspec_raw tb_ok mixed Tryd.func77 (by kernel_rfl) rfl (tables_raw _ _ m) ?_
  have t1 : (bif decide ((m.Globals.length : Int) > 128) then true else (m.Init.length : Int) != (m.Globals.length : Int)) = (decide (128 < m.Globals.length) || !decide (m.Init.length = m.Globals.length)) := by rw [Bool.eq_iff_iff]; simp; omega
  have t2 : (bif decide ((m.Shapes.length : Int) > 32) then true else decide ((m.Chans.length : Int) > 32)) = (decide (32 < m.Shapes.length) || decide (32 < m.Chans.length)) := by rw [Bool.eq_iff_iff]; simp; omega
  have t3 : (bif bif bif bif decide ((m.Procs.length : Int) < 1) then true else decide ((m.Procs.length : Int) > 16) then true else decide (m.Claim < (-1 : Int)) then true else decide (m.Claim ≥ (m.Procs.length : Int)) then true else decide ((m.Exprs.length : Int) > 4096)) =
      (decide (m.Procs.length < 1) || (decide (16 < m.Procs.length) || (decide (m.Claim < -1) || (decide ((m.Procs.length : Int) ≤ m.Claim) || decide (4096 < m.Exprs.length))))) := by
    have u1 : decide ((m.Procs.length : Int) < 1) = decide (m.Procs.length < 1) := by rw [Bool.eq_iff_iff, decide_eq_true_eq, decide_eq_true_eq]; omega
    have u2 : decide ((m.Procs.length : Int) > 16) = decide (16 < m.Procs.length) := ngt _ 16
    have u3 : decide ((m.Exprs.length : Int) > 4096) = decide (4096 < m.Exprs.length) := ngt _ 4096
    rw [u1, u2, u3]; simp only [bif_or, Bool.or_assoc]
  rw [t1, t2]
  generalize hR : tablesP m = R
  unfold tablesP at hR
  refine ⟨fun h => leaf2 (by rw [h, cond_true] at hR; exact hR), fun h => ⟨typesP m.Globals m.Init, types_spec (by simp at h; omega) hG, fun h2 => leaf2 (by rw [h, cond_false, h2, cond_true] at hR; exact hR), fun h2 => ⟨fun h3 => leaf2 ?_, fun h3 => ?_⟩⟩⟩
  · rw [h, cond_false, h2, cond_false, h3, cond_true] at hR; exact hR
  rw [h, cond_false, h2, cond_false, h3, cond_false] at hR
  -- the shapes
  refine loop_idx tb_ok mixed m.Shapes.length (fun k => stTab1 m k) (fun k => ∀ i, i < k → shapeP (m.Shapes.getD i default) = true) (by kernel_rfl) (by kernel_rfl) (fun i hi => by omega) ?_
  intro k hk hI J next
  refine Asks.raw (tables1_raw _ _ m k J) ⟨fun hlt => ?_, fun hge => ?_⟩
  · have hlt' : k < m.Shapes.length := by have := lt_of hlt; omega
    refine ⟨⟨by omega, by omega⟩, shapeP (m.Shapes.getD k default), shape_spec (hw.Shapes.2 _ (getD_mem hlt')), fun hy => leaf2 ?_, fun hy => next _ hlt' (fun i hi => ?_) (Up.of ?_)⟩
    · have e : shapesP m = k := badI_some (f := fun i => shapeP (m.Shapes.getD i default)) hI hlt' (by simpa using hy)
      rw [e, show decide ((0 : Int) ≤ (k : Int)) = true by simp, cond_true] at hR
      exact hR
    · rcases Nat.lt_succ_iff_lt_or_eq.1 hi with h | rfl
      · exact hI i h
      · simpa using hy
    · rw [wrap_succ (by omega)]; rfl
  have hge' : m.Shapes.length ≤ k := by have := ge_of hge; omega
  have es : shapesP m = -1 := badI_none (f := fun i => shapeP (m.Shapes.getD i default)) fun i hi => hI i (by omega)
  rw [es, show decide ((0 : Int) ≤ -1) = false from rfl, cond_false] at hR
  -- the channels
  clear hI next
  refine loop_idx tb_ok mixed m.Chans.length (fun k => stTab2 m k) (fun k => ∀ i, i < k → inP m.Shapes.length (m.Chans.getD i 0) = true) (by kernel_rfl) (by kernel_rfl) (fun i hi => by omega) ?_
  intro k hk hI J next
  refine Asks.raw (tables2_raw _ _ m k J) ⟨fun hlt => ?_, fun hge => ?_⟩
  · have hlt' : k < m.Chans.length := by have := lt_of hlt; omega
    have hto : (k : Int).toNat = k := by omega
    rw [hto]
    have hin : inP m.Shapes.length (m.Chans.getD k 0) = !(bif decide (m.Chans.getD k 0 < 0) then true else decide (m.Chans.getD k 0 ≥ (m.Shapes.length : Int))) := by unfold inP; rw [Bool.eq_iff_iff]; simp
    refine ⟨⟨by omega, by omega⟩, fun hy => leaf2 ?_, fun hy => next _ hlt' (fun i hi => ?_) (Up.of ?_)⟩
    · have e : chansP m = k := badI_some (f := fun i => inP m.Shapes.length (m.Chans.getD i 0)) hI hlt' (by show inP _ _ = false; rw [hin, hy]; rfl)
      rw [e, show decide ((0 : Int) ≤ (k : Int)) = true by simp, cond_true] at hR
      exact hR
    · rcases Nat.lt_succ_iff_lt_or_eq.1 hi with h | rfl
      · exact hI i h
      · rw [hin, hy]; rfl
    · rw [wrap_succ (by omega)]; rfl
  have hge' : m.Chans.length ≤ k := by have := ge_of hge; omega
  have ec : chansP m = -1 := badI_none (f := fun i => inP m.Shapes.length (m.Chans.getD i 0)) fun i hi => hI i (by omega)
  rw [ec, show decide ((0 : Int) ≤ -1) = false from rfl, cond_false] at hR
  rw [t3]
  refine ⟨fun h4 => leaf2 (by rw [h4, cond_true] at hR; exact hR), fun h4 => ⟨⟨by omega, by omega, by omega⟩, ?_⟩⟩
  rw [h4, cond_false] at hR
  clear hI next
  -- the expressions
  have hnn : ((m.Exprs.length : Int).toNat) = (noneSeen m).length := by simp [noneSeen]
  have hnl : (noneSeen m).length = m.Exprs.length := by simp [noneSeen]
  refine SatC.le (l' := [(0, tpM m), (4, .bp 0 0), (10, .ow 1 0 (noneSeen m).length), (116, intV m.Exprs.length), (117, intV 0)]) (hs' := [.box (enc_Model m), .arr true 0 (noneSeen m).length 1 (rowsBo (noneSeen m))]) ?_ ?_ ?_
  · rw [hnn]; exact leT_refl _
  · rw [hnn]
    refine ⟨Ob.le_refl _, Ob.le_arr fun i hi => leL_eq ?_, trivial⟩
    have : (noneSeen m).getD i false = false := by
      have hi' : i < m.Exprs.length := by rw [← hnl]; exact hi
      simp [noneSeen, List.getD, hi']
    show _ = [boolV ((noneSeen m).getD i false)]
    rw [this]; rfl
  generalize hX : exprsP m = X at hR
  have fin : ∀ {y : Int × Int}, (bif decide (0 ≤ X) then ((3 : Int), X) else (0, 0)) = y → y = R := fun h => by rw [← h]; exact hR
  refine loop_raw tb_ok mixed (fun g st => ∃ (k : Nat) (had : List Bool), k ≤ m.Exprs.length ∧ g = m.Exprs.length - k ∧ had.length = m.Exprs.length ∧ exprsL m (m.Exprs.length - k) k had = X ∧ st = stTab3 m had k) (by kernel_rfl) (by kernel_rfl) ⟨_, Up.of ⟨0, noneSeen m, Nat.zero_le _, rfl, hnl, hX, rfl⟩⟩ ?_
  rintro g st ⟨k, had, hk, rfl, hhl, hr, rfl⟩
  refine Asks.raw (tables3_raw _ _ m had k _) ⟨fun hlt => ?_, fun hge => leaf2 (fin ?_)⟩
  · have hlt' : k < m.Exprs.length := by have := lt_of hlt; omega
    have hto : (k : Int).toNat = k := by omega
    rw [hto]
    have hwx : wf_Expr (m.Exprs.getD k default) := hw.Exprs.2 _ (getD_mem hlt')
    rw [show m.Exprs.length - k = (m.Exprs.length - (k + 1)) + 1 by omega] at hr
    unfold exprsL at hr
    refine ⟨exprP m k, expr_spec (by omega) (by omega) (by unfold exAt; rw [hto]; exact hwx), fun hy => leaf2 (fin ?_), fun hy => ⟨⟨by omega, by omega⟩, heldP (m.Exprs.getD k default), held_spec hwx.Args.1 hwx.V.Dims.1, ?_⟩⟩
    · rw [show exprP m k = false by simpa using hy, cond_false] at hr
      rw [← hr, show decide ((0 : Int) ≤ (k : Int)) = true by simp, cond_true]
    · have hye : exprP m k = true := by simpa using hy
      rw [hye, cond_true] at hr
      have hin := held_in hye
      have hhlen := held_len hwx.Args.1 hwx.V.Dims.1
      unfold exAt at hin
      rw [hto] at hin
      generalize heldP (m.Exprs.getD k default) = l at hin hhlen hr ⊢
      generalize ho : hadL had l = o at hr
      refine loop_raw tb_ok mixed (fun g st => ∃ (j : Nat) (had' : List Bool), j ≤ l.length ∧ g = l.length - j ∧ had'.length = m.Exprs.length ∧ hadL had' (l.drop j) = o ∧ st = stTab4 m had' k l j) (by kernel_rfl) (by kernel_rfl) ⟨_, Up.of ⟨0, had, Nat.zero_le _, rfl, hhl, ho, rfl⟩⟩ ?_
      rintro g st ⟨j, had', hj, rfl, hhl', hq, rfl⟩
      refine Asks.raw (tables4_raw _ _ m had' k l j _ _) ⟨fun hlt2 => ?_, fun hge2 => ?_⟩
      · have hlt2' : j < l.length := by have := lt_of hlt2; omega
        have hto2 : (j : Int).toNat = j := by omega
        rw [hto2]
        have hpi := hin _ (getD_mem (d := 0) hlt2')
        rw [drop_cons (d := 0) hlt2'] at hq
        generalize l.getD j 0 = p at hpi hq ⊢
        unfold hadL at hq
        refine ⟨⟨by omega, by omega⟩, ⟨by omega, by omega⟩, fun hy => leaf2 (fin ?_), fun hy => ⟨⟨by omega, by omega⟩, l.length - (j + 1), by omega, ?_⟩⟩
        · rw [hy, cond_true] at hq
          rw [← hq] at hr
          rw [← hr, show decide ((0 : Int) ≤ (k : Int)) = true by simp, cond_true]
        · rw [hy, cond_false] at hq
          have hsl : (had'.set p.toNat true).length = had'.length := by simp
          rw [wrap_succ (by omega)]
          refine Up.mk (l' := [(0, tpM m), (4, .bp 0 0), (10, .ow 1 0 (had'.set p.toNat true).length), (11, intV k), (116, intV m.Exprs.length), (117, intV k), (130, encL_Int true l), (131, intV l.length), (132, intV ((j + 1 : Nat) : Int))])
            (hs' := [.box (enc_Model m), .arr true 0 (had'.set p.toNat true).length 1 (rowsBo (had'.set p.toNat true))]) ?_ ?_ ⟨j + 1, had'.set p.toNat true, by omega, rfl, by rw [hsl]; exact hhl', hq, rfl⟩
          · rw [hsl]; exact leT_refl _
          · rw [hsl]
            exact ⟨Ob.le_refl _, Ob.le_arr fun i hi => leL_eq (set_row hi), trivial⟩
      · have hge2' : l.length ≤ j := by have := ge_of hge2; omega
        rw [List.drop_eq_nil_of_le hge2'] at hq
        unfold hadL at hq
        rw [← hq] at hr
        rw [wrap_succ (by omega)]
        exact ⟨m.Exprs.length - (k + 1), by omega, Up.of ⟨k + 1, had', by omega, rfl, hhl', hr, rfl⟩⟩
  · have hge' : m.Exprs.length ≤ k := by have := ge_of hge; omega
    rw [show m.Exprs.length - k = 0 by omega] at hr
    unfold exprsL at hr
    rw [← hr]; rfl
/-! ### Check -/
theorem ik_eq (a b : Int) (x : Bool) : (bif a == b then !x else false) = (decide (a = b) && !x) := by rw [ieq, bif_and]
theorem frameBad_eq (m : D.Model) (k : Nat) : frameBad m k = (bif bif bif bif !(frameP (m.Procs.getD k default)) then true else !(graphP (m.Procs.getD k default)) then true else decide ((m.Procs.getD k default).Provided < (-1 : Int)) then true else decide ((m.Procs.getD k default).Provided ≥ (m.Exprs.length : Int)) then true else bif (k : Int) == m.Claim then !(claimedP (m.Procs.getD k default)) else false) := by
  unfold frameBad
  simp only [ik_eq, bif_or, Bool.or_assoc]
theorem many_succ {m : D.Model} {k : Nat} (hk : k < m.Procs.length) : manyP m (k + 1) = manyP m k + (m.Procs.getD k default).Active := by
  unfold manyP
  rw [take_push (d := default) hk, List.map_append, List.sum_append]
  simp
/-- Of the tables that may be: the expressions. -/
theorem tables_ready {m : D.Model} (hw : wf_Model m) (h : ¬ 0 < (tablesP m).1) : Ready m := by
  refine ⟨hw, exprs_ok ?_⟩
  have hx : -1 ≤ exprsP m := by
    unfold exprsP
    have : ∀ (g i : Nat) (had : List Bool), -1 ≤ exprsL m g i had := by
      intro g
      induction g with
      | zero => intro i had; unfold exprsL; omega
      | succ g ih =>
        intro i had
        unfold exprsL
        cases exprP m i with
        | false => simp only [cond_false]; omega
        | true =>
          simp only [cond_true]
          split
          · exact ih _ _
          · omega
    exact this _ _ _
  refine Classical.byContradiction fun hn => h ?_
  unfold tablesP
  generalize (decide (128 < m.Globals.length) || !decide (m.Init.length = m.Globals.length)) = b1
  generalize decide (0 ≤ typesP m.Globals m.Init) = b2
  generalize (decide (32 < m.Shapes.length) || decide (32 < m.Chans.length)) = b3
  generalize decide (0 ≤ shapesP m) = b4
  generalize decide (0 ≤ chansP m) = b5
  generalize (decide (m.Procs.length < 1) || (decide (16 < m.Procs.length) || (decide (m.Claim < -1) || (decide ((m.Procs.length : Int) ≤ m.Claim) || decide (4096 < m.Exprs.length))))) = b6
  rw [show decide (0 ≤ exprsP m) = true by simp; omega]
  cases b1 <;> cases b2 <;> cases b3 <;> cases b4 <;> cases b5 <;> cases b6 <;> simp
theorem check_spec {m : D.Model} (hw : wf_Model m) : VSpec Tryd.prog 57 [] [.agg (enc_Model m)] [] (.tup [intV (checkP m).1, intV (checkP m).2.1, intV (checkP m).2.2]) := by
  have hP := hw.Procs.1
  refine vspec_raw tb_ok mixed Tryd.func57 (by kernel_rfl) rfl (check_raw _ _ _ m) ⟨tablesP m, tables_spec hw, ?_⟩
  generalize hR : checkP m = R
  unfold checkP at hR
  refine ⟨fun h => leaf3 (by rw [show decide (0 < (tablesP m).1) = true from h, cond_true] at hR; exact hR), fun h => ?_⟩
  have hready := tables_ready hw (of_decide_eq_false h)
  rw [show decide (0 < (tablesP m).1) = false from h, cond_false] at hR
  refine loop_idx tb_ok mixed m.Procs.length (fun k => stCheck1 m (manyP m k) k) (fun k => (∀ i, i < k → (!frameBad m i) = true) ∧ 0 ≤ manyP m k ∧ manyP m k ≤ 16 * k) (by kernel_rfl) (by kernel_rfl) ⟨fun i hi => by omega, by simp [manyP], by simp [manyP]⟩ ?_
  intro k hk ⟨hI, hm0, hm1⟩ J next
  refine Asks.raw (check1_raw _ _ _ m (manyP m k) k J) ⟨fun hlt => ?_, fun hge => ?_⟩
  · have hlt' : k < m.Procs.length := by have := lt_of hlt; omega
    have hto : (k : Int).toNat = k := by omega
    rw [hto]
    have hwp := hw.Procs.2 _ (getD_mem (d := default) hlt')
    refine ⟨⟨by omega, by omega⟩, frameP (m.Procs.getD k default), frame_spec hwp, graphP (m.Procs.getD k default), fun _ => graph_spec hwp, claimedP (m.Procs.getD k default), fun _ => claimed_spec hwp, ?_⟩
    rw [← frameBad_eq]
    refine ⟨fun hy => leaf3 ?_, fun hy => ?_⟩
    · have e : framesP m = k := badI_some (f := fun i => !frameBad m i) hI hlt' (by rw [hy]; rfl)
      rw [e, show decide ((0 : Int) ≤ (k : Int)) = true by simp, cond_true] at hR
      exact hR
    · have hfr : frameP (m.Procs.getD k default) = true := by
        rw [frameBad_eq] at hy
        cases hq : frameP (m.Procs.getD k default) with
        | true => rfl
        | false => rw [hq] at hy; simp at hy
      have hac : 0 ≤ (m.Procs.getD k default).Active ∧ (m.Procs.getD k default).Active ≤ 16 := by
        unfold frameP at hfr
        simp only [Bool.and_eq_true, decide_eq_true_eq] at hfr
        omega
      have hms := many_succ hlt'
      refine next _ hlt' ⟨fun i hi => ?_, by omega, by omega⟩ (Up.of ?_)
      · rcases Nat.lt_succ_iff_lt_or_eq.1 hi with h | rfl
        · exact hI i h
        · rw [hy]; rfl
      · rw [hms, wrap_succ (by omega), wrap_id (n := manyP m k + _) (by omega) (by omega)]; rfl
  · have hge' : k = m.Procs.length := by have := ge_of hge; omega
    subst hge'
    have e : framesP m = -1 := badI_none (f := fun i => !frameBad m i) fun i hi => hI i (by omega)
    rw [e, show decide ((0 : Int) ≤ -1) = false from rfl, cond_false] at hR
    refine ⟨fun h2 => leaf3 (by rw [show decide (16 < manyP m m.Procs.length) = true from h2, cond_true] at hR; exact hR), fun h2 => ?_⟩
    rw [show decide (16 < manyP m m.Procs.length) = false from h2, cond_false] at hR
    have hpv : ∀ i, i < m.Procs.length → (m.Procs.getD i default).Provided < m.Exprs.length := fun i hi => by
      have := hI i hi
      rw [frameBad_eq] at this
      simp only [bif_or, Bool.not_eq_true', Bool.or_eq_false_iff, decide_eq_false_iff_not] at this
      omega
    clear hI next
    refine loop_idx tb_ok mixed m.Procs.length (fun k => stCheck2 m k) (fun k => ∀ i : Nat, i < k → procAllP m i = true) (by kernel_rfl) (by kernel_rfl) (fun i hi => by omega) ?_
    intro k hk hI J next
    refine Asks.raw (check2_raw _ _ _ m k J) ⟨fun hlt => ?_, fun hge => leaf3 ?_⟩
    · have hlt' : k < m.Procs.length := by have := lt_of hlt; omega
      refine ⟨procAllP m k, proc_spec hready (by omega) (by omega) (hpv _ (by omega)), fun hy => leaf3 ?_, fun hy => next _ hlt' (fun i hi => ?_) (Up.of ?_)⟩
      · have e : procsP m = k := badI_some (f := fun i : Nat => procAllP m i) hI hlt' (by simpa using hy)
        rw [e, show decide ((0 : Int) ≤ (k : Int)) = true by simp, cond_true] at hR
        exact hR
      · rcases Nat.lt_succ_iff_lt_or_eq.1 hi with h | rfl
        · exact hI i h
        · simpa using hy
      · rw [wrap_succ (by omega)]; rfl
    · have hge' : m.Procs.length ≤ k := by have := ge_of hge; omega
      have e : procsP m = -1 := badI_none (f := fun i : Nat => procAllP m i) fun i hi => hI i (by omega)
      rw [e, show decide ((0 : Int) ≤ -1) = false from rfl, cond_false] at hR
      exact hR
end Go.Proofs.YtdjjlkekbphbaaaDoor
