/-
  Layer 12 on trees, III: a text, read.
-/
import Derived.Test.YtdjjlkekbphbaaaDoorStW2
namespace Go.Proofs.YtdjjlkekbphbaaaDoor
open Go.RowKit

/-! ### What is known of a model that may be -/
theorem ok_tables {m : D.Model} (h : mayP m = true) : tablesP m = (0, 0) ∧ framesP m = -1 ∧ procsP m = -1 := by
  unfold mayP checkP at h
  have h1 : ∀ n (f : Nat → Bool), -1 ≤ badI n f := fun n f => badI_ge
  have hf := h1 m.Procs.length fun i => !frameBad m i
  have hp := h1 m.Procs.length fun i : Nat => procAllP m i
  cases b1 : decide (0 < (tablesP m).1) with
  | true => rw [b1, cond_true] at h; simp at h
  | false =>
    rw [b1, cond_false] at h
    cases b2 : decide (0 ≤ framesP m) with
    | true => rw [b2, cond_true] at h; simp at h
    | false =>
      rw [b2, cond_false] at h
      cases b3 : decide (16 < manyP m m.Procs.length) with
      | true => rw [b3, cond_true] at h; simp at h
      | false =>
        rw [b3, cond_false] at h
        cases b4 : decide (0 ≤ procsP m) with
        | true => rw [b4, cond_true] at h; simp at h
        | false =>
          have := of_decide_eq_false b2
          have := of_decide_eq_false b4
          refine ⟨?_, by show badI _ _ = -1; unfold framesP at *; omega, by show badI _ _ = -1; unfold procsP at *; omega⟩
          have b1 := of_decide_eq_false b1
          unfold tablesP at b1 ⊢
          generalize (decide (128 < m.Globals.length) || !decide (m.Init.length = m.Globals.length)) = c1 at b1 ⊢
          generalize decide (0 ≤ typesP m.Globals m.Init) = c2 at b1 ⊢
          generalize (decide (32 < m.Shapes.length) || decide (32 < m.Chans.length)) = c3 at b1 ⊢
          generalize decide (0 ≤ shapesP m) = c4 at b1 ⊢
          generalize decide (0 ≤ chansP m) = c5 at b1 ⊢
          generalize (decide (m.Procs.length < 1) || (decide (16 < m.Procs.length) || (decide (m.Claim < -1) || (decide ((m.Procs.length : Int) ≤ m.Claim) || decide (4096 < m.Exprs.length))))) = c6 at b1 ⊢
          generalize decide (0 ≤ exprsP m) = c7 at b1 ⊢
          cases c1 <;> cases c2 <;> cases c3 <;> cases c4 <;> cases c5 <;> cases c6 <;> cases c7 <;> simp at b1 ⊢
structure TabOk (m : D.Model) : Prop where
  globals : m.Globals.length ≤ 128
  init : m.Init.length = m.Globals.length
  types : typesP m.Globals m.Init < 0
  shapes : m.Shapes.length ≤ 32
  chans : m.Chans.length ≤ 32
  shape : ∀ i, i < m.Shapes.length → shapeP (m.Shapes.getD i default) = true
  chan : ∀ i, i < m.Chans.length → inP m.Shapes.length (m.Chans.getD i 0) = true
  procs : 1 ≤ m.Procs.length ∧ m.Procs.length ≤ 16
  claim : -1 ≤ m.Claim ∧ m.Claim < m.Procs.length
  exprs : m.Exprs.length ≤ 4096
theorem tab_ok {m : D.Model} (h : tablesP m = (0, 0)) : TabOk m := by
  unfold tablesP at h
  cases c1 : (decide (128 < m.Globals.length) || !decide (m.Init.length = m.Globals.length)) with
  | true => rw [c1, cond_true] at h; simp at h
  | false =>
  cases c2 : decide (0 ≤ typesP m.Globals m.Init) with
  | true => rw [c1, c2, cond_false, cond_true] at h; simp at h
  | false =>
  cases c3 : (decide (32 < m.Shapes.length) || decide (32 < m.Chans.length)) with
  | true => rw [c1, c2, c3, cond_false, cond_false, cond_true] at h; simp at h
  | false =>
  cases c4 : decide (0 ≤ shapesP m) with
  | true => rw [c1, c2, c3, c4, cond_false, cond_false, cond_false, cond_true] at h; simp at h
  | false =>
  cases c5 : decide (0 ≤ chansP m) with
  | true => rw [c1, c2, c3, c4, c5, cond_false, cond_false, cond_false, cond_false, cond_true] at h; simp at h
  | false =>
  cases c6 : (decide (m.Procs.length < 1) || (decide (16 < m.Procs.length) || (decide (m.Claim < -1) || (decide ((m.Procs.length : Int) ≤ m.Claim) || decide (4096 < m.Exprs.length))))) with
  | true => rw [c1, c2, c3, c4, c5, c6, cond_false, cond_false, cond_false, cond_false, cond_false, cond_true] at h; simp at h
  | false =>
  simp only [Bool.or_eq_false_iff, decide_eq_false_iff_not, Bool.not_eq_false', decide_eq_true_eq] at c1 c2 c3 c4 c5 c6
  exact ⟨by omega, c1.2, by omega, by omega, by omega, badI_neg (f := fun i => shapeP (m.Shapes.getD i default)) (by unfold shapesP at c4; omega), badI_neg (f := fun i => inP m.Shapes.length (m.Chans.getD i 0)) (by unfold chansP at c5; omega), by omega, by omega, by omega⟩
theorem frame_all {m : D.Model} (h : framesP m = -1) : ∀ i, i < m.Procs.length → frameP (m.Procs.getD i default) = true ∧ graphP (m.Procs.getD i default) = true := fun i hi => by
  have := badI_neg (f := fun i => !frameBad m i) (by unfold framesP at h; omega) i hi
  unfold frameBad at this
  simp only [Bool.not_eq_true', Bool.or_eq_false_iff, Bool.not_eq_false'] at this
  exact ⟨this.1, this.2.1⟩
theorem lim_of {m : D.Model} (h : mayP m = true) : Lim m := by
  obtain ⟨h1, h2, _⟩ := ok_tables h
  have ht := tab_ok h1
  refine ⟨fun k h0 hk => ?_, fun k h0 hk => ?_, ht.procs.1, ht.claim.2⟩
  · have := ht.shape k.toNat (by omega)
    unfold shapeP at this
    simp only [Bool.and_eq_true, decide_eq_true_eq] at this
    exact this.1.1.1.2
  · have := (frame_all h2 k.toNat (by omega)).2
    unfold graphP at this
    simp only [Bool.and_eq_true, decide_eq_true_eq] at this
    exact this.1.1.1.2
/-! ### Reading shrinks -/
theorem take_le {n : Nat} {r : Rdr} : (takeP n r).1.1.length ≤ r.1.length ∧ (takeP n r).2.length ≤ n := by
  unfold takeP
  split
  · simp <;> omega
  · simp <;> omega
theorem one_le {a b : Int} {r : Rdr} : (oneP a b r).1.1.length ≤ r.1.length := by
  have := (take_le (n := 1) (r := r)).1
  unfold oneP
  cases ((takeP 1 r).1.2 || (decide ((takeP 1 r).2.getD 0 0 < a) || decide (b ≤ (takeP 1 r).2.getD 0 0))) <;> simp only [cond_true, cond_false] <;> exact this
theorem one_rng {a b : Int} {r : Rdr} (_ : a ≤ 0) : (oneP a b r).2 = 0 ∨ (a ≤ (oneP a b r).2 ∧ (oneP a b r).2 < b) := by
  unfold oneP
  cases hq : ((takeP 1 r).1.2 || (decide ((takeP 1 r).2.getD 0 0 < a) || decide (b ≤ (takeP 1 r).2.getD 0 0))) with
  | true => exact .inl rfl
  | false =>
    simp only [Bool.or_eq_false_iff, decide_eq_false_iff_not] at hq
    exact .inr ⟨by simp only [cond_false]; omega, by simp only [cond_false]; omega⟩
theorem take_bad {n : Nat} {r : Rdr} (h : (takeP n r).1.2 = false) : r.2 = false := (take_back (r' := (takeP n r).1) (v := (takeP n r).2) rfl h).1
theorem one_at {α : Type} {f : α → List VV} {d x : α} {G : Nat → List VV} (hG : G 0 = f x) : ∀ j, j < [x].length → G j = f ([x].getD j d) := by
  intro j hj
  obtain rfl : j = 0 := by simpa using hj
  exact hG
theorem row_chan {cs : List D.Chan} {c : D.Chan} {G : Nat → List VV} (hG : G 0 = enc_Chan c) {i : Nat} (hi : i < (cs ++ [c]).length) : (bif i.blt cs.length then rowsCh cs i else G (i - cs.length)) = rowsCh (cs ++ [c]) i :=
  rows_app (f := enc_Chan) (d := default) (l := cs) (r := [c]) (F := rowsCh cs) (fun _ _ => rfl) (one_at hG) hi
theorem decode_spec {m : D.Model} {t : ByteArray} (hw : wf_Model m) (ht : t.size ≤ 67108864) : VSpec Tryd.prog 8 [] [.agg (enc_Model m), strV t] [] (.tup [.agg (enc_State (decodeP m t).1), intV (decodeP m t).2]) := by
  have hGl := hw.Globals.1
  refine vspec_raw tb_ok mixed Tryd.func8 (by kernel_rfl) rfl (decode_raw _ _ m t) ?_
  generalize hR : decodeP m t = R
  unfold decodeP at hR
  have leZ : ∀ {e : Int}, (zeroSt, e) = R → leO [] [] ∧ VV.le (.tup [.agg [.nl, .nl, .nl, .sc (.int .i64 0), .sc (.int .i64 0), .sc (.int .i64 0)], .sc (.int .i64 e)]) (.tup [.agg (enc_State R.1), intV R.2]) := by
    rintro e rfl
    exact ⟨trivial, VV.le_tup ⟨VV.le_agg ⟨VV.le_nil, VV.le_nil, VV.le_nil, VV.le_refl _, VV.le_refl _, VV.le_refl _, trivial⟩, VV.le_refl _, trivial⟩⟩
  refine ⟨mayP m, may_spec hw, fun h => leZ (by rw [show mayP m = false by simpa using h, cond_false] at hR; exact hR), fun h => ?_⟩
  have hmay : mayP m = true := by simpa using h
  have hm := lim_of hmay
  rw [hmay, cond_true] at hR
  have hAl : (readP t).1.length ≤ t.size := by
    have key : ∀ (r : By) (acc : List Int) (cur : By), (scanP acc cur r).1.length ≤ acc.length + r.length := by
      intro r
      induction r with
      | nil => intro acc cur; simp [scanP]
      | cons c r ih =>
        intro acc cur
        rw [scanP]
        split
        · split
          · have := ih (acc ++ [‹Int›]) []; simp at this ⊢; omega
          · simp
        · have := ih acc (cur ++ [c]); simp at this ⊢; omega
    have := key (bs t) [] []
    rw [size_bs]
    simpa [readP] using this
  refine ⟨scanP [] [] (bs t), numbers_spec ht, ?_⟩
  change ∃ y_1 : (List Int × Bool) × List Int, VSpec Tryd.prog 23 [obR (readP t)] [.bp 0 0, intV m.Globals.length] [obR y_1.1] (encL_Int true y_1.2) ∧ _
  generalize readP t = A at hR hAl ⊢
  have hLA : Len A.1.length := by unfold Len; omega
  have s1 := take_spec (r := A) (n := m.Globals.length) hLA (by unfold Len; omega)
  have l1 := take_le (n := m.Globals.length) (r := A)
  generalize hg : takeP m.Globals.length A = G at s1 l1
  have hLG : Len G.1.1.length := by unfold Len; omega
  have s2 := one_spec (r := G.1) (a := 0) (b := 33) hLG
  have l2 := one_le (a := 0) (b := 33) (r := G.1)
  have r2 := one_rng (a := 0) (b := 33) (r := G.1) (by omega)
  generalize hnc : oneP 0 33 G.1 = NC at s2 l2 r2
  refine ⟨G, s1, NC, s2, ?_⟩
  generalize hC : chansD m NC.2.toNat NC.1 [] = C
  refine loop_raw tb_ok mixed (fun gg st => ∃ (k : Nat) (d : Rdr) (cs : List D.Chan), (k : Int) ≤ NC.2 ∧ gg = NC.2.toNat - k ∧ d.1.length ≤ t.size ∧ cs.length = k ∧ (∀ c ∈ cs, SmallC c) ∧ chansD m (NC.2.toNat - k) d cs = C ∧ st = stDec1 m d G.2 cs NC.2 k) (by kernel_rfl) (by kernel_rfl)
    ⟨_, Up.cv (Cv.ownBox 3 1 2 (rowsCh []) rfl rfl) (Up.of ⟨0, NC.1, [], by omega, rfl, by omega, rfl, by simp, hC, rfl⟩)⟩ ?_
  rintro gg st ⟨k, d, cs, hk, rfl, hd, hcl, hcs, hr, rfl⟩
  have hLd : Len d.1.length := by unfold Len; omega
  refine Asks.raw (decode1_raw _ _ m d G.2 cs NC.2 k _) ⟨fun hlt => ?_, fun hge => ?_⟩
  · -- a channel
    have hlt' : (k : Int) < NC.2 := lt_of hlt
    rw [show NC.2.toNat - k = (NC.2.toNat - (k + 1)) + 1 by omega] at hr
    unfold chansD at hr
    have c1 := one_spec (r := d) (a := 0) (b := m.Shapes.length) hLd
    have d1 := one_le (a := 0) (b := m.Shapes.length) (r := d)
    have e0 : chanD m d = ((queueD m (oneP 0 m.Shapes.length d).2 (oneP 0 17 (oneP 0 m.Shapes.length d).1).2.toNat (oneP 0 17 (oneP 0 m.Shapes.length d).1).1 []).1, ⟨(oneP 0 m.Shapes.length d).2, (queueD m (oneP 0 m.Shapes.length d).2 (oneP 0 17 (oneP 0 m.Shapes.length d).1).2.toNat (oneP 0 17 (oneP 0 m.Shapes.length d).1).1 []).2⟩) := rfl
    have hsh : (oneP 0 m.Shapes.length d).1.2 = false → 0 ≤ (oneP 0 m.Shapes.length d).2 ∧ (oneP 0 m.Shapes.length d).2 < m.Shapes.length := fun hb => (one_back (r' := (oneP 0 m.Shapes.length d).1) (v := (oneP 0 m.Shapes.length d).2) rfl hb).2.2
    generalize oneP 0 m.Shapes.length d = S at c1 d1 e0 hsh
    have hLS : Len S.1.1.length := by unfold Len; omega
    have c2 := one_spec (r := S.1) (a := 0) (b := 17) hLS
    have d2 := one_le (a := 0) (b := 17) (r := S.1)
    have r3 := one_rng (a := 0) (b := 17) (r := S.1) (by omega)
    have hSb : (oneP 0 17 S.1).1.2 = false → S.1.2 = false := fun hb => (one_back (r' := (oneP 0 17 S.1).1) (v := (oneP 0 17 S.1).2) rfl hb).1
    generalize oneP 0 17 S.1 = B at c2 d2 e0 r3 hSb
    rw [e0] at hr
    simp only at hr
    refine ⟨S, c1, B, c2, ?_⟩
    generalize hQ : queueD m S.2 B.2.toNat B.1 [] = Q at hr
    refine loop_raw tb_ok mixed (fun gg st => ∃ (j : Nat) (d : Rdr) (q : List (List Int)), (j : Int) ≤ B.2 ∧ gg = B.2.toNat - j ∧ d.1.length ≤ t.size ∧ (d.2 = false → 0 ≤ S.2 ∧ S.2 < m.Shapes.length) ∧ q.length ≤ j ∧ (∀ x ∈ q, Len x.length) ∧ queueD m S.2 (B.2.toNat - j) d q = Q ∧ st = stDec2 m d G.2 cs NC.2 k S.2 q B.2 j) (by kernel_rfl) (by kernel_rfl)
      ⟨_, Up.cv (Cv.ownBox 5 1 1 (rowsQu []) rfl rfl) (Up.of ⟨0, B.1, [], by omega, rfl, by omega, fun hb => hsh (hSb hb), by simp, by simp, hQ, rfl⟩)⟩ ?_
    rintro gg st ⟨j, d, q, hj, rfl, hd, hdb, hql, hqs, hq, rfl⟩
    have hLd : Len d.1.length := by unfold Len; omega
    refine Asks.raw (decode2_raw _ _ m d G.2 cs NC.2 k S.2 q B.2 j _ _) ⟨fun hlt2 => ?_, fun hge2 => ?_⟩
    · have hlt2' : (j : Int) < B.2 := lt_of hlt2
      rw [show B.2.toNat - j = (B.2.toNat - (j + 1)) + 1 by omega] at hq
      unfold queueD at hq
      refine ⟨fun hb => ?_, fun hb => ?_⟩
      · have hb' : d.2 = false := by simpa using hb
        obtain ⟨q0, q1⟩ := hdb hb'
        rw [hb', cond_false] at hq
        have hfl : (shAt m S.2).Fields.length ≤ 1048576 := (hw.Shapes.2 _ (getD_mem (d := default) (show S.2.toNat < m.Shapes.length by omega))).Fields.1
        have s3 := take_spec (r := d) (n := (shAt m S.2).Fields.length) hLd (by unfold Len; omega)
        have l3 := take_le (n := (shAt m S.2).Fields.length) (r := d)
        have b3 : (takeP (shAt m S.2).Fields.length d).1.2 = false → 0 ≤ S.2 ∧ S.2 < m.Shapes.length := fun hh => hdb (take_bad hh)
        generalize takeP (shAt m S.2).Fields.length d = Y at s3 l3 hq b3
        refine ⟨⟨q0, q1⟩, Y, s3, by omega, B.2.toNat - (j + 1), by omega, ?_⟩
        rw [wrap_succ (by omega)]
        refine Up.mk (l' := [(2, .bp 0 0), (4, .bp 1 0), (8, .bp 2 0), (9, .bp 3 0), (10, .bp 5 0), (34, intV NC.2), (35, intV k), (45, intV B.2), (46, intV ((j + 1 : Nat) : Int))])
          (hs' := [.box (enc_Model m), boxZ, obR Y.1, .box [encL_Int true G.2, .ow 4 0 cs.length, .nl, intV 0, intV 0, intV 0], .arr true 0 cs.length 2 (rowsCh cs), .box [intV S.2, .ow 6 0 (q ++ [Y.2]).length], .arr true 0 (q ++ [Y.2]).length 1 (rowsQu (q ++ [Y.2]))]) (leT_refl _) ?_
          ⟨j + 1, Y.1, q ++ [Y.2], by omega, rfl, by omega, b3, by simp <;> omega, fun x hx => ?_, hq, rfl⟩
        · rw [show q.length + 1 = (q ++ [Y.2]).length by simp]
          exact ⟨Ob.le_refl _, Ob.le_refl _, Ob.le_refl _, Ob.le_refl _, Ob.le_refl _, Ob.le_refl _, Ob.le_arr fun i hi => leL_eq (rows_app (f := fun x => [encL_Int true x]) (d := []) (l := q) (r := [Y.2]) (F := fun i => [encL_Int true (q.getD i [])]) (G := fun i => List.take 1 (List.drop (i * 1) [encL_Int true Y.2])) (fun _ _ => rfl) (one_at (f := fun x => [encL_Int true x]) (d := []) (x := Y.2) (G := fun i => List.take 1 (List.drop (i * 1) [encL_Int true Y.2])) rfl) hi), trivial⟩
        · rcases List.mem_append.1 hx with hx | hx
          · exact hqs x hx
          · obtain rfl := List.mem_singleton.1 hx
            unfold Len; omega
      · have hb' : d.2 = true := by simpa using hb
        rw [hb', cond_true] at hq
        rw [wrap_succ (by omega)]
        exact ⟨B.2.toNat - (j + 1), by omega, Up.of ⟨j + 1, d, q, by omega, rfl, hd, hdb, by omega, hqs, hq, rfl⟩⟩
    · have hge2' : B.2 ≤ (j : Int) := ge_of hge2
      rw [show B.2.toNat - j = 0 by omega] at hq
      unfold queueD at hq
      rw [← hq] at hr
      simp only at hr
      rw [wrap_succ (by omega)]
      refine ⟨by omega, NC.2.toNat - (k + 1), by omega, Up.mk (l' := [(2, .bp 0 0), (4, .bp 1 0), (8, .bp 2 0), (9, .bp 3 0), (34, intV NC.2), (35, intV ((k + 1 : Nat) : Int))])
          (hs' := [.box (enc_Model m), boxZ, obR d, .box [encL_Int true G.2, .ow 4 0 (cs ++ [(⟨S.2, q⟩ : D.Chan)]).length, .nl, intV 0, intV 0, intV 0], .arr true 0 (cs ++ [(⟨S.2, q⟩ : D.Chan)]).length 2 (rowsCh (cs ++ [(⟨S.2, q⟩ : D.Chan)]))]) (leT_refl _) ?_
          ⟨k + 1, d, cs ++ [(⟨S.2, q⟩ : D.Chan)], by omega, rfl, hd, by simp <;> omega, fun c hc => ?_, hr, rfl⟩⟩
      · rw [show cs.length + 1 = (cs ++ [(⟨S.2, q⟩ : D.Chan)]).length by simp]
        exact ⟨Ob.le_refl _, Ob.le_refl _, Ob.le_refl _, Ob.le_refl _, Ob.le_arr fun i hi => leL_eq (row_chan (c := (⟨S.2, q⟩ : D.Chan)) (G := fun i => (List.map (fun x : List VV × List Nat => x.1) [(List.map (fun x : VV × List Nat => x.1) [(intV S.2, []), (VV.sl true q.length 1 (rowsQu q), [6])], List.flatMap (fun x : VV × List Nat => x.2) [(intV S.2, []), (VV.sl true q.length 1 (rowsQu q), [6])])]).getD i []) rfl hi), trivial⟩
      · rcases List.mem_append.1 hc with hc | hc
        · exact hcs c hc
        · obtain rfl := List.mem_singleton.1 hc
          exact ⟨by unfold Len; show q.length ≤ _; omega, hqs⟩
  · -- the processes
    have hge' : NC.2 ≤ (k : Int) := ge_of hge
    rw [show NC.2.toNat - k = 0 by omega] at hr
    unfold chansD at hr
    subst hr
    have s4 := one_spec (r := d) (a := 0) (b := 17) hLd
    have l4 := one_le (a := 0) (b := 17) (r := d)
    have r4 := one_rng (a := 0) (b := 17) (r := d) (by omega)
    generalize hnp : oneP 0 17 d = NP at s4 l4 r4
    refine ⟨NP, s4, ?_⟩
    generalize hP : procsD m NP.2.toNat NP.1 [] = P
    have hCk : cs.length ≤ 33 := by omega
    refine loop_raw tb_ok mixed (fun gg st => ∃ (k : Nat) (d : Rdr) (ps : List D.Process), (k : Int) ≤ NP.2 ∧ gg = NP.2.toNat - k ∧ d.1.length ≤ t.size ∧ ps.length = k ∧ (∀ p ∈ ps, Len p.Frame.length) ∧ procsD m (NP.2.toNat - k) d ps = P ∧ st = stDec3 m d G.2 cs ps NP.2 k) (by kernel_rfl) (by kernel_rfl)
      ⟨_, Up.cv (Cv.ownBox 3 2 4 (rowsPr []) rfl rfl) (Up.of ⟨0, NP.1, [], by omega, rfl, by omega, rfl, by simp, hP, rfl⟩)⟩ ?_
    clear hd hLd hk
    rintro gg st ⟨k', d', ps, hk, rfl, hd, hpl, hps, hq, rfl⟩
    have hLd : Len d'.1.length := by unfold Len; omega
    refine Asks.raw (decode3_raw _ _ m d' G.2 cs ps NP.2 k' _) ⟨fun hlt => ?_, fun hge2 => ?_⟩
    · have hlt' : (k' : Int) < NP.2 := lt_of hlt
      rw [show NP.2.toNat - k' = (NP.2.toNat - (k' + 1)) + 1 by omega] at hq
      unfold procsD at hq
      have hone := hm.one
      have c1 := one_spec (r := d') (a := 0) (b := m.Procs.length) hLd
      have d1 := one_le (a := 0) (b := m.Procs.length) (r := d')
      have r1 := one_rng (a := 0) (b := m.Procs.length) (r := d') (by omega)
      have e0 : procD m d' = ((takeP (prAt m (oneP 0 m.Procs.length d').2).Frame.length (oneP 0 256 (oneP 0 m.Procs.length d').1).1).1, ⟨(oneP 0 m.Procs.length d').2, (oneP 0 256 (oneP 0 m.Procs.length d').1).2, (prAt m (oneP 0 m.Procs.length d').2).Prio, (takeP (prAt m (oneP 0 m.Procs.length d').2).Frame.length (oneP 0 256 (oneP 0 m.Procs.length d').1).1).2⟩) := rfl
      generalize oneP 0 m.Procs.length d' = S at c1 d1 r1 e0
      have hLS : Len S.1.1.length := by unfold Len; omega
      have c2 := one_spec (r := S.1) (a := 0) (b := 256) hLS
      have d2 := one_le (a := 0) (b := 256) (r := S.1)
      generalize oneP 0 256 S.1 = B at c2 d2 e0
      have hLB : Len B.1.1.length := by unfold Len; omega
      have hfl : (prAt m S.2).Frame.length ≤ 1048576 := (hw.Procs.2 _ (getD_mem (d := default) (show S.2.toNat < m.Procs.length by omega))).Frame.1
      have s3 := take_spec (r := B.1) (n := (prAt m S.2).Frame.length) hLB (by unfold Len; omega)
      have l3 := take_le (n := (prAt m S.2).Frame.length) (r := B.1)
      generalize takeP (prAt m S.2).Frame.length B.1 = Y at s3 l3 e0
      rw [e0] at hq
      simp only at hq
      refine ⟨S, c1, B, c2, ⟨by omega, by omega⟩, ⟨by omega, by omega⟩, Y, s3, by omega, NP.2.toNat - (k' + 1), by omega, ?_⟩
      rw [wrap_succ (by omega)]
      refine Up.mk (l' := [(2, .bp 0 0), (4, .bp 1 0), (8, .bp 2 0), (9, .bp 3 0), (77, intV NP.2), (78, intV ((k' + 1 : Nat) : Int))])
        (hs' := [.box (enc_Model m), boxZ, obR Y.1, .box [encL_Int true G.2, .ow 4 0 cs.length, .ow 5 0 (ps ++ [(⟨S.2, B.2, (prAt m S.2).Prio, Y.2⟩ : D.Process)]).length, intV 0, intV 0, intV 0], .arr true 0 cs.length 2 (rowsCh cs), .arr true 0 (ps ++ [(⟨S.2, B.2, (prAt m S.2).Prio, Y.2⟩ : D.Process)]).length 4 (rowsPr (ps ++ [(⟨S.2, B.2, (prAt m S.2).Prio, Y.2⟩ : D.Process)]))]) (leT_refl _) ?_
        ⟨k' + 1, Y.1, ps ++ [(⟨S.2, B.2, (prAt m S.2).Prio, Y.2⟩ : D.Process)], by omega, rfl, by omega, by simp <;> omega, fun p hp => ?_, hq, rfl⟩
      · rw [show ps.length + 1 = (ps ++ [(⟨S.2, B.2, (prAt m S.2).Prio, Y.2⟩ : D.Process)]).length by simp]
        exact ⟨Ob.le_refl _, Ob.le_refl _, Ob.le_refl _, Ob.le_refl _, Ob.le_refl _, Ob.le_arr fun i hi => leL_eq (rows_app (f := enc_Process) (d := default) (l := ps) (r := [(⟨S.2, B.2, (prAt m S.2).Prio, Y.2⟩ : D.Process)]) (F := fun i => enc_Process (ps.getD i default)) (G := fun i => List.take 4 (List.drop (i * 4) (enc_Process (⟨S.2, B.2, (prAt m S.2).Prio, Y.2⟩ : D.Process)))) (fun _ _ => rfl) (one_at (f := enc_Process) (d := default) (x := (⟨S.2, B.2, (prAt m S.2).Prio, Y.2⟩ : D.Process)) (G := fun i => List.take 4 (List.drop (i * 4) (enc_Process (⟨S.2, B.2, (prAt m S.2).Prio, Y.2⟩ : D.Process)))) rfl) hi), trivial⟩
      · rcases List.mem_append.1 hp with hp | hp
        · exact hps p hp
        · obtain rfl := List.mem_singleton.1 hp
          unfold Len
          show Y.2.length ≤ _
          omega
    · have hge2' : NP.2 ≤ (k' : Int) := ge_of hge2
      rw [show NP.2.toNat - k' = 0 by omega] at hq
      unfold procsD at hq
      subst hq
      have s5 := one_spec (r := d') (a := 0) (b := 16) hLd
      have l5 := one_le (a := 0) (b := 16) (r := d')
      generalize hla : oneP 0 16 d' = LA at s5 l5
      have s6 := one_spec (r := LA.1) (a := -1) (b := 16) (by unfold Len; omega)
      have l6 := one_le (a := -1) (b := 16) (r := LA.1)
      generalize hal : oneP (-1) 16 LA.1 = AL at s6 l6
      have s7 := one_spec (r := AL.1) (a := -1) (b := 256) (by unfold Len; omega)
      generalize hclm : oneP (-1) 256 AL.1 = CL at s7
      have hS : stateD m A = (CL.1, ⟨G.2, cs, ps, LA.2, AL.2, CL.2⟩) := by
        unfold stateD
        simp only [hg, hnc, hC, hnp, hP, hla, hal, hclm]
      rw [hS] at hR
      simp only at hR
      have hsm : SmallS' ⟨G.2, cs, ps, LA.2, AL.2, CL.2⟩ := ⟨by unfold Len; show G.2.length ≤ _; omega, by unfold Len; show cs.length ≤ _; omega, by unfold Len; show ps.length ≤ _; omega, hcs, hps⟩
      have hcond : ∀ x : Bool, (bif bif CL.1.2 then true else decide ((CL.1.1.length : Int) > 0) then true else !x) = (CL.1.2 || (decide (0 < CL.1.1.length) || !x)) := fun x => by
        simp only [bif_or, Bool.or_assoc]
        rw [show decide ((CL.1.1.length : Int) > 0) = decide (0 < CL.1.1.length) from ngt _ 0]
      refine ⟨LA, s5, AL, s6, CL, s7, stFits m ⟨G.2, cs, ps, LA.2, AL.2, CL.2⟩, fun _ => stfits_spec' hsm hm.clp, ?_⟩
      rw [hcond]
      refine ⟨fun hb => leZ (by rw [hb, cond_true] at hR; exact hR), fun hb => ?_⟩
      rw [hb, cond_false] at hR
      subst hR
      exact ⟨trivial, VV.le_refl _⟩
end Go.Proofs.YtdjjlkekbphbaaaDoor
