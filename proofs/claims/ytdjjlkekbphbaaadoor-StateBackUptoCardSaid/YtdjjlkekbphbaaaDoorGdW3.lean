/-
  Layer 11 on trees, III: places, statements, what an expression holds.
-/
import Derived.Test.YtdjjlkekbphbaaaDoorGdW2
namespace Go.Proofs.YtdjjlkekbphbaaaDoor
open Go.RowKit

theorem drop_cons {α : Type} {l : List α} {k : Nat} {d : α} (h : k < l.length) : l.drop k = l.getD k d :: l.drop (k + 1) := by
  rw [List.drop_eq_getElem_cons h]; simp [List.getD, h]
theorem take_push {α : Type} {l : List α} {k : Nat} {d : α} (h : k < l.length) : l.take (k + 1) = l.take k ++ [l.getD k d] := by
  rw [List.take_add_one, List.getElem?_eq_getElem h]; simp [List.getD, h]
theorem cond_lt {α : Type} {i n : Nat} {a b : α} (h : i < n) : (bif Nat.blt i n then a else b) = a := by
  have hb : Nat.blt i n = true := Nat.ble_eq_true_of_le h
  rw [hb, cond_true]
theorem cond_ge {α : Type} {i n : Nat} {a b : α} (h : n ≤ i) : (bif Nat.blt i n then a else b) = b := by
  have hb : Nat.blt i n = false := by
    cases hq : Nat.blt i n with
    | true => have := Nat.le_of_ble_eq_true hq; omega
    | false => rfl
  rw [hb, cond_false]
/-- Rows behind rows. -/
theorem rows_app {α : Type} {f : α → List VV} {d : α} {l r : List α} {F G : Nat → List VV} (h1 : ∀ i, i < l.length → F i = f (l.getD i d)) (h2 : ∀ i, i < r.length → G i = f (r.getD i d)) {i : Nat} (hi : i < (l ++ r).length) :
    (bif i.blt l.length then F i else G (i - l.length)) = f ((l ++ r).getD i d) := by
  by_cases hl : i < l.length
  · rw [cond_lt hl, h1 i hl]
    simp only [List.getD_eq_getElem?_getD, List.getElem?_append_left hl]
  · rw [cond_ge (by omega), h2 _ (by simp at hi; omega)]
    simp only [List.getD_eq_getElem?_getD, List.getElem?_append_right (by omega : l.length ≤ i)]
theorem row_one {x : Int} : ∀ i, i < [x].length → (fun i => List.take 1 (List.drop (i * 1) [VV.sc (.int .i64 x)])) i = (fun n => [intV n]) ([x].getD i 0) := by
  intro i hi
  obtain rfl : i = 0 := by simpa using hi
  rfl
/-- An array's rows, said otherwise. -/
theorem satC_rows {c : Ctx} {rel : List Nat} {l : List (Nat × VV)} {g n sz : Nat} {F G : Nat → List VV} (h : ∀ i, i < n → F i = G i) (k : SatC c rel (mkSt l [.arr true g n sz G])) : SatC c rel (mkSt l [.arr true g n sz F]) :=
  SatC.le (hs := [.arr true g n sz F]) (hs' := [.arr true g n sz G]) (leT_refl _) ⟨Ob.le_arr fun i hi => leL_eq (h i hi), trivial⟩ k

theorem ways_spec {l : D.Loc} (h1 : l.Esc.length ≤ 1048576) : VSpec Tryd.prog 100 [] [.agg (enc_Loc l)] [] (encL_Transs true (waysP l)) := by
  refine vspec_raw tb_ok mixed Tryd.func100 (by kernel_rfl) rfl (ways_raw _ l) ⟨by omega, fun i hi => rfl, trivial, ?_⟩
  have e : 1 + l.Esc.length = (waysP l).length := by simp [waysP]; omega
  rw [e]
  refine VV.le_sl (.inl rfl) fun i hi => leL_eq ?_
  refine rows_app (l := [l.Out]) (r := l.Esc) (f := fun w => [encL_Trans true w]) (d := []) (F := fun i => List.take 1 (List.drop (i * 1) [encL_Trans true l.Out])) (G := fun i => [encL_Trans true (l.Esc.getD i [])]) (fun i hi => ?_) (fun i hi => rfl) hi
  obtain rfl : i = 0 := by simpa using hi
  rfl
theorem frame_spec {p : D.Proc} (hp : wf_Proc p) : VSpec Tryd.prog 78 [] [.agg (enc_Proc p)] [] (boolV (frameP p)) := by
  have h1 := hp.Frame.1
  refine vspec_raw tb_ok mixed Tryd.func78 (by kernel_rfl) rfl (frame_raw _ p) ⟨typesP p.Frame p.Init, fun h => types_spec ?_ h1, leafB ?_⟩
  · simp at h; omega
  · rw [Bool.eq_iff_iff]; simp [frameP]; omega
theorem claimed_spec {p : D.Proc} (hp : wf_Proc p) : VSpec Tryd.prog 80 [] [.agg (enc_Proc p)] [] (boolV (claimedP p)) := by
  have h1 := hp.Locs.1
  refine vspec_raw tb_ok mixed Tryd.func80 (by kernel_rfl) rfl (claimed_raw _ p) ⟨fun h => leafB ?_, fun h => ?_⟩
  · symm; rw [Bool.eq_false_iff]; intro hc; simp [claimedP, -List.length_eq_zero_iff] at hc h; omega
  · have e : claimedP p = allI p.Locs.length fun i => plainLoc (p.Locs.getD i default) := by
      unfold claimedP
      have : (decide (p.Frame.length = 0) && decide (p.Params ≤ 0) && decide (p.Active ≤ 0) && decide (p.Provided = -1)) = true := by simp at h ⊢; omega
      rw [this, Bool.true_and]
    rw [e]
    refine loop_idx tb_ok mixed p.Locs.length (fun k => stClaimed p k) (fun k => ∀ i, i < k → plainLoc (p.Locs.getD i default) = true) (by kernel_rfl) (by kernel_rfl) (fun i hi => by omega) ?_
    intro k hk hI J next
    refine Asks.raw (claimed1_raw _ p k J) ⟨fun hlt => ?_, fun hge => leafB ?_⟩
    · have hlt' : k < p.Locs.length := by have := lt_of hlt; omega
      have hto : (k : Int).toNat = k := by omega
      rw [hto]
      have hpl : ∀ l : D.Loc, plainLoc l = !(bif bif decide ((l.Esc.length : Int) > 0) then true else l.Atomic then true else l.Dstep) := by
        intro l
        unfold plainLoc
        cases l.Atomic <;> cases l.Dstep <;> rw [Bool.eq_iff_iff] <;> simp
      refine ⟨⟨by omega, by omega⟩, fun hy => leafB ?_, fun hy => next _ hlt' (fun i hi => ?_) (Up.of ?_)⟩
      · exact (allI_no (f := fun i => plainLoc (p.Locs.getD i default)) hlt' (by show plainLoc _ = false; rw [hpl, hy]; rfl)).symm
      · rcases Nat.lt_succ_iff_lt_or_eq.1 hi with h | rfl
        · exact hI i h
        · rw [hpl, hy]; rfl
      · rw [wrap_succ (by omega)]; rfl
    · have hge' : p.Locs.length ≤ k := by have := ge_of hge; omega
      exact (allI_iff.2 fun i hi => hI i (by omega)).symm
theorem graph_spec {p : D.Proc} (hp : wf_Proc p) : VSpec Tryd.prog 79 [] [.agg (enc_Proc p)] [] (boolV (graphP p)) := by
  have h1 := hp.Locs.1
  refine vspec_raw tb_ok mixed Tryd.func79 (by kernel_rfl) rfl (graph_raw _ p) ⟨fun h => leafB ?_, fun h => ?_⟩
  · symm; rw [Bool.eq_false_iff]; intro hc; simp [graphP, inP] at hc h; omega
  · have e : graphP p = locsOk p.Locs.length p.Final 0 0 p.Locs := by
      unfold graphP
      have : (decide (1 ≤ p.Locs.length) && decide (p.Locs.length ≤ 256) && inP p.Locs.length p.Start && inP p.Locs.length p.Final) = true := by simp [inP] at h ⊢; omega
      rw [this, Bool.true_and]
    rw [e]
    generalize hb : locsOk p.Locs.length p.Final 0 0 p.Locs = b
    refine loop_raw tb_ok mixed (fun g st => ∃ (k many : Nat), k ≤ p.Locs.length ∧ g = p.Locs.length - k ∧ many ≤ 1024 ∧ locsOk p.Locs.length p.Final many k (p.Locs.drop k) = b ∧ st = stGraph1 p many k) (by kernel_rfl) (by kernel_rfl) ⟨_, Up.of ⟨0, 0, Nat.zero_le _, rfl, by omega, hb, rfl⟩⟩ ?_
    rintro g st ⟨k, many, hk, rfl, hm, hr, rfl⟩
    refine Asks.raw (graph1_raw _ p many k _) ⟨fun hlt => ?_, fun hge => leafB ?_⟩
    · have hlt' : k < p.Locs.length := by have := lt_of hlt; omega
      have hto : (k : Int).toNat = k := by omega
      rw [hto]
      have hwl := hp.Locs.2 _ (getD_mem (d := default) hlt')
      rw [drop_cons (d := default) hlt'] at hr
      generalize p.Locs.getD k default = l at hwl hr ⊢
      have ho := hwl.Out.1
      have hes := hwl.Esc.1
      have hbad : locBad p.Final k l = bif bif decide ((l.Esc.length : Int) > 8) then true else bif l.Dstep then l.Atomic else false then true else bif (k : Int) == p.Final then decide (IntKind.i64.wrap ((l.Out.length : Int) + (l.Esc.length : Int)) > 0) else false := by
        rw [wrap_id (by omega) (by omega)]
        unfold locBad
        cases l.Dstep <;> cases l.Atomic <;> rw [Bool.eq_iff_iff] <;> simp <;> omega
      rw [← hbad]
      unfold locsOk at hr
      refine ⟨⟨by omega, by omega⟩, fun hy => leafB ?_, fun hy => ?_⟩
      · rw [hy, cond_true] at hr; exact hr
      · rw [hy, cond_false] at hr
        refine ⟨waysP l, ways_spec hes, ?_⟩
        have hwsl : (waysP l).length ≤ 1048577 := by simp [waysP]; omega
        have hwse : ∀ w ∈ waysP l, w.length ≤ 1048576 := by
          intro w hw
          rcases List.mem_cons.1 hw with rfl | hw
          · exact ho
          · exact (hwl.Esc.2 w hw).1
        generalize waysP l = ws at hr hwsl hwse ⊢
        generalize hwo : waysOk p.Locs.length many 0 ws = wo at hr
        refine loop_raw tb_ok mixed (fun g st => ∃ (j mn : Nat), j ≤ ws.length ∧ g = ws.length - j ∧ mn ≤ 1024 ∧ waysOk p.Locs.length mn j (ws.drop j) = wo ∧ st = stGraph2 p mn k ws j) (by kernel_rfl) (by kernel_rfl) ⟨_, Up.of ⟨0, many, Nat.zero_le _, rfl, hm, hwo, rfl⟩⟩ ?_
        rintro g st ⟨j, mn, hj, rfl, hmn, hq, rfl⟩
        refine Asks.raw (graph2_raw _ p mn k ws j _ _) ⟨fun hlt2 => ?_, fun hge2 => ?_⟩
        · have hlt2' : j < ws.length := by have := lt_of hlt2; omega
          have hto2 : (j : Int).toNat = j := by omega
          rw [hto2]
          have hwle := hwse _ (getD_mem (d := []) hlt2')
          rw [drop_cons (d := []) hlt2'] at hq
          generalize ws.getD j [] = w at hwle hq ⊢
          unfold waysOk at hq
          rw [wrap_id (n := (mn : Int) + _) (by omega) (by omega)]
          have e1 : (bif decide ((j : Int) > 0) then (w.length : Int) == 0 else false) = (decide (0 < j) && decide (w.length = 0)) := by
            rw [Bool.eq_iff_iff]; simp
          have e2 : decide ((mn : Int) + (w.length : Int) > 1024) = decide (1024 < mn + w.length) := by
            rw [Bool.eq_iff_iff]; simp; omega
          rw [e1, e2]
          refine ⟨⟨by omega, by omega⟩, fun hy1 => leafB ?_, fun hy1 => ⟨fun hy2 => leafB ?_, fun hy2 => ?_⟩⟩
          · rw [hy1, cond_true] at hq; rw [← hq] at hr; exact hr
          · rw [hy1, cond_false, hy2, cond_true] at hq; rw [← hq] at hr; exact hr
          · rw [hy1, cond_false, hy2, cond_false] at hq
            have hmn2 : mn + w.length ≤ 1024 := by simpa using hy2
            rw [show (mn : Int) + (w.length : Int) = ((mn + w.length : Nat) : Int) by omega]
            refine loop_idx tb_ok mixed w.length (fun h => stGraph3 p (mn + w.length : Nat) k ws j w h) (fun h => ∀ i, i < h → inP p.Locs.length (w.getD i default).To = true) (by kernel_rfl) (by kernel_rfl) (fun i hi => by omega) ?_
            intro h3 hh3 hI J3 next
            refine Asks.raw (graph3_raw _ p _ k ws j w h3 _ _ J3) ⟨fun hlt3 => ?_, fun hge3 => ?_⟩
            · have hlt3' : h3 < w.length := by have := lt_of hlt3; omega
              have hto3 : (h3 : Int).toNat = h3 := by omega
              rw [hto3]
              have hin : inP p.Locs.length (w.getD h3 default).To = !(bif decide ((w.getD h3 default).To < 0) then true else decide ((w.getD h3 default).To ≥ (p.Locs.length : Int))) := by
                unfold inP; rw [Bool.eq_iff_iff]; simp
              refine ⟨⟨by omega, by omega⟩, fun hy => leafB ?_, fun hy => next _ hlt3' (fun i hi => ?_) (Up.of ?_)⟩
              · have := allI_no (n := w.length) (f := fun i => inP p.Locs.length (w.getD i default).To) hlt3' (by show inP _ _ = false; rw [hin, hy]; rfl)
                rw [this, cond_false] at hq; rw [← hq] at hr; exact hr
              · rcases Nat.lt_succ_iff_lt_or_eq.1 hi with h | rfl
                · exact hI i h
                · rw [hin, hy]; rfl
              · rw [wrap_succ (by omega)]; rfl
            · have hge3' : w.length ≤ h3 := by have := ge_of hge3; omega
              have := (allI_iff (n := w.length) (f := fun i => inP p.Locs.length (w.getD i default).To)).2 fun i hi => hI i (by omega)
              rw [this, cond_true] at hq
              rw [wrap_succ (by omega)]
              exact ⟨ws.length - (j + 1), by omega, Up.of ⟨j + 1, mn + w.length, by omega, rfl, hmn2, hq, rfl⟩⟩
        · have hge2' : ws.length ≤ j := by have := ge_of hge2; omega
          rw [List.drop_eq_nil_of_le hge2'] at hq
          unfold waysOk at hq
          rw [← hq] at hr
          rw [wrap_succ (by omega)]
          exact ⟨p.Locs.length - (k + 1), by omega, Up.of ⟨k + 1, mn, by omega, rfl, hmn, hr, rfl⟩⟩
    · have hge' : p.Locs.length ≤ k := by have := ge_of hge; omega
      rw [List.drop_eq_nil_of_le hge'] at hr
      exact hr
theorem text_nil (t : ByteArray) : (t.toList == (⟨#[]⟩ : ByteArray).toList) = decide (t.size = 0) := by
  rw [ByteArray.toList_eq, ByteArray.toList_eq, Bool.eq_iff_iff, beq_iff_eq, decide_eq_true_eq]
  show t.data.toList = [] ↔ t.data.size = 0
  rw [← Array.length_toList, List.length_eq_zero_iff]
theorem empty_spec {s : D.Stmt} {u v x : Bool} (h1 : s.Args.length ≤ 1048576) (h2 : s.Match.length ≤ 1048576) : VSpec Tryd.prog 134 [] [.agg (enc_Stmt s), boolV u, boolV v, boolV x] [] (boolV (emptyP s u v x)) := by
  refine vspec_raw tb_ok mixed Tryd.func134 (by kernel_rfl) rfl (empty_raw _ s u v x) (leafB ?_)
  rw [wrap_id (by omega) (by omega), text_nil]
  unfold emptyP
  have e1 : ((s.Args.length : Int) + (s.Match.length : Int) == 0) = decide (s.Args.length + s.Match.length = 0) := by rw [Bool.eq_iff_iff, beq_iff_eq, decide_eq_true_eq]; omega
  have e2 : (s.N == 0) = decide (s.N = 0) := by rw [Bool.eq_iff_iff, beq_iff_eq, decide_eq_true_eq]
  rw [e1, e2]
  generalize decide (s.Args.length + s.Match.length = 0) = b1
  generalize decide (s.N = 0) = b2
  generalize decide (s.Text.size = 0) = b3
  cases u <;> cases v <;> cases x <;> cases b1 <;> cases b2 <;> cases b3 <;> rfl
theorem place_spec (m : D.Model) (a : Int) : VSpec Tryd.prog 133 [] [tpM m, intV a] [] (boolV (placeP m a)) :=
  vspec_raw tb_ok mixed Tryd.func133 (by kernel_rfl) rfl (place_raw _ m a) ⟨inP m.Exprs.length a, below_one, leafB rfl⟩
theorem target_spec (m : D.Model) (a : Int) : VSpec Tryd.prog 135 [] [tpM m, intV a] [] (boolV (targetP m a)) := by
  have hin : ∀ y : Bool, y = placeP m a → y = true → 0 ≤ a ∧ a < m.Exprs.length := fun y hy h => inP_iff.1 (by rw [hy] at h; exact h)
  refine vspec_raw tb_ok mixed Tryd.func135 (by kernel_rfl) rfl (target_raw _ m a) ⟨placeP m a, place_spec m a, fun h => hin _ rfl (by simpa using h), fun h => hin _ rfl ?_, leafB ?_⟩
  · cases hq : placeP m a with
    | true => rfl
    | false => rw [hq] at h; simp at h
  · unfold targetP exAt
    cases placeP m a
    · rfl
    · rw [Bool.eq_iff_iff]; simp
theorem taken_spec {m : D.Model} {s : D.Stmt} (h1 : s.Args.length ≤ 1048576) (h2 : s.Match.length ≤ 1048576) : VSpec Tryd.prog 136 [] [tpM m, .agg (enc_Stmt s)] [] (boolV (takenP m s)) := by
  refine vspec_raw tb_ok mixed Tryd.func136 (by kernel_rfl) rfl (taken_raw _ m s) ⟨matchedP m m.Exprs.length s.Args s.Match, matched_spec (Int.le_refl _) h1 h2, fun h => leafB ?_, fun h => ?_⟩
  · have h' : matchedP m m.Exprs.length s.Args s.Match = false := by simpa using h
    unfold takenP; rw [h', Bool.false_and]
  · have h' : matchedP m m.Exprs.length s.Args s.Match = true := by simpa using h
    have hlen : s.Match.length = s.Args.length := by
      unfold matchedP at h'
      simp only [Bool.and_eq_true, decide_eq_true_eq] at h'
      exact h'.1.1.2
    have e : takenP m s = allI s.Match.length fun i => !decide (s.Match.getD i 0 = 0) || targetP m (s.Args.getD i 0) := by unfold takenP; rw [h', Bool.true_and]
    rw [e]
    refine loop_idx tb_ok mixed s.Match.length (fun k => stTaken m s k) (fun k => ∀ i, i < k → (!decide (s.Match.getD i 0 = 0) || targetP m (s.Args.getD i 0)) = true) (by kernel_rfl) (by kernel_rfl) (fun i hi => by omega) ?_
    intro k hk hI J next
    refine Asks.raw (taken1_raw _ m s k J) ⟨fun hlt => ?_, fun hge => leafB ?_⟩
    · have hlt' : k < s.Match.length := by have := lt_of hlt; omega
      have hto : (k : Int).toNat = k := by omega
      rw [hto]
      have hm : (!decide (s.Match.getD k 0 = 0) || targetP m (s.Args.getD k 0)) = !(bif s.Match.getD k 0 == 0 then !(targetP m (s.Args.getD k 0)) else false) := by
        generalize s.Match.getD k 0 = z
        cases targetP m (s.Args.getD k 0)
        · rw [Bool.eq_iff_iff]; simp
        · simp
      refine ⟨⟨by omega, by omega⟩, fun _ => ⟨by omega, by omega⟩, targetP m (s.Args.getD k 0), fun _ => target_spec _ _, fun hy => leafB ?_, fun hy => next _ hlt' (fun i hi => ?_) (Up.of ?_)⟩
      · exact (allI_no (f := fun i => !decide (s.Match.getD i 0 = 0) || targetP m (s.Args.getD i 0)) hlt' (by show (!decide (s.Match.getD k 0 = 0) || targetP m (s.Args.getD k 0)) = false; rw [hm, hy]; rfl)).symm
      · rcases Nat.lt_succ_iff_lt_or_eq.1 hi with h | rfl
        · exact hI i h
        · rw [hm, hy]; rfl
      · rw [wrap_succ (by omega)]; rfl
    · have hge' : s.Match.length ≤ k := by have := ge_of hge; omega
      exact (allI_iff.2 fun i hi => hI i (by omega)).symm
theorem slots_spec {m : D.Model} {i : Int} {v : D.Var} (h1 : v.Scope = 1 → 0 ≤ i ∧ i < m.Procs.length) (h2 : v.Scope ≠ 0 → v.Scope ≠ 1 → 0 ≤ v.Type_ ∧ v.Type_ < m.Procs.length) : VSpec Tryd.prog 125 [] [tpM m, intV i, .agg (enc_Var v)] [] (intV (slotsP m i v)) := by
  refine vspec_raw tb_ok mixed Tryd.func125 (by kernel_rfl) rfl (slots_raw _ m i v) ⟨fun h => leafI ?_, fun h => ⟨fun k => ⟨h1 (by simpa using k), leafI ?_⟩, fun k => ⟨h2 (by simpa using h) (by simpa using k), leafI ?_⟩⟩⟩
  · unfold slotsP; rw [if_pos (by simpa using h)]
  · unfold slotsP; rw [if_neg (by simpa using h), if_pos (by simpa using k)]
  · unfold slotsP; rw [if_neg (by simpa using h), if_neg (by simpa using k)]
end Go.Proofs.YtdjjlkekbphbaaaDoor
