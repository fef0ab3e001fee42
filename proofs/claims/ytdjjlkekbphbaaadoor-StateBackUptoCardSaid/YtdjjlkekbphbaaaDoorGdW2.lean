/-
  Layer 11 on trees, II: expressions.
-/
import Derived.Test.YtdjjlkekbphbaaaDoorGdW1
namespace Go.Proofs.YtdjjlkekbphbaaaDoor
open Go.RowKit

theorem bt {b : Bool} {p : Prop} (h : b = true) (k : b = false) : p := by rw [h] at k; cases k
theorem below_one' {a x : Int} : VSpec Tryd.prog 119 [] [intV a, .sl true 1 1 fun i => List.take 1 (List.drop (i * 1) [.sc (.int .i64 x)])] [] (boolV (inP a x)) := by
  have h := below_spec (a := a) (l := [x]) (by simp)
  have e : belowP a [x] = inP a x := by simp [belowP, allI, List.getD]
  rw [e] at h
  refine h.le trivial ⟨VV.le_refl _, VV.le_sl (.inl rfl) fun i hi => leL_eq ?_, trivial⟩ trivial (VV.le_refl _)
  obtain rfl : i = 0 := by omega
  rfl
theorem parts_spec (op : Int) : VSpec Tryd.prog 118 [] [intV op] [] (intV (partsP op)) := by
  refine vspec_raw tb_ok mixed Tryd.func118 (by kernel_rfl) rfl (parts_raw _ op) ?_
  have k0 : ∀ {p : Prop}, (op = 1 ∨ op = 2 ∨ op = 31 ∨ op = 32 ∨ op = 33 ∨ op = 34 ∨ op = 35 ∨ op = 39) → leO [] [] ∧ VV.le (.sc (.int .i64 0)) (.sc (.int .i64 (partsP op : Nat))) := fun h => leafI (by unfold partsP; rw [if_pos h]; rfl)
  have kx : ¬(op = 1 ∨ op = 2 ∨ op = 31 ∨ op = 32 ∨ op = 33 ∨ op = 34 ∨ op = 35 ∨ op = 39) → ((op == (24 : Int)) = true → leO [] [] ∧ (VV.sc (.int .i64 3)).le (.sc (.int .i64 (partsP op : Nat)))) ∧ ((op == (24 : Int)) = false →
      ((bif decide (op ≥ (6 : Int)) then decide (op ≤ (23 : Int)) else false) = true → leO [] [] ∧ (VV.sc (.int .i64 2)).le (.sc (.int .i64 (partsP op : Nat)))) ∧ ((bif decide (op ≥ (6 : Int)) then decide (op ≤ (23 : Int)) else false) = false → leO [] [] ∧ (VV.sc (.int .i64 1)).le (.sc (.int .i64 (partsP op : Nat))))) := by
    intro hn
    refine ⟨fun h => leafI ?_, fun h => ⟨fun h2 => leafI ?_, fun h2 => leafI ?_⟩⟩
    · unfold partsP; rw [if_neg hn, if_pos (by simpa using h)]; rfl
    · unfold partsP; rw [if_neg hn, if_neg (by simpa using h), if_pos (by simp at h2; omega)]; rfl
    · unfold partsP; rw [if_neg hn, if_neg (by simpa using h), if_neg (by simp at h2; omega)]; rfl
  refine ⟨fun h1 => ⟨fun _ => k0 (p := True) (by simp at h1; omega), fun h => bt h1 h⟩, fun h1 => ⟨fun h2 => ⟨fun _ => k0 (p := True) (by simp at h2; omega), fun h => bt h2 h⟩, fun h2 => ⟨fun h3 => ⟨fun _ => k0 (p := True) (by simp at h3; omega), fun h => bt h3 h⟩, fun h3 => ⟨fun h4 => ⟨fun _ => k0 (p := True) (by simp at h4; omega), fun h => bt h4 h⟩, fun h4 => ⟨fun h5 => ⟨fun _ => k0 (p := True) (by simp at h5; omega), fun h => bt h5 h⟩, fun h5 =>
    ⟨fun h6 => ⟨fun _ => k0 (p := True) (by simp at h6; omega), fun h => bt h6 h⟩, fun h6 => ⟨fun h7 => ⟨fun _ => k0 (p := True) (by simp at h7; omega), fun h => bt h7 h⟩, fun h7 => ⟨fun h8 => k0 (p := True) (by simp at h8; omega), fun h8 => kx (by simp at h1 h2 h3 h4 h5 h6 h7 h8; omega)⟩⟩⟩⟩⟩⟩⟩⟩
theorem vari_spec {m : D.Model} {a : Int} {v : D.Var} (hv : wf_Var v) : VSpec Tryd.prog 120 [] [tpM m, intV a, .agg (enc_Var v)] [] (boolV (variableP m a v)) := by
  have hl := hv.Dims.1
  refine vspec_raw tb_ok mixed Tryd.func120 (by kernel_rfl) rfl (vari_raw _ m a v) ?_
  have hloop : ∀ b : Bool, b = allI v.Dims.length (fun i => dimP a (v.Dims.getD i default)) → SatC (fnCtx Tryd.prog tb shGd ann_vari true Tryd.f120 [] (boolV b)) [1, 1, 1, 0, 1, 0] (stVari a v 0) := by
    rintro b rfl
    refine loop_idx tb_ok mixed v.Dims.length (fun k => stVari a v k) (fun k => ∀ i, i < k → dimP a (v.Dims.getD i default) = true) (by kernel_rfl) (by kernel_rfl) (fun i hi => by omega) ?_
    intro k hk hI J next
    refine Asks.raw (vari1_raw _ a v k J) ⟨fun hlt => ?_, fun hge => leafB ?_⟩
    · have hlt' : k < v.Dims.length := by have := lt_of hlt; omega
      have hto : (k : Int).toNat = k := by omega
      rw [hto]
      have hdim : ∀ d : D.Dim, dimP a d = !(bif bif bif bif !(inP a d.I) then true else decide (d.Len < 1) then true else decide (d.Len > 128) then true else decide (d.Stride < 0) then true else decide (d.Stride > 128)) := by
        intro d
        unfold dimP
        cases inP a d.I
        · rfl
        · rw [Bool.eq_iff_iff]; simp <;> omega
      refine ⟨⟨by omega, by omega⟩, inP a (v.Dims.getD k default).I, below_one, fun hy => leafB ?_, fun hy => next _ hlt' (fun i hi => ?_) (Up.of ?_)⟩
      · exact (allI_no (f := fun i => dimP a (v.Dims.getD i default)) hlt' (by show dimP a _ = false; rw [hdim, hy]; rfl)).symm
      · rcases Nat.lt_succ_iff_lt_or_eq.1 hi with h | rfl
        · exact hI i h
        · show dimP a _ = true; rw [hdim, hy]; rfl
      · rw [wrap_succ (by omega)]; rfl
    · have hge' : v.Dims.length ≤ k := by have := ge_of hge; omega
      exact (allI_iff.2 fun i hi => hI i (by omega)).symm
  unfold variableP
  generalize allI v.Dims.length (fun i => dimP a (v.Dims.getD i default)) = al at hloop ⊢
  refine ⟨fun h => leafB ?_, fun h => ⟨fun h2 => ?_, fun h2 => ?_⟩⟩
  · symm; rw [Bool.eq_false_iff]; intro hc; simp at h hc; omega
  all_goals
    have e : (decide (0 ≤ v.Scope) && decide (v.Scope ≤ 2) && decide (0 ≤ v.Slot) && decide (v.Slot ≤ 128) && decide (v.Dims.length ≤ 4)) = true := by simp at h ⊢; omega
    rw [e, Bool.true_and]
  · have e2 : decide (v.Scope = 2) = true := by simpa using h2
    rw [e2, cond_true]
    refine ⟨inP a v.Who, below_one, procP m v.Type_, fun _ => procty_spec _ _, fun hy => leafB ?_, fun hy => hloop _ ?_⟩
    · cases h3 : inP a v.Who <;> cases h4 : procP m v.Type_ <;> rw [h3, h4] at hy <;> first | rfl | cases hy
    · cases h3 : inP a v.Who <;> cases h4 : procP m v.Type_ <;> rw [h3, h4] at hy <;> first | (simp; done) | cases hy
  · have e2 : decide (v.Scope = 2) = false := by simpa using h2
    rw [e2, cond_false]
    refine ⟨fun hy => leafB ?_, fun hy => hloop _ ?_⟩
    · symm; rw [Bool.eq_false_iff]; intro hc; simp at hy hc; omega
    · have : (decide (v.Who = -1) && decide (v.Type_ = -1)) = true := by simp at hy ⊢; omega
      rw [this, Bool.true_and]
theorem matched_spec {m : D.Model} {a : Int} {args mt : List Int} (ha : a ≤ m.Exprs.length) (h1 : args.length ≤ 1048576) (h2 : mt.length ≤ 1048576) :
    VSpec Tryd.prog 121 [] [tpM m, intV a, encL_Int true args, encL_Int true mt] [] (boolV (matchedP m a args mt)) := by
  refine vspec_raw tb_ok mixed Tryd.func121 (by kernel_rfl) rfl (matched_raw _ m a args mt) ⟨belowP a args, fun _ => below_spec (by omega), fun h => leafB ?_, fun h => ?_⟩
  · unfold matchedP
    symm; rw [Bool.eq_false_iff]; intro hc
    simp at hc h
    obtain ⟨⟨⟨⟨c1, c2⟩, c3⟩, c4⟩, _⟩ := hc
    rw [c4] at h
    simp at h
    omega
  · have hb : belowP a args = true := by
      cases hq : belowP a args with
      | true => rfl
      | false => rw [hq] at h; simp at h
    have hlen : 1 ≤ args.length ∧ args.length ≤ 8 ∧ mt.length = args.length := by rw [hb] at h; simp at h; omega
    have e : matchedP m a args mt = allI mt.length fun i => matchP m (args.getD i 0) (mt.getD i 0) := by
      unfold matchedP
      rw [hb]; simp [hlen]
    rw [e]
    have hin := belowP_iff.1 hb
    refine loop_idx tb_ok mixed mt.length (fun k => stMatched m args mt k) (fun k => ∀ i, i < k → matchP m (args.getD i 0) (mt.getD i 0) = true) (by kernel_rfl) (by kernel_rfl) (fun i hi => by omega) ?_
    intro k hk hI J next
    refine Asks.raw (matched1_raw _ m args mt k J) ⟨fun hlt => ?_, fun hge => leafB ?_⟩
    · have hlt' : k < mt.length := by have := lt_of hlt; omega
      have hto : (k : Int).toNat = k := by omega
      rw [hto]
      have hx := hin _ (getD_mem (d := (0 : Int)) (show k < args.length by omega))
      have hm : matchP m (args.getD k 0) (mt.getD k 0) = !(bif bif decide (mt.getD k 0 < -1) then true else decide (mt.getD k 0 > 1) then true else bif mt.getD k 0 == 0 then (m.Exprs.getD (args.getD k 0).toNat default).Op != 2 else false) := by
        unfold matchP exAt
        rw [Bool.eq_iff_iff]; simp <;> omega
      refine ⟨⟨by omega, by omega⟩, fun _ => ⟨by omega, by omega⟩, fun _ => ⟨by omega, by omega⟩, fun hy => leafB ?_, fun hy => next _ hlt' (fun i hi => ?_) (Up.of ?_)⟩
      · exact (allI_no (f := fun i => matchP m (args.getD i 0) (mt.getD i 0)) hlt' (by show matchP m _ _ = false; rw [hm, hy]; rfl)).symm
      · rcases Nat.lt_succ_iff_lt_or_eq.1 hi with h | rfl
        · exact hI i h
        · rw [hm, hy]; rfl
      · rw [wrap_succ (by omega)]; rfl
    · have hge' : mt.length ≤ k := by have := ge_of hge; omega
      exact (allI_iff.2 fun i hi => hI i (by omega)).symm
theorem places_spec {m : D.Model} {x : D.Expr} (h1 : x.Args.length ≤ 1048576) : VSpec Tryd.prog 122 [] [tpM m, .agg (enc_Expr x)] [] (boolV (placesP m x)) := by
  refine vspec_raw tb_ok mixed Tryd.func122 (by kernel_rfl) rfl (places_raw _ m x) ⟨procP m x.N, fun _ => procty_spec _ _, fun h => leafB ?_, fun h => ?_⟩
  · unfold placesP
    symm; rw [Bool.eq_false_iff]; intro hc
    simp at hc h
    obtain ⟨⟨⟨⟨c1, c2⟩, c3⟩, c4⟩, _⟩ := hc
    rw [c3] at h
    simp at h
    omega
  · have hb : procP m x.N = true := by
      cases hq : procP m x.N with
      | true => rfl
      | false => rw [hq] at h; simp at h
    have hp : 0 ≤ x.N ∧ x.N < m.Procs.length := by unfold procP at hb; simp at hb; omega
    have hlen : 0 ≤ x.N ∧ x.N < 1073741824 ∧ 1 ≤ x.Args.length := by rw [hb] at h; simp at h; omega
    refine ⟨⟨by omega, by omega⟩, belowP (locsOf m x.N).length x.Args, below_spec (by omega), leafB ?_⟩
    unfold placesP
    rw [hb]; simp [hlen]
theorem partP_eq {a op : Int} {i : Nat} {p : Int} : partP a op i p = !(bif bif decide ((i : Int) < (partsP op : Nat)) then !(inP a p) else false then true else bif decide ((i : Int) ≥ (partsP op : Nat)) then p != -1 else false) := by
  unfold partP
  by_cases h : i < partsP op
  · have h1 : decide (i < partsP op) = true := by simpa using h
    have h2 : decide ((i : Int) < (partsP op : Nat)) = true := by simp; omega
    have h3 : decide ((i : Int) ≥ (partsP op : Nat)) = false := by simp; omega
    rw [h1, h2, h3]; simp
  · have h1 : decide (i < partsP op) = false := by simpa using h
    have h2 : decide ((i : Int) < (partsP op : Nat)) = false := by simp; omega
    have h3 : decide ((i : Int) ≥ (partsP op : Nat)) = true := by simp; omega
    rw [h1, h2, h3, Bool.eq_iff_iff]; simp
theorem expr_spec {m : D.Model} {a : Int} (h0 : 0 ≤ a) (ha : a < m.Exprs.length) (hw : wf_Expr (exAt m a)) : VSpec Tryd.prog 98 [] [tpM m, intV a] [] (boolV (exprP m a)) := by
  refine vspec_raw tb_ok mixed Tryd.func98 (by kernel_rfl) rfl (expr_raw _ m a) ⟨⟨h0, ha⟩, fun h => leafB ?_, fun h => ?_⟩
  · symm; rw [Bool.eq_false_iff]; intro hc
    unfold exprP at hc
    simp only [Bool.and_eq_true, decide_eq_true_eq] at hc
    have h' : (bif decide ((exAt m a).Op < 1) then true else decide ((exAt m a).Op > 39)) = true := h
    simp at h'
    omega
  · have hop : 1 ≤ (exAt m a).Op ∧ (exAt m a).Op ≤ 39 := by
      have h' : (bif decide ((exAt m a).Op < 1) then true else decide ((exAt m a).Op > 39)) = false := h
      simp at h'; omega
    have hargs := hw.Args.1
    have hmt := hw.Match.1
    have hwv := hw.V
    generalize hb : exprP m a = b
    unfold exprP at hb
    simp only at hb
    show SatC _ _ (stExpr m a (exAt m a) 0)
    generalize exAt m a = x at hop hargs hmt hwv hb ⊢
    have e : (decide (1 ≤ x.Op) && decide (x.Op ≤ 39)) = true := by simp; omega
    rw [e, Bool.true_and] at hb
    refine loop_raw tb_ok mixed (fun g st => (g = 3 ∧ st = stExpr m a x 0) ∨ (g = 2 ∧ partP a x.Op 0 x.A = true ∧ st = stExpr m a x 1) ∨ (g = 1 ∧ partP a x.Op 0 x.A = true ∧ partP a x.Op 1 x.B = true ∧ st = stExpr m a x 2) ∨ (g = 0 ∧ partP a x.Op 0 x.A = true ∧ partP a x.Op 1 x.B = true ∧ partP a x.Op 2 x.C = true ∧ st = stExpr m a x 3))
      (by kernel_rfl) (by kernel_rfl) ⟨3, Up.of (.inl ⟨rfl, rfl⟩)⟩ ?_
    rintro g st (⟨rfl, rfl⟩ | ⟨rfl, p0, rfl⟩ | ⟨rfl, p0, p1, rfl⟩ | ⟨rfl, p0, p1, p2, rfl⟩)
    · refine Asks.raw (expr1_0_raw _ m a x _) ⟨fun _ => ⟨⟨by omega, by omega⟩, _, parts_spec _, _, fun _ => below_one', _, fun _ => parts_spec _, fun hy => leafB ?_, fun hy => ⟨2, by omega, Up.of (.inr (.inl ⟨rfl, ?_, ?_⟩))⟩⟩, fun h => by cases h⟩
      · have hp : partP a x.Op 0 x.A = false := by rw [partP_eq]; exact congrArg (!·) hy
        rw [← hb, hp]; rfl
      · rw [partP_eq]; exact congrArg (!·) hy
      · rw [wrap_id (by omega) (by omega)]; rfl
    · refine Asks.raw (expr1_1_raw _ m a x _) ⟨fun _ => ⟨⟨by omega, by omega⟩, _, parts_spec _, _, fun _ => below_one', _, fun _ => parts_spec _, fun hy => leafB ?_, fun hy => ⟨1, by omega, Up.of (.inr (.inr (.inl ⟨rfl, p0, ?_, ?_⟩)))⟩⟩, fun h => by cases h⟩
      · have hp : partP a x.Op 1 x.B = false := by rw [partP_eq]; exact congrArg (!·) hy
        rw [← hb, p0, hp]; rfl
      · rw [partP_eq]; exact congrArg (!·) hy
      · rw [wrap_id (by omega) (by omega)]; rfl
    · refine Asks.raw (expr1_2_raw _ m a x _) ⟨fun _ => ⟨⟨by omega, by omega⟩, _, parts_spec _, _, fun _ => below_one', _, fun _ => parts_spec _, fun hy => leafB ?_, fun hy => ⟨0, by omega, Up.of (.inr (.inr (.inr ⟨rfl, p0, p1, ?_, ?_⟩)))⟩⟩, fun h => by cases h⟩
      · have hp : partP a x.Op 2 x.C = false := by rw [partP_eq]; exact congrArg (!·) hy
        rw [← hb, p0, p1, hp]; rfl
      · rw [partP_eq]; exact congrArg (!·) hy
      · rw [wrap_id (by omega) (by omega)]; rfl
    · rw [p0, p1, p2] at hb
      simp only [Bool.and_self, Bool.true_and] at hb
      subst hb
      refine Asks.raw (expr1_3_raw _ m a x _) ⟨fun h => (by cases h), fun _ => ⟨fun h1 => ⟨_, fits_spec ⟨32, true⟩ _, leafB ?_⟩, fun h1 => ⟨fun h2 => ⟨_, vari_spec hwv, leafB ?_⟩, fun h2 => ⟨fun h3 => ⟨_, matched_spec (by omega) hargs hmt, leafB ?_⟩, fun h3 => ⟨fun h4 => ⟨_, places_spec hargs, leafB ?_⟩, fun h4 =>
        ⟨fun h5 => ⟨procP m x.N, fun _ => procty_spec _ _, fun hy => ?_, belowP a x.Args, fun _ => below_spec (by omega), leafB ?_⟩, fun h5 => leafB ?_⟩⟩⟩⟩⟩⟩
      · rw [if_pos (by simpa using h1)]
      · rw [if_neg (by simpa using h1), if_pos (by simpa using h2)]
      · rw [if_neg (by simpa using h1), if_neg (by simpa using h2), if_pos (by simpa using h3)]
        cases matchedP m a x.Args x.Match
        · rfl
        · rw [Bool.eq_iff_iff]; simp
      · rw [if_neg (by simpa using h1), if_neg (by simpa using h2), if_neg (by simpa using h3), if_pos (by simpa using h4)]
      · have hb : procP m x.N = true := by
          cases hq : procP m x.N with
          | true => rfl
          | false => rw [hq] at hy; simp at hy
        unfold procP at hb; simp at hb; omega
      · rw [if_neg (by simpa using h1), if_neg (by simpa using h2), if_neg (by simpa using h3), if_neg (by simpa using h4), if_pos (by simpa using h5)]
        cases procP m x.N <;> cases belowP a x.Args <;> first | (simp; done) | (rw [Bool.eq_iff_iff]; simp)
      · rw [if_neg (by simpa using h1), if_neg (by simpa using h2), if_neg (by simpa using h3), if_neg (by simpa using h4), if_neg (by simpa using h5)]
end Go.Proofs.YtdjjlkekbphbaaaDoor
