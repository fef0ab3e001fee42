/-
  Layer 11 on trees, IV: statements, what is held, what is used.
-/
import Derived.Test.YtdjjlkekbphbaaaDoorGdW3
namespace Go.Proofs.YtdjjlkekbphbaaaDoor
open Go.RowKit

/-! ### What is frozen may be handed to who only asks that nobody writes to it while he runs -/
def leS (x y : VV) : Prop := ∀ (w : World) (E : Prot) (m : Option Phi) (v : Value), (∀ k, E.br k → E.fz k) → V w E m x v → V w E m y v
theorem leS_refl (x : VV) : leS x x := fun _ _ _ _ _ h => h
theorem leS_sl {n sz : Nat} {f : Nat → List VV} : leS (.sl true n sz f) (.sl false n sz f) := by
  intro w E m v hE h
  obtain ⟨a, cap, rfl, h1, h2, h3⟩ := V.sl_inv h
  refine V.sl_mk h1 h2 fun hp => ?_
  obtain ⟨b, off, rfl, hb, hn, hl, u, hc, hv⟩ := h3 hp
  exact ⟨b, off, rfl, hb, fun hbr => hn (hE b hbr), hl, u, hc, fun i j x hi hx => (hv i j x hi hx).less (fun _ h => h) fun _ _ => trivial⟩
theorem VSpec.frz {P : Program} {f : FuncId} {hs hs' : List Ob} {xs ys : List VV} {r : VV} (h : VSpec P f hs xs hs' r) (hl : ys.length = xs.length) (hle : ∀ (j : Nat) x y, xs[j]? = some x → ys[j]? = some y → leS y x) : VSpec P f hs ys hs' r := by
  refine ⟨h.callable, fun w E φ vs hz hH hφ hs0 => h.call w E φ vs hz hH hφ ⟨hs0.1.trans hl, fun j x hx => ?_⟩⟩
  have hj : j < ys.length := by rw [hl]; exact (List.getElem?_eq_some_iff.1 hx).1
  exact hle j x _ hx (List.getElem?_eq_getElem hj) _ _ _ _ (fun k hk => hk.imp (hH.sub k) fun h => h) (hs0.2 j _ (List.getElem?_eq_getElem hj))

theorem ieq (a b : Int) : (a == b) = decide (a = b) := by rw [Bool.eq_iff_iff, beq_iff_eq, decide_eq_true_eq]
theorem bif_and (a b : Bool) : (bif a then b else false) = (a && b) := by cases a <;> rfl
theorem bif_or (a b : Bool) : (bif a then true else b) = (a || b) := by cases a <;> rfl
theorem nge (n k : Nat) : decide ((n : Int) ≥ k) = decide (k ≤ n) := by rw [Bool.eq_iff_iff, decide_eq_true_eq, decide_eq_true_eq]; omega
theorem nle (n k : Nat) : decide ((n : Int) ≤ k) = decide (n ≤ k) := by rw [Bool.eq_iff_iff, decide_eq_true_eq, decide_eq_true_eq]; omega
theorem ge1 (n : Nat) : decide ((n : Int) ≥ 1) = decide (1 ≤ n) := nge n 1
theorem le8 (n : Nat) : decide ((n : Int) ≤ 8) = decide (n ≤ 8) := nle n 8
theorem le256 (n : Nat) : decide ((n : Int) ≤ 256) = decide (n ≤ 256) := nle n 256
theorem neq0 (n : Nat) : decide ((n : Int) = 0) = decide (n = 0) := by rw [Bool.eq_iff_iff, decide_eq_true_eq, decide_eq_true_eq]; omega
structure SmallS (s : D.Stmt) : Prop where
  a : s.Args.length ≤ 1048576
  m : s.Match.length ≤ 1048576
theorem statement_spec {m : D.Model} {s : D.Stmt} (hs : SmallS s) : VSpec Tryd.prog 124 [] [tpM m, .agg (enc_Stmt s)] [] (boolV (statementP m s)) := by
  have ha := hs.a
  have hb := hs.m
  have em : ∀ u v x : Bool, VSpec Tryd.prog 134 [] [.agg (enc_Stmt s), boolV u, boolV v, boolV x] [] (boolV (emptyP s u v x)) := fun u v x => empty_spec ha hb
  have n1 : ∀ x : Bool, (bif x then s.B == (-1 : Int) else false) = (x && decide (s.B = -1)) := fun x => by rw [ieq, bif_and]
  have hkn : ∀ {k : Int}, (s.Kind == k) = true → s.Kind = k := fun h => by simpa using h
  have hkf : ∀ {k : Int}, (s.Kind == k) = false → s.Kind ≠ k := fun h => by simpa using h
  refine vspec_raw tb_ok mixed Tryd.func124 (by kernel_rfl) rfl (statement_raw _ m s) ?_
  have t13 : s.Kind = 1 ∨ s.Kind = 3 → statementP m s = (placeP m s.A && decide (s.B = -1) && emptyP s true true true) := fun h => by unfold statementP; rw [if_pos h]
  have t2 : s.Kind = 2 → statementP m s = (targetP m s.A && placeP m s.B && emptyP s true true true) := fun h => by unfold statementP; rw [if_neg (by omega), if_pos h]
  have t4 : s.Kind = 4 → statementP m s = (decide (s.A = -1) && decide (s.B = -1) && belowP m.Exprs.length s.Args && decide (s.Match.length = 0) && decide (s.Text.size ≤ 256) && decide (s.N = 0)) := fun h => by unfold statementP; rw [if_neg (by omega), if_neg (by omega), if_pos h]
  have t5 : s.Kind = 5 → statementP m s = (placeP m s.A && decide (s.B = -1) && decide (1 ≤ s.Args.length) && decide (s.Args.length ≤ 8) && belowP m.Exprs.length s.Args && decide (s.Match.length = 0) && (decide (s.N = 0) || decide (s.N = 1)) && decide (s.Text.size = 0)) := fun h => by unfold statementP; rw [if_neg (by omega), if_neg (by omega), if_neg (by omega), if_pos h]
  have t6 : s.Kind = 6 → statementP m s = (placeP m s.A && decide (s.B = -1) && takenP m s && decide (0 ≤ s.N) && decide (s.N ≤ 3) && decide (s.Text.size = 0)) := fun h => by unfold statementP; rw [if_neg (by omega), if_neg (by omega), if_neg (by omega), if_neg (by omega), if_pos h]
  have t7 : s.Kind = 7 ∨ s.Kind = 8 → statementP m s = (decide (s.A = -1) && decide (s.B = -1) && emptyP s true true true) := fun h => by unfold statementP; rw [if_neg (by omega), if_neg (by omega), if_neg (by omega), if_neg (by omega), if_neg (by omega), if_pos h]
  have t9 : s.Kind = 9 → statementP m s = (targetP m s.A && decide (s.B = -1) && decide (0 ≤ s.N) && decide (s.N < m.Shapes.length) && emptyP s true false true) := fun h => by unfold statementP; rw [if_neg (by omega), if_neg (by omega), if_neg (by omega), if_neg (by omega), if_neg (by omega), if_neg (by omega), if_pos h]
  have tx : ¬(s.Kind = 1 ∨ s.Kind = 3) → s.Kind ≠ 2 → s.Kind ≠ 4 → s.Kind ≠ 5 → s.Kind ≠ 6 → ¬(s.Kind = 7 ∨ s.Kind = 8) → s.Kind ≠ 9 → statementP m s = false := fun h1 h2 h3 h4 h5 h6 h7 => by unfold statementP; rw [if_neg h1, if_neg h2, if_neg h3, if_neg h4, if_neg h5, if_neg h6, if_neg h7]
  generalize statementP m s = b at t13 t2 t4 t5 t6 t7 t9 tx ⊢
  exact ⟨fun h1 => ⟨fun _ => ⟨_, place_spec m s.A, _, fun _ => em true true true, leafB (by rw [t13 (.inl (hkn h1)), n1, bif_and])⟩, fun h => bt h1 h⟩, fun h1 => ⟨fun h3 => ⟨_, place_spec m s.A, _, fun _ => em true true true, leafB (by rw [t13 (.inr (hkn h3)), n1, bif_and])⟩, fun h3 => ⟨fun h2 => ⟨_, target_spec m s.A, _, fun _ => place_spec m s.B, _, fun _ => em true true true, leafB (by rw [t2 (hkn h2), bif_and, bif_and])⟩, fun h2 => ⟨fun h4 => ⟨_, fun _ => below_spec (by omega), leafB (by rw [t4 (hkn h4)]; simp only [ieq, bif_and, neq0, le256])⟩, fun h4 => ⟨fun h5 => ⟨_, place_spec m s.A, _, fun _ => below_spec (by omega), leafB (by rw [t5 (hkn h5)]; simp only [ieq, bif_and, bif_or, neq0, text_nil, le8, ge1])⟩, fun h5 => ⟨fun h6 => ⟨_, place_spec m s.A, _, fun _ => taken_spec ha hb, leafB (by rw [t6 (hkn h6)]; simp only [ieq, bif_and, text_nil, ge_iff_le])⟩, fun h6 => ⟨fun h7 => ⟨fun _ => ⟨_, fun _ => em true true true, leafB (by rw [t7 (.inl (hkn h7))]; simp only [ieq, bif_and])⟩, fun h => bt h7 h⟩, fun h7 => ⟨fun h8 => ⟨_, fun _ => em true true true, leafB (by rw [t7 (.inr (hkn h8))]; simp only [ieq, bif_and])⟩, fun h8 => ⟨fun h9 => ⟨_, target_spec m s.A, _, fun _ => em true false true, leafB (by rw [t9 (hkn h9)]; simp only [ieq, bif_and, ge_iff_le])⟩, fun h9 => leafB (tx (fun h => h.elim (hkf h1) (hkf h3)) (hkf h2) (hkf h4) (hkf h5) (hkf h6) (fun h => h.elim (hkf h7) (hkf h8)) (hkf h9)).symm⟩⟩⟩⟩⟩⟩⟩⟩⟩
theorem held_spec {x : D.Expr} (h1 : x.Args.length ≤ 1048576) (h2 : x.V.Dims.length ≤ 1048576) : VSpec Tryd.prog 99 [] [.agg (enc_Expr x)] [] (encL_Int true (heldP x)) := by
  have hp3 := parts_le x.Op
  have hP : ([x.A, x.B, x.C].take (partsP x.Op)).length = partsP x.Op := by simp; omega
  have hrow : ∀ i, i < ([x.A, x.B, x.C].take (partsP x.Op)).length → List.take 1 (List.drop (i * 1) [VV.sc (.int .i64 x.A), .sc (.int .i64 x.B), .sc (.int .i64 x.C)]) = [intV (([x.A, x.B, x.C].take (partsP x.Op)).getD i 0)] := by
    intro i hi
    rw [hP] at hi
    have : ([x.A, x.B, x.C].take (partsP x.Op)).getD i 0 = [x.A, x.B, x.C].getD i 0 := by simp only [List.getD_eq_getElem?_getD, List.getElem?_take, hi, if_true]
    rw [this]
    rcases (show i = 0 ∨ i = 1 ∨ i = 2 by omega) with rfl | rfl | rfl <;> rfl
  have hto : ((partsP x.Op : Nat) : Int).toNat = partsP x.Op := by omega
  have loop : ∀ (L : List Int), L.length ≤ 2097152 → L ++ x.V.Dims.map D.Dim.I = heldP x → SatC (fnCtx Tryd.prog tb shGd ann_held true Tryd.f99 [] (encL_Int true (heldP x))) [1, 1, 1, 0, 1, 0, 1, 1, 0] (stHeld x L 0) := by
    intro L hL hR
    generalize heldP x = R at hR ⊢
    refine loop_idx tb_ok mixed x.V.Dims.length (fun k => stHeld x (L ++ (x.V.Dims.take k).map D.Dim.I) k) (fun _ => True) (by kernel_rfl) (by kernel_rfl) trivial ?_ |> fun h => by simpa using h
    intro k hk _ J next
    have hlen : (L ++ (x.V.Dims.take k).map D.Dim.I).length = L.length + k := by simp; omega
    refine Asks.raw (held1_raw _ x _ k J) ⟨fun hlt => ?_, fun hge => ⟨trivial, ?_⟩⟩
    · have hlt' : k < x.V.Dims.length := by have := lt_of hlt; omega
      have hto : (k : Int).toNat = k := by omega
      rw [hto]
      refine ⟨⟨by omega, by omega⟩, by rw [hlen]; omega, next _ hlt' trivial ?_⟩
      have hpush : (x.V.Dims.take (k + 1)).map D.Dim.I = (x.V.Dims.take k).map D.Dim.I ++ [(x.V.Dims.getD k default).I] := by rw [take_push (d := default) hlt']; simp
      have e : L ++ (x.V.Dims.take (k + 1)).map D.Dim.I = (L ++ (x.V.Dims.take k).map D.Dim.I) ++ [(x.V.Dims.getD k default).I] := by rw [hpush, List.append_assoc]
      rw [e, wrap_succ (by omega)]
      generalize L ++ (x.V.Dims.take k).map D.Dim.I = M
      generalize (x.V.Dims.getD k default).I = z
      refine Up.mk (l' := [(3, .ow 0 0 (M ++ [z]).length), (45, encL_Dim true x.V.Dims), (46, intV x.V.Dims.length), (47, intV ((k + 1 : Nat) : Int))]) (hs' := [.arr true 0 (M ++ [z]).length 1 (rowsIn (M ++ [z]))]) ?_ ?_ rfl
      · rw [show M.length + 1 = (M ++ [z]).length by simp]; exact leT_refl _
      · rw [show M.length + 1 = (M ++ [z]).length by simp]
        exact ⟨Ob.le_arr fun i hi => leL_eq (rows_app (f := fun n => [intV n]) (d := 0) (l := M) (r := [z]) (F := fun i => [.sc (.int .i64 (M.getD i 0))]) (fun i hi => rfl) row_one hi), trivial⟩
    · have hge' : x.V.Dims.length ≤ k := by have := ge_of hge; omega
      rw [List.take_of_length_le hge', hR]
      exact VV.le_refl _
  refine vspec_raw tb_ok mixed Tryd.func99 (by kernel_rfl) rfl (held_raw _ x) ⟨(partsP x.Op : Nat), parts_spec _, ?_⟩
  rw [hto]
  have hpp : partsP x.Op = ([x.A, x.B, x.C].take (partsP x.Op)).length := hP.symm
  generalize hLp : [x.A, x.B, x.C].take (partsP x.Op) = P at hrow hpp loop
  have hheld : heldP x = P ++ ((if x.Op = 30 ∨ x.Op = 39 then x.Args else []) ++ (if x.Op = 2 then (if x.V.Scope = 2 then [x.V.Who] else []) ++ x.V.Dims.map D.Dim.I else [])) := by unfold heldP; rw [hLp]
  generalize heldP x = R at hheld loop ⊢
  rw [hpp] at hp3 ⊢
  refine ⟨⟨by omega, by omega⟩, by omega, fun h => ⟨by omega, fun i hi => rfl, fun k => ?_, fun k => ⟨trivial, ?_⟩⟩, fun h => ⟨fun k => ⟨fun q => ⟨by omega, ?_⟩, fun q => ?_⟩, fun k => ⟨trivial, ?_⟩⟩⟩
  · simp at h k; omega
  · have e : R = P ++ x.Args := by rw [hheld, if_pos (by simpa using h), if_neg (by simpa using k)]; simp
    subst e
    rw [show P.length + x.Args.length = (P ++ x.Args).length by simp]
    exact VV.le_sl (.inl rfl) fun i hi => leL_eq (rows_app (f := fun n => [intV n]) (d := 0) (l := P) (r := x.Args) (G := fun j => [.sc (.int .i64 (x.Args.getD j 0))]) hrow (fun i hi => rfl) hi)
  · have h' : ¬(x.Op = 30 ∨ x.Op = 39) := by simpa using h
    have e : (P ++ [x.V.Who]) ++ x.V.Dims.map D.Dim.I = R := by rw [hheld, if_neg h', if_pos (by simpa using k), if_pos (by simpa using q)]; simp
    refine SatC.le (l' := [(3, .ow 0 0 (P ++ [x.V.Who]).length), (45, encL_Dim true x.V.Dims), (46, intV x.V.Dims.length), (47, intV 0)]) (hs' := [.arr true 0 (P ++ [x.V.Who]).length 1 (rowsIn (P ++ [x.V.Who]))]) ?_ ?_ (loop _ (by simp; omega) e)
    · rw [show P.length + 1 = (P ++ [x.V.Who]).length by simp]; exact leT_refl _
    · rw [show P.length + 1 = (P ++ [x.V.Who]).length by simp]
      exact ⟨Ob.le_arr fun i hi => leL_eq (rows_app (f := fun n => [intV n]) (d := 0) (l := P) (r := [x.V.Who]) hrow row_one hi), trivial⟩
  · have h' : ¬(x.Op = 30 ∨ x.Op = 39) := by simpa using h
    have e : P ++ x.V.Dims.map D.Dim.I = R := by rw [hheld, if_neg h', if_pos (by simpa using k), if_neg (by simpa using q)]; simp
    exact satC_rows (G := rowsIn P) (fun i hi => hrow i hi) (loop _ (by omega) e)
  · have h' : ¬(x.Op = 30 ∨ x.Op = 39) := by simpa using h
    have e : R = P := by rw [hheld, if_neg h', if_neg (by simpa using k)]; simp
    subst e
    exact VV.le_sl (.inl rfl) fun i hi => leL_eq (hrow i hi)
end Go.Proofs.YtdjjlkekbphbaaaDoor
