/-
  Texts, joined: EgH, VjPubl, EgW1, EcQ, EgW2, EgW3, LawKit, EgLaid.
-/
import Derived.Test.YtiaebjpcgjkhoaaGreatDoorPkE
import Derived.KernelRfl
import Derived.Test.YtiaebjpcgjkhoaaGreatDoorRows
import Derived.WalkKit
import Derived.ProofKit
import Derived.OpenShut
import Derived.Test.YtiaebjpcgjkhoaaGreatDoorCards
import Derived.Test.YtiaebjpcgjkhoaaGreatDoorTie
import Derived.Deep.DeepHandedRow
import Derived.Lib.LaidTab
import Derived.Stop.LaidErr
namespace Go.Proofs.YtiaebjpcgjkhoaaGreatDoor
open Go.RowKit
set_option maxRecDepth 100000
theorem xcopy_raw (hs' : List Ob) (r : VV) (s : D.State) : (fnCtx Tryz.prog tb shEg ann_xcopy false Tryz.f19 hs' (r)).goal (St.init [] [.agg (enc_State s)]) =
    (∃ (y : List Int), VSpec Tryz.prog 34 [] [encL_Int true s.Globals] [] (encL_Int true y) ∧ SatC (fnCtx Tryz.prog tb shEg ann_xcopy false Tryz.f19 hs' r) [1, 1, 1, 1, 0, 1, 0] (mkSt [(1, VV.bp 0 0), (2, VV.bp 1 0), (3, VV.bp 2 0), (19, encL_Chan true s.Chans), (20, intV (↑s.Chans.length : Int)), (21, intV (0 : Int))] [Ob.box (enc_State s), Ob.box [VV.nl, VV.nl, VV.nl, intV (0 : Int), intV (0 : Int), intV (0 : Int)], Ob.box [encL_Int true y, VV.nl, VV.nl, intV s.Last, intV s.Alone, intV s.Claim]])) := by kernel_rfl
theorem xgo_raw (r : D.State × ByteArray × Int) (e : D.Env) (w : Wy) : (fnCtx Tryz.prog tb shEg annNo true Tryz.f9 [] (.tup [.agg (enc_State r.1), strV r.2.1, intV r.2.2])).goal (St.init [] [.agg (enc_Env e), .agg (enc_Wy w)]) =
    (∃ (y : Int), VSpec Tryz.prog 15 [] [VV.agg (enc_Env e)] [] (intV y) ∧ ((y != (0 : Int)) = true → leO [] [] ∧ (VV.tup [VV.agg [VV.nl, VV.nl, VV.nl, intV (0 : Int), intV (0 : Int), intV (0 : Int)], strV (⟨#[]⟩ : ByteArray), intV y]).le (VV.tup [VV.agg (enc_State r.fst), strV r.snd.fst, intV r.snd.snd])) ∧ ((y != (0 : Int)) = false → ∃ (y : List Wy), VSpec Tryz.prog 16 [] [VV.agg (enc_Env e)] [] (encL_Wy true y) ∧ ∃ (y_1 : Bool), VSpec Tryz.prog 17 [] [encL_Wy true y, VV.agg (enc_Wy w)] [] (boolV y_1) ∧ ((!y_1) = true → leO [] [] ∧ (VV.tup [VV.agg [VV.nl, VV.nl, VV.nl, intV (0 : Int), intV (0 : Int), intV (0 : Int)], strV (⟨#[]⟩ : ByteArray), intV (42 : Int)]).le (VV.tup [VV.agg (enc_State r.fst), strV r.snd.fst, intV r.snd.snd])) ∧ ((!y_1) = false → ((w.Err != (0 : Int)) = true → leO [] [] ∧ (VV.tup [VV.agg [VV.nl, VV.nl, VV.nl, intV (0 : Int), intV (0 : Int), intV (0 : Int)], strV (⟨#[]⟩ : ByteArray), intV w.Err]).le (VV.tup [VV.agg (enc_State r.fst), strV r.snd.fst, intV r.snd.snd])) ∧ ((w.Err != (0 : Int)) = false → (decide (w.Way < (0 : Int)) = true → ∃ (y : D.State), VSpec Tryz.prog 18 [] [VV.agg (enc_Env e)] [] (VV.agg (enc_State y)) ∧ leO [] [] ∧ (VV.tup [VV.agg (enc_State y), strV (⟨#[]⟩ : ByteArray), intV (0 : Int)]).le (VV.tup [VV.agg (enc_State r.fst), strV r.snd.fst, intV r.snd.snd])) ∧ (decide (w.Way < (0 : Int)) = false → ∃ (y : D.State), VSpec Tryz.prog 19 [] [VV.agg (enc_State e.S)] [Ob.arr true 0 y.Chans.length 2 fun (i : Nat) => enc_Chan (y.Chans.getD i default), Ob.arr true 0 y.Procs.length 4 fun (i : Nat) => enc_Process (y.Procs.getD i default)] (VV.agg [encL_Int true y.Globals, VV.ow 0 0 y.Chans.length, VV.ow 1 0 y.Procs.length, intV y.Last, intV y.Alone, intV y.Claim]) ∧ ∃ (y_2 : D.Loc), VSpec Tryz.prog 21 [] [VV.agg (enc_Env e)] [] (VV.agg (enc_Loc y_2)) ∧ ∃ (y_3 : D.Trans), VSpec Tryz.prog 20 [] [VV.agg (enc_Loc y_2), intV w.Esc, intV w.Way] [] (VV.agg (enc_Trans y_3)) ∧ ∃ (y_4 : D.Env × ByteArray × Int), VSpec Tryz.prog 22 [Ob.box [encL_Type true e.M.Globals, encL_Int true e.M.Init, encL_Shape true e.M.Shapes, encL_Int true e.M.Chans, encL_Proc true e.M.Procs, intV e.M.Claim, encL_Expr true e.M.Exprs, encL_Int true y.Globals, VV.ow 1 0 y.Chans.length, VV.ow 2 0 y.Procs.length, intV y.Last, intV y.Alone, intV y.Claim, intV e.Pid, boolV e.Timeout, encL_Bool true e.Able], Ob.arr true 0 y.Chans.length 2 fun (i : Nat) => enc_Chan (y.Chans.getD i default), Ob.arr true 0 y.Procs.length 4 fun (i : Nat) => enc_Process (y.Procs.getD i default)] [VV.bp 0 0, VV.agg (enc_Stmt y_3.S), VV.agg (enc_Wy w)] (hsE y_4.fst) (VV.tup [strV y_4.snd.fst, intV y_4.snd.snd]) ∧ ((y_4.snd.snd != (0 : Int)) = true → leO [] [] ∧ (VV.tup [VV.agg [VV.nl, VV.nl, VV.nl, intV (0 : Int), intV (0 : Int), intV (0 : Int)], strV (⟨#[]⟩ : ByteArray), intV y_4.snd.snd]).le (VV.tup [VV.agg (enc_State r.fst), strV r.snd.fst, intV r.snd.snd])) ∧ ((y_4.snd.snd != (0 : Int)) = false → (decide (w.With ≥ (0 : Int)) = true → ∃ (y : D.Loc), VSpec Tryz.prog 21 [] [VV.agg [encL_Type true e.M.Globals, encL_Int true e.M.Init, encL_Shape true e.M.Shapes, encL_Int true e.M.Chans, encL_Proc true e.M.Procs, intV e.M.Claim, encL_Expr true e.M.Exprs, encL_Int true e.S.Globals, encL_Chan true e.S.Chans, encL_Process true e.S.Procs, intV e.S.Last, intV e.S.Alone, intV e.S.Claim, intV w.With, boolV e.Timeout, encL_Bool true e.Able]] [] (VV.agg (enc_Loc y)) ∧ ∃ (y_5 : D.Trans), VSpec Tryz.prog 20 [] [VV.agg (enc_Loc y), intV w.WithEsc, intV w.WithWay] [] (VV.agg (enc_Trans y_5)) ∧ ((0 : Int) ≤ w.With ∧ w.With < (↑y_4.fst.S.Procs.length : Int)) ∧ ((0 : Int) ≤ e.Pid ∧ e.Pid < (↑y_4.fst.S.Procs.length : Int)) ∧ leO [] [] ∧ (VV.tup [VV.agg [encL_Int true y_4.fst.S.Globals, encL_Chan true y_4.fst.S.Chans, VV.sl true y_4.fst.S.Procs.length 4 fun (j : Nat) => bif j.beq e.Pid.toNat then bif Nat.beq 1 4 then [intV y_3.To] else List.take 1 ((fun (j : Nat) => bif j.beq w.With.toNat then [intV (y_4.fst.S.Procs.getD w.With.toNat default).Type_, intV y_5.To, intV (y_4.fst.S.Procs.getD w.With.toNat default).Prio, encL_Int true (y_4.fst.S.Procs.getD w.With.toNat default).Frame] else [intV (y_4.fst.S.Procs.getD j default).Type_, intV (y_4.fst.S.Procs.getD j default).Loc, intV (y_4.fst.S.Procs.getD j default).Prio, encL_Int true (y_4.fst.S.Procs.getD j default).Frame]) e.Pid.toNat) ++ [intV y_3.To] ++ List.drop 2 ((fun (j : Nat) => bif j.beq w.With.toNat then [intV (y_4.fst.S.Procs.getD w.With.toNat default).Type_, intV y_5.To, intV (y_4.fst.S.Procs.getD w.With.toNat default).Prio, encL_Int true (y_4.fst.S.Procs.getD w.With.toNat default).Frame] else [intV (y_4.fst.S.Procs.getD j default).Type_, intV (y_4.fst.S.Procs.getD j default).Loc, intV (y_4.fst.S.Procs.getD j default).Prio, encL_Int true (y_4.fst.S.Procs.getD j default).Frame]) e.Pid.toNat) else (fun (j : Nat) => bif j.beq w.With.toNat then [intV (y_4.fst.S.Procs.getD w.With.toNat default).Type_, intV y_5.To, intV (y_4.fst.S.Procs.getD w.With.toNat default).Prio, encL_Int true (y_4.fst.S.Procs.getD w.With.toNat default).Frame] else [intV (y_4.fst.S.Procs.getD j default).Type_, intV (y_4.fst.S.Procs.getD j default).Loc, intV (y_4.fst.S.Procs.getD j default).Prio, encL_Int true (y_4.fst.S.Procs.getD j default).Frame]) j, intV e.Pid, intV y_4.fst.S.Alone, intV y_4.fst.S.Claim], strV y_4.snd.fst, intV (0 : Int)]).le (VV.tup [VV.agg (enc_State r.fst), strV r.snd.fst, intV r.snd.snd])) ∧ (decide (w.With ≥ (0 : Int)) = false → ((0 : Int) ≤ e.Pid ∧ e.Pid < (↑y_4.fst.S.Procs.length : Int)) ∧ leO [] [] ∧ (VV.tup [VV.agg [encL_Int true y_4.fst.S.Globals, encL_Chan true y_4.fst.S.Chans, VV.sl true y_4.fst.S.Procs.length 4 fun (j : Nat) => bif j.beq e.Pid.toNat then [intV (y_4.fst.S.Procs.getD e.Pid.toNat default).Type_, intV y_3.To, intV (y_4.fst.S.Procs.getD e.Pid.toNat default).Prio, encL_Int true (y_4.fst.S.Procs.getD e.Pid.toNat default).Frame] else [intV (y_4.fst.S.Procs.getD j default).Type_, intV (y_4.fst.S.Procs.getD j default).Loc, intV (y_4.fst.S.Procs.getD j default).Prio, encL_Int true (y_4.fst.S.Procs.getD j default).Frame], intV e.Pid, intV y_4.fst.S.Alone, intV y_4.fst.S.Claim], strV y_4.snd.fst, intV (0 : Int)]).le (VV.tup [VV.agg (enc_State r.fst), strV r.snd.fst, intV r.snd.snd])))))))) := by kernel_rfl
theorem xable_raw (l : List Bool) (r : Int) (m : D.Model) (s : D.State) : (fnCtx Tryz.prog tb shEg ann_xable true Tryz.f13 [] (.tup [encL_Bool true l, intV r])).goal (St.init [] [.agg (enc_Model m), .agg (enc_State s)]) =
    (∃ (y : Int), VSpec Tryz.prog 25 [] [VV.agg (enc_Model m), VV.agg (enc_State s)] [] (intV y) ∧ ((y != (0 : Int)) = true → leO [] [] ∧ (VV.tup [VV.nl, intV y]).le (VV.tup [encL_Bool true l, intV r])) ∧ ((y != (0 : Int)) = false → ((0 : Int) ≤ (↑s.Procs.length : Int) ∧ (↑s.Procs.length : Int) ≤ (↑s.Procs.length : Int) ∧ (↑s.Procs.length : Int) * (↑1 : Int) ≤ (140737488355328 : Int)) ∧ SatC (fnCtx Tryz.prog tb shEg ann_xable true Tryz.f13 [] (VV.tup [encL_Bool true l, intV r])) [1, 1, 1, 0, 1, 0] (mkSt [(2, VV.bp 0 0), (3, VV.bp 1 0), (7, VV.ow 2 0 (↑s.Procs.length : Int).toNat), (21, intV (↑s.Procs.length : Int)), (22, intV (0 : Int))] [Ob.box (enc_Model m), Ob.box (enc_State s), Ob.arr true 0 (↑s.Procs.length : Int).toNat 1 fun (_ : Nat) => ((fnCtx Tryz.prog tb shEg ann_xable true Tryz.f13 [] (VV.tup [encL_Bool true l, intV r])).T (4 : TypeId)).zero]))) := by kernel_rfl
theorem lshown_raw (b : Bool) : (fnCtx Tryz.prog tb shEg ann_lshown true Tryz.f6 [] (boolV b)).goal (St.init [] []) =
    (SatC (fnCtx Tryz.prog tb shEg ann_lshown true Tryz.f6 [] (boolV b)) [1, 1, 1, 1] (mkSt [(1, VV.bp 0 0), (2, VV.bp 4 0), (3, VV.bp 6 0)] [Ob.box [VV.nl, VV.nl, VV.nl, VV.nl, VV.ow 1 0 1, intV (-1 : Int), VV.nl], Ob.arr false 0 1 10 (rowsF [[strV ByteArray.empty, intV (0 : Int), VV.nl, VV.nl, VV.ow 2 0 2, intV (0 : Int), intV (1 : Int), intV (1 : Int), intV (1 : Int), intV (-1 : Int)]]), Ob.arr false 0 2 7 (rowsF [[VV.ow 3 0 1, VV.nl, boolV false, boolV false, boolV false, boolV false, boolV false], [VV.nl, VV.nl, boolV false, boolV false, boolV false, boolV false, boolV false]]), Ob.arr true 0 1 9 fun (i : Nat) => List.take 9 (List.drop (i * 9) [intV (8 : Int), intV (-1 : Int), intV (-1 : Int), intV (0 : Int), VV.nl, VV.nl, strV ByteArray.empty, intV (1 : Int), intV (0 : Int)]), Ob.box [VV.nl, VV.nl, VV.ow 5 0 1, intV (0 : Int), intV (-1 : Int), intV (-1 : Int)], Ob.arr true 0 1 4 fun (i : Nat) => List.take 4 (List.drop (i * 4) [intV (0 : Int), intV (0 : Int), intV (1 : Int), VV.nl]), Ob.box [VV.nl, VV.nl, VV.nl, VV.nl, VV.ow 1 0 1, intV (-1 : Int), VV.nl, VV.nl, VV.nl, VV.ow 5 0 1, intV (0 : Int), intV (-1 : Int), intV (-1 : Int), intV (0 : Int), boolV false, VV.nl]])) := by kernel_rfl
theorem lelse_raw (b : Bool) (e : D.Env) : (fnCtx Tryz.prog tb shEg ann_lelse true Tryz.f4 [] (boolV b)).goal (St.init [] [.agg (enc_Env e)]) =
    (∃ (y : Bool), VSpec Tryz.prog 6 [] [] [] (boolV y) ∧ ∃ (y_1 : Int), VSpec Tryz.prog 7 [] [VV.agg (enc_Env e)] [] (intV y_1) ∧ ((y_1 != (0 : Int)) = true → leO [] [] ∧ (boolV y).le (boolV b)) ∧ ((y_1 != (0 : Int)) = false → ∃ (y_2 : List Wy × Int), VSpec Tryz.prog 8 [] [VV.agg (enc_Env e)] [] (VV.tup [encL_Wy true y_2.fst, intV y_2.snd]) ∧ SatC (fnCtx Tryz.prog tb shEg ann_lelse true Tryz.f4 [] (boolV b)) [1, 1, 1, 1, 1, 0, 1, 0] (mkSt [(1, VV.bp 0 0), (3, boolV y), (5, encL_Wy true y_2.fst), (7, intV (0 : Int))] [Ob.box (enc_Env e)]))) := by kernel_rfl
theorem xdoes_raw (y : D.Env) (t : ByteArray) (r : Int) (e : D.Env) (s : D.Stmt) (w : Wy) : (fnCtx Tryz.prog tb shEg annD false Tryz.f22 (hsE y) (.tup [strV t, intV r])).goal (St.init (hsE e) [.bp 0 0, .agg (enc_Stmt s), .agg (enc_Wy w)]) =
    (((s.Kind == 1) = true → ∃ (y_1 : Bool), VSpec Tryz.prog 36 [] [VV.agg (enc_Model e.M), intV s.A] [] (boolV y_1) ∧ (y_1 = true → ∃ (y_2 : D.Env × Int × Int), VSpec Tryz.prog 37 (hsE e) [VV.bp 0 0, intV s.A] (hsE y_2.fst) (VV.tup [intV y_2.snd.fst, intV y_2.snd.snd]) ∧ leO (hsE y_2.fst) (hsE y) ∧ (VV.tup [strV (⟨#[]⟩ : ByteArray), intV y_2.snd.snd]).le (VV.tup [strV t, intV r])) ∧ (y_1 = false → leO (hsE e) (hsE y) ∧ (VV.tup [strV (⟨#[]⟩ : ByteArray), intV (0 : Int)]).le (VV.tup [strV t, intV r]))) ∧ ((s.Kind == 1) = false → ((s.Kind == 2) = true → ∃ (y_1 : D.Env × Int), VSpec Tryz.prog 38 (hsE e) [VV.bp 0 0, VV.agg (enc_Stmt s)] (hsE y_1.fst) (intV y_1.snd) ∧ leO (hsE y_1.fst) (hsE y) ∧ (VV.tup [strV (⟨#[]⟩ : ByteArray), intV y_1.snd]).le (VV.tup [strV t, intV r])) ∧ ((s.Kind == 2) = false → ((s.Kind == 3) = true → ∃ (y_1 : Int × Int), VSpec Tryz.prog 39 [] [VV.agg (enc_EnvB e), intV s.A] [] (VV.tup [intV y_1.fst, intV y_1.snd]) ∧ ((bif y_1.snd == 0 then y_1.fst == 0 else false) = true → leO (hsE e) (hsE y) ∧ (VV.tup [strV (⟨#[]⟩ : ByteArray), intV (50 : Int)]).le (VV.tup [strV t, intV r])) ∧ ((bif y_1.snd == 0 then y_1.fst == 0 else false) = false → leO (hsE e) (hsE y) ∧ (VV.tup [strV (⟨#[]⟩ : ByteArray), intV y_1.snd]).le (VV.tup [strV t, intV r]))) ∧ ((s.Kind == 3) = false → ((s.Kind == 4) = true → ∃ (y_1 : List Int × Int), VSpec Tryz.prog 40 [] [VV.agg (enc_EnvB e), encL_Int true s.Args] [Ob.arr true 0 y_1.fst.length 1 fun (i : Nat) => [intV (y_1.fst.getD i (0 : Int))]] (VV.tup [VV.ow 0 0 y_1.fst.length, intV y_1.snd]) ∧ ((y_1.snd != (0 : Int)) = true → leO (hsE e) (hsE y) ∧ (VV.tup [strV (⟨#[]⟩ : ByteArray), intV y_1.snd]).le (VV.tup [strV t, intV r])) ∧ ((y_1.snd != (0 : Int)) = false → ∃ (y_2 : Bool), VSpec Tryz.prog 41 [] [strV s.Text, encL_Int false y_1.fst] [] (boolV y_2) ∧ leO (hsE e) (hsE y) ∧ (VV.tup [boolV y_2, intV (0 : Int)]).le (VV.tup [strV t, intV r]))) ∧ ((s.Kind == 4) = false → ((s.Kind == 9) = true → (e.S.Chans.length + 1) * 32 ≤ 140737488355328 ∧ ∃ (y_1 : D.Env × Int), VSpec Tryz.prog 42 [Ob.box [encL_Type true e.M.Globals, encL_Int true e.M.Init, encL_Shape true e.M.Shapes, encL_Int true e.M.Chans, encL_Proc true e.M.Procs, intV e.M.Claim, encL_Expr true e.M.Exprs, encL_Int true e.S.Globals, VV.ow 1 0 (e.S.Chans.length + 1), VV.ow 2 0 e.S.Procs.length, intV e.S.Last, intV e.S.Alone, intV e.S.Claim, intV e.Pid, boolV e.Timeout, encL_Bool true e.Able], Ob.arr true 0 (e.S.Chans.length + 1) 2 fun (i : Nat) => bif i.blt e.S.Chans.length then [intV (e.S.Chans.getD i default).Shape, encL_Ints true (e.S.Chans.getD i default).Queue] else (fun (i : Nat) => List.take 2 (List.drop (i * 2) [intV s.N, VV.nl])) (i - e.S.Chans.length), Ob.arr true 0 e.S.Procs.length 4 fun (i : Nat) => enc_Process (e.S.Procs.getD i default)] [VV.bp 0 0, intV s.A, intV (↑(e.S.Chans.length + 1) : Int)] (hsE y_1.fst) (intV y_1.snd) ∧ leO (hsE y_1.fst) (hsE y) ∧ (VV.tup [strV (⟨#[]⟩ : ByteArray), intV y_1.snd]).le (VV.tup [strV t, intV r])) ∧ ((s.Kind == 9) = false → ((s.Kind == 5) = true → ∃ (y_1 : D.Env × Int), VSpec Tryz.prog 43 (hsE e) [VV.bp 0 0, VV.agg (enc_Stmt s), VV.agg (enc_Wy w)] (hsE y_1.fst) (intV y_1.snd) ∧ leO (hsE y_1.fst) (hsE y) ∧ (VV.tup [strV (⟨#[]⟩ : ByteArray), intV y_1.snd]).le (VV.tup [strV t, intV r])) ∧ ((s.Kind == 5) = false → ((s.Kind == 6) = true → ∃ (y_1 : D.Env × Int), VSpec Tryz.prog 44 (hsE e) [VV.bp 0 0, VV.agg (enc_Stmt s)] (hsE y_1.fst) (intV y_1.snd) ∧ leO (hsE y_1.fst) (hsE y) ∧ (VV.tup [strV (⟨#[]⟩ : ByteArray), intV y_1.snd]).le (VV.tup [strV t, intV r])) ∧ ((s.Kind == 6) = false → leO (hsE e) (hsE y) ∧ (VV.tup [strV (⟨#[]⟩ : ByteArray), intV (0 : Int)]).le (VV.tup [strV t, intV r]))))))))) := by kernel_rfl
theorem lshownA_raw (b : Bool) (m : D.Model) (s : D.State) (e : D.Env) : ((fnCtx Tryz.prog tb shEg ann_lshown true Tryz.f6 [] (boolV b)).cut [1, 1, 1, 1]).goal (stShown m s e) =
    (∃ (y : List Wy × Int), VSpec Tryz.prog 8 [] [VV.agg (enc_Env e)] [] (VV.tup [encL_Wy true y.fst, intV y.snd]) ∧ (((↑y.fst.length : Int) != (1 : Int)) = true → leO [] [] ∧ (boolV false).le (boolV b)) ∧ (((↑y.fst.length : Int) != (1 : Int)) = false → ((0 : Int) ≤ (0 : Int) ∧ (0 : Int) < (↑y.fst.length : Int)) ∧ ∃ (y_1 : D.State × ByteArray × Int), VSpec Tryz.prog 9 [] [VV.agg (enc_Env e), VV.agg (enc_Wy (y.fst.getD (Int.toNat (0 : Int)) default))] [] (VV.tup [VV.agg (enc_State y_1.fst), strV y_1.snd.fst, intV y_1.snd.snd]) ∧ (((↑y_1.fst.Procs.length : Int) != (1 : Int)) = true → leO [] [] ∧ (boolV false).le (boolV b)) ∧ (((↑y_1.fst.Procs.length : Int) != (1 : Int)) = false → ∃ (y_2 : List Bool × Int), VSpec Tryz.prog 13 [] [VV.agg (enc_Model m), VV.agg (enc_State s)] [] (VV.tup [encL_Bool true y_2.fst, intV y_2.snd]) ∧ ∃ (y_3 : D.State × ByteArray × Int), VSpec Tryz.prog 9 [] [VV.agg (enc_Env e), VV.agg [intV (0 : Int), intV (0 : Int), intV (0 : Int), intV (0 : Int), intV (0 : Int), intV (0 : Int)]] [] (VV.tup [VV.agg (enc_State y_3.fst), strV y_3.snd.fst, intV y_3.snd.snd]) ∧ ((true && (y.snd == 0) == true) = true → (0 : Int) ≤ (0 : Int) ∧ (0 : Int) < (↑y.fst.length : Int)) ∧ ((true && (bif bif y.snd == 0 then (y.fst.getD (Int.toNat (0 : Int)) default).Esc == (-1 : Int) && ((y.fst.getD (Int.toNat (0 : Int)) default).Way == 0 && ((y.fst.getD (Int.toNat (0 : Int)) default).With == (-1 : Int) && ((y.fst.getD (Int.toNat (0 : Int)) default).WithEsc == (-1 : Int) && ((y.fst.getD (Int.toNat (0 : Int)) default).WithWay == (-1 : Int) && ((y.fst.getD (Int.toNat (0 : Int)) default).Err == 0 && true))))) else false then y_1.snd.snd == 0 else false) == true) = true → (0 : Int) ≤ (0 : Int) ∧ (0 : Int) < (↑y_1.fst.Procs.length : Int)) ∧ ((true && (bif bif bif bif bif y.snd == 0 then (y.fst.getD (Int.toNat (0 : Int)) default).Esc == (-1 : Int) && ((y.fst.getD (Int.toNat (0 : Int)) default).Way == 0 && ((y.fst.getD (Int.toNat (0 : Int)) default).With == (-1 : Int) && ((y.fst.getD (Int.toNat (0 : Int)) default).WithEsc == (-1 : Int) && ((y.fst.getD (Int.toNat (0 : Int)) default).WithWay == (-1 : Int) && ((y.fst.getD (Int.toNat (0 : Int)) default).Err == 0 && true))))) else false then y_1.snd.snd == 0 else false then (y_1.fst.Procs.getD (Int.toNat (0 : Int)) default).Loc == 1 else false then y_2.snd == 0 else false then (↑y_2.fst.length : Int) == 1 else false) == true) = true → (0 : Int) ≤ (0 : Int) ∧ (0 : Int) < (↑y_2.fst.length : Int)) ∧ leO [] [] ∧ (boolV (bif bif bif bif bif bif bif y.snd == 0 then (y.fst.getD (Int.toNat (0 : Int)) default).Esc == (-1 : Int) && ((y.fst.getD (Int.toNat (0 : Int)) default).Way == 0 && ((y.fst.getD (Int.toNat (0 : Int)) default).With == (-1 : Int) && ((y.fst.getD (Int.toNat (0 : Int)) default).WithEsc == (-1 : Int) && ((y.fst.getD (Int.toNat (0 : Int)) default).WithWay == (-1 : Int) && ((y.fst.getD (Int.toNat (0 : Int)) default).Err == 0 && true))))) else false then y_1.snd.snd == 0 else false then (y_1.fst.Procs.getD (Int.toNat (0 : Int)) default).Loc == 1 else false then y_2.snd == 0 else false then (↑y_2.fst.length : Int) == 1 else false then y_2.fst.getD (Int.toNat (0 : Int)) false else false then y_3.snd.snd == 42 else false)).le (boolV b)))) := by kernel_rfl
theorem xable1_raw (l : List Bool) (r : Int) (m : D.Model) (s : D.State) (l' : List Bool) (k : Int) (J : St → Prop) : ((fnCtx Tryz.prog tb shEg ann_xable true Tryz.f13 [] (.tup [encL_Bool true l, intV r])).loop [1, 1, 1, 0, 1, 0] J).goal (stXable m s l' k) =
    ((decide (k < (↑s.Procs.length : Int)) = true → ∃ (y : List Wy), VSpec Tryz.prog 16 [] [VV.agg [encL_Type true m.Globals, encL_Int true m.Init, encL_Shape true m.Shapes, encL_Int true m.Chans, encL_Proc true m.Procs, intV m.Claim, encL_Expr true m.Exprs, encL_Int true s.Globals, encL_Chan true s.Chans, encL_Process true s.Procs, intV s.Last, intV s.Alone, intV s.Claim, intV k, boolV false, VV.nl]] [] (encL_Wy true y) ∧ ((0 : Int) ≤ k ∧ k < (↑l'.length : Int)) ∧ J (mkSt [(2, VV.bp 0 0), (3, VV.bp 1 0), (7, VV.ow 2 0 l'.length), (21, intV (↑s.Procs.length : Int)), (22, intV (IntKind.i64.wrap (k + (1 : Int))))] [Ob.box (enc_Model m), Ob.box (enc_State s), Ob.arr true 0 l'.length 1 fun (j : Nat) => bif j.beq k.toNat then [boolV (decide ((↑y.length : Int) > (0 : Int)))] else [boolV (l'.getD j false)]])) ∧ (decide (k < (↑s.Procs.length : Int)) = false → leO [] [] ∧ (VV.tup [encL_Bool true l', intV (0 : Int)]).le (VV.tup [encL_Bool true l, intV r]))) := by kernel_rfl
theorem xcopy1_raw (hs' : List Ob) (r : VV) (s : D.State) (cs : List D.Chan) (k : Int) (J : St → Prop) : ((fnCtx Tryz.prog tb shEg ann_xcopy false Tryz.f19 hs' (r)).loop [1, 1, 1, 1, 0, 1, 0] J).goal (stCopy1 s cs k) =
    ((decide (k < (↑s.Chans.length : Int)) = true → ((0 : Int) ≤ k ∧ k < (↑s.Chans.length : Int)) ∧ SatC ((fnCtx Tryz.prog tb shEg ann_xcopy false Tryz.f19 hs' r).loop [1, 1, 1, 1, 0, 1, 0] J) [1, 1, 0, 0, 1, 1, 0, 1, 0] (mkSt [(1, VV.bp 0 0), (2, VV.bp 1 0), (3, VV.bp 2 0), (5, VV.bp 4 0), (6, VV.nl), (19, encL_Chan true s.Chans), (20, intV (↑s.Chans.length : Int)), (21, intV k), (26, encL_Ints true (s.Chans.getD k.toNat default).Queue), (27, intV (↑(s.Chans.getD k.toNat default).Queue.length : Int)), (28, intV (0 : Int))] [Ob.box (enc_State s), Ob.box [VV.nl, VV.nl, VV.nl, intV (0 : Int), intV (0 : Int), intV (0 : Int)], Ob.box [encL_Int true s.Globals, VV.ow 3 0 cs.length, VV.nl, intV s.Last, intV s.Alone, intV s.Claim], Ob.arr true 0 cs.length 2 fun (i : Nat) => enc_Chan (cs.getD i default), Ob.box (enc_Chan (s.Chans.getD k.toNat default))])) ∧ (decide (k < (↑s.Chans.length : Int)) = false → SatC (fnCtx Tryz.prog tb shEg ann_xcopy false Tryz.f19 hs' r) [1, 1, 1, 1, 1, 0, 1, 0] (mkSt [(2, VV.bp 0 0), (3, VV.bp 1 0), (49, encL_Process true s.Procs), (50, intV (↑s.Procs.length : Int)), (51, intV (0 : Int))] [Ob.box [VV.nl, VV.nl, VV.nl, intV (0 : Int), intV (0 : Int), intV (0 : Int)], Ob.box [encL_Int true s.Globals, VV.ow 2 0 cs.length, VV.nl, intV s.Last, intV s.Alone, intV s.Claim], Ob.arr true 0 cs.length 2 fun (i : Nat) => enc_Chan (cs.getD i default)]))) := by kernel_rfl
theorem xcopy3_raw (hs' : List Ob) (r : VV) (s : D.State) (cs : List D.Chan) (ps : List D.Process) (k : Int) (J : St → Prop) : ((fnCtx Tryz.prog tb shEg ann_xcopy false Tryz.f19 hs' (r)).loop [1, 1, 1, 1, 1, 0, 1, 0] J).goal (stCopy3 s cs ps k) =
    ((decide (k < (↑s.Procs.length : Int)) = true → ((0 : Int) ≤ k ∧ k < (↑s.Procs.length : Int)) ∧ ∃ (y : List Int), VSpec Tryz.prog 34 [] [encL_Int true (s.Procs.getD k.toNat default).Frame] [] (encL_Int true y) ∧ (ps.length + 1) * 48 ≤ 140737488355328 ∧ J (mkSt [(2, VV.bp 0 0), (3, VV.bp 1 0), (49, encL_Process true s.Procs), (50, intV (↑s.Procs.length : Int)), (51, intV (IntKind.i64.wrap (k + (1 : Int))))] [Ob.box [VV.nl, VV.nl, VV.nl, intV (0 : Int), intV (0 : Int), intV (0 : Int)], Ob.box [encL_Int true s.Globals, VV.ow 2 0 cs.length, VV.ow 3 0 (ps.length + 1), intV s.Last, intV s.Alone, intV s.Claim], Ob.arr true 0 cs.length 2 fun (i : Nat) => enc_Chan (cs.getD i default), Ob.arr true 0 (ps.length + 1) 4 fun (i : Nat) => bif i.blt ps.length then [intV (ps.getD i default).Type_, intV (ps.getD i default).Loc, intV (ps.getD i default).Prio, encL_Int true (ps.getD i default).Frame] else (fun (i : Nat) => List.take 4 (List.drop (i * 4) [intV (s.Procs.getD k.toNat default).Type_, intV (s.Procs.getD k.toNat default).Loc, intV (s.Procs.getD k.toNat default).Prio, encL_Int true y])) (i - ps.length)])) ∧ (decide (k < (↑s.Procs.length : Int)) = false → leO [Ob.arr true 0 cs.length 2 fun (i : Nat) => enc_Chan (cs.getD i default), Ob.arr true 0 ps.length 4 fun (i : Nat) => enc_Process (ps.getD i default)] hs' ∧ (VV.agg [encL_Int true s.Globals, VV.ow 0 0 cs.length, VV.ow 1 0 ps.length, intV s.Last, intV s.Alone, intV s.Claim]).le r)) := by kernel_rfl
theorem lelse1_raw (b : Bool) (e : D.Env) (up : Bool) (l : List Wy) (i : Int) (J : St → Prop) : ((fnCtx Tryz.prog tb shEg ann_lelse true Tryz.f4 [] (boolV b)).loop [1, 1, 1, 1, 1, 0, 1, 0] J).goal (stElse1 e up l i) =
    ((decide (i < (↑l.length : Int)) = true → ((0 : Int) ≤ i ∧ i < (↑l.length : Int)) ∧ (decide ((l.getD i.toNat default).Way < (0 : Int)) = true → (((↑l.length : Int) != (1 : Int)) = true → leO [] [] ∧ (boolV false).le (boolV b)) ∧ (((↑l.length : Int) != (1 : Int)) = false → J (mkSt [(1, VV.bp 0 0), (3, boolV up), (5, encL_Wy true l), (7, intV (IntKind.i64.wrap (i + (1 : Int))))] [Ob.box (enc_Env e)]))) ∧ (decide ((l.getD i.toNat default).Way < (0 : Int)) = false → ((0 : Int) ≤ i ∧ i < (↑l.length : Int)) ∧ ∃ (y : List D.Trans), VSpec Tryz.prog 12 [] [VV.agg (enc_Env e), intV (l.getD i.toNat default).Esc] [] (encL_Trans true y) ∧ ((0 : Int) ≤ i ∧ i < (↑l.length : Int)) ∧ ((0 : Int) ≤ (0 : Int) ∧ (0 : Int) < (↑l.length : Int)) ∧ ((true && ((l.getD i.toNat default).Esc != (l.getD (Int.toNat (0 : Int)) default).Esc) == false) = true → (0 : Int) ≤ i ∧ i < (↑l.length : Int)) ∧ ((bif (l.getD i.toNat default).Esc != (l.getD (Int.toNat (0 : Int)) default).Esc then true else decide ((l.getD i.toNat default).Way ≥ (↑y.length : Int))) = true → leO [] [] ∧ (boolV false).le (boolV b)) ∧ ((bif (l.getD i.toNat default).Esc != (l.getD (Int.toNat (0 : Int)) default).Esc then true else decide ((l.getD i.toNat default).Way ≥ (↑y.length : Int))) = false → SatC ((fnCtx Tryz.prog tb shEg ann_lelse true Tryz.f4 [] (boolV b)).loop [1, 1, 1, 1, 1, 0, 1, 0] J) [1, 0, 0, 1, 1, 1, 1, 0] (mkSt [(1, VV.bp 0 0), (3, boolV up), (5, encL_Wy true l), (7, intV i), (8, encL_Trans true y), (9, intV (0 : Int))] [Ob.box (enc_Env e)])))) ∧ (decide (i < (↑l.length : Int)) = false → leO [] [] ∧ (boolV up).le (boolV b))) := by kernel_rfl
theorem lelse2_raw (b : Bool) (e : D.Env) (up : Bool) (l : List Wy) (i : Int) (t : List D.Trans) (k : Int) (J J2 : St → Prop) : (((fnCtx Tryz.prog tb shEg ann_lelse true Tryz.f4 [] (boolV b)).loop [1, 1, 1, 1, 1, 0, 1, 0] J).loop [1, 0, 0, 1, 1, 1, 1, 0] J2).goal (stElse2 e up l i t k) =
    ((decide (k < (↑l.length : Int)) = true → ((0 : Int) ≤ i ∧ i < (↑l.length : Int)) ∧ ((0 : Int) ≤ (l.getD i.toNat default).Way ∧ (l.getD i.toNat default).Way < (↑t.length : Int)) ∧ ((true && ((t.getD (l.getD i.toNat default).Way.toNat default).S.Kind == 7) == true) = true → (0 : Int) ≤ k ∧ k < (↑l.length : Int)) ∧ ((true && ((t.getD (l.getD i.toNat default).Way.toNat default).S.Kind == 7) == true) = true → (0 : Int) ≤ (l.getD k.toNat default).Way ∧ (l.getD k.toNat default).Way < (↑t.length : Int)) ∧ ((bif (t.getD (l.getD i.toNat default).Way.toNat default).S.Kind == 7 then (t.getD (l.getD k.toNat default).Way.toNat default).S.Kind != (7 : Int) else false) = true → leO [] [] ∧ (boolV false).le (boolV b)) ∧ ((bif (t.getD (l.getD i.toNat default).Way.toNat default).S.Kind == 7 then (t.getD (l.getD k.toNat default).Way.toNat default).S.Kind != (7 : Int) else false) = false → J2 (mkSt [(1, VV.bp 0 0), (3, boolV up), (5, encL_Wy true l), (7, intV i), (8, encL_Trans true t), (9, intV (IntKind.i64.wrap (k + (1 : Int))))] [Ob.box (enc_Env e)]))) ∧ (decide (k < (↑l.length : Int)) = false → J (mkSt [(1, VV.bp 0 0), (3, boolV up), (5, encL_Wy true l), (7, intV (IntKind.i64.wrap (i + (1 : Int))))] [Ob.box (enc_Env e)]))) := by kernel_rfl
theorem xcopy2_raw (hs' : List Ob) (r : VV) (s : D.State) (cs : List D.Chan) (k : Int) (c : D.Chan) (q : List (List Int)) (j : Int) (J J2 : St → Prop) : (((fnCtx Tryz.prog tb shEg ann_xcopy false Tryz.f19 hs' (r)).loop [1, 1, 1, 1, 0, 1, 0] J).loop [1, 1, 0, 0, 1, 1, 0, 1, 0] J2).goal (stCopy2 s cs k c q j) =
    ((decide (j < (↑c.Queue.length : Int)) = true → ((0 : Int) ≤ j ∧ j < (↑c.Queue.length : Int)) ∧ ∃ (y : List Int), VSpec Tryz.prog 35 [] [encL_Int true (c.Queue.getD j.toNat [])] [] (encL_Int true y) ∧ (q.length + 1) * 24 ≤ 140737488355328 ∧ J2 (mkSt [(1, VV.bp 0 0), (2, VV.bp 1 0), (3, VV.bp 2 0), (5, VV.bp 4 0), (6, VV.ow 5 0 (q.length + 1)), (19, encL_Chan true s.Chans), (20, intV (↑s.Chans.length : Int)), (21, intV k), (26, encL_Ints true c.Queue), (27, intV (↑c.Queue.length : Int)), (28, intV (IntKind.i64.wrap (j + (1 : Int))))] [Ob.box (enc_State s), Ob.box [VV.nl, VV.nl, VV.nl, intV (0 : Int), intV (0 : Int), intV (0 : Int)], Ob.box [encL_Int true s.Globals, VV.ow 3 0 cs.length, VV.nl, intV s.Last, intV s.Alone, intV s.Claim], Ob.arr true 0 cs.length 2 fun (i : Nat) => enc_Chan (cs.getD i default), Ob.box (enc_Chan c), Ob.arr true 0 (q.length + 1) 1 fun (i : Nat) => bif i.blt q.length then [encL_Int true (q.getD i [])] else (fun (i : Nat) => List.take 1 (List.drop (i * 1) [encL_Int true y])) (i - q.length)])) ∧ (decide (j < (↑c.Queue.length : Int)) = false → (cs.length + 1) * 32 ≤ 140737488355328 ∧ J (mkSt [(1, VV.bp 0 0), (2, VV.bp 1 0), (3, VV.bp 2 0), (19, encL_Chan true s.Chans), (20, intV (↑s.Chans.length : Int)), (21, intV (IntKind.i64.wrap (k + (1 : Int))))] [Ob.box (enc_State s), Ob.box [VV.nl, VV.nl, VV.nl, intV (0 : Int), intV (0 : Int), intV (0 : Int)], Ob.box [encL_Int true s.Globals, VV.ow 3 0 (cs.length + 1), VV.nl, intV s.Last, intV s.Alone, intV s.Claim], Ob.arr true 0 (cs.length + 1) 2 fun (i : Nat) => bif i.blt cs.length then [intV (cs.getD i default).Shape, encL_Ints true (cs.getD i default).Queue] else (fun (i : Nat) => (List.map (fun (x : List VV × List Nat) => x.fst) [([intV c.Shape, encL_Ints true q], List.flatMap (fun (x : VV × List Nat) => x.snd) [(intV c.Shape, []), (encL_Ints true q, [5])])]).getD i []) (i - cs.length)]))) := by kernel_rfl
end Go.Proofs.YtiaebjpcgjkhoaaGreatDoor
namespace Go.Proofs.YtiaebjpcgjkhoaaGreatDoor
open Go.RowKit
def goneLs (ids : List Nat) : Nat → List Ob → List Ob
  | _, [] => []
  | k, o :: l => (bif ids.any (Nat.beq k) then (match o with
      | .arr _ g _ _ _ => .gone (g + 1)
      | .gone g => .gone (g + 1)
      | .box cs => .box cs) else o) :: goneLs ids (k + 1) l
theorem goneLs_len (ids : List Nat) : ∀ (l : List Ob) (k : Nat), (goneLs ids k l).length = l.length
  | [], _ => rfl
  | _ :: l, k => by simp only [goneLs, List.length_cons, goneLs_len ids l (k + 1)]
theorem goneLs_at (ids : List Nat) : ∀ (l : List Ob) (k j : Nat), j < l.length → (goneLs ids k l).getD j (.gone 0) = (bif ids.any (Nat.beq (k + j)) then (match l.getD j (.gone 0) with
      | .arr _ g _ _ _ => .gone (g + 1)
      | .gone g => .gone (g + 1)
      | .box cs => .box cs) else l.getD j (.gone 0))
  | [], _, j, h => absurd h (Nat.not_lt_zero j)
  | o :: l, k, 0, _ => rfl
  | o :: l, k, j + 1, h => by
    have := goneLs_at ids l (k + 1) j (Nat.lt_of_succ_lt_succ h)
    rw [show k + (j + 1) = k + 1 + j by omega]
    exact this
def pubBox (H : Nat → Ob) (k : Nat) : List Ob → Option (List Ob × List Nat)
  | [] => some ([], [])
  | .box cs :: l =>
    match omapL (pubF H k) cs with
    | some r => match pubBox H k l with
      | some q => some (.box (r.map (·.1)) :: q.1, r.flatMap (·.2) ++ q.2)
      | none => none
    | none => none
  | o :: l => match pubBox H k l with
    | some q => some (o :: q.1, q.2)
    | none => none
theorem pubBox_at {H : Nat → Ob} {k : Nat} : ∀ {l l' : List Ob} {ids : List Nat}, pubBox H k l = some (l', ids) → l'.length = l.length ∧ ∀ j, j < l.length → (l'.getD j (.gone 0) = l.getD j (.gone 0) ∧ (∀ cs, l.getD j (.gone 0) ≠ .box cs)) ∨
    ∃ cs r, l.getD j (.gone 0) = .box cs ∧ l'.getD j (.gone 0) = .box (r.map (·.1)) ∧ omapL (pubF H k) cs = some r ∧ ∀ p ∈ r, ∀ i ∈ p.2, i ∈ ids
  | [], l', ids, h => by
    simp only [pubBox, Option.some.injEq, Prod.mk.injEq] at h
    obtain ⟨rfl, rfl⟩ := h
    exact ⟨rfl, fun j hj => absurd hj (Nat.not_lt_zero j)⟩
  | o :: l, l', ids, h => by
    have other : (∀ cs, o ≠ .box cs) → (match pubBox H k l with
        | some q => some (o :: q.1, q.2)
        | none => none) = some (l', ids) → l'.length = (o :: l).length ∧ ∀ j, j < (o :: l).length → (l'.getD j (.gone 0) = (o :: l).getD j (.gone 0) ∧ (∀ cs, (o :: l).getD j (.gone 0) ≠ .box cs)) ∨
          ∃ cs r, (o :: l).getD j (.gone 0) = .box cs ∧ l'.getD j (.gone 0) = .box (r.map (·.1)) ∧ omapL (pubF H k) cs = some r ∧ ∀ p ∈ r, ∀ i ∈ p.2, i ∈ ids := by
      intro hn h
      split at h
      · rename_i q hq
        simp only [Option.some.injEq, Prod.mk.injEq] at h
        obtain ⟨rfl, rfl⟩ := h
        obtain ⟨e1, e2⟩ := pubBox_at (l' := q.1) (ids := q.2) hq
        refine ⟨by simp [e1], fun j hj => ?_⟩
        cases j with
        | zero => exact .inl ⟨rfl, hn⟩
        | succ j => exact e2 j (Nat.lt_of_succ_lt_succ hj)
      · cases h
    cases o with
    | box cs =>
      simp only [pubBox] at h
      split at h
      · rename_i r hr
        split at h
        · rename_i q hq
          simp only [Option.some.injEq, Prod.mk.injEq] at h
          obtain ⟨rfl, rfl⟩ := h
          obtain ⟨e1, e2⟩ := pubBox_at (l' := q.1) (ids := q.2) hq
          refine ⟨by simp [e1], fun j hj => ?_⟩
          cases j with
          | zero => exact .inr ⟨cs, r, rfl, rfl, hr, fun p hp i hi => List.mem_append_left _ (List.mem_flatMap.2 ⟨p, hp, hi⟩)⟩
          | succ j =>
            rcases e2 j (Nat.lt_of_succ_lt_succ hj) with h | ⟨cs', r', h1, h2, h3, h4⟩
            · exact .inl h
            · exact .inr ⟨cs', r', h1, h2, h3, fun p hp i hi => List.mem_append_right _ (h4 p hp i hi)⟩
        · cases h
      · cases h
    | arr fr g n sz f => exact other (fun _ h => by cases h) h
    | gone g => exact other (fun _ h => by cases h) h
theorem Cv.pubB {l : List (Nat × VV)} {hs hs' : List Ob} {ids : List Nat} (k : Nat) (h : pubBox (obsH hs) k hs = some (hs', ids)) : Cv (mkSt l hs) (mkSt l (goneLs ids 0 hs')) := by
  intro N E φ a w hr
  have hg := hr.hp.gone (ids := ids)
  obtain ⟨hlen, hat⟩ := pubBox_at h
  refine ⟨goneP ids φ, ⟨hr.sz, hr.df, hr.old.ext goneP_ext, fun t' => ?_, ⟨hg.sub, fun id p e => ?_, hg.inj, hg.free⟩, fun j hj => ?_, fun j hj => ?_⟩, goneP_ext⟩
  · have hv : V w _ _ (lookT t' l) _ := hr.tm t'
    exact hv.ext goneP_ext
  · have h1 := hg.ob id p e
    have hid : id < hs.length := Classical.byContradiction fun hn => by
      have := (goneP_none (ids := ids)).2 (hr.fr id (Nat.le_of_not_lt hn))
      rw [this] at e; cases e
    have hgo := goneLs_at ids hs' 0 id (by omega)
    rw [Nat.zero_add] at hgo
    show ObV w E (goneP ids φ) ((goneLs ids 0 hs').getD id (.gone 0)) p
    rw [hgo]
    rcases hat id hid with ⟨e1, hn⟩ | ⟨cs, r, e1, e2, e3, e4⟩
    · rw [e1]; exact h1
    · rw [e2]
      have hob : ∀ q, φ id = some q → ObV w E φ (.box cs) q := fun q hq => by
        have := hr.hp.ob id q hq
        have e1' : (mkSt l hs).H id = .box cs := e1
        rw [e1'] at this
        exact this
      have hbx : (bif ids.any (Nat.beq id) then Ob.box (r.map (·.1)) else Ob.box (r.map (·.1))) = Ob.box (r.map (·.1)) := by cases ids.any (Nat.beq id) <;> rfl
      show ObV w E (goneP ids φ) (bif ids.any (Nat.beq id) then Ob.box (r.map (·.1)) else Ob.box (r.map (·.1))) p
      rw [hbx]
      have hp : ∃ q, φ id = some q ∧ (p = q ∨ p = gonePl q) := by
        unfold goneP at e
        cases hq : ids.any (Nat.beq id) with
        | false => rw [hq] at e; exact ⟨p, e, .inl rfl⟩
        | true =>
          rw [hq] at e
          simp only [cond_true, Option.map_eq_some_iff] at e
          obtain ⟨q, h1, h2⟩ := e
          exact ⟨q, h1, .inr h2.symm⟩
      obtain ⟨q, hq, hpq⟩ := hp
      have hb := hob q hq
      cases q with
      | arr => exact hb.elim
      | box b =>
        have : p = .box b := by rcases hpq with h | h <;> exact h
        subst this
        obtain ⟨c, ty, k1, k2⟩ := hb
        obtain ⟨o1, o2⟩ := omapL_ok e3
        refine ⟨c, ty, k1, ⟨by simp [o1, k2.1], fun j y hy => ?_⟩⟩
        simp only [List.getElem?_map, Option.map_eq_some_iff] at hy
        obtain ⟨z, hz, rfl⟩ := hy
        obtain ⟨x, hx, hf⟩ := o2 j z hz
        exact (V.unhold (pubF_ok hr.hp (ids := ids) k _ _ _ _ (k2.2 j x hx) hf (e4 z (List.mem_of_getElem? hz)))).held
  · have hj' : (goneLs ids 0 hs').length ≤ j := hj
    rw [goneLs_len, hlen] at hj'
    exact goneP_none.2 (hr.fr j hj')
  · have hj' : j < (goneLs ids 0 hs').length := hj
    rw [goneLs_len, hlen] at hj'
    exact fun h => hr.lv j hj' (goneP_none.1 h)
theorem SatC.cv {c : Ctx} {rel : List Nat} {st st' : St} (h : Cv st st') (k : SatC c rel st') : SatC c rel st := Sat.cv h k
def leFL (r : VV → VV → Bool) : List VV → List VV → Bool
  | [], [] => true
  | y :: ys, x :: xs => r y x && leFL r ys xs
  | _, _ => false
def leF : Nat → VV → VV → Bool
  | 0, _, _ => false
  | _ + 1, .sc u, .sc v => litEq u v
  | _ + 1, .nl, .nl => true
  | _ + 1, .nl, .sl _ n _ _ => Nat.beq n 0
  | k + 1, .sl z n s f, .sl z' n' s' f' => (z == z') && (Nat.beq n n' && (Nat.beq s s' && allI n fun i => leFL (leF k) (f i) (f' i)))
  | k + 1, .agg ys, .agg xs => leFL (leF k) ys xs
  | _ + 1, _, _ => false
theorem leFL_ok {r : VV → VV → Bool} (hr : ∀ y x, r y x = true → VV.le y x) : ∀ {ys xs : List VV}, leFL r ys xs = true → leL ys xs
  | [], [], _ => trivial
  | y :: ys, x :: xs, h => by
    simp only [leFL, Bool.and_eq_true] at h
    exact ⟨hr _ _ h.1, leFL_ok hr h.2⟩
  | [], _ :: _, h => by cases h
  | _ :: _, [], h => by cases h
theorem leF_ok : ∀ (k : Nat) (y x : VV), leF k y x = true → VV.le y x
  | 0, _, _, h => by cases h
  | k + 1, y, x, h => by
    unfold leF at h
    split at h
    · cases h
    · obtain rfl := litEq_ok h; exact VV.le_refl _
    · exact VV.le_refl _
    · obtain rfl := Nat.eq_of_beq_eq_true h; exact VV.le_nil
    · simp only [Bool.and_eq_true, beq_iff_eq] at h
      obtain ⟨rfl, h1, h2, h3⟩ := h
      obtain rfl := Nat.eq_of_beq_eq_true h1
      exact VV.le_sl (.inl (Nat.eq_of_beq_eq_true h2)) fun i hi => leFL_ok (fun y x h => leF_ok _ y x h) (allI_iff.1 h3 i hi)
    · exact VV.le_agg (leFL_ok (fun y x h => leF_ok _ y x h) h)
    · cases h
def leOF (k : Nat) : List Ob → List Ob → Bool
  | [], [] => true
  | .box cs :: l, .box cs' :: l' => leFL (leF k) cs cs' && leOF k l l'
  | .gone g :: l, .gone g' :: l' => Nat.beq g g' && leOF k l l'
  | _, _ => false
theorem leOF_ok {k : Nat} : ∀ {l l' : List Ob}, leOF k l l' = true → leO l l'
  | [], [], _ => trivial
  | .box cs :: l, .box cs' :: l', h => by
    simp only [leOF, Bool.and_eq_true] at h
    exact ⟨Ob.le_box (leFL_ok (fun y x h => leF_ok _ y x h) h.1), leOF_ok h.2⟩
  | .gone g :: l, .gone g' :: l', h => by
    simp only [leOF, Bool.and_eq_true] at h
    obtain rfl := Nat.eq_of_beq_eq_true h.1
    exact ⟨Ob.le_refl _, leOF_ok h.2⟩
  | [], _ :: _, h => by cases h
  | .box _ :: _, [], h => by cases h
  | .box _ :: _, .arr .. :: _, h => by cases h
  | .box _ :: _, .gone _ :: _, h => by cases h
  | .gone _ :: _, [], h => by cases h
  | .gone _ :: _, .arr .. :: _, h => by cases h
  | .gone _ :: _, .box _ :: _, h => by cases h
  | .arr .. :: _, _, h => by simp [leOF] at h
theorem SatC.pubB {c : Ctx} {rel : List Nat} {l : List (Nat × VV)} {hs hs' : List Ob} (k n : Nat) (h : (match pubBox (obsH hs) k hs with
    | some q => leOF n (goneLs q.2 0 q.1) hs'
    | none => false) = true) (kk : SatC c rel (mkSt l hs')) : SatC c rel (mkSt l hs) := by
  split at h
  · rename_i q hq
    exact SatC.cv (Cv.pubB (hs' := q.1) (ids := q.2) k hq) (SatC.le (leT_refl _) (leOF_ok h) kk)
  · cases h
end Go.Proofs.YtiaebjpcgjkhoaaGreatDoor
namespace Go.Proofs.YtiaebjpcgjkhoaaGreatDoor
open Go.RowKit
theorem copy_spec {s : D.State} (hf : Fit s) : VSpec Tryz.prog 19 [] [.agg (enc_State s)] [obC s, obP s] (.agg (enc_StateO s (.ow 0 0 s.Chans.length) (.ow 1 0 s.Procs.length))) := by
  have hg := hf.g
  have hc := hf.c
  have hp := hf.p
  refine vspec_raw tb_ok mixed Tryz.func19 (by kernel_rfl) rfl (xcopy_raw [obC s, obP s] (.agg (enc_StateO s (.ow 0 0 s.Chans.length) (.ow 1 0 s.Procs.length))) s) ⟨s.Globals, clone_spec (by omega), ?_⟩
  refine loop_raw tb_ok mixed (fun g st => ∃ k : Nat, k ≤ s.Chans.length ∧ g = s.Chans.length - k ∧ st = stCopy1 s (s.Chans.take k) k) (by kernel_rfl) (by kernel_rfl) ⟨_, Up.cv (Cv.ownBox 2 1 2 (rowsCh []) rfl rfl) (Up.of ⟨0, Nat.zero_le _, rfl, rfl⟩)⟩ ?_
  rintro g st ⟨k, hk, rfl, rfl⟩
  have hlk : (s.Chans.take k).length = k := by simp; omega
  refine Asks.raw (xcopy1_raw _ _ s (s.Chans.take k) k _) ⟨fun hlt => ?_, fun hge => ?_⟩
  · have hlt' : k < s.Chans.length := by have := lt_of hlt; omega
    have hto : (k : Int).toNat = k := by omega
    rw [hto]
    have hpush : s.Chans.take (k + 1) = s.Chans.take k ++ [s.Chans.getD k default] := take_push hlt'
    have hq := hf.q _ (getD_mem (d := default) hlt')
    generalize s.Chans.getD k default = c at hpush hq ⊢
    refine ⟨⟨by omega, by omega⟩, ?_⟩
    refine SatC.own 4 6 1 (rowsMs []) rfl ?_
    refine loop_raw tb_ok mixed (fun g st => ∃ j : Nat, j ≤ c.Queue.length ∧ g = c.Queue.length - j ∧ st = stCopy2 s (s.Chans.take k) k c (c.Queue.take j) j) (by kernel_rfl) (by kernel_rfl) ⟨_, Up.of ⟨0, Nat.zero_le _, rfl, rfl⟩⟩ ?_
    rintro g st ⟨j, hj, rfl, rfl⟩
    have hlj : (c.Queue.take j).length = j := by simp; omega
    refine Asks.raw (xcopy2_raw _ _ s (s.Chans.take k) k c (c.Queue.take j) j _ _) ⟨fun hlt2 => ?_, fun hge2 => ?_⟩
    · have hlt2' : j < c.Queue.length := by have := lt_of hlt2; omega
      have hto2 : (j : Int).toNat = j := by omega
      rw [hto2]
      have hpush2 : c.Queue.take (j + 1) = c.Queue.take j ++ [c.Queue.getD j []] := take_push hlt2'
      have hm := hq.2 _ (getD_mem (d := []) hlt2')
      refine ⟨⟨by omega, by omega⟩, c.Queue.getD j [], clonem_spec (by omega), by rw [hlj]; omega, c.Queue.length - (j + 1), by omega, ?_⟩
      rw [wrap_succ (by omega)]
      refine Up.mk (l' := [(1, .bp 0 0), (2, .bp 1 0), (3, .bp 2 0), (5, .bp 4 0), (6, .ow 5 0 (c.Queue.take (j + 1)).length), (19, encL_Chan true s.Chans), (20, intV s.Chans.length), (21, intV k), (26, encL_Ints true c.Queue), (27, intV c.Queue.length), (28, intV ((j + 1 : Nat) : Int))])
        (hs' := [.box (enc_State s), .box zeroS, .box (enc_StateO s (.ow 3 0 (s.Chans.take k).length) .nl), .arr true 0 (s.Chans.take k).length 2 (rowsCh (s.Chans.take k)), .box (enc_Chan c), .arr true 0 (c.Queue.take (j + 1)).length 1 (rowsMs (c.Queue.take (j + 1)))]) ?_ ?_ ⟨j + 1, by omega, rfl, rfl⟩
      · rw [hpush2, List.length_append]; exact leT_refl _
      · rw [hpush2, List.length_append]
        refine ⟨Ob.le_refl _, Ob.le_refl _, Ob.le_refl _, Ob.le_refl _, Ob.le_refl _, Ob.le_arr fun i hi => leL_eq ?_, trivial⟩
        refine rows_app (l := c.Queue.take j) (r := [c.Queue.getD j []]) (f := fun w => [encL_Int true w]) (d := []) (F := fun i => [encL_Int true ((c.Queue.take j).getD i [])]) (G := fun i => List.take 1 (List.drop (i * 1) [encL_Int true (c.Queue.getD j [])])) (fun i hi => rfl) (fun i hi => ?_) (by simpa using hi)
        obtain rfl : i = 0 := by simpa using hi
        rfl
    · have hge2' : c.Queue.length ≤ j := by have := ge_of hge2; omega
      rw [List.take_of_length_le hge2']
      refine ⟨by rw [hlk]; omega, s.Chans.length - (k + 1), by omega, ?_⟩
      rw [wrap_succ (by omega)]
      refine Up.mk (l' := [(1, .bp 0 0), (2, .bp 1 0), (3, .bp 2 0), (19, encL_Chan true s.Chans), (20, intV s.Chans.length), (21, intV ((k + 1 : Nat) : Int))])
        (hs' := [.box (enc_State s), .box zeroS, .box (enc_StateO s (.ow 3 0 (s.Chans.take (k + 1)).length) .nl), .arr true 0 (s.Chans.take (k + 1)).length 2 (rowsCh (s.Chans.take (k + 1)))]) ?_ ?_ ⟨k + 1, by omega, rfl, rfl⟩
      · exact leT_refl _
      · rw [hpush, List.length_append]
        refine ⟨Ob.le_refl _, Ob.le_refl _, Ob.le_refl _, Ob.le_arr fun i hi => leL_eq ?_, trivial⟩
        exact rows_app (l := s.Chans.take k) (r := [c]) (f := enc_Chan) (d := default) (F := fun i => enc_Chan ((s.Chans.take k).getD i default)) (G := fun i => [enc_Chan c].getD i []) (fun i hi => rfl) (fun i hi => by
          obtain rfl : i = 0 := by simpa using hi
          rfl) (by simpa using hi)
  · have hge' : s.Chans.length ≤ k := by have := ge_of hge; omega
    rw [List.take_of_length_le hge']
    refine loop_raw tb_ok mixed (fun g st => ∃ k : Nat, k ≤ s.Procs.length ∧ g = s.Procs.length - k ∧ st = stCopy3 s s.Chans (s.Procs.take k) k) (by kernel_rfl) (by kernel_rfl) ⟨_, Up.cv (Cv.ownBox 1 2 4 (rowsPs []) rfl rfl) (Up.of ⟨0, Nat.zero_le _, rfl, rfl⟩)⟩ ?_
    rintro g st ⟨k, hk, rfl, rfl⟩
    have hlk : (s.Procs.take k).length = k := by simp; omega
    refine Asks.raw (xcopy3_raw _ _ s s.Chans (s.Procs.take k) k _) ⟨fun hlt => ?_, fun hge => ?_⟩
    · have hlt' : k < s.Procs.length := by have := lt_of hlt; omega
      have hto : (k : Int).toNat = k := by omega
      rw [hto]
      have hpush : s.Procs.take (k + 1) = s.Procs.take k ++ [s.Procs.getD k default] := take_push hlt'
      have hq := hf.f _ (getD_mem (d := default) hlt')
      generalize s.Procs.getD k default = p at hpush hq ⊢
      refine ⟨⟨by omega, by omega⟩, p.Frame, clone_spec (by omega), by rw [hlk]; omega, s.Procs.length - (k + 1), by omega, ?_⟩
      rw [wrap_succ (by omega)]
      refine Up.mk (l' := [(2, .bp 0 0), (3, .bp 1 0), (49, encL_Process true s.Procs), (50, intV s.Procs.length), (51, intV ((k + 1 : Nat) : Int))])
        (hs' := [.box zeroS, .box (enc_StateO s (.ow 2 0 s.Chans.length) (.ow 3 0 (s.Procs.take (k + 1)).length)), .arr true 0 s.Chans.length 2 (rowsCh s.Chans), .arr true 0 (s.Procs.take (k + 1)).length 4 (rowsPs (s.Procs.take (k + 1)))]) ?_ ?_ ⟨k + 1, by omega, rfl, rfl⟩
      · exact leT_refl _
      · rw [hpush, List.length_append]
        refine ⟨Ob.le_refl _, Ob.le_refl _, Ob.le_refl _, Ob.le_arr fun i hi => leL_eq ?_, trivial⟩
        exact rows_app (l := s.Procs.take k) (r := [p]) (f := enc_Process) (d := default) (F := fun i => enc_Process ((s.Procs.take k).getD i default)) (G := fun i => List.take 4 (List.drop (i * 4) (enc_Process p))) (fun i hi => rfl) (fun i hi => by
          obtain rfl : i = 0 := by simpa using hi
          rfl) (by simpa using hi)
    · have hge2 : s.Procs.length ≤ k := by have := ge_of hge; omega
      rw [List.take_of_length_le hge2]
      exact ⟨⟨Ob.le_refl _, Ob.le_refl _, trivial⟩, VV.le_refl _⟩
theorem does_still {e : D.Env} {s : D.Stmt} {w : Wy} (hk : s.Kind = 7 ∨ s.Kind = 8) : VSpec Tryz.prog 22 (hsE e) [.bp 0 0, .agg (enc_Stmt s), .agg (enc_Wy w)] (hsE e) (.tup [strV ⟨#[]⟩, intV 0]) := by
  refine vspec_raw tb_ok mixed Tryz.func22 (by kernel_rfl) rfl (xdoes_raw e ⟨#[]⟩ 0 e s w) ?_
  have n : ∀ {k : Int} {p : Prop}, k ≠ 7 → k ≠ 8 → (s.Kind == k) = true → p := fun h1 h2 h => by
    have := eq_of_beq h; omega
  exact ⟨n (by decide) (by decide), fun _ => ⟨n (by decide) (by decide), fun _ => ⟨n (by decide) (by decide), fun _ => ⟨n (by decide) (by decide), fun _ => ⟨n (by decide) (by decide), fun _ => ⟨n (by decide) (by decide), fun _ => ⟨n (by decide) (by decide), fun _ => ⟨⟨Ob.le_refl _, Ob.le_refl _, Ob.le_refl _, trivial⟩, VV.le_refl _⟩⟩⟩⟩⟩⟩⟩⟩
end Go.Proofs.YtiaebjpcgjkhoaaGreatDoor
namespace Go.Proofs.YtiaebjpcgjkhoaaGreatDoor
open Go.RowKit
def listAt (l : D.Loc) (esc : Int) : List D.Trans := bif decide (esc < 0) then l.Out else l.Esc.getD esc.toNat []
theorem mem_escL : ∀ {r : List (List D.Trans)} {k : Nat} {i : Int} {ws : List D.Trans}, (i, ws) ∈ escL k r → ∃ j : Nat, i = ((k + j : Nat) : Int) ∧ r[j]? = some ws
  | [], k, i, ws, h => by cases h
  | w :: r, k, i, ws, h => by
    rcases List.mem_cons.1 h with h | h
    · simp only [Prod.mk.injEq] at h
      obtain ⟨rfl, rfl⟩ := h
      exact ⟨0, by omega, rfl⟩
    · obtain ⟨j, hj, hw⟩ := mem_escL h
      exact ⟨j + 1, by omega, by simpa using hw⟩
theorem mem_lists {l : D.Loc} {i : Int} {ws : List D.Trans} (h : (i, ws) ∈ listsE l) : listAt l i = ws ∧ -1 ≤ i ∧ i < l.Esc.length ∧ (ws = l.Out ∨ ws ∈ l.Esc) := by
  rcases List.mem_append.1 h with h | h
  · obtain ⟨j, rfl, hj⟩ := mem_escL h
    obtain ⟨hlt, rfl⟩ := List.getElem?_eq_some_iff.1 hj
    refine ⟨?_, by omega, by omega, .inr (List.getElem_mem _)⟩
    unfold listAt
    rw [decide_eq_false (by omega), cond_false]
    simp [List.getD, hlt]
  · simp only [List.mem_singleton, Prod.mk.injEq] at h
    obtain ⟨rfl, rfl⟩ := h
    exact ⟨rfl, by omega, by omega, .inl rfl⟩
section
variable {e : D.Env} {mt : Int → List Int → List Pn} {ws : List D.Trans} {self : Bool}
theorem stmt_wth {s : D.Stmt} (h : (stmtE e mt s self).is = false) : (stmtE e mt s self).wth = [] := by
  unfold stmtE at h ⊢
  split
  · cases runsE e s.A <;> rfl
  · rename_i n1
    rw [if_neg n1] at h
    split
    · cases runsE e s.B <;> rfl
    · rename_i n2
      rw [if_neg n2] at h
      split
      · rfl
      · rename_i n3
        rw [if_neg n3] at h
        split
        · rename_i n4
          rw [if_pos n4] at h
          unfold sendsE at h ⊢
          cases c1 : decide ((echanP e s.A).2 ≠ 0) with
          | true => rfl
          | false =>
          rw [c1, cond_false] at h
          rw [cond_false]
          cases c2 : decide ((fieldsE e (echanP e s.A).1).length ≠ s.Args.length) with
          | true => rfl
          | false =>
          rw [c2, cond_false] at h
          rw [cond_false]
          cases c3 : decide (0 < (shAt e.M (chAt e (echanP e s.A).1).Shape).Room) with
          | true => rfl
          | false =>
          rw [c3, cond_false] at h
          rw [cond_false]
          cases c4 : self with
          | true => rfl
          | false =>
          rw [c4, cond_false] at h
          rw [cond_false]
          cases c5 : decide ((messageE e s).2.2 ≠ 0) with
          | true => rfl
          | false =>
          rw [c5, cond_false] at h
          rw [cond_false]
          exact List.eq_nil_of_length_eq_zero (Nat.eq_zero_of_not_pos (of_decide_eq_false h))
        split
        · rfl
        split <;> rfl
theorem stmt_else {s : D.Stmt} (h : s.Kind = 7) : stmtE e mt s self = ⟨false, 0, []⟩ := by
  unfold stmtE
  rw [if_neg (by omega), if_neg (by omega), if_neg (by omega), if_neg (by omega), if_neg (by omega), if_pos h]
theorem someG_no : ∀ {n : Nat}, someG e mt ws self n = false → ∀ j, j < n → (stmtE e mt (ws.getD j default).S self).is = false
  | 0, _, j, hj => absurd hj (Nat.not_lt_zero j)
  | n + 1, h, j, hj => by
    unfold someG at h
    rw [Bool.or_eq_false_iff] at h
    rcases Nat.lt_succ_iff_lt_or_eq.1 hj with h' | rfl
    · exact someG_no h.1 j h'
    · exact h.2
def Does (x : Ab) : Prop := x.is = true ∨ x.wth ≠ []
theorem can_else {j : Nat} (hk : (ws.getD j default).S.Kind = 7) (h : Does (canAt e mt ws self j)) : someG e mt ws self ws.length = false := by
  unfold canAt at h
  rw [stmt_else hk, show decide ((ws.getD j default).S.Kind = 7) = true by simpa using hk] at h
  cases hs : someG e mt ws self ws.length with
  | false => rfl
  | true =>
    rw [hs] at h
    rcases h with h | h
    · cases h
    · exact absurd rfl h
theorem can_kind {j : Nat} (hj : j < ws.length) (hs : someG e mt ws self ws.length = false) (h : Does (canAt e mt ws self j)) : (ws.getD j default).S.Kind = 7 := by
  refine Classical.byContradiction fun hn => ?_
  have his := someG_no hs j hj
  have hw := stmt_wth his
  unfold canAt at h
  rw [show decide ((ws.getD j default).S.Kind = 7) = false by simpa using hn] at h
  rcases h with h | h
  · have h' : (stmtE e mt (ws.getD j default).S self).is = true := h
    rw [his] at h'; cases h'
  · exact h hw
theorem mem_wayOf {i : Int} {k : Nat} {x : Ab} {w : Wy} (h : w ∈ wayOf i k x) : w.Esc = i ∧ w.Way = k ∧ Does x := by
  rcases List.mem_append.1 h with h | h
  · cases c : (x.is && decide (x.wth.length = 0)) with
    | false => rw [c] at h; cases h
    | true =>
      rw [c] at h
      obtain rfl := List.mem_singleton.1 h
      simp only [Bool.and_eq_true] at c
      exact ⟨rfl, rfl, .inl c.1⟩
  · obtain ⟨p, hp, rfl⟩ := List.mem_map.1 h
    refine ⟨rfl, rfl, .inr ?_⟩
    intro hn; rw [hn] at hp; cases hp
theorem mem_wayG {i : Int} : ∀ {l : List Ab} {k : Nat} {w : Wy}, w ∈ wayG i k l → ∃ (j : Nat) (x : Ab), l[j]? = some x ∧ w.Esc = i ∧ w.Way = ((k + j : Nat) : Int) ∧ Does x
  | [], k, w, h => by cases h
  | x :: r, k, w, h => by
    rcases List.mem_append.1 (show w ∈ wayOf i k x ++ wayG i (k + 1) r from h) with h | h
    · obtain ⟨h1, h2, h3⟩ := mem_wayOf h
      exact ⟨0, x, rfl, h1, h2, h3⟩
    · obtain ⟨j, y, h1, h2, h3, h4⟩ := mem_wayG h
      exact ⟨j + 1, y, h1, h2, by rw [h3]; congr 1; omega, h4⟩
theorem can_at {j : Nat} {x : Ab} (h : (canE e mt ws self)[j]? = some x) : j < ws.length ∧ x = canAt e mt ws self j := by
  unfold canE at h
  simp only [List.getElem?_map, Option.map_eq_some_iff] at h
  obtain ⟨a, ha, rfl⟩ := h
  obtain ⟨h1, h2⟩ := List.getElem?_eq_some_iff.1 ha
  simp at h1 h2
  subst h2
  exact ⟨h1, rfl⟩
theorem pathL_cases : ∀ {r : List (Int × List D.Trans)}, pathL e r = [] ∨ ∃ i ws, (i, ws) ∈ r ∧ pathL e r = wayG i 0 (canE e (meetsE e) ws false)
  | [] => .inl rfl
  | (i, ws) :: r => by
    have hq : pathL e ((i, ws) :: r) = bif decide (0 < (wayG i 0 (canE e (meetsE e) ws false)).length) then wayG i 0 (canE e (meetsE e) ws false) else pathL e r := rfl
    rw [hq]
    cases decide (0 < (wayG i 0 (canE e (meetsE e) ws false)).length) with
    | true => exact .inr ⟨i, ws, List.mem_cons_self, rfl⟩
    | false =>
      rcases pathL_cases (r := r) with h | ⟨i', ws', h1, h2⟩
      · exact .inl h
      · exact .inr ⟨i', ws', List.mem_cons_of_mem _ h1, h2⟩
theorem paths_cases : pathsE e = [] ∨ (∃ er, pathsE e = [noneW er]) ∨ ∃ i ws, (i, ws) ∈ listsE (locE e) ∧ pathsE e = wayG i 0 (canE e (meetsE e) ws false) := by
  unfold pathsE
  cases decide ((psAt e e.Pid).Loc = (procE e).Final) with
  | true =>
    cases decide (e.Pid = (e.S.Procs.length : Int) - 1) with
    | true => exact .inr (.inl ⟨0, rfl⟩)
    | false => exact .inl rfl
  | false =>
    cases decide ((providedE e).2 ≠ 0) with
    | true => exact .inr (.inl ⟨_, rfl⟩)
    | false =>
      cases (providedE e).1 with
      | false => exact .inl rfl
      | true =>
        rcases pathL_cases (e := e) (r := listsE (locE e)) with h | h
        · exact .inl h
        · exact .inr (.inr h)
theorem ways_law {w : Wy} (hw : w ∈ pathsE e) :
    (w.Way < 0 → (pathsE e).length = 1) ∧ (0 ≤ w.Way → -1 ≤ w.Esc ∧ w.Esc < (locE e).Esc.length ∧ ∀ w' ∈ pathsE e, w'.Esc = w.Esc ∧ 0 ≤ w'.Way ∧ w'.Way < (listAt (locE e) w.Esc).length ∧
      (((listAt (locE e) w.Esc).getD w.Way.toNat default).S.Kind = 7 → ((listAt (locE e) w.Esc).getD w'.Way.toNat default).S.Kind = 7)) := by
  rcases paths_cases (e := e) with h | ⟨er, h⟩ | ⟨i, ws, hi, h⟩
  · rw [h] at hw; cases hw
  · rw [h] at hw
    obtain rfl := List.mem_singleton.1 hw
    exact ⟨fun _ => by rw [h]; rfl, fun h0 => by unfold noneW at h0; simp at h0⟩
  · rw [h] at hw ⊢
    obtain ⟨hl, h1, h2, _⟩ := mem_lists hi
    obtain ⟨j, x, a1, a2, a3, a4⟩ := mem_wayG hw
    obtain ⟨b1, rfl⟩ := can_at a1
    refine ⟨fun hn => by rw [a3] at hn; omega, fun _ => ⟨by omega, by omega, fun w' hw' => ?_⟩⟩
    obtain ⟨j', x', c1, c2, c3, c4⟩ := mem_wayG hw'
    obtain ⟨d1, rfl⟩ := can_at c1
    rw [a2, hl]
    refine ⟨c2, by rw [c3]; omega, by rw [c3]; omega, fun hk => ?_⟩
    rw [show w.Way.toNat = j by rw [a3]; omega] at hk
    rw [show w'.Way.toNat = j' by rw [c3]; omega]
    exact can_kind d1 (can_else hk a4) c4
end
end Go.Proofs.YtiaebjpcgjkhoaaGreatDoor
namespace Go.Proofs.YtiaebjpcgjkhoaaGreatDoor
open Go.RowKit
section
variable {e : D.Env}
theorem wayG_len {i : Int} : ∀ {l : List Ab} {k : Nat}, (∀ x ∈ l, x.wth.length ≤ 16384) → (wayG i k l).length ≤ l.length * 16385
  | [], _, _ => Nat.zero_le _
  | x :: r, k, h => by
    rw [wayG_cons, List.length_append, List.length_cons, Nat.succ_mul]
    have h1 := wayG_len (i := i) (k := k + 1) fun y hy => h y (List.mem_cons_of_mem _ hy)
    have h2 : (wayOf i k x).length ≤ 16385 := by
      have hx := h x List.mem_cons_self
      unfold wayOf
      rw [List.length_append, List.length_map]
      cases (x.is && decide (x.wth.length = 0))
      · simp; omega
      · simp; omega
    omega
theorem paths_len (h : PidE e) : (pathsE e).length ≤ 16778240 := by
  rcases paths_cases (e := e) with h' | ⟨er, h'⟩ | ⟨i, ws, hi, h'⟩
  · rw [h']; simp
  · rw [h']; simp
  · rw [h']
    obtain ⟨_, _, _, hm⟩ := mem_lists hi
    have hws := (h.ws (ws := ws) (by rcases hm with rfl | hm; exact List.mem_cons_self; exact List.mem_cons_of_mem _ hm)).len
    have h1 := wayG_len (i := i) (k := 0) (l := canE e (meetsE e) ws false) (canE_wth h)
    have h2 : (canE e (meetsE e) ws false).length = ws.length := by simp [canE]
    rw [h2] at h1
    have := Nat.mul_le_mul_right 16385 hws
    omega
theorem list_spec (h : PidE e) {esc : Int} (h4 : esc < (locE e).Esc.length) : VSpec Tryz.prog 12 [] [.agg (enc_Env e), intV esc] [] (encL_Trans true (listAt (locE e) esc)) :=
  rlist_spec ⟨h.p0, h.ok.pid.2⟩ h.facts.1 h.facts.2 fun _ => h4
theorem lelse_spec (hw : wf_Env e) (hshown : VSpec Tryz.prog 6 [] [] [] (boolV true)) : VSpec Tryz.prog 4 [] [.agg (enc_Env e)] [] (boolV true) := by
  refine vspec_raw tb_ok mixed Tryz.func4 (by kernel_rfl) rfl (lelse_raw true e) ⟨true, hshown, echeckR e, recheck_spec hw, fun h => leafB rfl, fun _ => ⟨waysE e, xWays_spec hw.M (small_of hw.S), ?_⟩⟩
  have hcase : (waysE e).1 = [] ∨ (PidE e ∧ (waysE e).1 = pathsE e) := by
    have hq : waysE e = bif decide (exckP e ≠ 0) then ([], exckP e) else (pathsE e, 0) := rfl
    cases c : decide (exckP e ≠ 0) with
    | true => rw [hq, c]; exact .inl rfl
    | false => rw [hq, c]; exact .inr ⟨exck_zero hw.M (by simpa using c), rfl⟩
  change SatC _ _ (stElse1 e true (waysE e).1 0)
  generalize (waysE e).1 = l at hcase
  have hlen : l.length ≤ 16778240 := by
    rcases hcase with rfl | ⟨h, rfl⟩
    · simp
    · exact paths_len h
  refine loop_idx tb_ok mixed l.length (fun k => stElse1 e true l k) (fun _ => True) (by kernel_rfl) (by kernel_rfl) trivial ?_
  intro i hi _ J next
  refine Asks.raw (lelse1_raw true e true l i J) ⟨fun hlt => ?_, fun hge => leafB rfl⟩
  have hlt' : i < l.length := by have := lt_of hlt; omega
  have hto : (i : Int).toNat = i := by omega
  rw [hto]
  obtain ⟨hP, rfl⟩ : PidE e ∧ l = pathsE e := by
    rcases hcase with rfl | h
    · simp at hlt'
    · exact h
  have hmem : ∀ k : Nat, k < (pathsE e).length → (pathsE e).getD k default ∈ pathsE e := fun k hk => getD_mem hk
  have h0 : ((pathsE e).getD (Int.toNat 0) default) = (pathsE e).getD 0 default := rfl
  rw [h0]
  obtain ⟨law1, law2⟩ := ways_law (hmem i hlt')
  refine ⟨⟨by omega, by omega⟩, fun hn => ⟨fun hb => ?_, fun _ => ?_⟩, fun hn => ?_⟩
  · have := law1 (by simpa using hn)
    simp at hb; omega
  · rw [wrap_succ (by omega)]
    exact next _ hlt' trivial (Up.of rfl)
  have hw0 : 0 ≤ ((pathsE e).getD i default).Way := by have := of_decide_eq_false hn; omega
  obtain ⟨e1, e2, law3⟩ := law2 hw0
  have l0 := law3 _ (hmem 0 (by omega))
  have li := law3 _ (hmem i hlt')
  refine ⟨⟨by omega, by omega⟩, listAt (locE e) ((pathsE e).getD i default).Esc, list_spec hP e2, ⟨by omega, by omega⟩, ⟨by omega, by omega⟩, fun _ => ⟨by omega, by omega⟩, fun hb => ?_, fun _ => ?_⟩
  · rw [l0.1, bne_self_eq_false] at hb
    have := of_decide_eq_true hb
    omega
  · generalize hT : listAt (locE e) ((pathsE e).getD i default).Esc = t at law3 l0 li
    refine loop_idx tb_ok mixed (pathsE e).length (fun k => stElse2 e true (pathsE e) i t k) (fun _ => True) (by kernel_rfl) (by kernel_rfl) trivial ?_
    intro k hk _ J2 next2
    refine Asks.raw (lelse2_raw true e true (pathsE e) i t k J J2) ⟨fun hlt2 => ?_, fun hge2 => ?_⟩
    · have hlt2' : k < (pathsE e).length := by have := lt_of hlt2; omega
      have hto2 : (k : Int).toNat = k := by omega
      rw [hto, hto2]
      have lk := law3 _ (hmem k hlt2')
      refine ⟨⟨by omega, by omega⟩, ⟨by omega, by omega⟩, fun _ => ⟨by omega, by omega⟩, fun _ => ⟨by omega, by omega⟩, fun hb => ?_, fun _ => ?_⟩
      · exfalso
        have l4 := lk.2.2.2
        generalize (t.getD ((pathsE e).getD i default).Way.toNat default).S.Kind = a at hb l4
        generalize (t.getD ((pathsE e).getD k default).Way.toNat default).S.Kind = b at hb l4
        by_cases hk7 : a = 7
        · simp [hk7, l4 hk7] at hb
        · simp [hk7] at hb
      · rw [wrap_succ (by omega)]
        exact next2 _ hlt2' trivial (Up.of rfl)
    · rw [wrap_succ (by omega)]
      exact next _ hlt' trivial (Up.of rfl)
end
end Go.Proofs.YtiaebjpcgjkhoaaGreatDoor
namespace Go.Proofs.YtiaebjpcgjkhoaaGreatDoor
open Go.RowKit
section
variable {e : D.Env} {w : Wy}
def zeroSt : D.State := ⟨[], [], [], 0, 0, 0⟩
theorem leaf_bad {c : Int} : VV.le (.tup [.agg [.nl, .nl, .nl, intV 0, intV 0, intV 0], strV ⟨#[]⟩, intV c]) (.tup [.agg (enc_State zeroSt), strV ⟨#[]⟩, intV c]) :=
  VV.le_tup ⟨VV.le_agg ⟨VV.le_nil, VV.le_nil, VV.le_nil, VV.le_refl _, VV.le_refl _, VV.le_refl _, trivial⟩, VV.le_refl _, VV.le_refl _, trivial⟩
theorem go_none (h : PidE e) (h0 : exckP e = 0) (hn : w ∉ pathsE e) : VSpec Tryz.prog 9 [] [.agg (enc_Env e), .agg (enc_Wy w)] [] (.tup [.agg (enc_State zeroSt), strV ⟨#[]⟩, intV 42]) := by
  have hl := paths_len h
  refine vspec_raw tb_ok mixed Tryz.func9 (by kernel_rfl) rfl (xgo_raw (zeroSt, ⟨#[]⟩, 42) e w) ⟨exckP e, xck_spec h.ok.wf h.small, fun h1 => ?_, fun _ => ⟨pathsE e, xpaths_spec h, decide (w ∈ pathsE e), xcontw_spec (by omega), fun _ => ⟨trivial, leaf_bad⟩, fun h2 => ?_⟩⟩
  · rw [h0] at h1; cases h1
  · rw [decide_eq_false hn] at h2; cases h2
theorem set_proc {l : List D.Process} {t j : Nat} {p : D.Process} (hj : j < l.length) : (bif j.beq t then enc_Process p else enc_Process (l.getD j default)) = enc_Process ((l.set t p).getD j default) := by
  cases hq : j.beq t with
  | true =>
    have := Nat.eq_of_beq_eq_true hq; subst this
    simp [List.getD, hj]
  | false =>
    have hne : t ≠ j := by rintro rfl; simp at hq
    simp [List.getD, hne]
def movedE (e : D.Env) (to : Int) : D.State := { e.S with Procs := e.S.Procs.set e.Pid.toNat { psAt e e.Pid with Loc := to }, Last := e.Pid }
theorem go_still (h : PidE e) (h0 : exckP e = 0) (hin : w ∈ pathsE e) (herr : w.Err = 0) (h1 : 0 ≤ w.Way) (h2 : w.With < 0) (hk : ((listAt (locE e) w.Esc).getD w.Way.toNat default).S.Kind = 7 ∨ ((listAt (locE e) w.Esc).getD w.Way.toNat default).S.Kind = 8) :
    VSpec Tryz.prog 9 [] [.agg (enc_Env e), .agg (enc_Wy w)] [] (.tup [.agg (enc_State (movedE e ((listAt (locE e) w.Esc).getD w.Way.toNat default).To)), strV ⟨#[]⟩, intV 0]) := by
  have hl := paths_len h
  obtain ⟨_, law⟩ := ways_law hin
  obtain ⟨e1, e2, law⟩ := law h1
  obtain ⟨_, _, l3, _⟩ := law w hin
  have hlist : (bif decide (w.Esc < 0) then (locE e).Out else (locE e).Esc.getD w.Esc.toNat []) = listAt (locE e) w.Esc := rfl
  have hway := xway_spec (l := locE e) (esc := w.Esc) (i := w.Way) (fun hn => ⟨h1, by
      have hx : listAt (locE e) w.Esc = (locE e).Out := by unfold listAt; rw [decide_eq_true hn]; rfl
      rw [hx] at l3; exact l3⟩) (fun hn => ⟨e2, h1, by
      have hx : listAt (locE e) w.Esc = (locE e).Esc.getD w.Esc.toNat [] := by unfold listAt; rw [decide_eq_false (by omega)]; rfl
      rw [hx] at l3; exact l3⟩)
  rw [hlist] at hway
  generalize (listAt (locE e) w.Esc).getD w.Way.toNat default = t at hk hway ⊢
  have hcopy := copy_spec h.ok.fit
  have hdoes := does_still (e := e) (w := w) hk
  have hpid := h.ok.pid
  have hp0 := h.p0
  refine vspec_raw tb_ok mixed Tryz.func9 (by kernel_rfl) rfl (xgo_raw (movedE e t.To, ⟨#[]⟩, 0) e w) ⟨exckP e, xck_spec h.ok.wf h.small, fun h1 => ?_, fun _ => ⟨pathsE e, xpaths_spec h, decide (w ∈ pathsE e), xcontw_spec (by omega), fun hb => ?_, fun _ => ⟨fun hb => ?_, fun _ => ⟨fun hb => ?_, fun _ =>
    ⟨e.S, hcopy, locE e, xloc_spec h, t, hway, (e, ⟨#[]⟩, 0), hdoes, fun hb => ?_, fun _ => ⟨fun hb => ?_, fun _ => ⟨⟨hp0, hpid.2⟩, trivial, VV.le_tup ⟨VV.le_agg ⟨VV.le_refl _, VV.le_refl _, ?_, VV.le_refl _, VV.le_refl _, VV.le_refl _, trivial⟩, VV.le_refl _, VV.le_refl _, trivial⟩⟩⟩⟩⟩⟩⟩⟩
  · rw [h0] at h1; cases h1
  · rw [decide_eq_true hin] at hb; cases hb
  · rw [herr] at hb; cases hb
  · have := of_decide_eq_true hb; omega
  · cases hb
  · have := of_decide_eq_true hb; omega
  · have hlen : e.S.Procs.length = (movedE e t.To).Procs.length := by simp [movedE]
    show VV.le (.sl true e.S.Procs.length 4 _) (.sl true (movedE e t.To).Procs.length 4 _)
    rw [← hlen]
    refine VV.le_sl (.inl rfl) fun j hj => leL_eq ?_
    exact set_proc (t := e.Pid.toNat) (p := { psAt e e.Pid with Loc := t.To }) hj
def envAt (m : D.Model) (s : D.State) (k : Int) : D.Env := ⟨m, s, k, false, []⟩
def ableP (m : D.Model) (s : D.State) (k : Nat) : Bool := decide (((pathsE (envAt m s k)).length : Int) > 0)
def ableL (m : D.Model) (s : D.State) (k : Nat) : List Bool := (List.range s.Procs.length).map fun i => bif Nat.blt i k then ableP m s i else false
theorem ableL_len {m : D.Model} {s : D.State} {k : Nat} : (ableL m s k).length = s.Procs.length := by simp [ableL]
theorem ableL_at {m : D.Model} {s : D.State} {k j : Nat} (hj : j < s.Procs.length) : (ableL m s k).getD j false = bif Nat.blt j k then ableP m s j else false := by
  simp [ableL, List.getD, hj]
theorem able_spec {m : D.Model} {s : D.State} (hw : wf_Model m) (hs : SmallS' s) (hc : stCheck m s = 0) : VSpec Tryz.prog 13 [] [.agg (enc_Model m), .agg (enc_State s)] [] (.tup [encL_Bool true (ableL m s s.Procs.length), intV 0]) := by
  obtain ⟨hm, hf⟩ := check_zero hc
  have hfit := fit_of hm hf
  have hp := hfit.p
  have hpid : ∀ k : Nat, k < s.Procs.length → PidE (envAt m s k) := fun k hk => ⟨⟨hf, hm, hw, by show -1 ≤ (k : Int); omega, by show (k : Int) < s.Procs.length; omega⟩, by show 0 ≤ (k : Int); omega⟩
  refine vspec_raw tb_ok mixed Tryz.func13 (by kernel_rfl) rfl (xable_raw (ableL m s s.Procs.length) 0 m s) ⟨stCheck m s, stcheck_spec hw hs (fun h => (lim_of h).clp), fun h1 => ?_, fun _ => ⟨⟨by omega, by omega, by omega⟩, ?_⟩⟩
  · rw [hc] at h1; cases h1
  have hn0 : ((s.Procs.length : Int).toNat) = (ableL m s 0).length := by rw [ableL_len]; omega
  rw [hn0]
  refine SatC.le (l' := [(2, .bp 0 0), (3, .bp 1 0), (7, .ow 2 0 (ableL m s 0).length), (21, intV s.Procs.length), (22, intV 0)]) (hs' := [.box (enc_Model m), .box (enc_State s), .arr true 0 (ableL m s 0).length 1 (rowsBo (ableL m s 0))]) (leT_refl _) ⟨Ob.le_refl _, Ob.le_refl _, Ob.le_arr fun i hi => leL_eq ?_, trivial⟩ ?_
  · rw [ableL_len] at hi
    show _ = [boolV ((ableL m s 0).getD i false)]
    rw [ableL_at hi]; rfl
  refine loop_idx tb_ok mixed s.Procs.length (fun k => stXable m s (ableL m s k) k) (fun _ => True) (by kernel_rfl) (by kernel_rfl) trivial ?_
  intro k hk _ J next
  refine Asks.raw (xable1_raw _ 0 m s (ableL m s k) k J) ⟨fun hlt => ?_, fun hge => ?_⟩
  · have hlt' : k < s.Procs.length := by have := lt_of hlt; omega
    have hto : (k : Int).toNat = k := by omega
    rw [hto]
    refine ⟨pathsE (envAt m s k), (xpaths_spec (hpid k hlt')).le trivial ⟨VV.le_agg ⟨VV.le_refl _, VV.le_refl _, VV.le_refl _, VV.le_refl _, VV.le_refl _, VV.le_refl _, VV.le_refl _, VV.le_refl _, VV.le_refl _, VV.le_refl _, VV.le_refl _, VV.le_refl _, VV.le_refl _, VV.le_refl _, VV.le_refl _, VV.le_nil, trivial⟩, trivial⟩ trivial (VV.le_refl _), ⟨by omega, by rw [ableL_len]; omega⟩, next _ hlt' trivial ?_⟩
    rw [wrap_succ (by omega)]
    refine Up.mk (l' := [(2, .bp 0 0), (3, .bp 1 0), (7, .ow 2 0 (ableL m s (k + 1)).length), (21, intV s.Procs.length), (22, intV ((k + 1 : Nat) : Int))]) (hs' := [.box (enc_Model m), .box (enc_State s), .arr true 0 (ableL m s (k + 1)).length 1 (rowsBo (ableL m s (k + 1)))]) ?_ ?_ rfl
    · rw [ableL_len, ableL_len]; exact leT_refl _
    · rw [ableL_len, ableL_len]
      refine ⟨Ob.le_refl _, Ob.le_refl _, Ob.le_arr fun i hi => leL_eq ?_, trivial⟩
      show _ = [boolV ((ableL m s (k + 1)).getD i false)]
      rw [ableL_at (k := k + 1) hi]
      cases hq : i.beq k with
      | true =>
        have := Nat.eq_of_beq_eq_true hq; subst this
        rw [cond_true, cond_lt (Nat.lt_succ_self _)] <;> rfl
      | false =>
        rw [cond_false, ableL_at (k := k) hi]
        have hne : i ≠ k := by rintro rfl; simp at hq
        rcases Nat.lt_or_ge i k with h | h
        · rw [cond_lt h, cond_lt (by omega)] <;> rfl
        · rw [cond_ge h, cond_ge (by omega)] <;> rfl
  · have hge' : k = s.Procs.length := by have := ge_of hge; omega
    subst hge'
    exact ⟨trivial, VV.le_refl _⟩
end
def showM : D.Model := ⟨[], [], [], [], [⟨ByteArray.empty, 0, [], [], [⟨[⟨⟨8, -1, -1, 0, [], [], ByteArray.empty⟩, 1, 0⟩], [], false, false, false, false, false⟩, ⟨[], [], false, false, false, false, false⟩], 0, 1, 1, 1, -1⟩], -1, []⟩
def showS : D.State := ⟨[], [], [⟨0, 0, 1, []⟩], 0, -1, -1⟩
def showE : D.Env := ⟨showM, showS, 0, false, []⟩
theorem wf_showM : wf_Model showM where
  Globals := ⟨by decide, by intro y hy; cases hy⟩
  Init := ⟨by decide, by intro y hy; cases hy⟩
  Shapes := ⟨by decide, by intro y hy; cases hy⟩
  Chans := ⟨by decide, by intro y hy; cases hy⟩
  Procs := ⟨by decide, by
    intro y hy; obtain rfl := List.mem_singleton.1 hy
    refine { Name := by decide, Params := rfl, Frame := ⟨by decide, by intro y hy; cases hy⟩, Init := ⟨by decide, by intro y hy; cases hy⟩, Locs := ⟨by decide, fun y hy => ?_⟩, Start := rfl, Final := rfl, Active := rfl, Prio := rfl, Provided := rfl }
    rcases List.mem_cons.1 hy with rfl | hy
    · exact { Out := ⟨by decide, by intro y hy; obtain rfl := List.mem_singleton.1 hy; exact ⟨⟨rfl, rfl, rfl, rfl, ⟨by decide, by intro y hy; cases hy⟩, ⟨by decide, by intro y hy; cases hy⟩, by decide⟩, rfl, rfl⟩⟩, Esc := ⟨by decide, by intro y hy; cases hy⟩, Atomic := trivial, Dstep := trivial, End := trivial, Accept := trivial, Progress := trivial }
    · obtain rfl := List.mem_singleton.1 hy
      exact { Out := ⟨by decide, by intro y hy; cases hy⟩, Esc := ⟨by decide, by intro y hy; cases hy⟩, Atomic := trivial, Dstep := trivial, End := trivial, Accept := trivial, Progress := trivial }⟩
  Claim := rfl
  Exprs := ⟨by decide, by intro y hy; cases hy⟩
theorem small_showS : SmallS' showS := Fit.small ⟨by decide, by decide, fun c hc => (by cases hc), by decide, fun p hp => (by obtain rfl := List.mem_singleton.1 hp; decide)⟩
theorem ck_show : exckP showE = 0 := by kernel_rfl
theorem st_show : stCheck showM showS = 0 := by kernel_rfl
def onlyW : Wy := ⟨-1, 0, -1, -1, -1, 0⟩
theorem ways_show : pathsE showE = [onlyW] := by kernel_rfl
theorem waysE_show : waysE showE = ([onlyW], 0) := by kernel_rfl
theorem able_show : ableL showM showS showS.Procs.length = [true] := by kernel_rfl
theorem shown_spec : VSpec Tryz.prog 6 [] [] [] (boolV true) := by
  have hP : PidE showE := exck_zero wf_showM ck_show
  refine vspec_raw tb_ok mixed Tryz.func6 (by kernel_rfl) rfl (lshown_raw true) ?_
  refine SatC.pubB 8 8 (hs' := [.box (enc_Model showM), .gone 1, .gone 1, .gone 1, .box (enc_State showS), .gone 1, .box (enc_Env showE)]) (by kernel_rfl) ?_
  have hw1 := xWays_spec (e := showE) wf_showM small_showS
  rw [waysE_show] at hw1
  have hin : onlyW ∈ pathsE showE := by rw [ways_show]; exact List.mem_singleton.2 rfl
  have hg1 := go_still hP ck_show hin rfl (by decide) (by decide) (.inr (by kernel_rfl))
  rw [show ((listAt (locE showE) onlyW.Esc).getD onlyW.Way.toNat default).To = 1 by kernel_rfl] at hg1
  have hab := able_spec wf_showM small_showS st_show
  rw [able_show] at hab
  have hg2 := go_none (w := ⟨0, 0, 0, 0, 0, 0⟩) hP ck_show (by rw [ways_show]; decide)
  exact cut_raw tb_ok mixed (by kernel_rfl) (lshownA_raw true showM showS showE) ⟨([onlyW], 0), hw1, fun h => (by cases h), fun _ => ⟨by decide, (movedE showE 1, ⟨#[]⟩, 0), hg1, fun h => (by cases h), fun _ => ⟨([true], 0), hab, (zeroSt, ⟨#[]⟩, 42), hg2, fun _ => by decide, fun _ => by decide, fun _ => by decide, leafB (by kernel_rfl)⟩⟩⟩
end Go.Proofs.YtiaebjpcgjkhoaaGreatDoor
namespace Go.Proofs.YtiaebjpcgjkhoaaGreatDoor
open Go.ChangeShapes Go.WideShapes Go.ChangeAt Go.RowKit
theorem own : ownKnob Tryz.prog.godebug = none := by kernel_rfl
theorem laidOut : laidOutB Tryz.prog = true := by kernel_rfl
theorem trodAll_below {H : Type} {enc : TypeId × Value → H} {P : Program} (hl : laidOutB P = true) {W W' : World} (hb : Below W.heap.size W W') :
    ∀ (ts : List TypeId) (vs : List Value) (ds : List (DataW H)) (ps : List MemPlace), ts.all (fun t => P.readableRec t && decide (t < P.types.size)) = true →
      DataW.TrodAll enc P W 0 (fun _ => true) true ts vs ds ps → DataW.TrodAll enc P W' 0 (fun b => decide (b < W.heap.size)) true ts vs ds ps := by
  intro ts
  induction ts with
  | nil =>
    intro vs ds ps _ h
    obtain ⟨rfl, rfl, rfl⟩ := trodAll_nil h
    exact trodAll_mk0
  | cons t ts ih =>
    intro vs ds ps ht h
    rw [List.all_cons, Bool.and_eq_true, Bool.and_eq_true] at ht
    obtain ⟨v, vs', d, ds', p, q, rfl, rfl, rfl, h1, h2⟩ := trodAll_cons h
    have lt1 : ∀ x ∈ p, x.block < W.heap.size := by obtain ⟨m, hm⟩ := h1; exact DataW.trod_lt m _ _ _ hm
    exact trodAll_cons_mk (Below.trod hl ht.1.1 (of_decide_eq_true ht.1.2) h1 hb lt1) (ih vs' ds' q ht.2 h2)
theorem law_post {H : Type} {enc : TypeId × Value → H} {P : Program} {f : Func} {s : ChangeSpec} {tb : TypeId} (hl : laidOutB P = true)
    (hp : f.params.toList.all (fun t => P.readableRec t && decide (t < P.types.size)) = true) (hr : f.resultTypes = #[tb]) (htb : P.underlying tb = some .bool) (hvars : s.vars = [])
    {W W' : World} {args : Array Value} {ds gs : List (DataW H)} {before : List MemPlace}
    (hW : DataW.Whole enc P f.params.toList s.vars false W args.toList ds gs before)
    (hfn : ∀ ds, ds.length = f.params.toList.length → s.fn H ds = { results := [.lit (.bool true)], args := ds }) (hb : Below W.heap.size W W') :
    s.post enc P f false true false false W args (.bool true) W' := by
  have hW' := hW
  obtain ⟨p, q, hA, hV, rfl, hfz, hnd⟩ := hW
  rw [hvars] at hV
  obtain ⟨rfl, rfl⟩ := trodVars_none hV
  have hlen : ∀ (ts : List TypeId) (vs : List Value) (ds : List (DataW H)) (ps : List MemPlace), DataW.TrodAll enc P W 0 (fun _ => true) true ts vs ds ps → ds.length = ts.length := by
    intro ts
    induction ts with
    | nil => intro vs ds ps h; obtain ⟨_, rfl, _⟩ := trodAll_nil h; rfl
    | cons t ts ih => intro vs ds ps h; obtain ⟨v, vs', d, ds', p, q, rfl, rfl, rfl, _, h2⟩ := trodAll_cons h; simp [ih _ _ _ h2]
  have hf := hfn (ds ++ []) (by simpa using hlen _ _ _ _ hA)
  refine ⟨ds, [], _, [], p, [], hW', ?_, ?_, ?_, hb.frame _, fun h => by cases h⟩
  · rw [hf, hr]; exact trodAll_mk1 (shut_bool htb _)
  · rw [hf, List.append_nil]; exact trodAll_below hl hb _ _ _ _ hp hA
  · rw [hf, hvars]; rfl
end Go.Proofs.YtiaebjpcgjkhoaaGreatDoor
namespace Go.Proofs.YtiaebjpcgjkhoaaGreatDoor
open Go.ChangeShapes Go.WideShapes Go.ChangeAt Go.RowKit
theorem gTabT : (Tryz.prog.globals[0]?).map (·.type) = some 225 := by kernel_rfl
theorem cellsTab : Tryz.prog.cellsOf 225 = 20 := by kernel_rfl
theorem cellsU64 : Tryz.prog.cellsOf 137 = 1 := by kernel_rfl
theorem gDbT : (Tryz.prog.globals[2]?).map (·.type) = some 244 := by kernel_rfl
theorem cellsDb : Tryz.prog.cellsOf 244 = 64 := by kernel_rfl
theorem cellsU8 : Tryz.prog.cellsOf 5 = 1 := by kernel_rfl
theorem noHandles : Rows.execElseRow.laid.filter (fun x => x.2.handleName?.isSome) = [] := by kernel_rfl
theorem libAt_of {W : World} (h : laidMetH Tryz.prog Rows.execElseRow.laid W) : LibAt W ∧ ∀ k, k ∈ libB → k < W.heap.size := by
  unfold laidMetH at h
  rw [noHandles] at h
  have h : laidMet Tryz.prog Rows.execElseRow.laid W := h
  have h1 := h.tail
  have h2 := h1.tail
  have hL : LibAt W := ⟨Lib.tabIs_of_head libTab gTabT Tryz.underlying225 Tryz.underlying137 cellsU64 cellsTab h2,
    Lib.tabIs_of_head libDb gDbT Tryz.underlying244 Tryz.underlying5 cellsU8 cellsDb h1⟩
  refine ⟨hL, fun k hk => ?_⟩
  have lt : ∀ {g i : Nat} {v : Value}, W.cell? ⟨g, i, none⟩ = some v → g < W.heap.size := fun {g i v} h => by
    rcases Nat.lt_or_ge g W.heap.size with h' | h'
    · exact h'
    · simp [World.cell?, Array.getElem?_eq_none h'] at h
  simp only [libB, List.mem_cons, List.mem_nil_iff, or_false] at hk
  rcases hk with rfl | rfl
  · exact lt (hL.tab.cell libTab 0 (by decide))
  · exact lt (hL.db.cell libDb 0 (by decide))
def flat1 : DataW Unit → Value
  | .lit (.int k n) => .int k n
  | _ => undef
def flatT : DataW Unit → Array Value
  | .agg l => (l.flatMap fun x => match x with
    | .agg m => m.map flat1
    | y => [flat1 y]).toArray
  | _ => #[]
def putO (c : Array Value) : Obj → Obj
  | .cells _ t frozen => .cells c t frozen
  | o => o
noncomputable def laidWorld (os : Os) : World :=
  let w0 := World.holding Tryz.prog os ⟨#[], #[], []⟩
  { w0 with heap := ((w0.heap.modify 1 (putO (flatT Rows.laid_math_bits_deBruijn32tab))).modify 2 (putO (flatT Rows.laid_math_bits_deBruijn64tab))).modify 0 (putO (flatT Rows.laid_internal_strconv_uint64pow10)) }
def nilS : Value := .slice none 0 0
def zI : Value := .int .i64 0
def wArgs : Array Value := #[.agg #[nilS, nilS, nilS, nilS, nilS, zI, nilS, nilS, nilS, nilS, zI, zI, zI, zI, .bool false, nilS]]
set_option maxRecDepth 100000 in
theorem laid_met (os : Os) : laidMet Tryz.prog Rows.execElseRow.laid ((laidWorld os).forCall (fun _ _ => 0) ⟨#[], wArgs, []⟩).memory :=
  laidMet_of_run' 8 (by kernel_rfl) (by kernel_rfl)
end Go.Proofs.YtiaebjpcgjkhoaaGreatDoor
