/-
  Texts, joined: ExH, ValPlain, TwoPlain, ExP, Scope, ExOne, ExW1, ExW2, ExW3, ExW4, ExW5, EbP, EbS, EcP, VjThaw, VjThawF, VjOwn, EcE, EcA, EcH, EcW1.
-/
import Derived.Test.YtiaebjpcgjkhoaaGreatDoorPkC
import Derived.KernelRfl
import Derived.WalkKit
import Derived.Test.YtiaebjpcgjkhoaaGreatDoorProg
import Derived.Lib.Hide
import Derived.WalkSpells
import Derived.WalkLawsBesides
import Derived.BigQuiet
import Derived.Deep.QuietTactic
namespace Go.Proofs.YtiaebjpcgjkhoaaGreatDoor
open Go.RowKit
set_option maxRecDepth 100000
theorem excheck_raw (r : Int) (e : D.Env) (x : Int) : (fnCtx Tryz.prog tb shEx annNo true Tryz.f51 [] (intV r)).goal (St.init [] [.agg (enc_Env e), intV x]) =
    (∃ (y : Int), VSpec Tryz.prog 25 [] [VV.agg (enc_Model e.M), VV.agg (enc_State e.S)] [] (intV y) ∧ ((y != (0 : Int)) = true → leO [] [] ∧ (intV y).le (intV r)) ∧ ((y != (0 : Int)) = false → ((bif bif bif decide (e.Pid < (-1 : Int)) then true else decide (e.Pid ≥ (↑e.S.Procs.length : Int)) then true else decide (x < (0 : Int)) then true else decide (x ≥ (↑e.M.Exprs.length : Int))) = true → leO [] [] ∧ (intV (42 : Int)).le (intV r)) ∧ ((bif bif bif decide (e.Pid < (-1 : Int)) then true else decide (e.Pid ≥ (↑e.S.Procs.length : Int)) then true else decide (x < (0 : Int)) then true else decide (x ≥ (↑e.M.Exprs.length : Int))) = false → leO [] [] ∧ (intV (0 : Int)).le (intV r)))) := by kernel_rfl
theorem eeval_raw (v r : Int) (e : D.Env) (x : Int) : (fnCtx Tryz.prog tb shEx annNo true Tryz.f39 [] (.tup [intV v, intV r])).goal (St.init [] [.agg (enc_Env e), intV x]) =
    (∃ (y : Int), VSpec Tryz.prog 51 [] [VV.agg (enc_Env e), intV x] [] (intV y) ∧ ((y != (0 : Int)) = true → leO [] [] ∧ (VV.tup [intV (0 : Int), intV y]).le (VV.tup [intV v, intV r])) ∧ ((y != (0 : Int)) = false → ∃ (y : Int × Int), VSpec Tryz.prog 52 [] [VV.tp (enc_Env e), intV x] [] (VV.tup [intV y.fst, intV y.snd]) ∧ leO [] [] ∧ (VV.tup [intV y.fst, intV y.snd]).le (VV.tup [intV v, intV r]))) := by kernel_rfl
theorem echan_raw (v r : Int) (e : D.Env) (x : Int) : (fnCtx Tryz.prog tb shEx annNo true Tryz.f92 [] (.tup [intV v, intV r])).goal (St.init [] [.agg (enc_Env e), intV x]) =
    (∃ (y : Int), VSpec Tryz.prog 51 [] [VV.agg (enc_Env e), intV x] [] (intV y) ∧ ((y != (0 : Int)) = true → leO [] [] ∧ (VV.tup [intV (0 : Int), intV y]).le (VV.tup [intV v, intV r])) ∧ ((y != (0 : Int)) = false → ∃ (y : Int × Int), VSpec Tryz.prog 118 [] [VV.tp (enc_Env e), intV x] [] (VV.tup [intV y.fst, intV y.snd]) ∧ leO [] [] ∧ (VV.tup [intV y.fst, intV y.snd]).le (VV.tup [intV v, intV r]))) := by kernel_rfl
theorem truth_raw (v r : Int) (c : Bool) : (fnCtx Tryz.prog tb shEx annNo true Tryz.f84 [] (.tup [intV v, intV r])).goal (St.init [] [boolV c]) =
    ((c = true → leO [] [] ∧ (VV.tup [intV (1 : Int), intV (0 : Int)]).le (VV.tup [intV v, intV r])) ∧ (c = false → leO [] [] ∧ (VV.tup [intV (0 : Int), intV (0 : Int)]).le (VV.tup [intV v, intV r]))) := by kernel_rfl
theorem holder_raw (v r : Int) (e : D.Env) (x : D.Var) : (fnCtx Tryz.prog tb shEx annNo true Tryz.f116 [] (.tup [intV v, intV r])).goal (St.init [] [.tp (enc_Env e), .agg (enc_Var x)]) =
    (((x.Scope == 0) = true → ∃ (y : Int), VSpec Tryz.prog 146 [] [VV.agg (enc_Var x)] [] (intV y) ∧ (decide (y > (↑e.S.Globals.length : Int)) = true → leO [] [] ∧ (VV.tup [intV (0 : Int), intV (42 : Int)]).le (VV.tup [intV v, intV r])) ∧ (decide (y > (↑e.S.Globals.length : Int)) = false → leO [] [] ∧ (VV.tup [intV (-1 : Int), intV (0 : Int)]).le (VV.tup [intV v, intV r]))) ∧ ((x.Scope == 0) = false → ((x.Scope == 1) = true → ∃ (y : Int), ((true && decide (e.Pid < (0 : Int)) == false) = true → VSpec Tryz.prog 146 [] [VV.agg (enc_Var x)] [] (intV y)) ∧ ((true && decide (e.Pid < (0 : Int)) == false) = true → (0 : Int) ≤ e.Pid ∧ e.Pid < (↑e.S.Procs.length : Int)) ∧ ((bif decide (e.Pid < (0 : Int)) then true else decide (y > (↑(e.S.Procs.getD e.Pid.toNat default).Frame.length : Int))) = true → leO [] [] ∧ (VV.tup [intV (0 : Int), intV (42 : Int)]).le (VV.tup [intV v, intV r])) ∧ ((bif decide (e.Pid < (0 : Int)) then true else decide (y > (↑(e.S.Procs.getD e.Pid.toNat default).Frame.length : Int))) = false → leO [] [] ∧ (VV.tup [intV e.Pid, intV (0 : Int)]).le (VV.tup [intV v, intV r]))) ∧ ((x.Scope == 1) = false → ∃ (y : Int × Int), VSpec Tryz.prog 52 [] [VV.tp (enc_Env e), intV x.Who] [] (VV.tup [intV y.fst, intV y.snd]) ∧ ((y.snd != (0 : Int)) = true → leO [] [] ∧ (VV.tup [intV (0 : Int), intV y.snd]).le (VV.tup [intV v, intV r])) ∧ ((y.snd != (0 : Int)) = false → ((true && (bif decide (y.fst < (0 : Int)) then true else decide (y.fst ≥ (↑e.S.Procs.length : Int))) == false) = true → (0 : Int) ≤ y.fst ∧ y.fst < (↑e.S.Procs.length : Int)) ∧ ((bif bif decide (y.fst < (0 : Int)) then true else decide (y.fst ≥ (↑e.S.Procs.length : Int)) then true else (e.S.Procs.getD y.fst.toNat default).Type_ != x.Type_) = true → leO [] [] ∧ (VV.tup [intV (0 : Int), intV (52 : Int)]).le (VV.tup [intV v, intV r])) ∧ ((bif bif decide (y.fst < (0 : Int)) then true else decide (y.fst ≥ (↑e.S.Procs.length : Int)) then true else (e.S.Procs.getD y.fst.toNat default).Type_ != x.Type_) = false → ∃ (y_1 : Int), VSpec Tryz.prog 146 [] [VV.agg (enc_Var x)] [] (intV y_1) ∧ ((0 : Int) ≤ y.fst ∧ y.fst < (↑e.S.Procs.length : Int)) ∧ (decide (y_1 > (↑(e.S.Procs.getD y.fst.toNat default).Frame.length : Int)) = true → leO [] [] ∧ (VV.tup [intV (0 : Int), intV (42 : Int)]).le (VV.tup [intV v, intV r])) ∧ (decide (y_1 > (↑(e.S.Procs.getD y.fst.toNat default).Frame.length : Int)) = false → leO [] [] ∧ (VV.tup [intV y.fst, intV (0 : Int)]).le (VV.tup [intV v, intV r]))))))) := by kernel_rfl
theorem slot_raw (p k r : Int) (e : D.Env) (x : Int) : (fnCtx Tryz.prog tb shEx ann_slot true Tryz.f80 [] (.tup [intV p, intV k, intV r])).goal (St.init [] [.tp (enc_Env e), intV x]) =
    (((0 : Int) ≤ x ∧ x < (↑e.M.Exprs.length : Int)) ∧ ((0 : Int) ≤ x ∧ x < (↑e.M.Exprs.length : Int)) ∧ (((e.M.Exprs.getD x.toNat default).Op != (2 : Int)) = true → leO [] [] ∧ (VV.tup [intV (0 : Int), intV (0 : Int), intV (42 : Int)]).le (VV.tup [intV p, intV k, intV r])) ∧ (((e.M.Exprs.getD x.toNat default).Op != (2 : Int)) = false → ∃ (y : Int × Int), VSpec Tryz.prog 116 [] [VV.tp (enc_Env e), VV.agg (enc_Var (e.M.Exprs.getD x.toNat default).V)] [] (VV.tup [intV y.fst, intV y.snd]) ∧ ((y.snd != (0 : Int)) = true → leO [] [] ∧ (VV.tup [intV (0 : Int), intV (0 : Int), intV y.snd]).le (VV.tup [intV p, intV k, intV r])) ∧ ((y.snd != (0 : Int)) = false → SatC (fnCtx Tryz.prog tb shEx ann_slot true Tryz.f80 [] (VV.tup [intV p, intV k, intV r])) [1, 1, 1, 1, 1, 1, 0, 1, 0] (mkSt [(0, VV.tp (enc_Env e)), (8, intV y.fst), (10, intV (e.M.Exprs.getD x.toNat default).V.Slot), (46, encL_Dim true (e.M.Exprs.getD x.toNat default).V.Dims), (47, intV (↑(e.M.Exprs.getD x.toNat default).V.Dims.length : Int)), (48, intV (0 : Int))] [])))) := by kernel_rfl
theorem xchan_raw (v r : Int) (e : D.Env) (x : Int) : (fnCtx Tryz.prog tb shEx annNo true Tryz.f118 [] (.tup [intV v, intV r])).goal (St.init [] [.tp (enc_Env e), intV x]) =
    (∃ (y : Int × Int), VSpec Tryz.prog 52 [] [VV.tp (enc_Env e), intV x] [] (VV.tup [intV y.fst, intV y.snd]) ∧ ((y.snd != (0 : Int)) = true → leO [] [] ∧ (VV.tup [intV (0 : Int), intV y.snd]).le (VV.tup [intV v, intV r])) ∧ ((y.snd != (0 : Int)) = false → ((bif decide (y.fst < (1 : Int)) then true else decide (y.fst > (↑e.S.Chans.length : Int))) = true → leO [] [] ∧ (VV.tup [intV (0 : Int), intV (49 : Int)]).le (VV.tup [intV v, intV r])) ∧ ((bif decide (y.fst < (1 : Int)) then true else decide (y.fst > (↑e.S.Chans.length : Int))) = false → leO [] [] ∧ (VV.tup [intV y.fst, intV (0 : Int)]).le (VV.tup [intV v, intV r])))) := by kernel_rfl
theorem asks_raw (v r : Int) (e : D.Env) (x : D.Expr) : (fnCtx Tryz.prog tb shEx annNo true Tryz.f82 [] (.tup [intV v, intV r])).goal (St.init [] [.tp (enc_Env e), .agg (enc_Expr x)]) =
    (∃ (y : Int × Int), VSpec Tryz.prog 118 [] [VV.tp (enc_Env e), intV x.A] [] (VV.tup [intV y.fst, intV y.snd]) ∧ ((y.snd != (0 : Int)) = true → leO [] [] ∧ (VV.tup [intV (0 : Int), intV y.snd]).le (VV.tup [intV v, intV r])) ∧ ((y.snd != (0 : Int)) = false → ((0 : Int) ≤ IntKind.i64.wrap (y.fst - (1 : Int)) ∧ IntKind.i64.wrap (y.fst - (1 : Int)) < (↑e.S.Chans.length : Int)) ∧ ((0 : Int) ≤ (e.S.Chans.getD (IntKind.i64.wrap (y.fst - (1 : Int))).toNat default).Shape ∧ (e.S.Chans.getD (IntKind.i64.wrap (y.fst - (1 : Int))).toNat default).Shape < (↑e.M.Shapes.length : Int)) ∧ ((x.Op == 25) = true → leO [] [] ∧ (VV.tup [intV (↑(e.S.Chans.getD (IntKind.i64.wrap (y.fst - (1 : Int))).toNat default).Queue.length : Int), intV (0 : Int)]).le (VV.tup [intV v, intV r])) ∧ ((x.Op == 25) = false → ((x.Op == 26) = true → ∃ (y_1 : Int × Int), VSpec Tryz.prog 84 [] [boolV (decide ((↑(e.S.Chans.getD (IntKind.i64.wrap (y.fst - (1 : Int))).toNat default).Queue.length : Int) ≥ (e.M.Shapes.getD (e.S.Chans.getD (IntKind.i64.wrap (y.fst - (1 : Int))).toNat default).Shape.toNat default).Room))] [] (VV.tup [intV y_1.fst, intV y_1.snd]) ∧ leO [] [] ∧ (VV.tup [intV y_1.fst, intV y_1.snd]).le (VV.tup [intV v, intV r])) ∧ ((x.Op == 26) = false → ((x.Op == 28) = true → ∃ (y_1 : Int × Int), VSpec Tryz.prog 84 [] [boolV (decide ((↑(e.S.Chans.getD (IntKind.i64.wrap (y.fst - (1 : Int))).toNat default).Queue.length : Int) < (e.M.Shapes.getD (e.S.Chans.getD (IntKind.i64.wrap (y.fst - (1 : Int))).toNat default).Shape.toNat default).Room))] [] (VV.tup [intV y_1.fst, intV y_1.snd]) ∧ leO [] [] ∧ (VV.tup [intV y_1.fst, intV y_1.snd]).le (VV.tup [intV v, intV r])) ∧ ((x.Op == 28) = false → ((x.Op == 27) = true → ∃ (y_1 : Int × Int), VSpec Tryz.prog 84 [] [boolV ((↑(e.S.Chans.getD (IntKind.i64.wrap (y.fst - (1 : Int))).toNat default).Queue.length : Int) == 0)] [] (VV.tup [intV y_1.fst, intV y_1.snd]) ∧ leO [] [] ∧ (VV.tup [intV y_1.fst, intV y_1.snd]).le (VV.tup [intV v, intV r])) ∧ ((x.Op == 27) = false → ∃ (y_1 : Int × Int), VSpec Tryz.prog 84 [] [boolV (decide ((↑(e.S.Chans.getD (IntKind.i64.wrap (y.fst - (1 : Int))).toNat default).Queue.length : Int) > (0 : Int)))] [] (VV.tup [intV y_1.fst, intV y_1.snd]) ∧ leO [] [] ∧ (VV.tup [intV y_1.fst, intV y_1.snd]).le (VV.tup [intV v, intV r]))))))) := by kernel_rfl
theorem poll_raw (v r : Int) (e : D.Env) (x : D.Expr) : (fnCtx Tryz.prog tb shEx ann_poll true Tryz.f83 [] (.tup [intV v, intV r])).goal (St.init [] [.tp (enc_Env e), .agg (enc_Expr x)]) =
    (∃ (y : Int × Int), VSpec Tryz.prog 118 [] [VV.tp (enc_Env e), intV x.A] [] (VV.tup [intV y.fst, intV y.snd]) ∧ ((y.snd != (0 : Int)) = true → leO [] [] ∧ (VV.tup [intV (0 : Int), intV y.snd]).le (VV.tup [intV v, intV r])) ∧ ((y.snd != (0 : Int)) = false → ((0 : Int) ≤ IntKind.i64.wrap (y.fst - (1 : Int)) ∧ IntKind.i64.wrap (y.fst - (1 : Int)) < (↑e.S.Chans.length : Int)) ∧ ((0 : Int) ≤ (e.S.Chans.getD (IntKind.i64.wrap (y.fst - (1 : Int))).toNat default).Shape ∧ (e.S.Chans.getD (IntKind.i64.wrap (y.fst - (1 : Int))).toNat default).Shape < (↑e.M.Shapes.length : Int)) ∧ (((↑(e.M.Shapes.getD (e.S.Chans.getD (IntKind.i64.wrap (y.fst - (1 : Int))).toNat default).Shape.toNat default).Fields.length : Int) != (↑x.Args.length : Int)) = true → leO [] [] ∧ (VV.tup [intV (0 : Int), intV (49 : Int)]).le (VV.tup [intV v, intV r])) ∧ (((↑(e.M.Shapes.getD (e.S.Chans.getD (IntKind.i64.wrap (y.fst - (1 : Int))).toNat default).Shape.toNat default).Fields.length : Int) != (↑x.Args.length : Int)) = false → ((0 : Int) ≤ (↑x.Args.length : Int) ∧ (↑x.Args.length : Int) ≤ (↑x.Args.length : Int) ∧ (↑x.Args.length : Int) * (↑8 : Int) ≤ (140737488355328 : Int)) ∧ SatC (fnCtx Tryz.prog tb shEx ann_poll true Tryz.f83 [] (VV.tup [intV v, intV r])) [1, 1, 1, 1, 1, 1, 0, 1, 0] (mkSt [(0, VV.tp (enc_Env e)), (3, VV.bp 0 0), (8, VV.bp 1 0), (9, VV.ow 2 0 (↑x.Args.length : Int).toNat), (51, encL_Int true x.Args), (52, intV (↑x.Args.length : Int)), (53, intV (0 : Int))] [Ob.box (enc_Expr x), Ob.box [intV (e.S.Chans.getD (IntKind.i64.wrap (y.fst - (1 : Int))).toNat default).Shape, encL_Ints true (e.S.Chans.getD (IntKind.i64.wrap (y.fst - (1 : Int))).toNat default).Queue], Ob.arr true 0 (↑x.Args.length : Int).toNat 1 fun (_ : Nat) => ((fnCtx Tryz.prog tb shEx ann_poll true Tryz.f83 [] (VV.tup [intV v, intV r])).T (2 : TypeId)).zero])))) := by kernel_rfl
theorem remote_raw (v r : Int) (e : D.Env) (x : D.Expr) : (fnCtx Tryz.prog tb shEx annNo true Tryz.f86 [] (.tup [intV v, intV r])).goal (St.init [] [.tp (enc_Env e), .agg (enc_Expr x)]) =
    (∃ (y : Int × Int), VSpec Tryz.prog 52 [] [VV.tp (enc_Env e), intV x.A] [] (VV.tup [intV y.fst, intV y.snd]) ∧ ((y.snd != (0 : Int)) = true → leO [] [] ∧ (VV.tup [intV (0 : Int), intV y.snd]).le (VV.tup [intV v, intV r])) ∧ ((y.snd != (0 : Int)) = false → ((true && (bif decide (y.fst < (0 : Int)) then true else decide (y.fst ≥ (↑e.S.Procs.length : Int))) == false && (x.Op == 38) == true) = true → (0 : Int) ≤ y.fst ∧ y.fst < (↑e.S.Procs.length : Int)) ∧ ((bif bif decide (y.fst < (0 : Int)) then true else decide (y.fst ≥ (↑e.S.Procs.length : Int)) then true else bif x.Op == 38 then (e.S.Procs.getD y.fst.toNat default).Type_ != x.N else false) = true → leO [] [] ∧ (VV.tup [intV (0 : Int), intV (52 : Int)]).le (VV.tup [intV v, intV r])) ∧ ((bif bif decide (y.fst < (0 : Int)) then true else decide (y.fst ≥ (↑e.S.Procs.length : Int)) then true else bif x.Op == 38 then (e.S.Procs.getD y.fst.toNat default).Type_ != x.N else false) = false → ((x.Op == 37) = true → ((0 : Int) ≤ y.fst ∧ y.fst < (↑e.S.Procs.length : Int)) ∧ leO [] [] ∧ (VV.tup [intV (e.S.Procs.getD y.fst.toNat default).Loc, intV (0 : Int)]).le (VV.tup [intV v, intV r])) ∧ ((x.Op == 37) = false → ((0 : Int) ≤ y.fst ∧ y.fst < (↑e.S.Procs.length : Int)) ∧ ∃ (y_1 : Bool), VSpec Tryz.prog 119 [] [encL_Int true x.Args, intV (e.S.Procs.getD y.fst.toNat default).Loc] [] (boolV y_1) ∧ ∃ (y : Int × Int), VSpec Tryz.prog 84 [] [boolV y_1] [] (VV.tup [intV y.fst, intV y.snd]) ∧ leO [] [] ∧ (VV.tup [intV y.fst, intV y.snd]).le (VV.tup [intV v, intV r]))))) := by kernel_rfl
theorem logic_raw (v r : Int) (e : D.Env) (x : D.Expr) : (fnCtx Tryz.prog tb shEx annNo true Tryz.f81 [] (.tup [intV v, intV r])).goal (St.init [] [.tp (enc_Env e), .agg (enc_Expr x)]) =
    (∃ (y : Int × Int), VSpec Tryz.prog 52 [] [VV.tp (enc_Env e), intV x.A] [] (VV.tup [intV y.fst, intV y.snd]) ∧ ((y.snd != (0 : Int)) = true → leO [] [] ∧ (VV.tup [intV (0 : Int), intV y.snd]).le (VV.tup [intV v, intV r])) ∧ ((y.snd != (0 : Int)) = false → ((bif x.Op == 24 then y.fst != (0 : Int) else false) = true → ∃ (y : Int × Int), VSpec Tryz.prog 117 [] [intV x.B, VV.tp [VV.tp (enc_Env e)]] [] (VV.tup [intV y.fst, intV y.snd]) ∧ leO [] [] ∧ (VV.tup [intV y.fst, intV y.snd]).le (VV.tup [intV v, intV r])) ∧ ((bif x.Op == 24 then y.fst != (0 : Int) else false) = false → ((x.Op == 24) = true → ∃ (y : Int × Int), VSpec Tryz.prog 117 [] [intV x.C, VV.tp [VV.tp (enc_Env e)]] [] (VV.tup [intV y.fst, intV y.snd]) ∧ leO [] [] ∧ (VV.tup [intV y.fst, intV y.snd]).le (VV.tup [intV v, intV r])) ∧ ((x.Op == 24) = false → ((bif bif x.Op == 22 then y.fst == 0 else false then true else bif x.Op == 23 then y.fst != (0 : Int) else false) = true → ∃ (y_1 : Int × Int), VSpec Tryz.prog 84 [] [boolV (y.fst != (0 : Int))] [] (VV.tup [intV y_1.fst, intV y_1.snd]) ∧ leO [] [] ∧ (VV.tup [intV y_1.fst, intV y_1.snd]).le (VV.tup [intV v, intV r])) ∧ ((bif bif x.Op == 22 then y.fst == 0 else false then true else bif x.Op == 23 then y.fst != (0 : Int) else false) = false → ∃ (y : Int × Int), VSpec Tryz.prog 117 [] [intV x.B, VV.tp [VV.tp (enc_Env e)]] [] (VV.tup [intV y.fst, intV y.snd]) ∧ ((y.snd != (0 : Int)) = true → leO [] [] ∧ (VV.tup [intV (0 : Int), intV y.snd]).le (VV.tup [intV v, intV r])) ∧ ((y.snd != (0 : Int)) = false → ∃ (y_1 : Int × Int), VSpec Tryz.prog 84 [] [boolV (y.fst != (0 : Int))] [] (VV.tup [intV y_1.fst, intV y_1.snd]) ∧ leO [] [] ∧ (VV.tup [intV y_1.fst, intV y_1.snd]).le (VV.tup [intV v, intV r]))))))) := by kernel_rfl
theorem sums_raw (v r : Int) (e : D.Env) (x : D.Expr) : (fnCtx Tryz.prog tb shEx annNo true Tryz.f87 [] (.tup [intV v, intV r])).goal (St.init [] [.tp (enc_Env e), .agg (enc_Expr x)]) =
    (∃ (y : Int × Int), VSpec Tryz.prog 52 [] [VV.tp (enc_Env e), intV x.A] [] (VV.tup [intV y.fst, intV y.snd]) ∧ ((y.snd != (0 : Int)) = true → leO [] [] ∧ (VV.tup [intV (0 : Int), intV y.snd]).le (VV.tup [intV v, intV r])) ∧ ((y.snd != (0 : Int)) = false → ((bif bif x.Op == 3 then true else x.Op == 4 then true else x.Op == 5) = true → ∃ (y_1 : Int × Int), VSpec Tryz.prog 120 [] [intV x.Op, intV y.fst] [] (VV.tup [intV y_1.fst, intV y_1.snd]) ∧ leO [] [] ∧ (VV.tup [intV y_1.fst, intV y_1.snd]).le (VV.tup [intV v, intV r])) ∧ ((bif bif x.Op == 3 then true else x.Op == 4 then true else x.Op == 5) = false → ∃ (y_1 : Int × Int), VSpec Tryz.prog 52 [] [VV.tp (enc_Env e), intV x.B] [] (VV.tup [intV y_1.fst, intV y_1.snd]) ∧ ((y_1.snd != (0 : Int)) = true → leO [] [] ∧ (VV.tup [intV (0 : Int), intV y_1.snd]).le (VV.tup [intV v, intV r])) ∧ ((y_1.snd != (0 : Int)) = false → ∃ (y_2 : Int × Int), VSpec Tryz.prog 121 [] [intV x.Op, intV y.fst, intV y_1.fst] [] (VV.tup [intV y_2.fst, intV y_2.snd]) ∧ leO [] [] ∧ (VV.tup [intV y_2.fst, intV y_2.snd]).le (VV.tup [intV v, intV r]))))) := by kernel_rfl
theorem progress_raw (b : Bool) (e : D.Env) : (fnCtx Tryz.prog tb shEx ann_progress true Tryz.f85 [] (boolV b)).goal (St.init [] [.tp (enc_Env e)]) =
    (SatC (fnCtx Tryz.prog tb shEx ann_progress true Tryz.f85 [] (boolV b)) [1, 0, 1, 0] (mkSt [(0, VV.tp (enc_Env e)), (9, encL_Process true e.S.Procs), (10, intV (↑e.S.Procs.length : Int)), (11, intV (0 : Int))] [])) := by kernel_rfl
theorem eval_raw (v r : Int) (e : D.Env) (x : Int) : (fnCtx Tryz.prog tb shEx annNo true Tryz.f52 [] (.tup [intV v, intV r])).goal (St.init [] [.tp (enc_Env e), intV x]) =
    (((0 : Int) ≤ x ∧ x < (↑e.M.Exprs.length : Int)) ∧ (((e.M.Exprs.getD x.toNat default).Op == 1) = true → leO [] [] ∧ (VV.tup [intV (e.M.Exprs.getD x.toNat default).N, intV (0 : Int)]).le (VV.tup [intV v, intV r])) ∧ (((e.M.Exprs.getD x.toNat default).Op == 1) = false → (((e.M.Exprs.getD x.toNat default).Op == 2) = true → ∃ (y : Int × Int × Int), VSpec Tryz.prog 80 [] [VV.tp (enc_Env e), intV x] [] (VV.tup [intV y.fst, intV y.snd.fst, intV y.snd.snd]) ∧ ((y.snd.snd != (0 : Int)) = true → leO [] [] ∧ (VV.tup [intV (0 : Int), intV y.snd.snd]).le (VV.tup [intV v, intV r])) ∧ ((y.snd.snd != (0 : Int)) = false → (decide (y.fst < (0 : Int)) = true → ((0 : Int) ≤ y.snd.fst ∧ y.snd.fst < (↑e.S.Globals.length : Int)) ∧ leO [] [] ∧ (VV.tup [intV (e.S.Globals.getD y.snd.fst.toNat (0 : Int)), intV (0 : Int)]).le (VV.tup [intV v, intV r])) ∧ (decide (y.fst < (0 : Int)) = false → ((0 : Int) ≤ y.fst ∧ y.fst < (↑e.S.Procs.length : Int)) ∧ ((0 : Int) ≤ y.snd.fst ∧ y.snd.fst < (↑(e.S.Procs.getD y.fst.toNat default).Frame.length : Int)) ∧ leO [] [] ∧ (VV.tup [intV ((e.S.Procs.getD y.fst.toNat default).Frame.getD y.snd.fst.toNat (0 : Int)), intV (0 : Int)]).le (VV.tup [intV v, intV r])))) ∧ (((e.M.Exprs.getD x.toNat default).Op == 2) = false → (((e.M.Exprs.getD x.toNat default).Op == 22) = true → (((e.M.Exprs.getD x.toNat default).Op == 22) = true → ∃ (y : Int × Int), VSpec Tryz.prog 81 [] [VV.tp (enc_Env e), VV.agg (enc_Expr (e.M.Exprs.getD x.toNat default))] [] (VV.tup [intV y.fst, intV y.snd]) ∧ leO [] [] ∧ (VV.tup [intV y.fst, intV y.snd]).le (VV.tup [intV v, intV r])) ∧ (((e.M.Exprs.getD x.toNat default).Op == 22) = false → (((e.M.Exprs.getD x.toNat default).Op == 25) = true → (((e.M.Exprs.getD x.toNat default).Op == 25) = true → ∃ (y : Int × Int), VSpec Tryz.prog 82 [] [VV.tp (enc_Env e), VV.agg (enc_Expr (e.M.Exprs.getD x.toNat default))] [] (VV.tup [intV y.fst, intV y.snd]) ∧ leO [] [] ∧ (VV.tup [intV y.fst, intV y.snd]).le (VV.tup [intV v, intV r])) ∧ (((e.M.Exprs.getD x.toNat default).Op == 25) = false → (((e.M.Exprs.getD x.toNat default).Op == 30) = true → ∃ (y : Int × Int), VSpec Tryz.prog 83 [] [VV.tp (enc_Env e), VV.agg (enc_Expr (e.M.Exprs.getD x.toNat default))] [] (VV.tup [intV y.fst, intV y.snd]) ∧ leO [] [] ∧ (VV.tup [intV y.fst, intV y.snd]).le (VV.tup [intV v, intV r])) ∧ (((e.M.Exprs.getD x.toNat default).Op == 30) = false → (((e.M.Exprs.getD x.toNat default).Op == 31) = true → leO [] [] ∧ (VV.tup [intV e.Pid, intV (0 : Int)]).le (VV.tup [intV v, intV r])) ∧ (((e.M.Exprs.getD x.toNat default).Op == 31) = false → (((e.M.Exprs.getD x.toNat default).Op == 32) = true → leO [] [] ∧ (VV.tup [intV e.S.Last, intV (0 : Int)]).le (VV.tup [intV v, intV r])) ∧ (((e.M.Exprs.getD x.toNat default).Op == 32) = false → (((e.M.Exprs.getD x.toNat default).Op == 33) = true → leO [] [] ∧ (VV.tup [intV (↑e.S.Procs.length : Int), intV (0 : Int)]).le (VV.tup [intV v, intV r])) ∧ (((e.M.Exprs.getD x.toNat default).Op == 33) = false → (((e.M.Exprs.getD x.toNat default).Op == 34) = true → ∃ (y : Bool), VSpec Tryz.prog 85 [] [VV.tp (enc_Env e)] [] (boolV y) ∧ ∃ (y_1 : Int × Int), VSpec Tryz.prog 84 [] [boolV !y] [] (VV.tup [intV y_1.fst, intV y_1.snd]) ∧ leO [] [] ∧ (VV.tup [intV y_1.fst, intV y_1.snd]).le (VV.tup [intV v, intV r])) ∧ (((e.M.Exprs.getD x.toNat default).Op == 34) = false → (((e.M.Exprs.getD x.toNat default).Op == 35) = true → ∃ (y : Int × Int), VSpec Tryz.prog 84 [] [boolV e.Timeout] [] (VV.tup [intV y.fst, intV y.snd]) ∧ leO [] [] ∧ (VV.tup [intV y.fst, intV y.snd]).le (VV.tup [intV v, intV r])) ∧ (((e.M.Exprs.getD x.toNat default).Op == 35) = false → (((e.M.Exprs.getD x.toNat default).Op == 36) = true → ∃ (y : Int × Int), VSpec Tryz.prog 52 [] [VV.tp (enc_Env e), intV (e.M.Exprs.getD x.toNat default).A] [] (VV.tup [intV y.fst, intV y.snd]) ∧ ((y.snd != (0 : Int)) = true → leO [] [] ∧ (VV.tup [intV (0 : Int), intV y.snd]).le (VV.tup [intV v, intV r])) ∧ ((y.snd != (0 : Int)) = false → ((true && (bif decide (y.fst ≥ (0 : Int)) then decide (y.fst < (↑e.Able.length : Int)) else false) == true) = true → (0 : Int) ≤ y.fst ∧ y.fst < (↑e.Able.length : Int)) ∧ ∃ (y_1 : Int × Int), VSpec Tryz.prog 84 [] [boolV (bif bif decide (y.fst ≥ (0 : Int)) then decide (y.fst < (↑e.Able.length : Int)) else false then e.Able.getD y.fst.toNat false else false)] [] (VV.tup [intV y_1.fst, intV y_1.snd]) ∧ leO [] [] ∧ (VV.tup [intV y_1.fst, intV y_1.snd]).le (VV.tup [intV v, intV r]))) ∧ (((e.M.Exprs.getD x.toNat default).Op == 36) = false → (((e.M.Exprs.getD x.toNat default).Op == 37) = true → ∃ (y : Int × Int), VSpec Tryz.prog 86 [] [VV.tp (enc_Env e), VV.agg (enc_Expr (e.M.Exprs.getD x.toNat default))] [] (VV.tup [intV y.fst, intV y.snd]) ∧ leO [] [] ∧ (VV.tup [intV y.fst, intV y.snd]).le (VV.tup [intV v, intV r])) ∧ (((e.M.Exprs.getD x.toNat default).Op == 37) = false → (((e.M.Exprs.getD x.toNat default).Op == 38) = true → ∃ (y : Int × Int), VSpec Tryz.prog 86 [] [VV.tp (enc_Env e), VV.agg (enc_Expr (e.M.Exprs.getD x.toNat default))] [] (VV.tup [intV y.fst, intV y.snd]) ∧ leO [] [] ∧ (VV.tup [intV y.fst, intV y.snd]).le (VV.tup [intV v, intV r])) ∧ (((e.M.Exprs.getD x.toNat default).Op == 38) = false → (((e.M.Exprs.getD x.toNat default).Op == 39) = true → leO [] [] ∧ (VV.tup [intV (0 : Int), intV (42 : Int)]).le (VV.tup [intV v, intV r])) ∧ (((e.M.Exprs.getD x.toNat default).Op == 39) = false → ∃ (y : Int × Int), VSpec Tryz.prog 87 [] [VV.tp (enc_Env e), VV.agg (enc_Expr (e.M.Exprs.getD x.toNat default))] [] (VV.tup [intV y.fst, intV y.snd]) ∧ leO [] [] ∧ (VV.tup [intV y.fst, intV y.snd]).le (VV.tup [intV v, intV r]))))))))))))) ∧ (((e.M.Exprs.getD x.toNat default).Op == 25) = false → (((e.M.Exprs.getD x.toNat default).Op == 26) = true → (((e.M.Exprs.getD x.toNat default).Op == 26) = true → ∃ (y : Int × Int), VSpec Tryz.prog 82 [] [VV.tp (enc_Env e), VV.agg (enc_Expr (e.M.Exprs.getD x.toNat default))] [] (VV.tup [intV y.fst, intV y.snd]) ∧ leO [] [] ∧ (VV.tup [intV y.fst, intV y.snd]).le (VV.tup [intV v, intV r])) ∧ (((e.M.Exprs.getD x.toNat default).Op == 26) = false → (((e.M.Exprs.getD x.toNat default).Op == 30) = true → ∃ (y : Int × Int), VSpec Tryz.prog 83 [] [VV.tp (enc_Env e), VV.agg (enc_Expr (e.M.Exprs.getD x.toNat default))] [] (VV.tup [intV y.fst, intV y.snd]) ∧ leO [] [] ∧ (VV.tup [intV y.fst, intV y.snd]).le (VV.tup [intV v, intV r])) ∧ (((e.M.Exprs.getD x.toNat default).Op == 30) = false → (((e.M.Exprs.getD x.toNat default).Op == 31) = true → leO [] [] ∧ (VV.tup [intV e.Pid, intV (0 : Int)]).le (VV.tup [intV v, intV r])) ∧ (((e.M.Exprs.getD x.toNat default).Op == 31) = false → (((e.M.Exprs.getD x.toNat default).Op == 32) = true → leO [] [] ∧ (VV.tup [intV e.S.Last, intV (0 : Int)]).le (VV.tup [intV v, intV r])) ∧ (((e.M.Exprs.getD x.toNat default).Op == 32) = false → (((e.M.Exprs.getD x.toNat default).Op == 33) = true → leO [] [] ∧ (VV.tup [intV (↑e.S.Procs.length : Int), intV (0 : Int)]).le (VV.tup [intV v, intV r])) ∧ (((e.M.Exprs.getD x.toNat default).Op == 33) = false → (((e.M.Exprs.getD x.toNat default).Op == 34) = true → ∃ (y : Bool), VSpec Tryz.prog 85 [] [VV.tp (enc_Env e)] [] (boolV y) ∧ ∃ (y_1 : Int × Int), VSpec Tryz.prog 84 [] [boolV !y] [] (VV.tup [intV y_1.fst, intV y_1.snd]) ∧ leO [] [] ∧ (VV.tup [intV y_1.fst, intV y_1.snd]).le (VV.tup [intV v, intV r])) ∧ (((e.M.Exprs.getD x.toNat default).Op == 34) = false → (((e.M.Exprs.getD x.toNat default).Op == 35) = true → ∃ (y : Int × Int), VSpec Tryz.prog 84 [] [boolV e.Timeout] [] (VV.tup [intV y.fst, intV y.snd]) ∧ leO [] [] ∧ (VV.tup [intV y.fst, intV y.snd]).le (VV.tup [intV v, intV r])) ∧ (((e.M.Exprs.getD x.toNat default).Op == 35) = false → (((e.M.Exprs.getD x.toNat default).Op == 36) = true → ∃ (y : Int × Int), VSpec Tryz.prog 52 [] [VV.tp (enc_Env e), intV (e.M.Exprs.getD x.toNat default).A] [] (VV.tup [intV y.fst, intV y.snd]) ∧ ((y.snd != (0 : Int)) = true → leO [] [] ∧ (VV.tup [intV (0 : Int), intV y.snd]).le (VV.tup [intV v, intV r])) ∧ ((y.snd != (0 : Int)) = false → ((true && (bif decide (y.fst ≥ (0 : Int)) then decide (y.fst < (↑e.Able.length : Int)) else false) == true) = true → (0 : Int) ≤ y.fst ∧ y.fst < (↑e.Able.length : Int)) ∧ ∃ (y_1 : Int × Int), VSpec Tryz.prog 84 [] [boolV (bif bif decide (y.fst ≥ (0 : Int)) then decide (y.fst < (↑e.Able.length : Int)) else false then e.Able.getD y.fst.toNat false else false)] [] (VV.tup [intV y_1.fst, intV y_1.snd]) ∧ leO [] [] ∧ (VV.tup [intV y_1.fst, intV y_1.snd]).le (VV.tup [intV v, intV r]))) ∧ (((e.M.Exprs.getD x.toNat default).Op == 36) = false → (((e.M.Exprs.getD x.toNat default).Op == 37) = true → ∃ (y : Int × Int), VSpec Tryz.prog 86 [] [VV.tp (enc_Env e), VV.agg (enc_Expr (e.M.Exprs.getD x.toNat default))] [] (VV.tup [intV y.fst, intV y.snd]) ∧ leO [] [] ∧ (VV.tup [intV y.fst, intV y.snd]).le (VV.tup [intV v, intV r])) ∧ (((e.M.Exprs.getD x.toNat default).Op == 37) = false → (((e.M.Exprs.getD x.toNat default).Op == 38) = true → ∃ (y : Int × Int), VSpec Tryz.prog 86 [] [VV.tp (enc_Env e), VV.agg (enc_Expr (e.M.Exprs.getD x.toNat default))] [] (VV.tup [intV y.fst, intV y.snd]) ∧ leO [] [] ∧ (VV.tup [intV y.fst, intV y.snd]).le (VV.tup [intV v, intV r])) ∧ (((e.M.Exprs.getD x.toNat default).Op == 38) = false → (((e.M.Exprs.getD x.toNat default).Op == 39) = true → leO [] [] ∧ (VV.tup [intV (0 : Int), intV (42 : Int)]).le (VV.tup [intV v, intV r])) ∧ (((e.M.Exprs.getD x.toNat default).Op == 39) = false → ∃ (y : Int × Int), VSpec Tryz.prog 87 [] [VV.tp (enc_Env e), VV.agg (enc_Expr (e.M.Exprs.getD x.toNat default))] [] (VV.tup [intV y.fst, intV y.snd]) ∧ leO [] [] ∧ (VV.tup [intV y.fst, intV y.snd]).le (VV.tup [intV v, intV r]))))))))))))) ∧ (((e.M.Exprs.getD x.toNat default).Op == 26) = false → (((e.M.Exprs.getD x.toNat default).Op == 27) = true → (((e.M.Exprs.getD x.toNat default).Op == 27) = true → ∃ (y : Int × Int), VSpec Tryz.prog 82 [] [VV.tp (enc_Env e), VV.agg (enc_Expr (e.M.Exprs.getD x.toNat default))] [] (VV.tup [intV y.fst, intV y.snd]) ∧ leO [] [] ∧ (VV.tup [intV y.fst, intV y.snd]).le (VV.tup [intV v, intV r])) ∧ (((e.M.Exprs.getD x.toNat default).Op == 27) = false → (((e.M.Exprs.getD x.toNat default).Op == 30) = true → ∃ (y : Int × Int), VSpec Tryz.prog 83 [] [VV.tp (enc_Env e), VV.agg (enc_Expr (e.M.Exprs.getD x.toNat default))] [] (VV.tup [intV y.fst, intV y.snd]) ∧ leO [] [] ∧ (VV.tup [intV y.fst, intV y.snd]).le (VV.tup [intV v, intV r])) ∧ (((e.M.Exprs.getD x.toNat default).Op == 30) = false → (((e.M.Exprs.getD x.toNat default).Op == 31) = true → leO [] [] ∧ (VV.tup [intV e.Pid, intV (0 : Int)]).le (VV.tup [intV v, intV r])) ∧ (((e.M.Exprs.getD x.toNat default).Op == 31) = false → (((e.M.Exprs.getD x.toNat default).Op == 32) = true → leO [] [] ∧ (VV.tup [intV e.S.Last, intV (0 : Int)]).le (VV.tup [intV v, intV r])) ∧ (((e.M.Exprs.getD x.toNat default).Op == 32) = false → (((e.M.Exprs.getD x.toNat default).Op == 33) = true → leO [] [] ∧ (VV.tup [intV (↑e.S.Procs.length : Int), intV (0 : Int)]).le (VV.tup [intV v, intV r])) ∧ (((e.M.Exprs.getD x.toNat default).Op == 33) = false → (((e.M.Exprs.getD x.toNat default).Op == 34) = true → ∃ (y : Bool), VSpec Tryz.prog 85 [] [VV.tp (enc_Env e)] [] (boolV y) ∧ ∃ (y_1 : Int × Int), VSpec Tryz.prog 84 [] [boolV !y] [] (VV.tup [intV y_1.fst, intV y_1.snd]) ∧ leO [] [] ∧ (VV.tup [intV y_1.fst, intV y_1.snd]).le (VV.tup [intV v, intV r])) ∧ (((e.M.Exprs.getD x.toNat default).Op == 34) = false → (((e.M.Exprs.getD x.toNat default).Op == 35) = true → ∃ (y : Int × Int), VSpec Tryz.prog 84 [] [boolV e.Timeout] [] (VV.tup [intV y.fst, intV y.snd]) ∧ leO [] [] ∧ (VV.tup [intV y.fst, intV y.snd]).le (VV.tup [intV v, intV r])) ∧ (((e.M.Exprs.getD x.toNat default).Op == 35) = false → (((e.M.Exprs.getD x.toNat default).Op == 36) = true → ∃ (y : Int × Int), VSpec Tryz.prog 52 [] [VV.tp (enc_Env e), intV (e.M.Exprs.getD x.toNat default).A] [] (VV.tup [intV y.fst, intV y.snd]) ∧ ((y.snd != (0 : Int)) = true → leO [] [] ∧ (VV.tup [intV (0 : Int), intV y.snd]).le (VV.tup [intV v, intV r])) ∧ ((y.snd != (0 : Int)) = false → ((true && (bif decide (y.fst ≥ (0 : Int)) then decide (y.fst < (↑e.Able.length : Int)) else false) == true) = true → (0 : Int) ≤ y.fst ∧ y.fst < (↑e.Able.length : Int)) ∧ ∃ (y_1 : Int × Int), VSpec Tryz.prog 84 [] [boolV (bif bif decide (y.fst ≥ (0 : Int)) then decide (y.fst < (↑e.Able.length : Int)) else false then e.Able.getD y.fst.toNat false else false)] [] (VV.tup [intV y_1.fst, intV y_1.snd]) ∧ leO [] [] ∧ (VV.tup [intV y_1.fst, intV y_1.snd]).le (VV.tup [intV v, intV r]))) ∧ (((e.M.Exprs.getD x.toNat default).Op == 36) = false → (((e.M.Exprs.getD x.toNat default).Op == 37) = true → ∃ (y : Int × Int), VSpec Tryz.prog 86 [] [VV.tp (enc_Env e), VV.agg (enc_Expr (e.M.Exprs.getD x.toNat default))] [] (VV.tup [intV y.fst, intV y.snd]) ∧ leO [] [] ∧ (VV.tup [intV y.fst, intV y.snd]).le (VV.tup [intV v, intV r])) ∧ (((e.M.Exprs.getD x.toNat default).Op == 37) = false → (((e.M.Exprs.getD x.toNat default).Op == 38) = true → ∃ (y : Int × Int), VSpec Tryz.prog 86 [] [VV.tp (enc_Env e), VV.agg (enc_Expr (e.M.Exprs.getD x.toNat default))] [] (VV.tup [intV y.fst, intV y.snd]) ∧ leO [] [] ∧ (VV.tup [intV y.fst, intV y.snd]).le (VV.tup [intV v, intV r])) ∧ (((e.M.Exprs.getD x.toNat default).Op == 38) = false → (((e.M.Exprs.getD x.toNat default).Op == 39) = true → leO [] [] ∧ (VV.tup [intV (0 : Int), intV (42 : Int)]).le (VV.tup [intV v, intV r])) ∧ (((e.M.Exprs.getD x.toNat default).Op == 39) = false → ∃ (y : Int × Int), VSpec Tryz.prog 87 [] [VV.tp (enc_Env e), VV.agg (enc_Expr (e.M.Exprs.getD x.toNat default))] [] (VV.tup [intV y.fst, intV y.snd]) ∧ leO [] [] ∧ (VV.tup [intV y.fst, intV y.snd]).le (VV.tup [intV v, intV r]))))))))))))) ∧ (((e.M.Exprs.getD x.toNat default).Op == 27) = false → (((e.M.Exprs.getD x.toNat default).Op == 28) = true → (((e.M.Exprs.getD x.toNat default).Op == 28) = true → ∃ (y : Int × Int), VSpec Tryz.prog 82 [] [VV.tp (enc_Env e), VV.agg (enc_Expr (e.M.Exprs.getD x.toNat default))] [] (VV.tup [intV y.fst, intV y.snd]) ∧ leO [] [] ∧ (VV.tup [intV y.fst, intV y.snd]).le (VV.tup [intV v, intV r])) ∧ (((e.M.Exprs.getD x.toNat default).Op == 28) = false → (((e.M.Exprs.getD x.toNat default).Op == 30) = true → ∃ (y : Int × Int), VSpec Tryz.prog 83 [] [VV.tp (enc_Env e), VV.agg (enc_Expr (e.M.Exprs.getD x.toNat default))] [] (VV.tup [intV y.fst, intV y.snd]) ∧ leO [] [] ∧ (VV.tup [intV y.fst, intV y.snd]).le (VV.tup [intV v, intV r])) ∧ (((e.M.Exprs.getD x.toNat default).Op == 30) = false → (((e.M.Exprs.getD x.toNat default).Op == 31) = true → leO [] [] ∧ (VV.tup [intV e.Pid, intV (0 : Int)]).le (VV.tup [intV v, intV r])) ∧ (((e.M.Exprs.getD x.toNat default).Op == 31) = false → (((e.M.Exprs.getD x.toNat default).Op == 32) = true → leO [] [] ∧ (VV.tup [intV e.S.Last, intV (0 : Int)]).le (VV.tup [intV v, intV r])) ∧ (((e.M.Exprs.getD x.toNat default).Op == 32) = false → (((e.M.Exprs.getD x.toNat default).Op == 33) = true → leO [] [] ∧ (VV.tup [intV (↑e.S.Procs.length : Int), intV (0 : Int)]).le (VV.tup [intV v, intV r])) ∧ (((e.M.Exprs.getD x.toNat default).Op == 33) = false → (((e.M.Exprs.getD x.toNat default).Op == 34) = true → ∃ (y : Bool), VSpec Tryz.prog 85 [] [VV.tp (enc_Env e)] [] (boolV y) ∧ ∃ (y_1 : Int × Int), VSpec Tryz.prog 84 [] [boolV !y] [] (VV.tup [intV y_1.fst, intV y_1.snd]) ∧ leO [] [] ∧ (VV.tup [intV y_1.fst, intV y_1.snd]).le (VV.tup [intV v, intV r])) ∧ (((e.M.Exprs.getD x.toNat default).Op == 34) = false → (((e.M.Exprs.getD x.toNat default).Op == 35) = true → ∃ (y : Int × Int), VSpec Tryz.prog 84 [] [boolV e.Timeout] [] (VV.tup [intV y.fst, intV y.snd]) ∧ leO [] [] ∧ (VV.tup [intV y.fst, intV y.snd]).le (VV.tup [intV v, intV r])) ∧ (((e.M.Exprs.getD x.toNat default).Op == 35) = false → (((e.M.Exprs.getD x.toNat default).Op == 36) = true → ∃ (y : Int × Int), VSpec Tryz.prog 52 [] [VV.tp (enc_Env e), intV (e.M.Exprs.getD x.toNat default).A] [] (VV.tup [intV y.fst, intV y.snd]) ∧ ((y.snd != (0 : Int)) = true → leO [] [] ∧ (VV.tup [intV (0 : Int), intV y.snd]).le (VV.tup [intV v, intV r])) ∧ ((y.snd != (0 : Int)) = false → ((true && (bif decide (y.fst ≥ (0 : Int)) then decide (y.fst < (↑e.Able.length : Int)) else false) == true) = true → (0 : Int) ≤ y.fst ∧ y.fst < (↑e.Able.length : Int)) ∧ ∃ (y_1 : Int × Int), VSpec Tryz.prog 84 [] [boolV (bif bif decide (y.fst ≥ (0 : Int)) then decide (y.fst < (↑e.Able.length : Int)) else false then e.Able.getD y.fst.toNat false else false)] [] (VV.tup [intV y_1.fst, intV y_1.snd]) ∧ leO [] [] ∧ (VV.tup [intV y_1.fst, intV y_1.snd]).le (VV.tup [intV v, intV r]))) ∧ (((e.M.Exprs.getD x.toNat default).Op == 36) = false → (((e.M.Exprs.getD x.toNat default).Op == 37) = true → ∃ (y : Int × Int), VSpec Tryz.prog 86 [] [VV.tp (enc_Env e), VV.agg (enc_Expr (e.M.Exprs.getD x.toNat default))] [] (VV.tup [intV y.fst, intV y.snd]) ∧ leO [] [] ∧ (VV.tup [intV y.fst, intV y.snd]).le (VV.tup [intV v, intV r])) ∧ (((e.M.Exprs.getD x.toNat default).Op == 37) = false → (((e.M.Exprs.getD x.toNat default).Op == 38) = true → ∃ (y : Int × Int), VSpec Tryz.prog 86 [] [VV.tp (enc_Env e), VV.agg (enc_Expr (e.M.Exprs.getD x.toNat default))] [] (VV.tup [intV y.fst, intV y.snd]) ∧ leO [] [] ∧ (VV.tup [intV y.fst, intV y.snd]).le (VV.tup [intV v, intV r])) ∧ (((e.M.Exprs.getD x.toNat default).Op == 38) = false → (((e.M.Exprs.getD x.toNat default).Op == 39) = true → leO [] [] ∧ (VV.tup [intV (0 : Int), intV (42 : Int)]).le (VV.tup [intV v, intV r])) ∧ (((e.M.Exprs.getD x.toNat default).Op == 39) = false → ∃ (y : Int × Int), VSpec Tryz.prog 87 [] [VV.tp (enc_Env e), VV.agg (enc_Expr (e.M.Exprs.getD x.toNat default))] [] (VV.tup [intV y.fst, intV y.snd]) ∧ leO [] [] ∧ (VV.tup [intV y.fst, intV y.snd]).le (VV.tup [intV v, intV r]))))))))))))) ∧ (((e.M.Exprs.getD x.toNat default).Op == 28) = false → (((e.M.Exprs.getD x.toNat default).Op == 29) = true → ∃ (y : Int × Int), VSpec Tryz.prog 82 [] [VV.tp (enc_Env e), VV.agg (enc_Expr (e.M.Exprs.getD x.toNat default))] [] (VV.tup [intV y.fst, intV y.snd]) ∧ leO [] [] ∧ (VV.tup [intV y.fst, intV y.snd]).le (VV.tup [intV v, intV r])) ∧ (((e.M.Exprs.getD x.toNat default).Op == 29) = false → (((e.M.Exprs.getD x.toNat default).Op == 30) = true → ∃ (y : Int × Int), VSpec Tryz.prog 83 [] [VV.tp (enc_Env e), VV.agg (enc_Expr (e.M.Exprs.getD x.toNat default))] [] (VV.tup [intV y.fst, intV y.snd]) ∧ leO [] [] ∧ (VV.tup [intV y.fst, intV y.snd]).le (VV.tup [intV v, intV r])) ∧ (((e.M.Exprs.getD x.toNat default).Op == 30) = false → (((e.M.Exprs.getD x.toNat default).Op == 31) = true → leO [] [] ∧ (VV.tup [intV e.Pid, intV (0 : Int)]).le (VV.tup [intV v, intV r])) ∧ (((e.M.Exprs.getD x.toNat default).Op == 31) = false → (((e.M.Exprs.getD x.toNat default).Op == 32) = true → leO [] [] ∧ (VV.tup [intV e.S.Last, intV (0 : Int)]).le (VV.tup [intV v, intV r])) ∧ (((e.M.Exprs.getD x.toNat default).Op == 32) = false → (((e.M.Exprs.getD x.toNat default).Op == 33) = true → leO [] [] ∧ (VV.tup [intV (↑e.S.Procs.length : Int), intV (0 : Int)]).le (VV.tup [intV v, intV r])) ∧ (((e.M.Exprs.getD x.toNat default).Op == 33) = false → (((e.M.Exprs.getD x.toNat default).Op == 34) = true → ∃ (y : Bool), VSpec Tryz.prog 85 [] [VV.tp (enc_Env e)] [] (boolV y) ∧ ∃ (y_1 : Int × Int), VSpec Tryz.prog 84 [] [boolV !y] [] (VV.tup [intV y_1.fst, intV y_1.snd]) ∧ leO [] [] ∧ (VV.tup [intV y_1.fst, intV y_1.snd]).le (VV.tup [intV v, intV r])) ∧ (((e.M.Exprs.getD x.toNat default).Op == 34) = false → (((e.M.Exprs.getD x.toNat default).Op == 35) = true → ∃ (y : Int × Int), VSpec Tryz.prog 84 [] [boolV e.Timeout] [] (VV.tup [intV y.fst, intV y.snd]) ∧ leO [] [] ∧ (VV.tup [intV y.fst, intV y.snd]).le (VV.tup [intV v, intV r])) ∧ (((e.M.Exprs.getD x.toNat default).Op == 35) = false → (((e.M.Exprs.getD x.toNat default).Op == 36) = true → ∃ (y : Int × Int), VSpec Tryz.prog 52 [] [VV.tp (enc_Env e), intV (e.M.Exprs.getD x.toNat default).A] [] (VV.tup [intV y.fst, intV y.snd]) ∧ ((y.snd != (0 : Int)) = true → leO [] [] ∧ (VV.tup [intV (0 : Int), intV y.snd]).le (VV.tup [intV v, intV r])) ∧ ((y.snd != (0 : Int)) = false → ((true && (bif decide (y.fst ≥ (0 : Int)) then decide (y.fst < (↑e.Able.length : Int)) else false) == true) = true → (0 : Int) ≤ y.fst ∧ y.fst < (↑e.Able.length : Int)) ∧ ∃ (y_1 : Int × Int), VSpec Tryz.prog 84 [] [boolV (bif bif decide (y.fst ≥ (0 : Int)) then decide (y.fst < (↑e.Able.length : Int)) else false then e.Able.getD y.fst.toNat false else false)] [] (VV.tup [intV y_1.fst, intV y_1.snd]) ∧ leO [] [] ∧ (VV.tup [intV y_1.fst, intV y_1.snd]).le (VV.tup [intV v, intV r]))) ∧ (((e.M.Exprs.getD x.toNat default).Op == 36) = false → (((e.M.Exprs.getD x.toNat default).Op == 37) = true → ∃ (y : Int × Int), VSpec Tryz.prog 86 [] [VV.tp (enc_Env e), VV.agg (enc_Expr (e.M.Exprs.getD x.toNat default))] [] (VV.tup [intV y.fst, intV y.snd]) ∧ leO [] [] ∧ (VV.tup [intV y.fst, intV y.snd]).le (VV.tup [intV v, intV r])) ∧ (((e.M.Exprs.getD x.toNat default).Op == 37) = false → (((e.M.Exprs.getD x.toNat default).Op == 38) = true → ∃ (y : Int × Int), VSpec Tryz.prog 86 [] [VV.tp (enc_Env e), VV.agg (enc_Expr (e.M.Exprs.getD x.toNat default))] [] (VV.tup [intV y.fst, intV y.snd]) ∧ leO [] [] ∧ (VV.tup [intV y.fst, intV y.snd]).le (VV.tup [intV v, intV r])) ∧ (((e.M.Exprs.getD x.toNat default).Op == 38) = false → (((e.M.Exprs.getD x.toNat default).Op == 39) = true → leO [] [] ∧ (VV.tup [intV (0 : Int), intV (42 : Int)]).le (VV.tup [intV v, intV r])) ∧ (((e.M.Exprs.getD x.toNat default).Op == 39) = false → ∃ (y : Int × Int), VSpec Tryz.prog 87 [] [VV.tp (enc_Env e), VV.agg (enc_Expr (e.M.Exprs.getD x.toNat default))] [] (VV.tup [intV y.fst, intV y.snd]) ∧ leO [] [] ∧ (VV.tup [intV y.fst, intV y.snd]).le (VV.tup [intV v, intV r])))))))))))))))))) ∧ (((e.M.Exprs.getD x.toNat default).Op == 22) = false → (((e.M.Exprs.getD x.toNat default).Op == 23) = true → (((e.M.Exprs.getD x.toNat default).Op == 23) = true → ∃ (y : Int × Int), VSpec Tryz.prog 81 [] [VV.tp (enc_Env e), VV.agg (enc_Expr (e.M.Exprs.getD x.toNat default))] [] (VV.tup [intV y.fst, intV y.snd]) ∧ leO [] [] ∧ (VV.tup [intV y.fst, intV y.snd]).le (VV.tup [intV v, intV r])) ∧ (((e.M.Exprs.getD x.toNat default).Op == 23) = false → (((e.M.Exprs.getD x.toNat default).Op == 25) = true → (((e.M.Exprs.getD x.toNat default).Op == 25) = true → ∃ (y : Int × Int), VSpec Tryz.prog 82 [] [VV.tp (enc_Env e), VV.agg (enc_Expr (e.M.Exprs.getD x.toNat default))] [] (VV.tup [intV y.fst, intV y.snd]) ∧ leO [] [] ∧ (VV.tup [intV y.fst, intV y.snd]).le (VV.tup [intV v, intV r])) ∧ (((e.M.Exprs.getD x.toNat default).Op == 25) = false → (((e.M.Exprs.getD x.toNat default).Op == 30) = true → ∃ (y : Int × Int), VSpec Tryz.prog 83 [] [VV.tp (enc_Env e), VV.agg (enc_Expr (e.M.Exprs.getD x.toNat default))] [] (VV.tup [intV y.fst, intV y.snd]) ∧ leO [] [] ∧ (VV.tup [intV y.fst, intV y.snd]).le (VV.tup [intV v, intV r])) ∧ (((e.M.Exprs.getD x.toNat default).Op == 30) = false → (((e.M.Exprs.getD x.toNat default).Op == 31) = true → leO [] [] ∧ (VV.tup [intV e.Pid, intV (0 : Int)]).le (VV.tup [intV v, intV r])) ∧ (((e.M.Exprs.getD x.toNat default).Op == 31) = false → (((e.M.Exprs.getD x.toNat default).Op == 32) = true → leO [] [] ∧ (VV.tup [intV e.S.Last, intV (0 : Int)]).le (VV.tup [intV v, intV r])) ∧ (((e.M.Exprs.getD x.toNat default).Op == 32) = false → (((e.M.Exprs.getD x.toNat default).Op == 33) = true → leO [] [] ∧ (VV.tup [intV (↑e.S.Procs.length : Int), intV (0 : Int)]).le (VV.tup [intV v, intV r])) ∧ (((e.M.Exprs.getD x.toNat default).Op == 33) = false → (((e.M.Exprs.getD x.toNat default).Op == 34) = true → ∃ (y : Bool), VSpec Tryz.prog 85 [] [VV.tp (enc_Env e)] [] (boolV y) ∧ ∃ (y_1 : Int × Int), VSpec Tryz.prog 84 [] [boolV !y] [] (VV.tup [intV y_1.fst, intV y_1.snd]) ∧ leO [] [] ∧ (VV.tup [intV y_1.fst, intV y_1.snd]).le (VV.tup [intV v, intV r])) ∧ (((e.M.Exprs.getD x.toNat default).Op == 34) = false → (((e.M.Exprs.getD x.toNat default).Op == 35) = true → ∃ (y : Int × Int), VSpec Tryz.prog 84 [] [boolV e.Timeout] [] (VV.tup [intV y.fst, intV y.snd]) ∧ leO [] [] ∧ (VV.tup [intV y.fst, intV y.snd]).le (VV.tup [intV v, intV r])) ∧ (((e.M.Exprs.getD x.toNat default).Op == 35) = false → (((e.M.Exprs.getD x.toNat default).Op == 36) = true → ∃ (y : Int × Int), VSpec Tryz.prog 52 [] [VV.tp (enc_Env e), intV (e.M.Exprs.getD x.toNat default).A] [] (VV.tup [intV y.fst, intV y.snd]) ∧ ((y.snd != (0 : Int)) = true → leO [] [] ∧ (VV.tup [intV (0 : Int), intV y.snd]).le (VV.tup [intV v, intV r])) ∧ ((y.snd != (0 : Int)) = false → ((true && (bif decide (y.fst ≥ (0 : Int)) then decide (y.fst < (↑e.Able.length : Int)) else false) == true) = true → (0 : Int) ≤ y.fst ∧ y.fst < (↑e.Able.length : Int)) ∧ ∃ (y_1 : Int × Int), VSpec Tryz.prog 84 [] [boolV (bif bif decide (y.fst ≥ (0 : Int)) then decide (y.fst < (↑e.Able.length : Int)) else false then e.Able.getD y.fst.toNat false else false)] [] (VV.tup [intV y_1.fst, intV y_1.snd]) ∧ leO [] [] ∧ (VV.tup [intV y_1.fst, intV y_1.snd]).le (VV.tup [intV v, intV r]))) ∧ (((e.M.Exprs.getD x.toNat default).Op == 36) = false → (((e.M.Exprs.getD x.toNat default).Op == 37) = true → ∃ (y : Int × Int), VSpec Tryz.prog 86 [] [VV.tp (enc_Env e), VV.agg (enc_Expr (e.M.Exprs.getD x.toNat default))] [] (VV.tup [intV y.fst, intV y.snd]) ∧ leO [] [] ∧ (VV.tup [intV y.fst, intV y.snd]).le (VV.tup [intV v, intV r])) ∧ (((e.M.Exprs.getD x.toNat default).Op == 37) = false → (((e.M.Exprs.getD x.toNat default).Op == 38) = true → ∃ (y : Int × Int), VSpec Tryz.prog 86 [] [VV.tp (enc_Env e), VV.agg (enc_Expr (e.M.Exprs.getD x.toNat default))] [] (VV.tup [intV y.fst, intV y.snd]) ∧ leO [] [] ∧ (VV.tup [intV y.fst, intV y.snd]).le (VV.tup [intV v, intV r])) ∧ (((e.M.Exprs.getD x.toNat default).Op == 38) = false → (((e.M.Exprs.getD x.toNat default).Op == 39) = true → leO [] [] ∧ (VV.tup [intV (0 : Int), intV (42 : Int)]).le (VV.tup [intV v, intV r])) ∧ (((e.M.Exprs.getD x.toNat default).Op == 39) = false → ∃ (y : Int × Int), VSpec Tryz.prog 87 [] [VV.tp (enc_Env e), VV.agg (enc_Expr (e.M.Exprs.getD x.toNat default))] [] (VV.tup [intV y.fst, intV y.snd]) ∧ leO [] [] ∧ (VV.tup [intV y.fst, intV y.snd]).le (VV.tup [intV v, intV r]))))))))))))) ∧ (((e.M.Exprs.getD x.toNat default).Op == 25) = false → (((e.M.Exprs.getD x.toNat default).Op == 26) = true → (((e.M.Exprs.getD x.toNat default).Op == 26) = true → ∃ (y : Int × Int), VSpec Tryz.prog 82 [] [VV.tp (enc_Env e), VV.agg (enc_Expr (e.M.Exprs.getD x.toNat default))] [] (VV.tup [intV y.fst, intV y.snd]) ∧ leO [] [] ∧ (VV.tup [intV y.fst, intV y.snd]).le (VV.tup [intV v, intV r])) ∧ (((e.M.Exprs.getD x.toNat default).Op == 26) = false → (((e.M.Exprs.getD x.toNat default).Op == 30) = true → ∃ (y : Int × Int), VSpec Tryz.prog 83 [] [VV.tp (enc_Env e), VV.agg (enc_Expr (e.M.Exprs.getD x.toNat default))] [] (VV.tup [intV y.fst, intV y.snd]) ∧ leO [] [] ∧ (VV.tup [intV y.fst, intV y.snd]).le (VV.tup [intV v, intV r])) ∧ (((e.M.Exprs.getD x.toNat default).Op == 30) = false → (((e.M.Exprs.getD x.toNat default).Op == 31) = true → leO [] [] ∧ (VV.tup [intV e.Pid, intV (0 : Int)]).le (VV.tup [intV v, intV r])) ∧ (((e.M.Exprs.getD x.toNat default).Op == 31) = false → (((e.M.Exprs.getD x.toNat default).Op == 32) = true → leO [] [] ∧ (VV.tup [intV e.S.Last, intV (0 : Int)]).le (VV.tup [intV v, intV r])) ∧ (((e.M.Exprs.getD x.toNat default).Op == 32) = false → (((e.M.Exprs.getD x.toNat default).Op == 33) = true → leO [] [] ∧ (VV.tup [intV (↑e.S.Procs.length : Int), intV (0 : Int)]).le (VV.tup [intV v, intV r])) ∧ (((e.M.Exprs.getD x.toNat default).Op == 33) = false → (((e.M.Exprs.getD x.toNat default).Op == 34) = true → ∃ (y : Bool), VSpec Tryz.prog 85 [] [VV.tp (enc_Env e)] [] (boolV y) ∧ ∃ (y_1 : Int × Int), VSpec Tryz.prog 84 [] [boolV !y] [] (VV.tup [intV y_1.fst, intV y_1.snd]) ∧ leO [] [] ∧ (VV.tup [intV y_1.fst, intV y_1.snd]).le (VV.tup [intV v, intV r])) ∧ (((e.M.Exprs.getD x.toNat default).Op == 34) = false → (((e.M.Exprs.getD x.toNat default).Op == 35) = true → ∃ (y : Int × Int), VSpec Tryz.prog 84 [] [boolV e.Timeout] [] (VV.tup [intV y.fst, intV y.snd]) ∧ leO [] [] ∧ (VV.tup [intV y.fst, intV y.snd]).le (VV.tup [intV v, intV r])) ∧ (((e.M.Exprs.getD x.toNat default).Op == 35) = false → (((e.M.Exprs.getD x.toNat default).Op == 36) = true → ∃ (y : Int × Int), VSpec Tryz.prog 52 [] [VV.tp (enc_Env e), intV (e.M.Exprs.getD x.toNat default).A] [] (VV.tup [intV y.fst, intV y.snd]) ∧ ((y.snd != (0 : Int)) = true → leO [] [] ∧ (VV.tup [intV (0 : Int), intV y.snd]).le (VV.tup [intV v, intV r])) ∧ ((y.snd != (0 : Int)) = false → ((true && (bif decide (y.fst ≥ (0 : Int)) then decide (y.fst < (↑e.Able.length : Int)) else false) == true) = true → (0 : Int) ≤ y.fst ∧ y.fst < (↑e.Able.length : Int)) ∧ ∃ (y_1 : Int × Int), VSpec Tryz.prog 84 [] [boolV (bif bif decide (y.fst ≥ (0 : Int)) then decide (y.fst < (↑e.Able.length : Int)) else false then e.Able.getD y.fst.toNat false else false)] [] (VV.tup [intV y_1.fst, intV y_1.snd]) ∧ leO [] [] ∧ (VV.tup [intV y_1.fst, intV y_1.snd]).le (VV.tup [intV v, intV r]))) ∧ (((e.M.Exprs.getD x.toNat default).Op == 36) = false → (((e.M.Exprs.getD x.toNat default).Op == 37) = true → ∃ (y : Int × Int), VSpec Tryz.prog 86 [] [VV.tp (enc_Env e), VV.agg (enc_Expr (e.M.Exprs.getD x.toNat default))] [] (VV.tup [intV y.fst, intV y.snd]) ∧ leO [] [] ∧ (VV.tup [intV y.fst, intV y.snd]).le (VV.tup [intV v, intV r])) ∧ (((e.M.Exprs.getD x.toNat default).Op == 37) = false → (((e.M.Exprs.getD x.toNat default).Op == 38) = true → ∃ (y : Int × Int), VSpec Tryz.prog 86 [] [VV.tp (enc_Env e), VV.agg (enc_Expr (e.M.Exprs.getD x.toNat default))] [] (VV.tup [intV y.fst, intV y.snd]) ∧ leO [] [] ∧ (VV.tup [intV y.fst, intV y.snd]).le (VV.tup [intV v, intV r])) ∧ (((e.M.Exprs.getD x.toNat default).Op == 38) = false → (((e.M.Exprs.getD x.toNat default).Op == 39) = true → leO [] [] ∧ (VV.tup [intV (0 : Int), intV (42 : Int)]).le (VV.tup [intV v, intV r])) ∧ (((e.M.Exprs.getD x.toNat default).Op == 39) = false → ∃ (y : Int × Int), VSpec Tryz.prog 87 [] [VV.tp (enc_Env e), VV.agg (enc_Expr (e.M.Exprs.getD x.toNat default))] [] (VV.tup [intV y.fst, intV y.snd]) ∧ leO [] [] ∧ (VV.tup [intV y.fst, intV y.snd]).le (VV.tup [intV v, intV r]))))))))))))) ∧ (((e.M.Exprs.getD x.toNat default).Op == 26) = false → (((e.M.Exprs.getD x.toNat default).Op == 27) = true → (((e.M.Exprs.getD x.toNat default).Op == 27) = true → ∃ (y : Int × Int), VSpec Tryz.prog 82 [] [VV.tp (enc_Env e), VV.agg (enc_Expr (e.M.Exprs.getD x.toNat default))] [] (VV.tup [intV y.fst, intV y.snd]) ∧ leO [] [] ∧ (VV.tup [intV y.fst, intV y.snd]).le (VV.tup [intV v, intV r])) ∧ (((e.M.Exprs.getD x.toNat default).Op == 27) = false → (((e.M.Exprs.getD x.toNat default).Op == 30) = true → ∃ (y : Int × Int), VSpec Tryz.prog 83 [] [VV.tp (enc_Env e), VV.agg (enc_Expr (e.M.Exprs.getD x.toNat default))] [] (VV.tup [intV y.fst, intV y.snd]) ∧ leO [] [] ∧ (VV.tup [intV y.fst, intV y.snd]).le (VV.tup [intV v, intV r])) ∧ (((e.M.Exprs.getD x.toNat default).Op == 30) = false → (((e.M.Exprs.getD x.toNat default).Op == 31) = true → leO [] [] ∧ (VV.tup [intV e.Pid, intV (0 : Int)]).le (VV.tup [intV v, intV r])) ∧ (((e.M.Exprs.getD x.toNat default).Op == 31) = false → (((e.M.Exprs.getD x.toNat default).Op == 32) = true → leO [] [] ∧ (VV.tup [intV e.S.Last, intV (0 : Int)]).le (VV.tup [intV v, intV r])) ∧ (((e.M.Exprs.getD x.toNat default).Op == 32) = false → (((e.M.Exprs.getD x.toNat default).Op == 33) = true → leO [] [] ∧ (VV.tup [intV (↑e.S.Procs.length : Int), intV (0 : Int)]).le (VV.tup [intV v, intV r])) ∧ (((e.M.Exprs.getD x.toNat default).Op == 33) = false → (((e.M.Exprs.getD x.toNat default).Op == 34) = true → ∃ (y : Bool), VSpec Tryz.prog 85 [] [VV.tp (enc_Env e)] [] (boolV y) ∧ ∃ (y_1 : Int × Int), VSpec Tryz.prog 84 [] [boolV !y] [] (VV.tup [intV y_1.fst, intV y_1.snd]) ∧ leO [] [] ∧ (VV.tup [intV y_1.fst, intV y_1.snd]).le (VV.tup [intV v, intV r])) ∧ (((e.M.Exprs.getD x.toNat default).Op == 34) = false → (((e.M.Exprs.getD x.toNat default).Op == 35) = true → ∃ (y : Int × Int), VSpec Tryz.prog 84 [] [boolV e.Timeout] [] (VV.tup [intV y.fst, intV y.snd]) ∧ leO [] [] ∧ (VV.tup [intV y.fst, intV y.snd]).le (VV.tup [intV v, intV r])) ∧ (((e.M.Exprs.getD x.toNat default).Op == 35) = false → (((e.M.Exprs.getD x.toNat default).Op == 36) = true → ∃ (y : Int × Int), VSpec Tryz.prog 52 [] [VV.tp (enc_Env e), intV (e.M.Exprs.getD x.toNat default).A] [] (VV.tup [intV y.fst, intV y.snd]) ∧ ((y.snd != (0 : Int)) = true → leO [] [] ∧ (VV.tup [intV (0 : Int), intV y.snd]).le (VV.tup [intV v, intV r])) ∧ ((y.snd != (0 : Int)) = false → ((true && (bif decide (y.fst ≥ (0 : Int)) then decide (y.fst < (↑e.Able.length : Int)) else false) == true) = true → (0 : Int) ≤ y.fst ∧ y.fst < (↑e.Able.length : Int)) ∧ ∃ (y_1 : Int × Int), VSpec Tryz.prog 84 [] [boolV (bif bif decide (y.fst ≥ (0 : Int)) then decide (y.fst < (↑e.Able.length : Int)) else false then e.Able.getD y.fst.toNat false else false)] [] (VV.tup [intV y_1.fst, intV y_1.snd]) ∧ leO [] [] ∧ (VV.tup [intV y_1.fst, intV y_1.snd]).le (VV.tup [intV v, intV r]))) ∧ (((e.M.Exprs.getD x.toNat default).Op == 36) = false → (((e.M.Exprs.getD x.toNat default).Op == 37) = true → ∃ (y : Int × Int), VSpec Tryz.prog 86 [] [VV.tp (enc_Env e), VV.agg (enc_Expr (e.M.Exprs.getD x.toNat default))] [] (VV.tup [intV y.fst, intV y.snd]) ∧ leO [] [] ∧ (VV.tup [intV y.fst, intV y.snd]).le (VV.tup [intV v, intV r])) ∧ (((e.M.Exprs.getD x.toNat default).Op == 37) = false → (((e.M.Exprs.getD x.toNat default).Op == 38) = true → ∃ (y : Int × Int), VSpec Tryz.prog 86 [] [VV.tp (enc_Env e), VV.agg (enc_Expr (e.M.Exprs.getD x.toNat default))] [] (VV.tup [intV y.fst, intV y.snd]) ∧ leO [] [] ∧ (VV.tup [intV y.fst, intV y.snd]).le (VV.tup [intV v, intV r])) ∧ (((e.M.Exprs.getD x.toNat default).Op == 38) = false → (((e.M.Exprs.getD x.toNat default).Op == 39) = true → leO [] [] ∧ (VV.tup [intV (0 : Int), intV (42 : Int)]).le (VV.tup [intV v, intV r])) ∧ (((e.M.Exprs.getD x.toNat default).Op == 39) = false → ∃ (y : Int × Int), VSpec Tryz.prog 87 [] [VV.tp (enc_Env e), VV.agg (enc_Expr (e.M.Exprs.getD x.toNat default))] [] (VV.tup [intV y.fst, intV y.snd]) ∧ leO [] [] ∧ (VV.tup [intV y.fst, intV y.snd]).le (VV.tup [intV v, intV r]))))))))))))) ∧ (((e.M.Exprs.getD x.toNat default).Op == 27) = false → (((e.M.Exprs.getD x.toNat default).Op == 28) = true → (((e.M.Exprs.getD x.toNat default).Op == 28) = true → ∃ (y : Int × Int), VSpec Tryz.prog 82 [] [VV.tp (enc_Env e), VV.agg (enc_Expr (e.M.Exprs.getD x.toNat default))] [] (VV.tup [intV y.fst, intV y.snd]) ∧ leO [] [] ∧ (VV.tup [intV y.fst, intV y.snd]).le (VV.tup [intV v, intV r])) ∧ (((e.M.Exprs.getD x.toNat default).Op == 28) = false → (((e.M.Exprs.getD x.toNat default).Op == 30) = true → ∃ (y : Int × Int), VSpec Tryz.prog 83 [] [VV.tp (enc_Env e), VV.agg (enc_Expr (e.M.Exprs.getD x.toNat default))] [] (VV.tup [intV y.fst, intV y.snd]) ∧ leO [] [] ∧ (VV.tup [intV y.fst, intV y.snd]).le (VV.tup [intV v, intV r])) ∧ (((e.M.Exprs.getD x.toNat default).Op == 30) = false → (((e.M.Exprs.getD x.toNat default).Op == 31) = true → leO [] [] ∧ (VV.tup [intV e.Pid, intV (0 : Int)]).le (VV.tup [intV v, intV r])) ∧ (((e.M.Exprs.getD x.toNat default).Op == 31) = false → (((e.M.Exprs.getD x.toNat default).Op == 32) = true → leO [] [] ∧ (VV.tup [intV e.S.Last, intV (0 : Int)]).le (VV.tup [intV v, intV r])) ∧ (((e.M.Exprs.getD x.toNat default).Op == 32) = false → (((e.M.Exprs.getD x.toNat default).Op == 33) = true → leO [] [] ∧ (VV.tup [intV (↑e.S.Procs.length : Int), intV (0 : Int)]).le (VV.tup [intV v, intV r])) ∧ (((e.M.Exprs.getD x.toNat default).Op == 33) = false → (((e.M.Exprs.getD x.toNat default).Op == 34) = true → ∃ (y : Bool), VSpec Tryz.prog 85 [] [VV.tp (enc_Env e)] [] (boolV y) ∧ ∃ (y_1 : Int × Int), VSpec Tryz.prog 84 [] [boolV !y] [] (VV.tup [intV y_1.fst, intV y_1.snd]) ∧ leO [] [] ∧ (VV.tup [intV y_1.fst, intV y_1.snd]).le (VV.tup [intV v, intV r])) ∧ (((e.M.Exprs.getD x.toNat default).Op == 34) = false → (((e.M.Exprs.getD x.toNat default).Op == 35) = true → ∃ (y : Int × Int), VSpec Tryz.prog 84 [] [boolV e.Timeout] [] (VV.tup [intV y.fst, intV y.snd]) ∧ leO [] [] ∧ (VV.tup [intV y.fst, intV y.snd]).le (VV.tup [intV v, intV r])) ∧ (((e.M.Exprs.getD x.toNat default).Op == 35) = false → (((e.M.Exprs.getD x.toNat default).Op == 36) = true → ∃ (y : Int × Int), VSpec Tryz.prog 52 [] [VV.tp (enc_Env e), intV (e.M.Exprs.getD x.toNat default).A] [] (VV.tup [intV y.fst, intV y.snd]) ∧ ((y.snd != (0 : Int)) = true → leO [] [] ∧ (VV.tup [intV (0 : Int), intV y.snd]).le (VV.tup [intV v, intV r])) ∧ ((y.snd != (0 : Int)) = false → ((true && (bif decide (y.fst ≥ (0 : Int)) then decide (y.fst < (↑e.Able.length : Int)) else false) == true) = true → (0 : Int) ≤ y.fst ∧ y.fst < (↑e.Able.length : Int)) ∧ ∃ (y_1 : Int × Int), VSpec Tryz.prog 84 [] [boolV (bif bif decide (y.fst ≥ (0 : Int)) then decide (y.fst < (↑e.Able.length : Int)) else false then e.Able.getD y.fst.toNat false else false)] [] (VV.tup [intV y_1.fst, intV y_1.snd]) ∧ leO [] [] ∧ (VV.tup [intV y_1.fst, intV y_1.snd]).le (VV.tup [intV v, intV r]))) ∧ (((e.M.Exprs.getD x.toNat default).Op == 36) = false → (((e.M.Exprs.getD x.toNat default).Op == 37) = true → ∃ (y : Int × Int), VSpec Tryz.prog 86 [] [VV.tp (enc_Env e), VV.agg (enc_Expr (e.M.Exprs.getD x.toNat default))] [] (VV.tup [intV y.fst, intV y.snd]) ∧ leO [] [] ∧ (VV.tup [intV y.fst, intV y.snd]).le (VV.tup [intV v, intV r])) ∧ (((e.M.Exprs.getD x.toNat default).Op == 37) = false → (((e.M.Exprs.getD x.toNat default).Op == 38) = true → ∃ (y : Int × Int), VSpec Tryz.prog 86 [] [VV.tp (enc_Env e), VV.agg (enc_Expr (e.M.Exprs.getD x.toNat default))] [] (VV.tup [intV y.fst, intV y.snd]) ∧ leO [] [] ∧ (VV.tup [intV y.fst, intV y.snd]).le (VV.tup [intV v, intV r])) ∧ (((e.M.Exprs.getD x.toNat default).Op == 38) = false → (((e.M.Exprs.getD x.toNat default).Op == 39) = true → leO [] [] ∧ (VV.tup [intV (0 : Int), intV (42 : Int)]).le (VV.tup [intV v, intV r])) ∧ (((e.M.Exprs.getD x.toNat default).Op == 39) = false → ∃ (y : Int × Int), VSpec Tryz.prog 87 [] [VV.tp (enc_Env e), VV.agg (enc_Expr (e.M.Exprs.getD x.toNat default))] [] (VV.tup [intV y.fst, intV y.snd]) ∧ leO [] [] ∧ (VV.tup [intV y.fst, intV y.snd]).le (VV.tup [intV v, intV r]))))))))))))) ∧ (((e.M.Exprs.getD x.toNat default).Op == 28) = false → (((e.M.Exprs.getD x.toNat default).Op == 29) = true → ∃ (y : Int × Int), VSpec Tryz.prog 82 [] [VV.tp (enc_Env e), VV.agg (enc_Expr (e.M.Exprs.getD x.toNat default))] [] (VV.tup [intV y.fst, intV y.snd]) ∧ leO [] [] ∧ (VV.tup [intV y.fst, intV y.snd]).le (VV.tup [intV v, intV r])) ∧ (((e.M.Exprs.getD x.toNat default).Op == 29) = false → (((e.M.Exprs.getD x.toNat default).Op == 30) = true → ∃ (y : Int × Int), VSpec Tryz.prog 83 [] [VV.tp (enc_Env e), VV.agg (enc_Expr (e.M.Exprs.getD x.toNat default))] [] (VV.tup [intV y.fst, intV y.snd]) ∧ leO [] [] ∧ (VV.tup [intV y.fst, intV y.snd]).le (VV.tup [intV v, intV r])) ∧ (((e.M.Exprs.getD x.toNat default).Op == 30) = false → (((e.M.Exprs.getD x.toNat default).Op == 31) = true → leO [] [] ∧ (VV.tup [intV e.Pid, intV (0 : Int)]).le (VV.tup [intV v, intV r])) ∧ (((e.M.Exprs.getD x.toNat default).Op == 31) = false → (((e.M.Exprs.getD x.toNat default).Op == 32) = true → leO [] [] ∧ (VV.tup [intV e.S.Last, intV (0 : Int)]).le (VV.tup [intV v, intV r])) ∧ (((e.M.Exprs.getD x.toNat default).Op == 32) = false → (((e.M.Exprs.getD x.toNat default).Op == 33) = true → leO [] [] ∧ (VV.tup [intV (↑e.S.Procs.length : Int), intV (0 : Int)]).le (VV.tup [intV v, intV r])) ∧ (((e.M.Exprs.getD x.toNat default).Op == 33) = false → (((e.M.Exprs.getD x.toNat default).Op == 34) = true → ∃ (y : Bool), VSpec Tryz.prog 85 [] [VV.tp (enc_Env e)] [] (boolV y) ∧ ∃ (y_1 : Int × Int), VSpec Tryz.prog 84 [] [boolV !y] [] (VV.tup [intV y_1.fst, intV y_1.snd]) ∧ leO [] [] ∧ (VV.tup [intV y_1.fst, intV y_1.snd]).le (VV.tup [intV v, intV r])) ∧ (((e.M.Exprs.getD x.toNat default).Op == 34) = false → (((e.M.Exprs.getD x.toNat default).Op == 35) = true → ∃ (y : Int × Int), VSpec Tryz.prog 84 [] [boolV e.Timeout] [] (VV.tup [intV y.fst, intV y.snd]) ∧ leO [] [] ∧ (VV.tup [intV y.fst, intV y.snd]).le (VV.tup [intV v, intV r])) ∧ (((e.M.Exprs.getD x.toNat default).Op == 35) = false → (((e.M.Exprs.getD x.toNat default).Op == 36) = true → ∃ (y : Int × Int), VSpec Tryz.prog 52 [] [VV.tp (enc_Env e), intV (e.M.Exprs.getD x.toNat default).A] [] (VV.tup [intV y.fst, intV y.snd]) ∧ ((y.snd != (0 : Int)) = true → leO [] [] ∧ (VV.tup [intV (0 : Int), intV y.snd]).le (VV.tup [intV v, intV r])) ∧ ((y.snd != (0 : Int)) = false → ((true && (bif decide (y.fst ≥ (0 : Int)) then decide (y.fst < (↑e.Able.length : Int)) else false) == true) = true → (0 : Int) ≤ y.fst ∧ y.fst < (↑e.Able.length : Int)) ∧ ∃ (y_1 : Int × Int), VSpec Tryz.prog 84 [] [boolV (bif bif decide (y.fst ≥ (0 : Int)) then decide (y.fst < (↑e.Able.length : Int)) else false then e.Able.getD y.fst.toNat false else false)] [] (VV.tup [intV y_1.fst, intV y_1.snd]) ∧ leO [] [] ∧ (VV.tup [intV y_1.fst, intV y_1.snd]).le (VV.tup [intV v, intV r]))) ∧ (((e.M.Exprs.getD x.toNat default).Op == 36) = false → (((e.M.Exprs.getD x.toNat default).Op == 37) = true → ∃ (y : Int × Int), VSpec Tryz.prog 86 [] [VV.tp (enc_Env e), VV.agg (enc_Expr (e.M.Exprs.getD x.toNat default))] [] (VV.tup [intV y.fst, intV y.snd]) ∧ leO [] [] ∧ (VV.tup [intV y.fst, intV y.snd]).le (VV.tup [intV v, intV r])) ∧ (((e.M.Exprs.getD x.toNat default).Op == 37) = false → (((e.M.Exprs.getD x.toNat default).Op == 38) = true → ∃ (y : Int × Int), VSpec Tryz.prog 86 [] [VV.tp (enc_Env e), VV.agg (enc_Expr (e.M.Exprs.getD x.toNat default))] [] (VV.tup [intV y.fst, intV y.snd]) ∧ leO [] [] ∧ (VV.tup [intV y.fst, intV y.snd]).le (VV.tup [intV v, intV r])) ∧ (((e.M.Exprs.getD x.toNat default).Op == 38) = false → (((e.M.Exprs.getD x.toNat default).Op == 39) = true → leO [] [] ∧ (VV.tup [intV (0 : Int), intV (42 : Int)]).le (VV.tup [intV v, intV r])) ∧ (((e.M.Exprs.getD x.toNat default).Op == 39) = false → ∃ (y : Int × Int), VSpec Tryz.prog 87 [] [VV.tp (enc_Env e), VV.agg (enc_Expr (e.M.Exprs.getD x.toNat default))] [] (VV.tup [intV y.fst, intV y.snd]) ∧ leO [] [] ∧ (VV.tup [intV y.fst, intV y.snd]).le (VV.tup [intV v, intV r])))))))))))))))))) ∧ (((e.M.Exprs.getD x.toNat default).Op == 23) = false → (((e.M.Exprs.getD x.toNat default).Op == 24) = true → ∃ (y : Int × Int), VSpec Tryz.prog 81 [] [VV.tp (enc_Env e), VV.agg (enc_Expr (e.M.Exprs.getD x.toNat default))] [] (VV.tup [intV y.fst, intV y.snd]) ∧ leO [] [] ∧ (VV.tup [intV y.fst, intV y.snd]).le (VV.tup [intV v, intV r])) ∧ (((e.M.Exprs.getD x.toNat default).Op == 24) = false → (((e.M.Exprs.getD x.toNat default).Op == 25) = true → (((e.M.Exprs.getD x.toNat default).Op == 25) = true → ∃ (y : Int × Int), VSpec Tryz.prog 82 [] [VV.tp (enc_Env e), VV.agg (enc_Expr (e.M.Exprs.getD x.toNat default))] [] (VV.tup [intV y.fst, intV y.snd]) ∧ leO [] [] ∧ (VV.tup [intV y.fst, intV y.snd]).le (VV.tup [intV v, intV r])) ∧ (((e.M.Exprs.getD x.toNat default).Op == 25) = false → (((e.M.Exprs.getD x.toNat default).Op == 30) = true → ∃ (y : Int × Int), VSpec Tryz.prog 83 [] [VV.tp (enc_Env e), VV.agg (enc_Expr (e.M.Exprs.getD x.toNat default))] [] (VV.tup [intV y.fst, intV y.snd]) ∧ leO [] [] ∧ (VV.tup [intV y.fst, intV y.snd]).le (VV.tup [intV v, intV r])) ∧ (((e.M.Exprs.getD x.toNat default).Op == 30) = false → (((e.M.Exprs.getD x.toNat default).Op == 31) = true → leO [] [] ∧ (VV.tup [intV e.Pid, intV (0 : Int)]).le (VV.tup [intV v, intV r])) ∧ (((e.M.Exprs.getD x.toNat default).Op == 31) = false → (((e.M.Exprs.getD x.toNat default).Op == 32) = true → leO [] [] ∧ (VV.tup [intV e.S.Last, intV (0 : Int)]).le (VV.tup [intV v, intV r])) ∧ (((e.M.Exprs.getD x.toNat default).Op == 32) = false → (((e.M.Exprs.getD x.toNat default).Op == 33) = true → leO [] [] ∧ (VV.tup [intV (↑e.S.Procs.length : Int), intV (0 : Int)]).le (VV.tup [intV v, intV r])) ∧ (((e.M.Exprs.getD x.toNat default).Op == 33) = false → (((e.M.Exprs.getD x.toNat default).Op == 34) = true → ∃ (y : Bool), VSpec Tryz.prog 85 [] [VV.tp (enc_Env e)] [] (boolV y) ∧ ∃ (y_1 : Int × Int), VSpec Tryz.prog 84 [] [boolV !y] [] (VV.tup [intV y_1.fst, intV y_1.snd]) ∧ leO [] [] ∧ (VV.tup [intV y_1.fst, intV y_1.snd]).le (VV.tup [intV v, intV r])) ∧ (((e.M.Exprs.getD x.toNat default).Op == 34) = false → (((e.M.Exprs.getD x.toNat default).Op == 35) = true → ∃ (y : Int × Int), VSpec Tryz.prog 84 [] [boolV e.Timeout] [] (VV.tup [intV y.fst, intV y.snd]) ∧ leO [] [] ∧ (VV.tup [intV y.fst, intV y.snd]).le (VV.tup [intV v, intV r])) ∧ (((e.M.Exprs.getD x.toNat default).Op == 35) = false → (((e.M.Exprs.getD x.toNat default).Op == 36) = true → ∃ (y : Int × Int), VSpec Tryz.prog 52 [] [VV.tp (enc_Env e), intV (e.M.Exprs.getD x.toNat default).A] [] (VV.tup [intV y.fst, intV y.snd]) ∧ ((y.snd != (0 : Int)) = true → leO [] [] ∧ (VV.tup [intV (0 : Int), intV y.snd]).le (VV.tup [intV v, intV r])) ∧ ((y.snd != (0 : Int)) = false → ((true && (bif decide (y.fst ≥ (0 : Int)) then decide (y.fst < (↑e.Able.length : Int)) else false) == true) = true → (0 : Int) ≤ y.fst ∧ y.fst < (↑e.Able.length : Int)) ∧ ∃ (y_1 : Int × Int), VSpec Tryz.prog 84 [] [boolV (bif bif decide (y.fst ≥ (0 : Int)) then decide (y.fst < (↑e.Able.length : Int)) else false then e.Able.getD y.fst.toNat false else false)] [] (VV.tup [intV y_1.fst, intV y_1.snd]) ∧ leO [] [] ∧ (VV.tup [intV y_1.fst, intV y_1.snd]).le (VV.tup [intV v, intV r]))) ∧ (((e.M.Exprs.getD x.toNat default).Op == 36) = false → (((e.M.Exprs.getD x.toNat default).Op == 37) = true → ∃ (y : Int × Int), VSpec Tryz.prog 86 [] [VV.tp (enc_Env e), VV.agg (enc_Expr (e.M.Exprs.getD x.toNat default))] [] (VV.tup [intV y.fst, intV y.snd]) ∧ leO [] [] ∧ (VV.tup [intV y.fst, intV y.snd]).le (VV.tup [intV v, intV r])) ∧ (((e.M.Exprs.getD x.toNat default).Op == 37) = false → (((e.M.Exprs.getD x.toNat default).Op == 38) = true → ∃ (y : Int × Int), VSpec Tryz.prog 86 [] [VV.tp (enc_Env e), VV.agg (enc_Expr (e.M.Exprs.getD x.toNat default))] [] (VV.tup [intV y.fst, intV y.snd]) ∧ leO [] [] ∧ (VV.tup [intV y.fst, intV y.snd]).le (VV.tup [intV v, intV r])) ∧ (((e.M.Exprs.getD x.toNat default).Op == 38) = false → (((e.M.Exprs.getD x.toNat default).Op == 39) = true → leO [] [] ∧ (VV.tup [intV (0 : Int), intV (42 : Int)]).le (VV.tup [intV v, intV r])) ∧ (((e.M.Exprs.getD x.toNat default).Op == 39) = false → ∃ (y : Int × Int), VSpec Tryz.prog 87 [] [VV.tp (enc_Env e), VV.agg (enc_Expr (e.M.Exprs.getD x.toNat default))] [] (VV.tup [intV y.fst, intV y.snd]) ∧ leO [] [] ∧ (VV.tup [intV y.fst, intV y.snd]).le (VV.tup [intV v, intV r]))))))))))))) ∧ (((e.M.Exprs.getD x.toNat default).Op == 25) = false → (((e.M.Exprs.getD x.toNat default).Op == 26) = true → (((e.M.Exprs.getD x.toNat default).Op == 26) = true → ∃ (y : Int × Int), VSpec Tryz.prog 82 [] [VV.tp (enc_Env e), VV.agg (enc_Expr (e.M.Exprs.getD x.toNat default))] [] (VV.tup [intV y.fst, intV y.snd]) ∧ leO [] [] ∧ (VV.tup [intV y.fst, intV y.snd]).le (VV.tup [intV v, intV r])) ∧ (((e.M.Exprs.getD x.toNat default).Op == 26) = false → (((e.M.Exprs.getD x.toNat default).Op == 30) = true → ∃ (y : Int × Int), VSpec Tryz.prog 83 [] [VV.tp (enc_Env e), VV.agg (enc_Expr (e.M.Exprs.getD x.toNat default))] [] (VV.tup [intV y.fst, intV y.snd]) ∧ leO [] [] ∧ (VV.tup [intV y.fst, intV y.snd]).le (VV.tup [intV v, intV r])) ∧ (((e.M.Exprs.getD x.toNat default).Op == 30) = false → (((e.M.Exprs.getD x.toNat default).Op == 31) = true → leO [] [] ∧ (VV.tup [intV e.Pid, intV (0 : Int)]).le (VV.tup [intV v, intV r])) ∧ (((e.M.Exprs.getD x.toNat default).Op == 31) = false → (((e.M.Exprs.getD x.toNat default).Op == 32) = true → leO [] [] ∧ (VV.tup [intV e.S.Last, intV (0 : Int)]).le (VV.tup [intV v, intV r])) ∧ (((e.M.Exprs.getD x.toNat default).Op == 32) = false → (((e.M.Exprs.getD x.toNat default).Op == 33) = true → leO [] [] ∧ (VV.tup [intV (↑e.S.Procs.length : Int), intV (0 : Int)]).le (VV.tup [intV v, intV r])) ∧ (((e.M.Exprs.getD x.toNat default).Op == 33) = false → (((e.M.Exprs.getD x.toNat default).Op == 34) = true → ∃ (y : Bool), VSpec Tryz.prog 85 [] [VV.tp (enc_Env e)] [] (boolV y) ∧ ∃ (y_1 : Int × Int), VSpec Tryz.prog 84 [] [boolV !y] [] (VV.tup [intV y_1.fst, intV y_1.snd]) ∧ leO [] [] ∧ (VV.tup [intV y_1.fst, intV y_1.snd]).le (VV.tup [intV v, intV r])) ∧ (((e.M.Exprs.getD x.toNat default).Op == 34) = false → (((e.M.Exprs.getD x.toNat default).Op == 35) = true → ∃ (y : Int × Int), VSpec Tryz.prog 84 [] [boolV e.Timeout] [] (VV.tup [intV y.fst, intV y.snd]) ∧ leO [] [] ∧ (VV.tup [intV y.fst, intV y.snd]).le (VV.tup [intV v, intV r])) ∧ (((e.M.Exprs.getD x.toNat default).Op == 35) = false → (((e.M.Exprs.getD x.toNat default).Op == 36) = true → ∃ (y : Int × Int), VSpec Tryz.prog 52 [] [VV.tp (enc_Env e), intV (e.M.Exprs.getD x.toNat default).A] [] (VV.tup [intV y.fst, intV y.snd]) ∧ ((y.snd != (0 : Int)) = true → leO [] [] ∧ (VV.tup [intV (0 : Int), intV y.snd]).le (VV.tup [intV v, intV r])) ∧ ((y.snd != (0 : Int)) = false → ((true && (bif decide (y.fst ≥ (0 : Int)) then decide (y.fst < (↑e.Able.length : Int)) else false) == true) = true → (0 : Int) ≤ y.fst ∧ y.fst < (↑e.Able.length : Int)) ∧ ∃ (y_1 : Int × Int), VSpec Tryz.prog 84 [] [boolV (bif bif decide (y.fst ≥ (0 : Int)) then decide (y.fst < (↑e.Able.length : Int)) else false then e.Able.getD y.fst.toNat false else false)] [] (VV.tup [intV y_1.fst, intV y_1.snd]) ∧ leO [] [] ∧ (VV.tup [intV y_1.fst, intV y_1.snd]).le (VV.tup [intV v, intV r]))) ∧ (((e.M.Exprs.getD x.toNat default).Op == 36) = false → (((e.M.Exprs.getD x.toNat default).Op == 37) = true → ∃ (y : Int × Int), VSpec Tryz.prog 86 [] [VV.tp (enc_Env e), VV.agg (enc_Expr (e.M.Exprs.getD x.toNat default))] [] (VV.tup [intV y.fst, intV y.snd]) ∧ leO [] [] ∧ (VV.tup [intV y.fst, intV y.snd]).le (VV.tup [intV v, intV r])) ∧ (((e.M.Exprs.getD x.toNat default).Op == 37) = false → (((e.M.Exprs.getD x.toNat default).Op == 38) = true → ∃ (y : Int × Int), VSpec Tryz.prog 86 [] [VV.tp (enc_Env e), VV.agg (enc_Expr (e.M.Exprs.getD x.toNat default))] [] (VV.tup [intV y.fst, intV y.snd]) ∧ leO [] [] ∧ (VV.tup [intV y.fst, intV y.snd]).le (VV.tup [intV v, intV r])) ∧ (((e.M.Exprs.getD x.toNat default).Op == 38) = false → (((e.M.Exprs.getD x.toNat default).Op == 39) = true → leO [] [] ∧ (VV.tup [intV (0 : Int), intV (42 : Int)]).le (VV.tup [intV v, intV r])) ∧ (((e.M.Exprs.getD x.toNat default).Op == 39) = false → ∃ (y : Int × Int), VSpec Tryz.prog 87 [] [VV.tp (enc_Env e), VV.agg (enc_Expr (e.M.Exprs.getD x.toNat default))] [] (VV.tup [intV y.fst, intV y.snd]) ∧ leO [] [] ∧ (VV.tup [intV y.fst, intV y.snd]).le (VV.tup [intV v, intV r]))))))))))))) ∧ (((e.M.Exprs.getD x.toNat default).Op == 26) = false → (((e.M.Exprs.getD x.toNat default).Op == 27) = true → (((e.M.Exprs.getD x.toNat default).Op == 27) = true → ∃ (y : Int × Int), VSpec Tryz.prog 82 [] [VV.tp (enc_Env e), VV.agg (enc_Expr (e.M.Exprs.getD x.toNat default))] [] (VV.tup [intV y.fst, intV y.snd]) ∧ leO [] [] ∧ (VV.tup [intV y.fst, intV y.snd]).le (VV.tup [intV v, intV r])) ∧ (((e.M.Exprs.getD x.toNat default).Op == 27) = false → (((e.M.Exprs.getD x.toNat default).Op == 30) = true → ∃ (y : Int × Int), VSpec Tryz.prog 83 [] [VV.tp (enc_Env e), VV.agg (enc_Expr (e.M.Exprs.getD x.toNat default))] [] (VV.tup [intV y.fst, intV y.snd]) ∧ leO [] [] ∧ (VV.tup [intV y.fst, intV y.snd]).le (VV.tup [intV v, intV r])) ∧ (((e.M.Exprs.getD x.toNat default).Op == 30) = false → (((e.M.Exprs.getD x.toNat default).Op == 31) = true → leO [] [] ∧ (VV.tup [intV e.Pid, intV (0 : Int)]).le (VV.tup [intV v, intV r])) ∧ (((e.M.Exprs.getD x.toNat default).Op == 31) = false → (((e.M.Exprs.getD x.toNat default).Op == 32) = true → leO [] [] ∧ (VV.tup [intV e.S.Last, intV (0 : Int)]).le (VV.tup [intV v, intV r])) ∧ (((e.M.Exprs.getD x.toNat default).Op == 32) = false → (((e.M.Exprs.getD x.toNat default).Op == 33) = true → leO [] [] ∧ (VV.tup [intV (↑e.S.Procs.length : Int), intV (0 : Int)]).le (VV.tup [intV v, intV r])) ∧ (((e.M.Exprs.getD x.toNat default).Op == 33) = false → (((e.M.Exprs.getD x.toNat default).Op == 34) = true → ∃ (y : Bool), VSpec Tryz.prog 85 [] [VV.tp (enc_Env e)] [] (boolV y) ∧ ∃ (y_1 : Int × Int), VSpec Tryz.prog 84 [] [boolV !y] [] (VV.tup [intV y_1.fst, intV y_1.snd]) ∧ leO [] [] ∧ (VV.tup [intV y_1.fst, intV y_1.snd]).le (VV.tup [intV v, intV r])) ∧ (((e.M.Exprs.getD x.toNat default).Op == 34) = false → (((e.M.Exprs.getD x.toNat default).Op == 35) = true → ∃ (y : Int × Int), VSpec Tryz.prog 84 [] [boolV e.Timeout] [] (VV.tup [intV y.fst, intV y.snd]) ∧ leO [] [] ∧ (VV.tup [intV y.fst, intV y.snd]).le (VV.tup [intV v, intV r])) ∧ (((e.M.Exprs.getD x.toNat default).Op == 35) = false → (((e.M.Exprs.getD x.toNat default).Op == 36) = true → ∃ (y : Int × Int), VSpec Tryz.prog 52 [] [VV.tp (enc_Env e), intV (e.M.Exprs.getD x.toNat default).A] [] (VV.tup [intV y.fst, intV y.snd]) ∧ ((y.snd != (0 : Int)) = true → leO [] [] ∧ (VV.tup [intV (0 : Int), intV y.snd]).le (VV.tup [intV v, intV r])) ∧ ((y.snd != (0 : Int)) = false → ((true && (bif decide (y.fst ≥ (0 : Int)) then decide (y.fst < (↑e.Able.length : Int)) else false) == true) = true → (0 : Int) ≤ y.fst ∧ y.fst < (↑e.Able.length : Int)) ∧ ∃ (y_1 : Int × Int), VSpec Tryz.prog 84 [] [boolV (bif bif decide (y.fst ≥ (0 : Int)) then decide (y.fst < (↑e.Able.length : Int)) else false then e.Able.getD y.fst.toNat false else false)] [] (VV.tup [intV y_1.fst, intV y_1.snd]) ∧ leO [] [] ∧ (VV.tup [intV y_1.fst, intV y_1.snd]).le (VV.tup [intV v, intV r]))) ∧ (((e.M.Exprs.getD x.toNat default).Op == 36) = false → (((e.M.Exprs.getD x.toNat default).Op == 37) = true → ∃ (y : Int × Int), VSpec Tryz.prog 86 [] [VV.tp (enc_Env e), VV.agg (enc_Expr (e.M.Exprs.getD x.toNat default))] [] (VV.tup [intV y.fst, intV y.snd]) ∧ leO [] [] ∧ (VV.tup [intV y.fst, intV y.snd]).le (VV.tup [intV v, intV r])) ∧ (((e.M.Exprs.getD x.toNat default).Op == 37) = false → (((e.M.Exprs.getD x.toNat default).Op == 38) = true → ∃ (y : Int × Int), VSpec Tryz.prog 86 [] [VV.tp (enc_Env e), VV.agg (enc_Expr (e.M.Exprs.getD x.toNat default))] [] (VV.tup [intV y.fst, intV y.snd]) ∧ leO [] [] ∧ (VV.tup [intV y.fst, intV y.snd]).le (VV.tup [intV v, intV r])) ∧ (((e.M.Exprs.getD x.toNat default).Op == 38) = false → (((e.M.Exprs.getD x.toNat default).Op == 39) = true → leO [] [] ∧ (VV.tup [intV (0 : Int), intV (42 : Int)]).le (VV.tup [intV v, intV r])) ∧ (((e.M.Exprs.getD x.toNat default).Op == 39) = false → ∃ (y : Int × Int), VSpec Tryz.prog 87 [] [VV.tp (enc_Env e), VV.agg (enc_Expr (e.M.Exprs.getD x.toNat default))] [] (VV.tup [intV y.fst, intV y.snd]) ∧ leO [] [] ∧ (VV.tup [intV y.fst, intV y.snd]).le (VV.tup [intV v, intV r]))))))))))))) ∧ (((e.M.Exprs.getD x.toNat default).Op == 27) = false → (((e.M.Exprs.getD x.toNat default).Op == 28) = true → (((e.M.Exprs.getD x.toNat default).Op == 28) = true → ∃ (y : Int × Int), VSpec Tryz.prog 82 [] [VV.tp (enc_Env e), VV.agg (enc_Expr (e.M.Exprs.getD x.toNat default))] [] (VV.tup [intV y.fst, intV y.snd]) ∧ leO [] [] ∧ (VV.tup [intV y.fst, intV y.snd]).le (VV.tup [intV v, intV r])) ∧ (((e.M.Exprs.getD x.toNat default).Op == 28) = false → (((e.M.Exprs.getD x.toNat default).Op == 30) = true → ∃ (y : Int × Int), VSpec Tryz.prog 83 [] [VV.tp (enc_Env e), VV.agg (enc_Expr (e.M.Exprs.getD x.toNat default))] [] (VV.tup [intV y.fst, intV y.snd]) ∧ leO [] [] ∧ (VV.tup [intV y.fst, intV y.snd]).le (VV.tup [intV v, intV r])) ∧ (((e.M.Exprs.getD x.toNat default).Op == 30) = false → (((e.M.Exprs.getD x.toNat default).Op == 31) = true → leO [] [] ∧ (VV.tup [intV e.Pid, intV (0 : Int)]).le (VV.tup [intV v, intV r])) ∧ (((e.M.Exprs.getD x.toNat default).Op == 31) = false → (((e.M.Exprs.getD x.toNat default).Op == 32) = true → leO [] [] ∧ (VV.tup [intV e.S.Last, intV (0 : Int)]).le (VV.tup [intV v, intV r])) ∧ (((e.M.Exprs.getD x.toNat default).Op == 32) = false → (((e.M.Exprs.getD x.toNat default).Op == 33) = true → leO [] [] ∧ (VV.tup [intV (↑e.S.Procs.length : Int), intV (0 : Int)]).le (VV.tup [intV v, intV r])) ∧ (((e.M.Exprs.getD x.toNat default).Op == 33) = false → (((e.M.Exprs.getD x.toNat default).Op == 34) = true → ∃ (y : Bool), VSpec Tryz.prog 85 [] [VV.tp (enc_Env e)] [] (boolV y) ∧ ∃ (y_1 : Int × Int), VSpec Tryz.prog 84 [] [boolV !y] [] (VV.tup [intV y_1.fst, intV y_1.snd]) ∧ leO [] [] ∧ (VV.tup [intV y_1.fst, intV y_1.snd]).le (VV.tup [intV v, intV r])) ∧ (((e.M.Exprs.getD x.toNat default).Op == 34) = false → (((e.M.Exprs.getD x.toNat default).Op == 35) = true → ∃ (y : Int × Int), VSpec Tryz.prog 84 [] [boolV e.Timeout] [] (VV.tup [intV y.fst, intV y.snd]) ∧ leO [] [] ∧ (VV.tup [intV y.fst, intV y.snd]).le (VV.tup [intV v, intV r])) ∧ (((e.M.Exprs.getD x.toNat default).Op == 35) = false → (((e.M.Exprs.getD x.toNat default).Op == 36) = true → ∃ (y : Int × Int), VSpec Tryz.prog 52 [] [VV.tp (enc_Env e), intV (e.M.Exprs.getD x.toNat default).A] [] (VV.tup [intV y.fst, intV y.snd]) ∧ ((y.snd != (0 : Int)) = true → leO [] [] ∧ (VV.tup [intV (0 : Int), intV y.snd]).le (VV.tup [intV v, intV r])) ∧ ((y.snd != (0 : Int)) = false → ((true && (bif decide (y.fst ≥ (0 : Int)) then decide (y.fst < (↑e.Able.length : Int)) else false) == true) = true → (0 : Int) ≤ y.fst ∧ y.fst < (↑e.Able.length : Int)) ∧ ∃ (y_1 : Int × Int), VSpec Tryz.prog 84 [] [boolV (bif bif decide (y.fst ≥ (0 : Int)) then decide (y.fst < (↑e.Able.length : Int)) else false then e.Able.getD y.fst.toNat false else false)] [] (VV.tup [intV y_1.fst, intV y_1.snd]) ∧ leO [] [] ∧ (VV.tup [intV y_1.fst, intV y_1.snd]).le (VV.tup [intV v, intV r]))) ∧ (((e.M.Exprs.getD x.toNat default).Op == 36) = false → (((e.M.Exprs.getD x.toNat default).Op == 37) = true → ∃ (y : Int × Int), VSpec Tryz.prog 86 [] [VV.tp (enc_Env e), VV.agg (enc_Expr (e.M.Exprs.getD x.toNat default))] [] (VV.tup [intV y.fst, intV y.snd]) ∧ leO [] [] ∧ (VV.tup [intV y.fst, intV y.snd]).le (VV.tup [intV v, intV r])) ∧ (((e.M.Exprs.getD x.toNat default).Op == 37) = false → (((e.M.Exprs.getD x.toNat default).Op == 38) = true → ∃ (y : Int × Int), VSpec Tryz.prog 86 [] [VV.tp (enc_Env e), VV.agg (enc_Expr (e.M.Exprs.getD x.toNat default))] [] (VV.tup [intV y.fst, intV y.snd]) ∧ leO [] [] ∧ (VV.tup [intV y.fst, intV y.snd]).le (VV.tup [intV v, intV r])) ∧ (((e.M.Exprs.getD x.toNat default).Op == 38) = false → (((e.M.Exprs.getD x.toNat default).Op == 39) = true → leO [] [] ∧ (VV.tup [intV (0 : Int), intV (42 : Int)]).le (VV.tup [intV v, intV r])) ∧ (((e.M.Exprs.getD x.toNat default).Op == 39) = false → ∃ (y : Int × Int), VSpec Tryz.prog 87 [] [VV.tp (enc_Env e), VV.agg (enc_Expr (e.M.Exprs.getD x.toNat default))] [] (VV.tup [intV y.fst, intV y.snd]) ∧ leO [] [] ∧ (VV.tup [intV y.fst, intV y.snd]).le (VV.tup [intV v, intV r]))))))))))))) ∧ (((e.M.Exprs.getD x.toNat default).Op == 28) = false → (((e.M.Exprs.getD x.toNat default).Op == 29) = true → ∃ (y : Int × Int), VSpec Tryz.prog 82 [] [VV.tp (enc_Env e), VV.agg (enc_Expr (e.M.Exprs.getD x.toNat default))] [] (VV.tup [intV y.fst, intV y.snd]) ∧ leO [] [] ∧ (VV.tup [intV y.fst, intV y.snd]).le (VV.tup [intV v, intV r])) ∧ (((e.M.Exprs.getD x.toNat default).Op == 29) = false → (((e.M.Exprs.getD x.toNat default).Op == 30) = true → ∃ (y : Int × Int), VSpec Tryz.prog 83 [] [VV.tp (enc_Env e), VV.agg (enc_Expr (e.M.Exprs.getD x.toNat default))] [] (VV.tup [intV y.fst, intV y.snd]) ∧ leO [] [] ∧ (VV.tup [intV y.fst, intV y.snd]).le (VV.tup [intV v, intV r])) ∧ (((e.M.Exprs.getD x.toNat default).Op == 30) = false → (((e.M.Exprs.getD x.toNat default).Op == 31) = true → leO [] [] ∧ (VV.tup [intV e.Pid, intV (0 : Int)]).le (VV.tup [intV v, intV r])) ∧ (((e.M.Exprs.getD x.toNat default).Op == 31) = false → (((e.M.Exprs.getD x.toNat default).Op == 32) = true → leO [] [] ∧ (VV.tup [intV e.S.Last, intV (0 : Int)]).le (VV.tup [intV v, intV r])) ∧ (((e.M.Exprs.getD x.toNat default).Op == 32) = false → (((e.M.Exprs.getD x.toNat default).Op == 33) = true → leO [] [] ∧ (VV.tup [intV (↑e.S.Procs.length : Int), intV (0 : Int)]).le (VV.tup [intV v, intV r])) ∧ (((e.M.Exprs.getD x.toNat default).Op == 33) = false → (((e.M.Exprs.getD x.toNat default).Op == 34) = true → ∃ (y : Bool), VSpec Tryz.prog 85 [] [VV.tp (enc_Env e)] [] (boolV y) ∧ ∃ (y_1 : Int × Int), VSpec Tryz.prog 84 [] [boolV !y] [] (VV.tup [intV y_1.fst, intV y_1.snd]) ∧ leO [] [] ∧ (VV.tup [intV y_1.fst, intV y_1.snd]).le (VV.tup [intV v, intV r])) ∧ (((e.M.Exprs.getD x.toNat default).Op == 34) = false → (((e.M.Exprs.getD x.toNat default).Op == 35) = true → ∃ (y : Int × Int), VSpec Tryz.prog 84 [] [boolV e.Timeout] [] (VV.tup [intV y.fst, intV y.snd]) ∧ leO [] [] ∧ (VV.tup [intV y.fst, intV y.snd]).le (VV.tup [intV v, intV r])) ∧ (((e.M.Exprs.getD x.toNat default).Op == 35) = false → (((e.M.Exprs.getD x.toNat default).Op == 36) = true → ∃ (y : Int × Int), VSpec Tryz.prog 52 [] [VV.tp (enc_Env e), intV (e.M.Exprs.getD x.toNat default).A] [] (VV.tup [intV y.fst, intV y.snd]) ∧ ((y.snd != (0 : Int)) = true → leO [] [] ∧ (VV.tup [intV (0 : Int), intV y.snd]).le (VV.tup [intV v, intV r])) ∧ ((y.snd != (0 : Int)) = false → ((true && (bif decide (y.fst ≥ (0 : Int)) then decide (y.fst < (↑e.Able.length : Int)) else false) == true) = true → (0 : Int) ≤ y.fst ∧ y.fst < (↑e.Able.length : Int)) ∧ ∃ (y_1 : Int × Int), VSpec Tryz.prog 84 [] [boolV (bif bif decide (y.fst ≥ (0 : Int)) then decide (y.fst < (↑e.Able.length : Int)) else false then e.Able.getD y.fst.toNat false else false)] [] (VV.tup [intV y_1.fst, intV y_1.snd]) ∧ leO [] [] ∧ (VV.tup [intV y_1.fst, intV y_1.snd]).le (VV.tup [intV v, intV r]))) ∧ (((e.M.Exprs.getD x.toNat default).Op == 36) = false → (((e.M.Exprs.getD x.toNat default).Op == 37) = true → ∃ (y : Int × Int), VSpec Tryz.prog 86 [] [VV.tp (enc_Env e), VV.agg (enc_Expr (e.M.Exprs.getD x.toNat default))] [] (VV.tup [intV y.fst, intV y.snd]) ∧ leO [] [] ∧ (VV.tup [intV y.fst, intV y.snd]).le (VV.tup [intV v, intV r])) ∧ (((e.M.Exprs.getD x.toNat default).Op == 37) = false → (((e.M.Exprs.getD x.toNat default).Op == 38) = true → ∃ (y : Int × Int), VSpec Tryz.prog 86 [] [VV.tp (enc_Env e), VV.agg (enc_Expr (e.M.Exprs.getD x.toNat default))] [] (VV.tup [intV y.fst, intV y.snd]) ∧ leO [] [] ∧ (VV.tup [intV y.fst, intV y.snd]).le (VV.tup [intV v, intV r])) ∧ (((e.M.Exprs.getD x.toNat default).Op == 38) = false → (((e.M.Exprs.getD x.toNat default).Op == 39) = true → leO [] [] ∧ (VV.tup [intV (0 : Int), intV (42 : Int)]).le (VV.tup [intV v, intV r])) ∧ (((e.M.Exprs.getD x.toNat default).Op == 39) = false → ∃ (y : Int × Int), VSpec Tryz.prog 87 [] [VV.tp (enc_Env e), VV.agg (enc_Expr (e.M.Exprs.getD x.toNat default))] [] (VV.tup [intV y.fst, intV y.snd]) ∧ leO [] [] ∧ (VV.tup [intV y.fst, intV y.snd]).le (VV.tup [intV v, intV r])))))))))))))))))))))) := by kernel_rfl
theorem contains_raw (b : Bool) (l : List Int) (v : Int) : (fnCtx Tryz.prog tb shEx annNo true Tryz.f119 [] (boolV b)).goal (St.init [] [encL_Int true l, intV v]) =
    (∃ (y : Int), VSpec Tryz.prog 147 [] [encL_Int true l, intV v] [] (intV y) ∧ leO [] [] ∧ (boolV (decide (y ≥ (0 : Int)))).le (boolV b)) := by kernel_rfl
theorem index_raw (r : Int) (l : List Int) (v : Int) : (fnCtx Tryz.prog tb shEx ann_index true Tryz.f147 [] (intV r)).goal (St.init [] [encL_Int true l, intV v]) =
    (SatC (fnCtx Tryz.prog tb shEx ann_index true Tryz.f147 [] (intV r)) [1, 0, 1, 0] (mkSt [(0, encL_Int true l), (1, intV v), (7, intV (↑l.length : Int)), (8, intV (0 : Int))] [])) := by kernel_rfl
theorem find_raw (r : Int) (c : D.Chan) (l mt : List Int) (some' : Bool) : (fnCtx Tryz.prog tb shEx ann_find true Tryz.f100 [] (intV r)).goal (St.init [] [.agg (enc_Chan c), encL_Int false l, encL_Int true mt, boolV some']) =
    (SatC (fnCtx Tryz.prog tb shEx ann_find true Tryz.f100 [] (intV r)) [1, 0, 1, 0] (mkSt [(1, encL_Int false l), (2, encL_Int true mt), (3, boolV some'), (12, encL_Ints true c.Queue), (13, intV (↑c.Queue.length : Int)), (14, intV (0 : Int))] [])) := by kernel_rfl
theorem mtch_raw (b : Bool) (x l mt : List Int) : (fnCtx Tryz.prog tb shEx ann_mtch true Tryz.f129 [] (boolV b)).goal (St.init [] [encL_Int true x, encL_Int false l, encL_Int true mt]) =
    (((bif decide ((↑x.length : Int) < (↑mt.length : Int)) then true else decide ((↑l.length : Int) < (↑mt.length : Int))) = true → leO [] [] ∧ (boolV false).le (boolV b)) ∧ ((bif decide ((↑x.length : Int) < (↑mt.length : Int)) then true else decide ((↑l.length : Int) < (↑mt.length : Int))) = false → SatC (fnCtx Tryz.prog tb shEx ann_mtch true Tryz.f129 [] (boolV b)) [1, 1, 0, 1, 0] (mkSt [(0, encL_Int true x), (1, encL_Int false l), (21, encL_Int true mt), (22, intV (↑mt.length : Int)), (23, intV (0 : Int))] []))) := by kernel_rfl
theorem slot1_raw (p k r : Int) (e : D.Env) (_ : Int) (ds : List D.Dim) (who at' i : Int) (J : St → Prop) : ((fnCtx Tryz.prog tb shEx ann_slot true Tryz.f80 [] (.tup [intV p, intV k, intV r])).loop [1, 1, 1, 1, 1, 1, 0, 1, 0] J).goal (stSlot e ds who at' i) =
    ((decide (i < (↑ds.length : Int)) = true → ((0 : Int) ≤ i ∧ i < (↑ds.length : Int)) ∧ ∃ (y : Int × Int), VSpec Tryz.prog 52 [] [VV.tp (enc_Env e), intV (ds.getD i.toNat default).I] [] (VV.tup [intV y.fst, intV y.snd]) ∧ ((y.snd != (0 : Int)) = true → leO [] [] ∧ (VV.tup [intV (0 : Int), intV (0 : Int), intV y.snd]).le (VV.tup [intV p, intV k, intV r])) ∧ ((y.snd != (0 : Int)) = false → ((bif decide (y.fst < (0 : Int)) then true else decide (y.fst ≥ (ds.getD i.toNat default).Len)) = true → leO [] [] ∧ (VV.tup [intV (0 : Int), intV (0 : Int), intV (47 : Int)]).le (VV.tup [intV p, intV k, intV r])) ∧ ((bif decide (y.fst < (0 : Int)) then true else decide (y.fst ≥ (ds.getD i.toNat default).Len)) = false → J (mkSt [(0, VV.tp (enc_Env e)), (8, intV who), (10, intV (IntKind.i64.wrap (at' + IntKind.i64.wrap (y.fst * (ds.getD i.toNat default).Stride)))), (46, encL_Dim true ds), (47, intV (↑ds.length : Int)), (48, intV (IntKind.i64.wrap (i + (1 : Int))))] [])))) ∧ (decide (i < (↑ds.length : Int)) = false → leO [] [] ∧ (VV.tup [intV who, intV at', intV (0 : Int)]).le (VV.tup [intV p, intV k, intV r]))) := by kernel_rfl
theorem poll1_raw (v r : Int) (e : D.Env) (x : D.Expr) (c : D.Chan) (l : List Int) (k : Int) (J : St → Prop) : ((fnCtx Tryz.prog tb shEx ann_poll true Tryz.f83 [] (.tup [intV v, intV r])).loop [1, 1, 1, 1, 1, 1, 0, 1, 0] J).goal (stPoll e x c l k) =
    ((decide (k < (↑x.Args.length : Int)) = true → ((0 : Int) ≤ k ∧ k < (↑x.Args.length : Int)) ∧ ((0 : Int) ≤ k ∧ k < (↑x.Match.length : Int)) ∧ ((x.Match.getD k.toNat (0 : Int) != (1 : Int)) = true → J (mkSt [(0, VV.tp (enc_Env e)), (3, VV.bp 0 0), (8, VV.bp 1 0), (9, VV.ow 2 0 l.length), (51, encL_Int true x.Args), (52, intV (↑x.Args.length : Int)), (53, intV (IntKind.i64.wrap (k + (1 : Int))))] [Ob.box (enc_Expr x), Ob.box (enc_Chan c), Ob.arr true 0 l.length 1 fun (i : Nat) => [intV (l.getD i (0 : Int))]])) ∧ ((x.Match.getD k.toNat (0 : Int) != (1 : Int)) = false → ∃ (y : Int × Int), VSpec Tryz.prog 52 [] [VV.tp (enc_Env e), intV (x.Args.getD k.toNat (0 : Int))] [] (VV.tup [intV y.fst, intV y.snd]) ∧ ((0 : Int) ≤ k ∧ k < (↑l.length : Int)) ∧ ((y.snd != (0 : Int)) = true → leO [] [] ∧ (VV.tup [intV (0 : Int), intV y.snd]).le (VV.tup [intV v, intV r])) ∧ ((y.snd != (0 : Int)) = false → J (mkSt [(0, VV.tp (enc_Env e)), (3, VV.bp 0 0), (8, VV.bp 1 0), (9, VV.ow 2 0 l.length), (51, encL_Int true x.Args), (52, intV (↑x.Args.length : Int)), (53, intV (IntKind.i64.wrap (k + (1 : Int))))] [Ob.box (enc_Expr x), Ob.box (enc_Chan c), Ob.arr true 0 l.length 1 fun (j : Nat) => bif j.beq k.toNat then [intV y.fst] else [intV (l.getD j (0 : Int))]])))) ∧ (decide (k < (↑x.Args.length : Int)) = false → ∃ (y : Int), VSpec Tryz.prog 100 [] [VV.agg (enc_Chan c), encL_Int false l, encL_Int true x.Match, boolV (x.N == 1)] [] (intV y) ∧ ∃ (y_1 : Int × Int), VSpec Tryz.prog 84 [] [boolV (decide (y ≥ (0 : Int)))] [] (VV.tup [intV y_1.fst, intV y_1.snd]) ∧ leO [] [] ∧ (VV.tup [intV y_1.fst, intV y_1.snd]).le (VV.tup [intV v, intV r]))) := by kernel_rfl
theorem progress1_raw (b : Bool) (e : D.Env) (k : Int) (J : St → Prop) : ((fnCtx Tryz.prog tb shEx ann_progress true Tryz.f85 [] (boolV b)).loop [1, 0, 1, 0] J).goal (stProg e k) =
    ((decide (k < (↑e.S.Procs.length : Int)) = true → ((0 : Int) ≤ k ∧ k < (↑e.S.Procs.length : Int)) ∧ ((0 : Int) ≤ (e.S.Procs.getD k.toNat default).Type_ ∧ (e.S.Procs.getD k.toNat default).Type_ < (↑e.M.Procs.length : Int)) ∧ ((0 : Int) ≤ (e.S.Procs.getD k.toNat default).Loc ∧ (e.S.Procs.getD k.toNat default).Loc < (↑(e.M.Procs.getD (e.S.Procs.getD k.toNat default).Type_.toNat default).Locs.length : Int)) ∧ (((e.M.Procs.getD (e.S.Procs.getD k.toNat default).Type_.toNat default).Locs.getD (e.S.Procs.getD k.toNat default).Loc.toNat default).Progress = true → leO [] [] ∧ (boolV true).le (boolV b)) ∧ (((e.M.Procs.getD (e.S.Procs.getD k.toNat default).Type_.toNat default).Locs.getD (e.S.Procs.getD k.toNat default).Loc.toNat default).Progress = false → J (mkSt [(0, VV.tp (enc_Env e)), (9, encL_Process true e.S.Procs), (10, intV (↑e.S.Procs.length : Int)), (11, intV (IntKind.i64.wrap (k + (1 : Int))))] []))) ∧ (decide (k < (↑e.S.Procs.length : Int)) = false → leO [] [] ∧ (boolV false).le (boolV b))) := by kernel_rfl
theorem index1_raw (r : Int) (l : List Int) (v k : Int) (J : St → Prop) : ((fnCtx Tryz.prog tb shEx ann_index true Tryz.f147 [] (intV r)).loop [1, 0, 1, 0] J).goal (stIdx l v k) =
    ((decide (k < (↑l.length : Int)) = true → ((0 : Int) ≤ k ∧ k < (↑l.length : Int)) ∧ ((v == l.getD k.toNat (0 : Int)) = true → leO [] [] ∧ (intV k).le (intV r)) ∧ ((v == l.getD k.toNat (0 : Int)) = false → J (mkSt [(0, encL_Int true l), (1, intV v), (7, intV (↑l.length : Int)), (8, intV (IntKind.i64.wrap (k + (1 : Int))))] []))) ∧ (decide (k < (↑l.length : Int)) = false → leO [] [] ∧ (intV (-1 : Int)).le (intV r))) := by kernel_rfl
theorem find1_raw (r : Int) (c : D.Chan) (l mt : List Int) (any : Bool) (k : Int) (J : St → Prop) : ((fnCtx Tryz.prog tb shEx ann_find true Tryz.f100 [] (intV r)).loop [1, 0, 1, 0] J).goal (stFind c l mt any k) =
    ((decide (k < (↑c.Queue.length : Int)) = true → ((0 : Int) ≤ k ∧ k < (↑c.Queue.length : Int)) ∧ ∃ (y : Bool), VSpec Tryz.prog 129 [] [encL_Int true (c.Queue.getD k.toNat []), encL_Int false l, encL_Int true mt] [] (boolV y) ∧ (y = true → leO [] [] ∧ (intV k).le (intV r)) ∧ (y = false → ((!any) = true → leO [] [] ∧ (intV (-1 : Int)).le (intV r)) ∧ ((!any) = false → J (mkSt [(1, encL_Int false l), (2, encL_Int true mt), (3, boolV any), (12, encL_Ints true c.Queue), (13, intV (↑c.Queue.length : Int)), (14, intV (IntKind.i64.wrap (k + (1 : Int))))] [])))) ∧ (decide (k < (↑c.Queue.length : Int)) = false → leO [] [] ∧ (intV (-1 : Int)).le (intV r))) := by kernel_rfl
theorem mtch1_raw (b : Bool) (x l mt : List Int) (k : Int) (J : St → Prop) : ((fnCtx Tryz.prog tb shEx ann_mtch true Tryz.f129 [] (boolV b)).loop [1, 1, 0, 1, 0] J).goal (stMtch x l mt k) =
    ((decide (k < (↑mt.length : Int)) = true → ((0 : Int) ≤ k ∧ k < (↑mt.length : Int)) ∧ ((true && (mt.getD k.toNat (0 : Int) == 1) == true) = true → (0 : Int) ≤ k ∧ k < (↑x.length : Int)) ∧ ((true && (mt.getD k.toNat (0 : Int) == 1) == true) = true → (0 : Int) ≤ k ∧ k < (↑l.length : Int)) ∧ ((bif mt.getD k.toNat (0 : Int) == 1 then x.getD k.toNat (0 : Int) != l.getD k.toNat (0 : Int) else false) = true → leO [] [] ∧ (boolV false).le (boolV b)) ∧ ((bif mt.getD k.toNat (0 : Int) == 1 then x.getD k.toNat (0 : Int) != l.getD k.toNat (0 : Int) else false) = false → J (mkSt [(0, encL_Int true x), (1, encL_Int false l), (21, encL_Int true mt), (22, intV (↑mt.length : Int)), (23, intV (IntKind.i64.wrap (k + (1 : Int))))] []))) ∧ (decide (k < (↑mt.length : Int)) = false → leO [] [] ∧ (boolV true).le (boolV b))) := by kernel_rfl
theorem lpart_raw (v r : Int) (e : D.Env) (x : Int) : (fnCtx Tryz.prog tb shEx annNo true Tryz.f117 [] (.tup [intV v, intV r])).goal (St.init [] [intV x, .tp [.tp (enc_Env e)]]) =
    (∃ (y : Int × Int), VSpec Tryz.prog 52 [] [VV.tp (enc_Env e), intV x] [] (VV.tup [intV y.fst, intV y.snd]) ∧ leO [] [] ∧ (VV.tup [intV y.fst, intV y.snd]).le (VV.tup [intV v, intV r])) := by kernel_rfl
end Go.Proofs.YtiaebjpcgjkhoaaGreatDoor
namespace Go.Proofs.YtiaebjpcgjkhoaaGreatDoor
open Go.RowKit
def fitP (b : Int) (s : Bool) (v : Int) : Int :=
  if 1 ≤ b ∧ b ≤ 32 then (if s then (v + 2 ^ b.toNat / 2) % 2 ^ b.toNat - 2 ^ b.toNat / 2 else v % 2 ^ b.toNat) else 0
theorem fit_out (b v : Int) (s : Bool) (h : b < 1 ∨ 32 < b) : fitP b s v = 0 := by
  unfold fitP; rw [if_neg (by omega)]
theorem fit_shl_shr (b v : Int) (h1 : 1 ≤ b) (h2 : b ≤ 32) : wrap64 (v * 2 ^ (64 - b).toNat) / 2 ^ (64 - b).toNat = fitP b true v := by
  have hb : b = 1 ∨ b = 2 ∨ b = 3 ∨ b = 4 ∨ b = 5 ∨ b = 6 ∨ b = 7 ∨ b = 8 ∨ b = 9 ∨ b = 10 ∨ b = 11 ∨ b = 12 ∨ b = 13 ∨ b = 14 ∨ b = 15 ∨ b = 16 ∨ b = 17 ∨ b = 18 ∨ b = 19 ∨ b = 20 ∨ b = 21 ∨ b = 22 ∨ b = 23 ∨ b = 24 ∨ b = 25 ∨ b = 26 ∨ b = 27 ∨ b = 28 ∨ b = 29 ∨ b = 30 ∨ b = 31 ∨ b = 32 := by omega
  unfold wrap64 fitP
  rcases hb with h | h | h | h | h | h | h | h | h | h | h | h | h | h | h | h | h | h | h | h | h | h | h | h | h | h | h | h | h | h | h | h <;>
    subst h <;> simp <;> omega
theorem and_i64_nat (v : Int) (m : Nat) (hm : m < 32) : bits .and .i64 v (((2 ^ (m + 1) : Nat) : Int) - 1) = v % ((2 ^ (m + 1) : Nat) : Int) := by
  show IntKind.i64.wrap ((BitVec.ofInt 64 v &&& BitVec.ofInt 64 (((2 ^ (m + 1) : Nat) : Int) - 1)).toNat : Int) = _
  have hp : 2 ^ (m + 1) ≤ 2 ^ 32 := Nat.pow_le_pow_right (by decide) (by omega)
  have hpos : 0 < 2 ^ (m + 1) := Nat.two_pow_pos _
  have e1 : (((2 ^ (m + 1) : Nat) : Int) - 1) = ((2 ^ (m + 1) - 1 : Nat) : Int) := by omega
  rw [BitVec.toNat_and, e1, BitVec.ofInt_natCast, BitVec.toNat_ofNat, BitVec.toNat_ofInt]
  have e2 : (2 ^ (m + 1) - 1) % 2 ^ 64 = 2 ^ (m + 1) - 1 := Nat.mod_eq_of_lt (by omega)
  rw [e2, Nat.and_two_pow_sub_one_eq_mod]
  have hlt : (v % ((2 ^ 64 : Nat) : Int)).toNat % 2 ^ (m + 1) < 2 ^ (m + 1) := Nat.mod_lt _ hpos
  rw [IntWalk.i64_in _ (by omega)]
  have hnn : 0 ≤ v % ((2 ^ 64 : Nat) : Int) := Int.emod_nonneg _ (by decide)
  have hd : ((2 ^ (m + 1) : Nat) : Int) ∣ ((2 ^ 64 : Nat) : Int) := by
    have : 2 ^ (m + 1) ∣ 2 ^ 64 := Nat.pow_dvd_pow 2 (by omega)
    exact Int.natCast_dvd_natCast.2 this
  rw [Int.natCast_emod, Int.toNat_of_nonneg hnn]
  exact Int.emod_emod_of_dvd _ hd
theorem fit_mask (b v : Int) (h1 : 1 ≤ b) (h2 : b ≤ 32) : bits .and .i64 v (wrap64 (wrap64 (2 ^ b.toNat) - 1)) = fitP b false v := by
  obtain ⟨m, rfl⟩ : ∃ m : Nat, b = (m : Int) + 1 := ⟨(b - 1).toNat, by omega⟩
  have hm : m < 32 := by omega
  have e : ((m : Int) + 1).toNat = m + 1 := by omega
  have hp : 2 ^ (m + 1) ≤ 2 ^ 32 := Nat.pow_le_pow_right (by decide) (by omega)
  have hpos : 0 < 2 ^ (m + 1) := Nat.two_pow_pos _
  have ec : (2 : Int) ^ (m + 1) = ((2 ^ (m + 1) : Nat) : Int) := by simp
  unfold fitP
  rw [if_pos ⟨h1, h2⟩, e, ec, IntWalk.wrap64_in ((2 ^ (m + 1) : Nat) : Int) (by omega), IntWalk.wrap64_in _ (by omega), and_i64_nat v m hm]
  simp
end Go.Proofs.YtiaebjpcgjkhoaaGreatDoor
namespace Go.Proofs.YtiaebjpcgjkhoaaGreatDoor
open Go.RowKit
theorem wrap32_bd (n : Int) : -2147483648 ≤ wrap32 n ∧ wrap32 n ≤ 2147483647 := by unfold wrap32; omega
theorem wrap32_of {n : Int} (h : -2147483648 ≤ n) (h' : n ≤ 2147483647) : wrap32 n = n := by unfold wrap32; omega
theorem wrap64_of32 (n : Int) : wrap64 (wrap32 n) = wrap32 n := by have := wrap32_bd n; exact IntWalk.wrap64_in _ (by omega)
theorem wrap32_mod (n : Int) : wrap32 n % 4294967296 = n % 4294967296 := by unfold wrap32; omega
theorem wrap32_eq {m n : Int} (h : m % 4294967296 = n % 4294967296) : wrap32 m = wrap32 n := by unfold wrap32; omega
theorem w_mul_l (a b : Int) : wrap32 (wrap32 a * b) = wrap32 (a * b) := wrap32_eq (by rw [Int.mul_emod, wrap32_mod, ← Int.mul_emod])
theorem w_sub_r (a b : Int) : wrap32 (a - wrap32 b) = wrap32 (a - b) := wrap32_eq (by rw [Int.sub_emod, wrap32_mod, ← Int.sub_emod])
theorem tmod_bd (x y : Int) (h1 : -2147483648 ≤ x) (h2 : x ≤ 2147483647) : -2147483648 ≤ x.tmod y ∧ x.tmod y ≤ 2147483647 := by
  by_cases h : 0 ≤ x
  · have a := Int.tmod_nonneg y h
    have b : x.tmod y ≤ x := by
      have := Int.emod_nonneg
      rw [Int.tmod_eq_emod_of_nonneg h]
      by_cases hy : y = 0
      · subst hy; simp
      · have hq : x % y = x - y * (x / y) := by have := Int.emod_def x y; omega
        have : 0 ≤ y * (x / y) := by
          rcases Int.lt_or_gt_of_ne hy with hn | hp
          · exact Int.mul_nonneg_of_nonpos_of_nonpos (by omega) (Int.ediv_nonpos_of_nonneg_of_nonpos h (by omega))
          · exact Int.mul_nonneg (by omega) (Int.ediv_nonneg h (by omega))
        omega
    omega
  · have e : x.tmod y = -((-x).tmod y) := by rw [Int.neg_tmod]; omega
    have hx : 0 ≤ -x := by omega
    have a := Int.tmod_nonneg y hx
    have b : (-x).tmod y ≤ -x := by
      rw [Int.tmod_eq_emod_of_nonneg hx]
      by_cases hy : y = 0
      · subst hy; simp
      · have hq : -x % y = -x - y * (-x / y) := by have := Int.emod_def (-x) y; omega
        have : 0 ≤ y * (-x / y) := by
          rcases Int.lt_or_gt_of_ne hy with hn | hp
          · exact Int.mul_nonneg_of_nonpos_of_nonpos (by omega) (Int.ediv_nonpos_of_nonneg_of_nonpos hx (by omega))
          · exact Int.mul_nonneg (by omega) (Int.ediv_nonneg hx (by omega))
        omega
    omega
theorem rem_way (x y : Int) (h1 : -2147483648 ≤ x) (h2 : x ≤ 2147483647) : wrap32 (x - wrap32 (wrap32 (x.tdiv y) * y)) = x.tmod y := by
  have hb := tmod_bd x y h1 h2
  rw [w_sub_r, ← w_sub_r, w_mul_l, w_sub_r]
  have e : x - x.tdiv y * y = x.tmod y := by have := Int.tmod_add_mul_tdiv x y; rw [Int.mul_comm] at this; omega
  rw [e]; exact wrap32_of hb.1 hb.2
def oneOf (b : Bool) : Int := if b then 1 else 0
def shiftP (a n : Int) : Int := if 0 ≤ n then wrap32 (a * 2 ^ min n.toNat 32) else a / 2 ^ min (-n).toNat 32
def twoV (op a b : Int) : Int :=
  if op = 6 then wrap32 (wrap32 a * wrap32 b)
  else if op = 7 then (if wrap32 b = 0 then 0 else wrap32 ((wrap32 a).tdiv (wrap32 b)))
  else if op = 8 then (if wrap32 b = 0 then 0 else (wrap32 a).tmod (wrap32 b))
  else if op = 9 then wrap32 (wrap32 a + wrap32 b)
  else if op = 10 then wrap32 (wrap32 a - wrap32 b)
  else if op = 11 then shiftP (wrap32 a) (wrap32 b)
  else if op = 12 then shiftP (wrap32 a) (-wrap32 b)
  else if op = 13 then oneOf (decide (wrap32 a < wrap32 b))
  else if op = 14 then oneOf (decide (wrap32 a ≤ wrap32 b))
  else if op = 15 then oneOf (decide (wrap32 b < wrap32 a))
  else if op = 16 then oneOf (decide (wrap32 b ≤ wrap32 a))
  else if op = 17 then oneOf (wrap32 a == wrap32 b)
  else if op = 18 then oneOf (wrap32 a != wrap32 b)
  else if op = 19 then bits .and .i32 (wrap32 a) (wrap32 b)
  else if op = 20 then bits .xor .i32 (wrap32 a) (wrap32 b)
  else if op = 21 then bits .or .i32 (wrap32 a) (wrap32 b)
  else 0
def twoE (op b : Int) : Int :=
  if (op = 7 ∨ op = 8) ∧ wrap32 b = 0 then 48 else if 6 ≤ op ∧ op ≤ 21 then 0 else 42
def oneV (op a : Int) : Int :=
  if op = 3 then wrap32 (-wrap32 a) else if op = 4 then oneOf (wrap32 a == 0) else if op = 5 then -wrap32 a - 1 else 0
def oneE (op : Int) : Int := if op = 3 ∨ op = 4 ∨ op = 5 then 0 else 42
theorem bits_i32_bd (op : BinOp) (hop : op = .and ∨ op = .or ∨ op = .xor) (a b : Int) : -2147483648 ≤ bits op .i32 a b ∧ bits op .i32 a b ≤ 2147483647 := by
  rcases hop with rfl | rfl | rfl
  all_goals
    unfold bits
    simp only []
    rw [IntKind.wrap_i32]; omega
theorem shr_step (a : Int) (k : Nat) : (a / 2 ^ k) / 2 = a / 2 ^ (k + 1) := by
  rw [Int.ediv_ediv_of_nonneg (Int.le_of_lt (Int.pow_pos (by decide))), Int.pow_succ]
theorem shr_bd (a : Int) (k : Nat) (h1 : -2147483648 ≤ a) (h2 : a ≤ 2147483647) : -2147483648 ≤ a / 2 ^ k ∧ a / 2 ^ k ≤ 2147483647 := by
  induction k with
  | zero => simp; omega
  | succ k ih => rw [← shr_step]; omega
theorem shiftP_bd (a n : Int) (h : -2147483648 ≤ a ∧ a ≤ 2147483647) : -2147483648 ≤ shiftP a n ∧ shiftP a n ≤ 2147483647 := by
  unfold shiftP
  split
  · exact wrap32_bd _
  · exact shr_bd a _ h.1 h.2
theorem flip_bits (x : Int) (h : -2147483648 ≤ x ∧ x ≤ 2147483647) : bits .xor .i32 (-1) x = -x - 1 := by
  show IntKind.i32.wrap ((BitVec.ofInt 32 (-1) ^^^ BitVec.ofInt 32 x).toNat : Int) = _
  have e : BitVec.ofInt 32 (-1) = BitVec.allOnes 32 := by decide
  rw [e, BitVec.allOnes_xor, BitVec.toNat_not, BitVec.toNat_ofInt, IntKind.wrap_i32]
  have : (((2 : Nat) ^ 32 : Nat) : Int) = 4294967296 := by decide
  rw [this]; omega
theorem flip_i32 (a : Int) : wrap64 (bits .xor .i32 (-1) (wrap32 a)) = -wrap32 a - 1 := by
  have h := wrap32_bd a
  rw [flip_bits _ h]; exact IntWalk.wrap64_in _ (by omega)
end Go.Proofs.YtiaebjpcgjkhoaaGreatDoor
namespace Go.Proofs.YtiaebjpcgjkhoaaGreatDoor
open Go.RowKit
def truthP (b : Bool) : Int × Int := (bif b then 1 else 0, 0)
abbrev Evl := Int → Int × Int
section
variable (e : D.Env) (ev : Evl)
def chanV (a : Int) : Int × Int :=
  bif decide ((ev a).2 ≠ 0) then (0, (ev a).2) else bif decide ((ev a).1 < 1) || decide ((e.S.Chans.length : Int) < (ev a).1) then (0, 49) else ((ev a).1, 0)
def chAt (n : Int) : D.Chan := e.S.Chans.getD (n - 1).toNat default
def askP (op room many : Int) : Int × Int :=
  if op = 25 then (many, 0) else if op = 26 then truthP (decide (room ≤ many)) else if op = 28 then truthP (decide (many < room)) else if op = 27 then truthP (decide (many = 0)) else truthP (decide (0 < many))
def asksV (x : D.Expr) : Int × Int :=
  bif decide ((chanV e ev x.A).2 ≠ 0) then (0, (chanV e ev x.A).2) else askP x.Op (shAt e.M (chAt e (chanV e ev x.A).1).Shape).Room (chAt e (chanV e ev x.A).1).Queue.length
def errI : Nat → (Nat → Int) → Int
  | 0, _ => 0
  | n + 1, f => bif decide (errI n f ≠ 0) then errI n f else f n
def wantV (a m : Int) : Int × Int := bif decide (m = 1) then ev a else (0, 0)
def wantsV (args mt : List Int) : List Int := (List.range args.length).map fun i => (wantV ev (args.getD i 0) (mt.getD i 0)).1
def wantsE (args mt : List Int) (n : Nat) : Int := errI n fun i => (wantV ev (args.getD i 0) (mt.getD i 0)).2
def matchesP (x l mt : List Int) : Bool := decide (mt.length ≤ x.length) && decide (mt.length ≤ l.length) && allI mt.length fun i => !(decide (mt.getD i 0 = 1) && decide (x.getD i 0 ≠ l.getD i 0))
def findG (l mt : List Int) (any : Bool) : Nat → List (List Int) → Int
  | _, [] => -1
  | k, x :: q => bif matchesP x l mt then (k : Int) else bif any then findG l mt any (k + 1) q else -1
def findP (c : D.Chan) (l mt : List Int) (any : Bool) : Int := findG l mt any 0 c.Queue
def pollV (x : D.Expr) : Int × Int :=
  bif decide ((chanV e ev x.A).2 ≠ 0) then (0, (chanV e ev x.A).2)
  else bif decide ((shAt e.M (chAt e (chanV e ev x.A).1).Shape).Fields.length ≠ x.Args.length) then (0, 49)
  else bif decide (wantsE ev x.Args x.Match x.Args.length ≠ 0) then (0, wantsE ev x.Args x.Match x.Args.length)
  else truthP (decide (0 ≤ findP (chAt e (chanV e ev x.A).1) (wantsV ev x.Args x.Match) x.Match (decide (x.N = 1))))
def psAt (n : Int) : D.Process := e.S.Procs.getD n.toNat default
def remoteV (x : D.Expr) : Int × Int :=
  bif decide ((ev x.A).2 ≠ 0) then (0, (ev x.A).2)
  else bif decide ((ev x.A).1 < 0) || (decide ((e.S.Procs.length : Int) ≤ (ev x.A).1) || (decide (x.Op = 38) && decide ((psAt e (ev x.A).1).Type_ ≠ x.N))) then (0, 52)
  else bif decide (x.Op = 37) then ((psAt e (ev x.A).1).Loc, 0) else truthP (decide ((psAt e (ev x.A).1).Loc ∈ x.Args))
def logicV (x : D.Expr) : Int × Int :=
  bif decide ((ev x.A).2 ≠ 0) then (0, (ev x.A).2)
  else bif decide (x.Op = 24) then (bif decide ((ev x.A).1 ≠ 0) then ev x.B else ev x.C)
  else bif (decide (x.Op = 22) && decide ((ev x.A).1 = 0)) || (decide (x.Op = 23) && decide ((ev x.A).1 ≠ 0)) then truthP (decide ((ev x.A).1 ≠ 0))
  else bif decide ((ev x.B).2 ≠ 0) then (0, (ev x.B).2) else truthP (decide ((ev x.B).1 ≠ 0))
def sumsV (x : D.Expr) : Int × Int :=
  bif decide ((ev x.A).2 ≠ 0) then (0, (ev x.A).2)
  else bif decide (x.Op = 3) || (decide (x.Op = 4) || decide (x.Op = 5)) then (oneV x.Op (ev x.A).1, oneE x.Op)
  else bif decide ((ev x.B).2 ≠ 0) then (0, (ev x.B).2) else (twoV x.Op (ev x.A).1 (ev x.B).1, twoE x.Op (ev x.B).1)
def holderV (v : D.Var) : Int × Int :=
  bif decide (v.Scope = 0) then (bif decide ((e.S.Globals.length : Int) < reachP v) then (0, 42) else (-1, 0))
  else bif decide (v.Scope = 1) then (bif decide (e.Pid < 0) || decide (((psAt e e.Pid).Frame.length : Int) < reachP v) then (0, 42) else (e.Pid, 0))
  else bif decide ((ev v.Who).2 ≠ 0) then (0, (ev v.Who).2)
  else bif decide ((ev v.Who).1 < 0) || (decide ((e.S.Procs.length : Int) ≤ (ev v.Who).1) || decide ((psAt e (ev v.Who).1).Type_ ≠ v.Type_)) then (0, 52)
  else bif decide (((psAt e (ev v.Who).1).Frame.length : Int) < reachP v) then (0, 42) else ((ev v.Who).1, 0)
def dimsV : Int → List D.Dim → Int × Int
  | n, [] => (n, 0)
  | n, d :: l => bif decide ((ev d.I).2 ≠ 0) then (0, (ev d.I).2) else bif decide ((ev d.I).1 < 0) || decide (d.Len ≤ (ev d.I).1) then (0, 47) else dimsV (n + (ev d.I).1 * d.Stride) l
def slotV (x : D.Expr) : Int × Int × Int :=
  bif decide (x.Op ≠ 2) then (0, 0, 42)
  else bif decide ((holderV e ev x.V).2 ≠ 0) then (0, 0, (holderV e ev x.V).2)
  else bif decide ((dimsV ev x.V.Slot x.V.Dims).2 ≠ 0) then (0, 0, (dimsV ev x.V.Slot x.V.Dims).2) else ((holderV e ev x.V).1, (dimsV ev x.V.Slot x.V.Dims).1, 0)
def readV (x : D.Expr) : Int × Int :=
  bif decide ((slotV e ev x).2.2 ≠ 0) then (0, (slotV e ev x).2.2)
  else bif decide ((slotV e ev x).1 < 0) then (e.S.Globals.getD (slotV e ev x).2.1.toNat 0, 0) else ((psAt e (slotV e ev x).1).Frame.getD (slotV e ev x).2.1.toNat 0, 0)
def progressP : Bool := !(allI e.S.Procs.length fun i => !((locsOf e.M (e.S.Procs.getD i default).Type_).getD (e.S.Procs.getD i default).Loc.toNat default).Progress)
def ableV (x : D.Expr) : Int × Int :=
  bif decide ((ev x.A).2 ≠ 0) then (0, (ev x.A).2)
  else truthP (decide (0 ≤ (ev x.A).1) && (decide ((ev x.A).1 < e.Able.length) && e.Able.getD (ev x.A).1.toNat false))
def evalV (x : D.Expr) : Int × Int :=
  if x.Op = 1 then (x.N, 0) else if x.Op = 2 then readV e ev x else if x.Op = 22 ∨ x.Op = 23 ∨ x.Op = 24 then logicV ev x
  else if x.Op = 25 ∨ x.Op = 26 ∨ x.Op = 27 ∨ x.Op = 28 ∨ x.Op = 29 then asksV e ev x else if x.Op = 30 then pollV e ev x
  else if x.Op = 31 then (e.Pid, 0) else if x.Op = 32 then (e.S.Last, 0) else if x.Op = 33 then (e.S.Procs.length, 0) else if x.Op = 34 then truthP (!progressP e)
  else if x.Op = 35 then truthP e.Timeout else if x.Op = 36 then ableV e ev x else if x.Op = 37 ∨ x.Op = 38 then remoteV e ev x else if x.Op = 39 then (0, 42) else sumsV ev x
end
def evalF (e : D.Env) : Nat → Evl
  | 0, _ => (0, 0)
  | n + 1, a => evalV e (evalF e n) (exAt e.M a)
def subP (e : D.Env) : Evl := evalF e (e.M.Exprs.length - 1)
def exCheck (e : D.Env) (x : Int) : Int :=
  bif decide (stCheck e.M e.S ≠ 0) then stCheck e.M e.S
  else bif decide (e.Pid < -1) || (decide ((e.S.Procs.length : Int) ≤ e.Pid) || (decide (x < 0) || decide ((e.M.Exprs.length : Int) ≤ x))) then 42 else 0
def evalP (e : D.Env) (x : Int) : Int × Int := bif decide (exCheck e x ≠ 0) then (0, exCheck e x) else evalV e (subP e) (exAt e.M x)
def echanP (e : D.Env) (x : Int) : Int × Int := bif decide (exCheck e x ≠ 0) then (0, exCheck e x) else chanV e (evalF e e.M.Exprs.length) x
def idxP (v : Int) : Nat → List Int → Int
  | _, [] => -1
  | k, y :: l => bif decide (v = y) then (k : Int) else idxP v (k + 1) l
theorem idxP_cons {v y : Int} {k : Nat} {l : List Int} : idxP v k (y :: l) = bif decide (v = y) then (k : Int) else idxP v (k + 1) l := rfl
theorem idx_mem {v : Int} : ∀ {l : List Int} {k : Nat}, decide (v ∈ l) = decide (idxP v k l ≥ 0)
  | [], k => by simp [idxP]
  | y :: l, k => by
    unfold idxP
    by_cases h : v = y
    · simp [h]
    · have := idx_mem (v := v) (l := l) (k := k + 1)
      simp only [h, decide_false, cond_false, ← this]
      simp [h]
end Go.Proofs.YtiaebjpcgjkhoaaGreatDoor
namespace Go.Proofs.YtiaebjpcgjkhoaaGreatDoor
open Go.RowKit
section
variable {P : Program} {a : Act} {w : World} {Q : Exit → Act → World → Prop}
theorem wp_scope_one {c rest : Code} (l : Nat) (hf : findLabel c l = some rest)
    (h : ∀ J : Act → World → Prop, (∀ a w, rest.wp P (Exit.noGoto Q) a w → J a w) → c.wp P (Exit.jump l J Q) a w) : (Code.scope c).wp P Q a w := by
  refine wp_scope_jumps l (fun a w => rest.wp P (Exit.noGoto Q) a w) (fun _ _ => 0) hf (h _ fun _ _ h => h) ?_
  intro a w hr b k cs
  obtain ⟨e, a1, w1, hq, harr⟩ := hr b k cs
  refine ⟨e, a1, w1, ?_, harr⟩
  cases e with
  | goto l => exact hq.elim
  | normal => exact hq
  | exit _ => exact hq
  | ret => exact hq
  | panic _ => exact hq
  | outgrown => exact hq
@[go_sem] theorem jump_normal (l : Nat) (J : Act → World → Prop) : Exit.jump l J Q .normal a w = Q .normal a w := rfl
@[go_sem] theorem jump_exit (l : Nat) (J : Act → World → Prop) (id : Nat) : Exit.jump l J Q (.exit id) a w = Q (.exit id) a w := rfl
@[go_sem] theorem jump_ret (l : Nat) (J : Act → World → Prop) : Exit.jump l J Q .ret a w = Q .ret a w := rfl
@[go_sem] theorem jump_panic (l : Nat) (J : Act → World → Prop) (ch : List PanicEntry) : Exit.jump l J Q (.panic ch) a w = Q (.panic ch) a w := rfl
end
end Go.Proofs.YtiaebjpcgjkhoaaGreatDoor
namespace Go.Proofs.YtiaebjpcgjkhoaaGreatDoor
open Go.RowKit
theorem ret_i64 {k : IntKind} {a b : Int} (h : a = b) : Ending.returned (.int k a) = .returned (.int k b) := by rw [h]
theorem below_oneW (w : World) (o : Obj) : Below w.heap.size w (w.alloc o) := (Below.refl _ _).alloc (Nat.le_refl _) _
set_option maxHeartbeats 400000 in
theorem vfit_s (b v : Int) (w : World) (h1 : 1 ≤ b) (h2 : b ≤ 32) :
    Calls Tryz.prog 91 #[.agg #[.int .i64 b, .bool true], .int .i64 v] w fun e w' => e = .returned (.int .i64 (fitP b true v)) ∧ Below w.heap.size w w' := by
  have d1 : decide (b < 1) = false := by simp; omega
  have d2 : decide (32 < b) = false := by simp; omega
  go_enter Tryz.func91, Tryz.ntmps91
  go_wp2
  go_quiet (fail)
  go_wp2
  go_ret
  exact ⟨ret_i64 (fit_shl_shr b v h1 h2), below_drewN (below_oneW _ _) _⟩
set_option maxHeartbeats 400000 in
theorem vfit_u (b v : Int) (w : World) (h1 : 1 ≤ b) (h2 : b ≤ 32) :
    Calls Tryz.prog 91 #[.agg #[.int .i64 b, .bool false], .int .i64 v] w fun e w' => e = .returned (.int .i64 (fitP b false v)) ∧ Below w.heap.size w w' := by
  have d1 : decide (b < 1) = false := by simp; omega
  have d2 : decide (32 < b) = false := by simp; omega
  go_enter Tryz.func91, Tryz.ntmps91
  go_wp2
  go_ret
  exact ⟨ret_i64 (fit_mask b v h1 h2), below_oneW _ _⟩
set_option maxHeartbeats 400000 in
theorem vfit_z (b v : Int) (s : Bool) (w : World) (h1 : b < 1 ∨ 32 < b) :
    Calls Tryz.prog 91 #[.agg #[.int .i64 b, .bool s], .int .i64 v] w fun e w' => e = .returned (.int .i64 (fitP b s v)) ∧ Below w.heap.size w w' := by
  have HF := Lib.hid (fit_out b v s h1)
  rcases h1 with h1 | h1
  · go_enter Tryz.func91, Tryz.ntmps91
    go_wp2
    go_ret
    exact ⟨ret_i64 HF.out.symm, below_oneW _ _⟩
  · have d1 : decide (b < 1) = false := by simp; omega
    go_enter Tryz.func91, Tryz.ntmps91
    go_wp2
    go_ret
    exact ⟨ret_i64 HF.out.symm, below_oneW _ _⟩
theorem vfit (b v : Int) (s : Bool) (w : World) :
    Calls Tryz.prog 91 #[.agg #[.int .i64 b, .bool s], .int .i64 v] w fun e w' => e = .returned (.int .i64 (fitP b s v)) ∧ Below w.heap.size w w' := by
  by_cases h : 1 ≤ b ∧ b ≤ 32
  · cases s
    · exact vfit_u b v w h.1 h.2
    · exact vfit_s b v w h.1 h.2
  · exact vfit_z b v s w (by omega)
theorem ret_two {k l : IntKind} {a b c d : Int} (h : a = b) (h' : c = d) : Ending.returned (.tuple #[.int k a, .int l c]) = .returned (.tuple #[.int k b, .int l d]) := by rw [h, h']
set_option maxHeartbeats 400000 in
theorem vtruth (b : Bool) (w : World) :
    Calls Tryz.prog 148 #[.bool b] w fun e w' => e = .returned (.int .i64 (oneOf b)) ∧ w = w' := by
  cases b
  all_goals
    go_enter Tryz.func148, Tryz.ntmps148
    go_wp2
    go_ret
    exact ⟨rfl, rfl⟩
set_option maxHeartbeats 400000 in
theorem wshift (a n : Int) (w : World) (h0 : -2147483648 ≤ n) (h1 : n ≤ 2147483648) :
    Calls Tryz.prog 149 #[.int .i32 a, .int .i64 n] w fun e w' => e = .returned (.int .i32 (shiftP a n)) ∧ w = w' := by
  by_cases hn : 0 ≤ n
  · have HP : Hid (shiftP a n = wrap32 (a * 2 ^ min n.toNat 32)) := by unfold Hid shiftP; rw [if_pos hn]
    by_cases h63 : 63 < n
    · go_enter Tryz.func149, Tryz.ntmps149
      go_wp2
      go_ret
      exact ⟨ret_i64 (by rw [HP.out, show min n.toNat 32 = 32 by omega]; first | rfl | (rw [IntKind.wrap_i32]; rfl)), rfl⟩
    · go_enter Tryz.func149, Tryz.ntmps149
      go_wp2
      go_ret
      exact ⟨ret_i64 (by rw [HP.out]), rfl⟩
  · have HP : Hid (shiftP a n = a / 2 ^ min (-n).toNat 32) := by unfold Hid shiftP; rw [if_neg hn]
    have h0n : n ≤ 0 := by omega
    by_cases h63 : 63 < -n
    · go_enter Tryz.func149, Tryz.ntmps149
      go_wp2
      go_ret
      exact ⟨ret_i64 (by rw [HP.out, show min (-n).toNat 32 = 32 by omega]; rfl), rfl⟩
    · go_enter Tryz.func149, Tryz.ntmps149
      go_wp2
      go_ret
      exact ⟨ret_i64 HP.out.symm, rfl⟩
set_option maxHeartbeats 400000 in
theorem vtwo_6 (a b : Int) (w : World) :
    Calls Tryz.prog 121 #[.int .i64 6, .int .i64 a, .int .i64 b] w fun e w' => e = .returned (.tuple #[.int .i64 (twoV 6 a b), .int .i64 (twoE 6 b)]) ∧ w = w' := by
  have hy := wrap32_bd b
  go_enter Tryz.func121, Tryz.ntmps121
  go_wp2
  go_step3
  go_wp2_with (first | (go_at_call 149; (with_reducible refine (wshift _ _ _ (by omega) (by omega)).mono ?_); rintro e w1 ⟨rfl, rfl⟩) | (go_at_call 148; (with_reducible refine (vtruth _ _).mono ?_); rintro e w1 ⟨rfl, rfl⟩))
  rw [Exit.noGoto_ret]
  go_ret2
  exact ⟨ret_two (by simp [twoV, wrap64_of32]) (by simp [twoE]), rfl⟩
set_option maxHeartbeats 400000 in
theorem vtwo_9 (a b : Int) (w : World) :
    Calls Tryz.prog 121 #[.int .i64 9, .int .i64 a, .int .i64 b] w fun e w' => e = .returned (.tuple #[.int .i64 (twoV 9 a b), .int .i64 (twoE 9 b)]) ∧ w = w' := by
  have hy := wrap32_bd b
  go_enter Tryz.func121, Tryz.ntmps121
  go_wp2
  go_step3
  go_wp2_with (first | (go_at_call 149; (with_reducible refine (wshift _ _ _ (by omega) (by omega)).mono ?_); rintro e w1 ⟨rfl, rfl⟩) | (go_at_call 148; (with_reducible refine (vtruth _ _).mono ?_); rintro e w1 ⟨rfl, rfl⟩))
  rw [Exit.noGoto_ret]
  go_ret2
  exact ⟨ret_two (by simp [twoV, wrap64_of32]) (by simp [twoE]), rfl⟩
set_option maxHeartbeats 400000 in
theorem vtwo_10 (a b : Int) (w : World) :
    Calls Tryz.prog 121 #[.int .i64 10, .int .i64 a, .int .i64 b] w fun e w' => e = .returned (.tuple #[.int .i64 (twoV 10 a b), .int .i64 (twoE 10 b)]) ∧ w = w' := by
  have hy := wrap32_bd b
  go_enter Tryz.func121, Tryz.ntmps121
  go_wp2
  go_step3
  go_wp2_with (first | (go_at_call 149; (with_reducible refine (wshift _ _ _ (by omega) (by omega)).mono ?_); rintro e w1 ⟨rfl, rfl⟩) | (go_at_call 148; (with_reducible refine (vtruth _ _).mono ?_); rintro e w1 ⟨rfl, rfl⟩))
  rw [Exit.noGoto_ret]
  go_ret2
  exact ⟨ret_two (by simp [twoV, wrap64_of32]) (by simp [twoE]), rfl⟩
set_option maxHeartbeats 400000 in
theorem vtwo_7 (a b : Int) (w : World) :
    Calls Tryz.prog 121 #[.int .i64 7, .int .i64 a, .int .i64 b] w fun e w' => e = .returned (.tuple #[.int .i64 (twoV 7 a b), .int .i64 (twoE 7 b)]) ∧ w = w' := by
  have hy := wrap32_bd b
  have hx := wrap32_bd a
  by_cases h0 : wrap32 b = 0
  · have HV : Hid (twoV 7 a b = 0) := by unfold Hid; simp [twoV, h0]
    have HE : Hid (twoE 7 b = 48) := by unfold Hid; simp [twoE, h0]
    have hb0 : (wrap32 b == 0) = true := by simpa using h0
    clear h0
    go_enter Tryz.func121, Tryz.ntmps121
    go_wp2
    refine wp_scope_one 0 rfl (fun J hJ => ?_)
    go_wp2
    go_step3
    refine ⟨rfl, hJ _ _ ?_⟩
    go_wp2
    rw [Exit.noGoto_ret]
    go_ret2
    exact ⟨ret_two HV.out.symm HE.out.symm, rfl⟩
  · have HV : Hid (twoV 7 a b = wrap32 ((wrap32 a).tdiv (wrap32 b))) := by unfold Hid; simp [twoV, h0]
    have HE : Hid (twoE 7 b = 0) := by unfold Hid; simp [twoE, h0]
    have hb0 : (wrap32 b == 0) = false := by simpa using h0
    go_enter Tryz.func121, Tryz.ntmps121
    go_wp2
    go_step3
    go_wp2
    rw [Exit.noGoto_ret]
    go_ret2
    exact ⟨ret_two (by rw [HV.out]; exact wrap64_of32 _) HE.out.symm, rfl⟩
set_option maxHeartbeats 400000 in
theorem vtwo_8 (a b : Int) (w : World) :
    Calls Tryz.prog 121 #[.int .i64 8, .int .i64 a, .int .i64 b] w fun e w' => e = .returned (.tuple #[.int .i64 (twoV 8 a b), .int .i64 (twoE 8 b)]) ∧ w = w' := by
  have hy := wrap32_bd b
  have hx := wrap32_bd a
  by_cases h0 : wrap32 b = 0
  · have HV : Hid (twoV 8 a b = 0) := by unfold Hid; simp [twoV, h0]
    have HE : Hid (twoE 8 b = 48) := by unfold Hid; simp [twoE, h0]
    have hb0 : (wrap32 b == 0) = true := by simpa using h0
    clear h0
    go_enter Tryz.func121, Tryz.ntmps121
    go_wp2
    refine wp_scope_one 0 rfl (fun J hJ => ?_)
    go_wp2
    go_step3
    refine ⟨rfl, hJ _ _ ?_⟩
    go_wp2
    rw [Exit.noGoto_ret]
    go_ret2
    exact ⟨ret_two HV.out.symm HE.out.symm, rfl⟩
  · have HV : Hid (twoV 8 a b = (wrap32 a).tmod (wrap32 b)) := by unfold Hid; simp [twoV, h0]
    have HE : Hid (twoE 8 b = 0) := by unfold Hid; simp [twoE, h0]
    have hb0 : (wrap32 b == 0) = false := by simpa using h0
    go_enter Tryz.func121, Tryz.ntmps121
    go_wp2
    go_step3
    go_wp2
    rw [Exit.noGoto_ret]
    go_ret2
    exact ⟨ret_two (by rw [HV.out]; rw [wrap64_of32]; exact rem_way _ _ hx.1 hx.2) HE.out.symm, rfl⟩
set_option maxHeartbeats 400000 in
theorem vtwo_11 (a b : Int) (w : World) :
    Calls Tryz.prog 121 #[.int .i64 11, .int .i64 a, .int .i64 b] w fun e w' => e = .returned (.tuple #[.int .i64 (twoV 11 a b), .int .i64 (twoE 11 b)]) ∧ w = w' := by
  have hy := wrap32_bd b
  have HSB : ∀ x n, -2147483648 ≤ n → n ≤ 2147483648 → shiftP (wrap32 x) n = shiftP (wrap32 x) n := fun _ _ _ _ => rfl
  clear HSB
  go_enter Tryz.func121, Tryz.ntmps121
  go_wp2
  go_step3
  go_wp2_with (first | (go_at_call 149; (with_reducible refine (wshift _ _ _ (by omega) (by omega)).mono ?_); rintro e w1 ⟨rfl, rfl⟩) | (go_at_call 148; (with_reducible refine (vtruth _ _).mono ?_); rintro e w1 ⟨rfl, rfl⟩))
  rw [Exit.noGoto_ret]
  go_ret2
  exact ⟨ret_two (by have h := shiftP_bd (wrap32 a) (wrap32 b) (wrap32_bd a); simp only [twoV]; exact IntWalk.wrap64_in _ (by omega)) (by simp [twoE]), rfl⟩
set_option maxHeartbeats 400000 in
theorem vtwo_12 (a b : Int) (w : World) :
    Calls Tryz.prog 121 #[.int .i64 12, .int .i64 a, .int .i64 b] w fun e w' => e = .returned (.tuple #[.int .i64 (twoV 12 a b), .int .i64 (twoE 12 b)]) ∧ w = w' := by
  have hy := wrap32_bd b
  have HSB : ∀ x n, -2147483648 ≤ n → n ≤ 2147483648 → shiftP (wrap32 x) n = shiftP (wrap32 x) n := fun _ _ _ _ => rfl
  clear HSB
  go_enter Tryz.func121, Tryz.ntmps121
  go_wp2
  go_step3
  go_wp2_with (first | (go_at_call 149; (with_reducible refine (wshift _ _ _ (by omega) (by omega)).mono ?_); rintro e w1 ⟨rfl, rfl⟩) | (go_at_call 148; (with_reducible refine (vtruth _ _).mono ?_); rintro e w1 ⟨rfl, rfl⟩))
  rw [Exit.noGoto_ret]
  go_ret2
  exact ⟨ret_two (by have h := shiftP_bd (wrap32 a) (-wrap32 b) (wrap32_bd a); simp only [twoV]; exact IntWalk.wrap64_in _ (by omega)) (by simp [twoE]), rfl⟩
set_option maxHeartbeats 400000 in
theorem vtwo_13 (a b : Int) (w : World) :
    Calls Tryz.prog 121 #[.int .i64 13, .int .i64 a, .int .i64 b] w fun e w' => e = .returned (.tuple #[.int .i64 (twoV 13 a b), .int .i64 (twoE 13 b)]) ∧ w = w' := by
  have hy := wrap32_bd b
  go_enter Tryz.func121, Tryz.ntmps121
  go_wp2
  refine wp_scope_one 1 rfl (fun J hJ => ?_)
  go_wp2
  go_step3
  refine ⟨rfl, hJ _ _ ?_⟩
  go_wp2_with (first | (go_at_call 149; (with_reducible refine (wshift _ _ _ (by omega) (by omega)).mono ?_); rintro e w1 ⟨rfl, rfl⟩) | (go_at_call 148; (with_reducible refine (vtruth _ _).mono ?_); rintro e w1 ⟨rfl, rfl⟩))
  rw [Exit.noGoto_ret]
  go_ret2
  exact ⟨ret_two (by simp only [twoV]; rfl) (by simp [twoE]), rfl⟩
set_option maxHeartbeats 400000 in
theorem vtwo_14 (a b : Int) (w : World) :
    Calls Tryz.prog 121 #[.int .i64 14, .int .i64 a, .int .i64 b] w fun e w' => e = .returned (.tuple #[.int .i64 (twoV 14 a b), .int .i64 (twoE 14 b)]) ∧ w = w' := by
  have hy := wrap32_bd b
  go_enter Tryz.func121, Tryz.ntmps121
  go_wp2
  refine wp_scope_one 1 rfl (fun J hJ => ?_)
  go_wp2
  go_step3
  refine ⟨rfl, hJ _ _ ?_⟩
  go_wp2_with (first | (go_at_call 149; (with_reducible refine (wshift _ _ _ (by omega) (by omega)).mono ?_); rintro e w1 ⟨rfl, rfl⟩) | (go_at_call 148; (with_reducible refine (vtruth _ _).mono ?_); rintro e w1 ⟨rfl, rfl⟩))
  rw [Exit.noGoto_ret]
  go_ret2
  exact ⟨ret_two (by simp only [twoV]; rfl) (by simp [twoE]), rfl⟩
set_option maxHeartbeats 400000 in
theorem vtwo_15 (a b : Int) (w : World) :
    Calls Tryz.prog 121 #[.int .i64 15, .int .i64 a, .int .i64 b] w fun e w' => e = .returned (.tuple #[.int .i64 (twoV 15 a b), .int .i64 (twoE 15 b)]) ∧ w = w' := by
  have hy := wrap32_bd b
  go_enter Tryz.func121, Tryz.ntmps121
  go_wp2
  refine wp_scope_one 1 rfl (fun J hJ => ?_)
  go_wp2
  go_step3
  refine ⟨rfl, hJ _ _ ?_⟩
  go_wp2_with (first | (go_at_call 149; (with_reducible refine (wshift _ _ _ (by omega) (by omega)).mono ?_); rintro e w1 ⟨rfl, rfl⟩) | (go_at_call 148; (with_reducible refine (vtruth _ _).mono ?_); rintro e w1 ⟨rfl, rfl⟩))
  rw [Exit.noGoto_ret]
  go_ret2
  exact ⟨ret_two (by simp only [twoV]; rfl) (by simp [twoE]), rfl⟩
set_option maxHeartbeats 400000 in
theorem vtwo_16 (a b : Int) (w : World) :
    Calls Tryz.prog 121 #[.int .i64 16, .int .i64 a, .int .i64 b] w fun e w' => e = .returned (.tuple #[.int .i64 (twoV 16 a b), .int .i64 (twoE 16 b)]) ∧ w = w' := by
  have hy := wrap32_bd b
  go_enter Tryz.func121, Tryz.ntmps121
  go_wp2
  refine wp_scope_one 1 rfl (fun J hJ => ?_)
  go_wp2
  go_step3
  refine ⟨rfl, hJ _ _ ?_⟩
  go_wp2_with (first | (go_at_call 149; (with_reducible refine (wshift _ _ _ (by omega) (by omega)).mono ?_); rintro e w1 ⟨rfl, rfl⟩) | (go_at_call 148; (with_reducible refine (vtruth _ _).mono ?_); rintro e w1 ⟨rfl, rfl⟩))
  rw [Exit.noGoto_ret]
  go_ret2
  exact ⟨ret_two (by simp only [twoV]; rfl) (by simp [twoE]), rfl⟩
set_option maxHeartbeats 400000 in
theorem vtwo_17 (a b : Int) (w : World) :
    Calls Tryz.prog 121 #[.int .i64 17, .int .i64 a, .int .i64 b] w fun e w' => e = .returned (.tuple #[.int .i64 (twoV 17 a b), .int .i64 (twoE 17 b)]) ∧ w = w' := by
  have hy := wrap32_bd b
  go_enter Tryz.func121, Tryz.ntmps121
  go_wp2
  refine wp_scope_one 1 rfl (fun J hJ => ?_)
  go_wp2
  go_step3
  refine ⟨rfl, hJ _ _ ?_⟩
  go_wp2_with (first | (go_at_call 149; (with_reducible refine (wshift _ _ _ (by omega) (by omega)).mono ?_); rintro e w1 ⟨rfl, rfl⟩) | (go_at_call 148; (with_reducible refine (vtruth _ _).mono ?_); rintro e w1 ⟨rfl, rfl⟩))
  rw [Exit.noGoto_ret]
  go_ret2
  exact ⟨ret_two (by simp only [twoV]; rfl) (by simp [twoE]), rfl⟩
set_option maxHeartbeats 400000 in
theorem vtwo_18 (a b : Int) (w : World) :
    Calls Tryz.prog 121 #[.int .i64 18, .int .i64 a, .int .i64 b] w fun e w' => e = .returned (.tuple #[.int .i64 (twoV 18 a b), .int .i64 (twoE 18 b)]) ∧ w = w' := by
  have hy := wrap32_bd b
  go_enter Tryz.func121, Tryz.ntmps121
  go_wp2
  refine wp_scope_one 1 rfl (fun J hJ => ?_)
  go_wp2
  go_step3
  refine ⟨rfl, hJ _ _ ?_⟩
  go_wp2_with (first | (go_at_call 149; (with_reducible refine (wshift _ _ _ (by omega) (by omega)).mono ?_); rintro e w1 ⟨rfl, rfl⟩) | (go_at_call 148; (with_reducible refine (vtruth _ _).mono ?_); rintro e w1 ⟨rfl, rfl⟩))
  rw [Exit.noGoto_ret]
  go_ret2
  exact ⟨ret_two (by simp only [twoV]; rfl) (by simp [twoE]), rfl⟩
set_option maxHeartbeats 400000 in
theorem vtwo_19 (a b : Int) (w : World) :
    Calls Tryz.prog 121 #[.int .i64 19, .int .i64 a, .int .i64 b] w fun e w' => e = .returned (.tuple #[.int .i64 (twoV 19 a b), .int .i64 (twoE 19 b)]) ∧ w = w' := by
  have hy := wrap32_bd b
  go_enter Tryz.func121, Tryz.ntmps121
  go_wp2
  go_step3
  go_wp2_with (first | (go_at_call 149; (with_reducible refine (wshift _ _ _ (by omega) (by omega)).mono ?_); rintro e w1 ⟨rfl, rfl⟩) | (go_at_call 148; (with_reducible refine (vtruth _ _).mono ?_); rintro e w1 ⟨rfl, rfl⟩))
  rw [Exit.noGoto_ret]
  go_ret2
  exact ⟨ret_two (by have h := bits_i32_bd .and (by simp) (wrap32 a) (wrap32 b); simp only [twoV]; exact IntWalk.wrap64_in _ (by omega)) (by simp [twoE]), rfl⟩
set_option maxHeartbeats 400000 in
theorem vtwo_20 (a b : Int) (w : World) :
    Calls Tryz.prog 121 #[.int .i64 20, .int .i64 a, .int .i64 b] w fun e w' => e = .returned (.tuple #[.int .i64 (twoV 20 a b), .int .i64 (twoE 20 b)]) ∧ w = w' := by
  have hy := wrap32_bd b
  go_enter Tryz.func121, Tryz.ntmps121
  go_wp2
  go_step3
  go_wp2_with (first | (go_at_call 149; (with_reducible refine (wshift _ _ _ (by omega) (by omega)).mono ?_); rintro e w1 ⟨rfl, rfl⟩) | (go_at_call 148; (with_reducible refine (vtruth _ _).mono ?_); rintro e w1 ⟨rfl, rfl⟩))
  rw [Exit.noGoto_ret]
  go_ret2
  exact ⟨ret_two (by have h := bits_i32_bd .xor (by simp) (wrap32 a) (wrap32 b); simp only [twoV]; exact IntWalk.wrap64_in _ (by omega)) (by simp [twoE]), rfl⟩
set_option maxHeartbeats 400000 in
theorem vtwo_21 (a b : Int) (w : World) :
    Calls Tryz.prog 121 #[.int .i64 21, .int .i64 a, .int .i64 b] w fun e w' => e = .returned (.tuple #[.int .i64 (twoV 21 a b), .int .i64 (twoE 21 b)]) ∧ w = w' := by
  have hy := wrap32_bd b
  go_enter Tryz.func121, Tryz.ntmps121
  go_wp2
  go_step3
  go_wp2_with (first | (go_at_call 149; (with_reducible refine (wshift _ _ _ (by omega) (by omega)).mono ?_); rintro e w1 ⟨rfl, rfl⟩) | (go_at_call 148; (with_reducible refine (vtruth _ _).mono ?_); rintro e w1 ⟨rfl, rfl⟩))
  rw [Exit.noGoto_ret]
  go_ret2
  exact ⟨ret_two (by have h := bits_i32_bd .or (by simp) (wrap32 a) (wrap32 b); simp only [twoV]; exact IntWalk.wrap64_in _ (by omega)) (by simp [twoE]), rfl⟩
set_option maxHeartbeats 400000 in
theorem vtwo_no (op : Int) (a b : Int) (w : World) (ho : op < 6 ∨ 21 < op) :
    Calls Tryz.prog 121 #[.int .i64 op, .int .i64 a, .int .i64 b] w fun e w' => e = .returned (.tuple #[.int .i64 (twoV op a b), .int .i64 (twoE op b)]) ∧ w = w' := by
  have hy := wrap32_bd b
  have HV : Hid (twoV op a b = 0) := by unfold Hid twoV; repeat (rw [if_neg (by omega)])
  have HE : Hid (twoE op b = 42) := by unfold Hid twoE; rw [if_neg (by omega), if_neg (by omega)]
  have e6 : (op == 6) = false := by simp; omega
  have e7 : (op == 7) = false := by simp; omega
  have e8 : (op == 8) = false := by simp; omega
  have e9 : (op == 9) = false := by simp; omega
  have e10 : (op == 10) = false := by simp; omega
  have e11 : (op == 11) = false := by simp; omega
  have e12 : (op == 12) = false := by simp; omega
  have e13 : (op == 13) = false := by simp; omega
  have e14 : (op == 14) = false := by simp; omega
  have e15 : (op == 15) = false := by simp; omega
  have e16 : (op == 16) = false := by simp; omega
  have e17 : (op == 17) = false := by simp; omega
  have e18 : (op == 18) = false := by simp; omega
  have e19 : (op == 19) = false := by simp; omega
  have e20 : (op == 20) = false := by simp; omega
  have e21 : (op == 21) = false := by simp; omega
  clear ho
  go_enter Tryz.func121, Tryz.ntmps121
  go_wp2
  refine wp_scope_one 1 rfl (fun J hJ => ?_)
  go_wp2
  go_step3
  refine ⟨rfl, hJ _ _ ?_⟩
  go_wp2
  rw [Exit.noGoto_ret]
  go_ret2
  exact ⟨ret_two HV.out.symm HE.out.symm, rfl⟩
theorem vtwo (op a b : Int) (w : World) :
    Calls Tryz.prog 121 #[.int .i64 op, .int .i64 a, .int .i64 b] w fun e w' => e = .returned (.tuple #[.int .i64 (twoV op a b), .int .i64 (twoE op b)]) ∧ w = w' := by
  by_cases ho : op < 6 ∨ 21 < op
  · exact vtwo_no op a b w ho
  · have h : op = 6 ∨ op = 7 ∨ op = 8 ∨ op = 9 ∨ op = 10 ∨ op = 11 ∨ op = 12 ∨ op = 13 ∨ op = 14 ∨ op = 15 ∨ op = 16 ∨ op = 17 ∨ op = 18 ∨ op = 19 ∨ op = 20 ∨ op = 21 := by omega
    rcases h with rfl | rfl | rfl | rfl | rfl | rfl | rfl | rfl | rfl | rfl | rfl | rfl | rfl | rfl | rfl | rfl
    · exact vtwo_6 a b w
    · exact vtwo_7 a b w
    · exact vtwo_8 a b w
    · exact vtwo_9 a b w
    · exact vtwo_10 a b w
    · exact vtwo_11 a b w
    · exact vtwo_12 a b w
    · exact vtwo_13 a b w
    · exact vtwo_14 a b w
    · exact vtwo_15 a b w
    · exact vtwo_16 a b w
    · exact vtwo_17 a b w
    · exact vtwo_18 a b w
    · exact vtwo_19 a b w
    · exact vtwo_20 a b w
    · exact vtwo_21 a b w
set_option maxHeartbeats 400000 in
theorem vone_3 (a : Int) (w : World) :
    Calls Tryz.prog 120 #[.int .i64 3, .int .i64 a] w fun e w' => e = .returned (.tuple #[.int .i64 (oneV 3 a), .int .i64 (oneE 3)]) ∧ w = w' := by
  have hx := wrap32_bd a
  go_enter Tryz.func120, Tryz.ntmps120
  go_wp2_with (go_at_call 148; (with_reducible refine (vtruth _ _).mono ?_); rintro e w1 ⟨rfl, rfl⟩)
  go_ret2
  exact ⟨ret_two (by simp only [oneV]; first | rfl | exact wrap64_of32 _ | exact (flip_i32 a) | (simp; omega)) (by simp [oneE]), rfl⟩
set_option maxHeartbeats 400000 in
theorem vone_4 (a : Int) (w : World) :
    Calls Tryz.prog 120 #[.int .i64 4, .int .i64 a] w fun e w' => e = .returned (.tuple #[.int .i64 (oneV 4 a), .int .i64 (oneE 4)]) ∧ w = w' := by
  have hx := wrap32_bd a
  go_enter Tryz.func120, Tryz.ntmps120
  go_wp2_with (go_at_call 148; (with_reducible refine (vtruth _ _).mono ?_); rintro e w1 ⟨rfl, rfl⟩)
  go_ret2
  exact ⟨ret_two (by simp only [oneV]; first | rfl | exact wrap64_of32 _ | exact (flip_i32 a) | (simp; omega)) (by simp [oneE]), rfl⟩
set_option maxHeartbeats 400000 in
theorem vone_5 (a : Int) (w : World) :
    Calls Tryz.prog 120 #[.int .i64 5, .int .i64 a] w fun e w' => e = .returned (.tuple #[.int .i64 (oneV 5 a), .int .i64 (oneE 5)]) ∧ w = w' := by
  have hx := wrap32_bd a
  go_enter Tryz.func120, Tryz.ntmps120
  go_wp2_with (go_at_call 148; (with_reducible refine (vtruth _ _).mono ?_); rintro e w1 ⟨rfl, rfl⟩)
  go_ret2
  exact ⟨ret_two (by simp only [oneV]; first | rfl | exact wrap64_of32 _ | exact (flip_i32 a) | (simp; omega)) (by simp [oneE]), rfl⟩
set_option maxHeartbeats 400000 in
theorem vone (op a : Int) (w : World) :
    Calls Tryz.prog 120 #[.int .i64 op, .int .i64 a] w fun e w' => e = .returned (.tuple #[.int .i64 (oneV op a), .int .i64 (oneE op)]) ∧ w = w' := by
  by_cases ho : op = 3 ∨ op = 4 ∨ op = 5
  · rcases ho with rfl | rfl | rfl
    · exact vone_3 a w
    · exact vone_4 a w
    · exact vone_5 a w
  have HV : Hid (oneV op a = 0) := by unfold Hid oneV; repeat (rw [if_neg (by omega)])
  have HE : Hid (oneE op = 42) := by unfold Hid oneE; rw [if_neg (by omega)]
  have e3 : (op == 3) = false := by simp; omega
  have e4 : (op == 4) = false := by simp; omega
  have e5 : (op == 5) = false := by simp; omega
  clear ho
  go_enter Tryz.func120, Tryz.ntmps120
  go_wp2
  go_ret2
  exact ⟨ret_two HV.out.symm HE.out.symm, rfl⟩
end Go.Proofs.YtiaebjpcgjkhoaaGreatDoor
namespace Go.Proofs.YtiaebjpcgjkhoaaGreatDoor
open Go.RowKit
theorem tab_exprs {m : D.Model} (h : tablesP m = (0, 0)) : exprsP m < 0 := by
  unfold tablesP at h
  generalize (decide (128 < m.Globals.length) || !decide (m.Init.length = m.Globals.length)) = c1 at h
  generalize decide (0 ≤ typesP m.Globals m.Init) = c2 at h
  generalize (decide (32 < m.Shapes.length) || decide (32 < m.Chans.length)) = c3 at h
  generalize decide (0 ≤ shapesP m) = c4 at h
  generalize decide (0 ≤ chansP m) = c5 at h
  generalize (decide (m.Procs.length < 1) || (decide (16 < m.Procs.length) || (decide (m.Claim < -1) || (decide ((m.Procs.length : Int) ≤ m.Claim) || decide (4096 < m.Exprs.length))))) = c6 at h
  cases c7 : decide (0 ≤ exprsP m) with
  | true => rw [c7] at h; cases c1 <;> cases c2 <;> cases c3 <;> cases c4 <;> cases c5 <;> cases c6 <;> simp at h
  | false => have := of_decide_eq_false c7; omega
structure EnvOk (e : D.Env) : Prop where
  fits : stFits e.M e.S = true
  may : mayP e.M = true
  wf : wf_Model e.M
  pid : -1 ≤ e.Pid ∧ e.Pid < e.S.Procs.length
section
variable {e : D.Env}
theorem EnvOk.fit (h : EnvOk e) : Fit e.S := fit_of h.may h.fits
theorem EnvOk.tab (h : EnvOk e) : TabOk e.M := tab_ok (ok_tables h.may).1
theorem EnvOk.expr (h : EnvOk e) : ∀ i : Nat, i < e.M.Exprs.length → exprP e.M i = true := exprs_ok (tab_exprs (ok_tables h.may).1)
theorem EnvOk.chan (h : EnvOk e) {c : D.Chan} (hc : c ∈ e.S.Chans) : chanP e.M c = true := by
  have h := h.fits
  unfold stFits at h
  simp only [Bool.and_eq_true] at h
  exact (allL_iff (d := default) (f := fun c => chanP e.M c)).1 h.1.1.2 c hc
theorem EnvOk.proc (h : EnvOk e) {p : D.Process} (hp : p ∈ e.S.Procs) : processP e.M p = true := by
  have h := h.fits
  unfold stFits at h
  simp only [Bool.and_eq_true] at h
  exact (allL_iff (d := default) (f := fun c => processP e.M c)).1 h.1.2 p hp
theorem EnvOk.globals (h : EnvOk e) : e.S.Globals.length = e.M.Globals.length ∧ typedP e.M.Globals e.S.Globals = true := by
  have h := h.fits
  unfold stFits headP at h
  simp only [Bool.and_eq_true] at h
  have := h.1.1.1.1.1.1.1.1.1
  exact ⟨typed_len this, this⟩
theorem proc_facts {m : D.Model} {p : D.Process} (h : processP m p = true) : (0 ≤ p.Type_ ∧ p.Type_ < m.Procs.length) ∧ (0 ≤ p.Loc ∧ p.Loc < (prAt m p.Type_).Locs.length) ∧ p.Frame.length = (prAt m p.Type_).Frame.length ∧ typedP (prAt m p.Type_).Frame p.Frame = true ∧ p.Prio = (prAt m p.Type_).Prio ∧ p.Type_ ≠ m.Claim := by
  unfold processP procP at h
  simp only [Bool.and_eq_true, decide_eq_true_eq] at h
  obtain ⟨⟨⟨⟨⟨h1, h2⟩, h3⟩, h4⟩, h5⟩, h6⟩ := h
  exact ⟨⟨h1, h2⟩, inP_iff.1 h4, typed_len h6, h6, h5, h3⟩
theorem chan_facts {m : D.Model} {c : D.Chan} (h : chanP m c = true) : (0 ≤ c.Shape ∧ c.Shape < m.Shapes.length) ∧ (c.Queue.length : Int) ≤ (shAt m c.Shape).Room ∧ ∀ x ∈ c.Queue, typedP (shAt m c.Shape).Fields x = true := by
  unfold chanP at h
  simp only [Bool.and_eq_true, decide_eq_true_eq] at h
  exact ⟨inP_iff.1 h.1.1, h.1.2, fun x hx => (allL_iff (d := []) (f := fun x => typedP (shAt m c.Shape).Fields x)).1 h.2 x hx⟩
end
abbrev vII (p : Int × Int) : VV := .tup [intV p.1, intV p.2]
abbrev vIII (p : Int × Int × Int) : VV := .tup [intV p.1, intV p.2.1, intV p.2.2]
theorem leafQ {a b : Int} {q : Int × Int} (h : (a, b) = q) : leO [] [] ∧ VV.le (.tup [.sc (.int .i64 a), .sc (.int .i64 b)]) (.tup [.sc (.int .i64 q.1), .sc (.int .i64 q.2)]) := by
  subst h; exact ⟨trivial, VV.le_refl _⟩
theorem leafR {a b c : Int} {q : Int × Int × Int} (h : (a, b, c) = q) : leO [] [] ∧ VV.le (.tup [.sc (.int .i64 a), .sc (.int .i64 b), .sc (.int .i64 c)]) (.tup [.sc (.int .i64 q.1), .sc (.int .i64 q.2.1), .sc (.int .i64 q.2.2)]) := by
  subst h; exact ⟨trivial, VV.le_refl _⟩
theorem ct {α : Type} {c : Bool} {a b x : α} (h : c = true) (k : x = a) : x = bif c then a else b := by rw [h]; exact k
theorem cf {α : Type} {c : Bool} {a b x : α} (h : c = false) (k : x = b) : x = bif c then a else b := by rw [h]; exact k
theorem it {α : Type} {c : Prop} [Decidable c] {a b x : α} (h : c) (k : x = a) : x = if c then a else b := by rw [if_pos h]; exact k
theorem ie {α : Type} {c : Prop} [Decidable c] {a b x : α} (h : ¬ c) (k : x = b) : x = if c then a else b := by rw [if_neg h]; exact k
abbrev EvS (e : D.Env) (a : Int) (p : Int × Int) : Prop := VSpec Tryz.prog 52 [] [.tp (enc_Env e), intV a] [] (vII p)
theorem truth_spec {b : Bool} : VSpec Tryz.prog 84 [] [boolV b] [] (vII (truthP b)) :=
  vspec_raw tb_ok mixed Tryz.func84 (by kernel_rfl) rfl (truth_raw _ _ b) ⟨fun h => leafQ (by rw [h]; rfl), fun h => leafQ (by rw [h]; rfl)⟩
theorem ne_dec (a b : Int) : (a != b) = decide (a ≠ b) := by rw [Bool.eq_iff_iff]; simp
theorem xchan_spec {e : D.Env} {ev : Evl} {a : Int} (h : EvS e a (ev a)) : VSpec Tryz.prog 118 [] [.tp (enc_Env e), intV a] [] (vII (chanV e ev a)) := by
  refine vspec_raw tb_ok mixed Tryz.func118 (by kernel_rfl) rfl (xchan_raw _ _ e a) ⟨ev a, h, fun h => leafQ (ct (by simpa using h) rfl), fun h => ⟨fun h2 => leafQ (cf (by simpa using h) (ct ?_ rfl)), fun h2 => leafQ (cf (by simpa using h) (cf ?_ rfl))⟩⟩
  · rw [bif_or] at h2; exact h2
  · rw [bif_or] at h2; exact h2
theorem chan_in {e : D.Env} {ev : Evl} {a : Int} (hE : EnvOk e) (h : ¬ (chanV e ev a).2 ≠ 0) : 1 ≤ (chanV e ev a).1 ∧ (chanV e ev a).1 ≤ e.S.Chans.length ∧ e.S.Chans.length ≤ 32 := by
  have hc := hE.fit.c
  unfold chanV at h ⊢
  cases h1 : decide ((ev a).2 ≠ 0) with
  | true => rw [h1] at h; have := of_decide_eq_true h1; exact absurd h (by simpa using this)
  | false =>
    rw [h1] at h
    simp only [cond_false] at h ⊢
    cases h2 : (decide ((ev a).1 < 1) || decide ((e.S.Chans.length : Int) < (ev a).1)) with
    | true => rw [h2] at h; simp at h
    | false =>
      simp only [Bool.or_eq_false_iff, decide_eq_false_iff_not] at h2
      simp only [cond_false]
      omega
theorem index_spec {l : List Int} {v : Int} (hl : Len l.length) : VSpec Tryz.prog 147 [] [encL_Int true l, intV v] [] (intV (idxP v 0 l)) := by
  unfold Len at hl
  refine vspec_raw tb_ok mixed Tryz.func147 (by kernel_rfl) rfl (index_raw _ l v) ?_
  refine loop_idx tb_ok mixed l.length (fun k => stIdx l v k) (fun k => idxP v 0 l = idxP v k (l.drop k)) (by kernel_rfl) (by kernel_rfl) rfl ?_
  intro k hk hI J next
  refine Asks.raw (index1_raw _ l v k J) ⟨fun hlt => ?_, fun hge => leafI ?_⟩
  · have hlt' : k < l.length := by have := lt_of hlt; omega
    have hto : (k : Int).toNat = k := by omega
    rw [hto]
    rw [drop_cons (d := 0) hlt'] at hI
    rw [idxP_cons] at hI
    refine ⟨by omega, fun hy => leafI ?_, fun hy => next _ hlt' ?_ (Up.of ?_)⟩
    · rw [ieq] at hy; rw [hI, hy, cond_true]
    · rw [ieq] at hy; rw [hI, hy, cond_false]
    · rw [wrap_succ (by omega)]; rfl
  · have hge' : l.length ≤ k := by have := ge_of hge; omega
    rw [hI, List.drop_of_length_le hge']; rfl
theorem contains_spec {l : List Int} {v : Int} (hl : Len l.length) : VSpec Tryz.prog 119 [] [encL_Int true l, intV v] [] (boolV (decide (v ∈ l))) :=
  vspec_raw tb_ok mixed Tryz.func119 (by kernel_rfl) rfl (contains_raw _ l v) ⟨_, index_spec hl, leafB (by rw [idx_mem (k := 0)])⟩
theorem asks_spec {e : D.Env} {ev : Evl} {x : D.Expr} (hE : EnvOk e) (h : EvS e x.A (ev x.A)) : VSpec Tryz.prog 82 [] [.tp (enc_Env e), .agg (enc_Expr x)] [] (vII (asksV e ev x)) := by
  refine vspec_raw tb_ok mixed Tryz.func82 (by kernel_rfl) rfl (asks_raw _ _ e x) ⟨chanV e ev x.A, xchan_spec h, fun h => leafQ (ct (by simpa using h) rfl), fun h => ?_⟩
  have h0 : decide ((chanV e ev x.A).2 ≠ 0) = false := by simpa using h
  have hq : asksV e ev x = askP x.Op (shAt e.M (chAt e (chanV e ev x.A).1).Shape).Room (chAt e (chanV e ev x.A).1).Queue.length := by unfold asksV; rw [h0]; rfl
  rw [hq]
  have hn := chan_in hE (of_decide_eq_false h0)
  generalize (chanV e ev x.A).1 = n at hn
  rw [wrap_id (by omega) (by omega)]
  have hc := hE.chan (getD_mem (d := default) (show (n - 1).toNat < e.S.Chans.length by omega))
  have hs := (chan_facts hc).1
  refine ⟨by omega, hs, fun h1 => leafQ (it (by simpa using h1) rfl), fun h1 => ⟨fun h2 => ⟨_, truth_spec, leafQ (ie (by simpa using h1) (it (by simpa using h2) rfl))⟩, fun h2 => ⟨fun h3 => ⟨_, truth_spec, leafQ (ie (by simpa using h1) (ie (by simpa using h2) (it (by simpa using h3) rfl)))⟩, fun h3 => ⟨fun h4 => ⟨_, truth_spec, leafQ (ie (by simpa using h1) (ie (by simpa using h2) (ie (by simpa using h3) (it (by simpa using h4) ?_))))⟩, fun h4 => ⟨_, truth_spec, leafQ (ie (by simpa using h1) (ie (by simpa using h2) (ie (by simpa using h3) (ie (by simpa using h4) ?_))))⟩⟩⟩⟩⟩
  · rw [ieq]; rfl
  · rfl
theorem remote_spec {e : D.Env} {ev : Evl} {x : D.Expr} (h : EvS e x.A (ev x.A)) (hl : Len x.Args.length) : VSpec Tryz.prog 86 [] [.tp (enc_Env e), .agg (enc_Expr x)] [] (vII (remoteV e ev x)) := by
  refine vspec_raw tb_ok mixed Tryz.func86 (by kernel_rfl) rfl (remote_raw _ _ e x) ⟨ev x.A, h, fun h => leafQ (ct (by simpa using h) rfl), fun h => ?_⟩
  have h0 : decide ((ev x.A).2 ≠ 0) = false := by simpa using h
  have hq : remoteV e ev x = bif decide ((ev x.A).1 < 0) || (decide ((e.S.Procs.length : Int) ≤ (ev x.A).1) || (decide (x.Op = 38) && decide ((psAt e (ev x.A).1).Type_ ≠ x.N))) then (0, 52)
      else bif decide (x.Op = 37) then ((psAt e (ev x.A).1).Loc, 0) else truthP (decide ((psAt e (ev x.A).1).Loc ∈ x.Args)) := by unfold remoteV; rw [h0]; rfl
  rw [hq]
  generalize (ev x.A).1 = n
  refine ⟨fun h1 => ?_, fun h1 => ?_, fun h1 => ⟨fun h2 => ⟨?_, leafQ (cf ?_ (ct (by simpa using h2) rfl))⟩, fun h2 => ⟨?_, _, contains_spec hl, _, truth_spec, leafQ (cf ?_ (cf (by simpa using h2) rfl))⟩⟩⟩
  · simp at h1; omega
  · simp only [bif_or, bif_and, ieq, ne_dec, ge_iff_le, Bool.or_assoc] at h1; exact leafQ (ct h1 rfl)
  · simp at h1; omega
  · simp only [bif_or, bif_and, ieq, ne_dec, ge_iff_le, Bool.or_assoc] at h1; exact h1
  · simp at h1; omega
  · simp only [bif_or, bif_and, ieq, ne_dec, ge_iff_le, Bool.or_assoc] at h1; exact h1
theorem lpart_spec {e : D.Env} {a : Int} {p : Int × Int} (h : EvS e a p) : VSpec Tryz.prog 117 [] [intV a, .tp [.tp (enc_Env e)]] [] (vII p) :=
  vspec_raw tb_ok mixed Tryz.func117 (by kernel_rfl) rfl (lpart_raw _ _ e a) ⟨p, h, leafQ rfl⟩
theorem logic_spec {e : D.Env} {ev : Evl} {x : D.Expr} (h : EvS e x.A (ev x.A)) (hB : EvS e x.B (ev x.B)) (hC : x.Op = 24 → EvS e x.C (ev x.C)) : VSpec Tryz.prog 81 [] [.tp (enc_Env e), .agg (enc_Expr x)] [] (vII (logicV ev x)) := by
  refine vspec_raw tb_ok mixed Tryz.func81 (by kernel_rfl) rfl (logic_raw _ _ e x) ⟨ev x.A, h, fun h => leafQ (ct (by simpa using h) rfl), fun h => ?_⟩
  have h0 : decide ((ev x.A).2 ≠ 0) = false := by simpa using h
  have hq : logicV ev x = bif decide (x.Op = 24) then (bif decide ((ev x.A).1 ≠ 0) then ev x.B else ev x.C)
      else bif (decide (x.Op = 22) && decide ((ev x.A).1 = 0)) || (decide (x.Op = 23) && decide ((ev x.A).1 ≠ 0)) then truthP (decide ((ev x.A).1 ≠ 0))
      else bif decide ((ev x.B).2 ≠ 0) then (0, (ev x.B).2) else truthP (decide ((ev x.B).1 ≠ 0)) := by unfold logicV; rw [h0]; rfl
  rw [hq]
  generalize (ev x.A).1 = n
  refine ⟨fun h1 => ⟨_, lpart_spec hB, ?_⟩, fun h1 => ⟨fun h2 => ⟨_, lpart_spec (hC (by simpa using h2)), ?_⟩, fun h2 => ⟨fun h3 => ⟨_, truth_spec, ?_⟩, fun h3 => ⟨_, lpart_spec hB, fun h4 => ?_, fun h4 => ⟨_, truth_spec, ?_⟩⟩⟩⟩⟩
  · simp only [bif_and, ieq, ne_dec, Bool.and_eq_true] at h1
    exact leafQ (ct h1.1 (ct h1.2 rfl))
  · have h2' : decide (x.Op = 24) = true := by simpa using h2
    simp only [bif_and, ieq, ne_dec, h2', Bool.true_and] at h1
    exact leafQ (ct h2' (cf h1 rfl))
  · have h2' : decide (x.Op = 24) = false := by simpa using h2
    simp only [bif_and, bif_or, ieq, ne_dec] at h3
    rw [ne_dec]
    exact leafQ (cf h2' (ct h3 rfl))
  · have h2' : decide (x.Op = 24) = false := by simpa using h2
    simp only [bif_and, bif_or, ieq, ne_dec] at h3
    exact leafQ (cf h2' (cf h3 (ct (by simpa using h4) rfl)))
  · have h2' : decide (x.Op = 24) = false := by simpa using h2
    simp only [bif_and, bif_or, ieq, ne_dec] at h3
    rw [ne_dec]
    exact leafQ (cf h2' (cf h3 (cf (by simpa using h4) rfl)))
theorem one_spec' {op a : Int} : VSpec Tryz.prog 120 [] [intV op, intV a] [] (vII (oneV op a, oneE op)) := by
  refine VSpec.hand ⟨_, Tryz.func120, rfl, by kernel_rfl⟩ fun w E vs hA hL _ _ hs => ?_
  obtain ⟨u1, us1, rfl, v1, hs⟩ := hs.cons_inv
  obtain ⟨u2, us2, rfl, v2, hs⟩ := hs.cons_inv
  obtain rfl := hs.nil_inv
  rw [v1.sc_inv, v2.sc_inv]
  refine (vone op a w).mono ?_
  rintro e w' ⟨rfl, rfl⟩
  exact ⟨_, rfl, v_tup2 .sc .sc, Below.refl _ _⟩
theorem two_spec' {op a b : Int} : VSpec Tryz.prog 121 [] [intV op, intV a, intV b] [] (vII (twoV op a b, twoE op b)) := by
  refine VSpec.hand ⟨_, Tryz.func121, rfl, by kernel_rfl⟩ fun w E vs hA hL _ _ hs => ?_
  obtain ⟨u1, us1, rfl, v1, hs⟩ := hs.cons_inv
  obtain ⟨u2, us2, rfl, v2, hs⟩ := hs.cons_inv
  obtain ⟨u3, us3, rfl, v3, hs⟩ := hs.cons_inv
  obtain rfl := hs.nil_inv
  rw [v1.sc_inv, v2.sc_inv, v3.sc_inv]
  refine (vtwo op a b w).mono ?_
  rintro e w' ⟨rfl, rfl⟩
  exact ⟨_, rfl, v_tup2 .sc .sc, Below.refl _ _⟩
theorem sums_spec {e : D.Env} {ev : Evl} {x : D.Expr} (h : EvS e x.A (ev x.A)) (hB : ¬ (x.Op = 3 ∨ x.Op = 4 ∨ x.Op = 5) → EvS e x.B (ev x.B)) : VSpec Tryz.prog 87 [] [.tp (enc_Env e), .agg (enc_Expr x)] [] (vII (sumsV ev x)) := by
  refine vspec_raw tb_ok mixed Tryz.func87 (by kernel_rfl) rfl (sums_raw _ _ e x) ⟨ev x.A, h, fun h => leafQ (ct (by simpa using h) rfl), fun h => ?_⟩
  have h0 : decide ((ev x.A).2 ≠ 0) = false := by simpa using h
  have hq : sumsV ev x = bif decide (x.Op = 3) || (decide (x.Op = 4) || decide (x.Op = 5)) then (oneV x.Op (ev x.A).1, oneE x.Op)
      else bif decide ((ev x.B).2 ≠ 0) then (0, (ev x.B).2) else (twoV x.Op (ev x.A).1 (ev x.B).1, twoE x.Op (ev x.B).1) := by unfold sumsV; rw [h0]; rfl
  rw [hq]
  generalize (ev x.A).1 = n
  refine ⟨fun h1 => ⟨_, one_spec', leafQ (ct ?_ rfl)⟩, fun h1 => ⟨ev x.B, hB ?_, fun h2 => leafQ (cf ?_ (ct (by simpa using h2) rfl)), fun h2 => ⟨_, two_spec', leafQ (cf ?_ (cf (by simpa using h2) rfl))⟩⟩⟩
  · simpa only [bif_or, ieq, Bool.or_assoc] using h1
  · simp at h1; omega
  · simpa only [bif_or, ieq, Bool.or_assoc] using h1
  · simpa only [bif_or, ieq, Bool.or_assoc] using h1
end Go.Proofs.YtiaebjpcgjkhoaaGreatDoor
namespace Go.Proofs.YtiaebjpcgjkhoaaGreatDoor
open Go.RowKit
theorem mtch_spec {x l mt : List Int} (hm : Len mt.length) : VSpec Tryz.prog 129 [] [encL_Int true x, encL_Int false l, encL_Int true mt] [] (boolV (matchesP x l mt)) := by
  unfold Len at hm
  refine vspec_raw tb_ok mixed Tryz.func129 (by kernel_rfl) rfl (mtch_raw _ x l mt) ⟨fun h => leafB ?_, fun h => ?_⟩
  · symm; unfold matchesP
    rw [bif_or] at h
    rw [Bool.eq_false_iff]; intro hq
    simp only [Bool.and_eq_true, decide_eq_true_eq] at hq
    simp at h; omega
  · have hl : mt.length ≤ x.length ∧ mt.length ≤ l.length := by simp at h; omega
    have e0 : matchesP x l mt = allI mt.length fun i => !(decide (mt.getD i 0 = 1) && decide (x.getD i 0 ≠ l.getD i 0)) := by
      unfold matchesP
      rw [decide_eq_true hl.1, decide_eq_true hl.2]; rfl
    rw [e0]
    refine loop_idx tb_ok mixed mt.length (fun k => stMtch x l mt k) (fun k => ∀ i, i < k → (!(decide (mt.getD i 0 = 1) && decide (x.getD i 0 ≠ l.getD i 0))) = true) (by kernel_rfl) (by kernel_rfl) (fun i hi => by omega) ?_
    intro k hk hI J next
    refine Asks.raw (mtch1_raw _ x l mt k J) ⟨fun hlt => ?_, fun hge => leafB ?_⟩
    · have hlt' : k < mt.length := by have := lt_of hlt; omega
      have hto : (k : Int).toNat = k := by omega
      rw [hto]
      refine ⟨by omega, fun _ => by omega, fun _ => by omega, fun hy => leafB ?_, fun hy => next _ hlt' (succ_of hI ?_) (Up.of ?_)⟩
      · simp only [bif_and, ieq, ne_dec] at hy
        exact (allI_no (f := fun i => !(decide (mt.getD i 0 = 1) && decide (x.getD i 0 ≠ l.getD i 0))) hlt' (by rw [hy]; rfl)).symm
      · simp only [bif_and, ieq, ne_dec] at hy
        rw [hy]; rfl
      · rw [wrap_succ (by omega)]; rfl
    · have hge' : mt.length ≤ k := by have := ge_of hge; omega
      exact (allI_iff.2 fun i hi => hI i (by omega)).symm
theorem findG_cons {l mt : List Int} {any : Bool} {k : Nat} {x : List Int} {q : List (List Int)} : findG l mt any k (x :: q) = bif matchesP x l mt then (k : Int) else bif any then findG l mt any (k + 1) q else -1 := rfl
theorem find_spec {c : D.Chan} {l mt : List Int} {any : Bool} (hc : Len c.Queue.length) (hm : Len mt.length) : VSpec Tryz.prog 100 [] [.agg (enc_Chan c), encL_Int false l, encL_Int true mt, boolV any] [] (intV (findP c l mt any)) := by
  unfold Len at hc
  refine vspec_raw tb_ok mixed Tryz.func100 (by kernel_rfl) rfl (find_raw _ c l mt any) ?_
  unfold findP
  refine loop_idx tb_ok mixed c.Queue.length (fun k => stFind c l mt any k) (fun k => findG l mt any 0 c.Queue = findG l mt any k (c.Queue.drop k)) (by kernel_rfl) (by kernel_rfl) rfl ?_
  intro k hk hI J next
  refine Asks.raw (find1_raw _ c l mt any k J) ⟨fun hlt => ?_, fun hge => leafI ?_⟩
  · have hlt' : k < c.Queue.length := by have := lt_of hlt; omega
    have hto : (k : Int).toNat = k := by omega
    rw [hto]
    rw [drop_cons (d := []) hlt', findG_cons] at hI
    refine ⟨by omega, _, mtch_spec hm, fun hy => leafI ?_, fun hy => ⟨fun ha => leafI ?_, fun ha => next _ hlt' ?_ (Up.of ?_)⟩⟩
    · rw [hI, hy, cond_true]
    · rw [hI, hy, cond_false, show any = false by simpa using ha, cond_false]
    · rw [hI, hy, cond_false, show any = true by simpa using ha, cond_true]
    · rw [wrap_succ (by omega)]; rfl
  · have hge' : c.Queue.length ≤ k := by have := ge_of hge; omega
    rw [hI, List.drop_of_length_le hge']; rfl
theorem errI_zero {f : Nat → Int} : ∀ {n : Nat}, (∀ i, i < n → f i = 0) → errI n f = 0
  | 0, _ => rfl
  | n + 1, h => by
    unfold errI
    rw [errI_zero fun i hi => h i (by omega), h n (by omega)]; rfl
theorem errI_hit {f : Nat → Int} {k : Nat} (h : ∀ i, i < k → f i = 0) (hf : f k ≠ 0) : ∀ {n : Nat}, k < n → errI n f = f k
  | 0, hk => by omega
  | n + 1, hk => by
    unfold errI
    by_cases hkn : k = n
    · subst hkn; rw [errI_zero h]; rfl
    · rw [errI_hit h hf (n := n) (by omega), decide_eq_true hf, cond_true]
def wantAt (ev : Evl) (args mt : List Int) (k : Nat) : List Int := (List.range args.length).map fun i => if i < k then (wantV ev (args.getD i 0) (mt.getD i 0)).1 else 0
theorem wantAt_len {ev : Evl} {args mt : List Int} {k : Nat} : (wantAt ev args mt k).length = args.length := by simp [wantAt]
theorem wantAt_get {ev : Evl} {args mt : List Int} {k i : Nat} (hi : i < args.length) : (wantAt ev args mt k).getD i 0 = if i < k then (wantV ev (args.getD i 0) (mt.getD i 0)).1 else 0 := by
  simp [wantAt, List.getD, hi]
theorem wantAt_all {ev : Evl} {args mt : List Int} : wantAt ev args mt args.length = wantsV ev args mt := by
  unfold wantAt wantsV
  apply List.map_congr_left
  intro i hi
  rw [if_pos (List.mem_range.1 hi)]
theorem poll_spec {e : D.Env} {ev : Evl} {x : D.Expr} (hE : EnvOk e) (h : EvS e x.A (ev x.A)) (ha : ∀ a ∈ x.Args, EvS e a (ev a)) (hl : x.Args.length ≤ 8) (hm : x.Match.length = x.Args.length) : VSpec Tryz.prog 83 [] [.tp (enc_Env e), .agg (enc_Expr x)] [] (vII (pollV e ev x)) := by
  refine vspec_raw tb_ok mixed Tryz.func83 (by kernel_rfl) rfl (poll_raw _ _ e x) ⟨chanV e ev x.A, xchan_spec h, fun h => leafQ (ct (by simpa using h) rfl), fun h => ?_⟩
  have h0 : decide ((chanV e ev x.A).2 ≠ 0) = false := by simpa using h
  have hq : pollV e ev x = bif decide ((shAt e.M (chAt e (chanV e ev x.A).1).Shape).Fields.length ≠ x.Args.length) then (0, 49)
      else bif decide (wantsE ev x.Args x.Match x.Args.length ≠ 0) then (0, wantsE ev x.Args x.Match x.Args.length)
      else truthP (decide (0 ≤ findP (chAt e (chanV e ev x.A).1) (wantsV ev x.Args x.Match) x.Match (decide (x.N = 1)))) := by unfold pollV; rw [h0]; rfl
  rw [hq]
  have hn := chan_in hE (of_decide_eq_false h0)
  generalize (chanV e ev x.A).1 = n at hn
  rw [wrap_id (by omega) (by omega)]
  have hcm := getD_mem (d := default) (show (n - 1).toNat < e.S.Chans.length by omega)
  have hc := hE.chan hcm
  have hs := (chan_facts hc).1
  have hql := (hE.fit.q _ hcm).1
  refine ⟨by omega, hs, fun h1 => leafQ (ct ?_ rfl), fun h1 => ⟨by omega, ?_⟩⟩
  · rw [ne_dec] at h1
    have := of_decide_eq_true h1
    rw [decide_eq_true_eq]
    intro hh
    apply this
    have hh' : (e.M.Shapes.getD (e.S.Chans.getD (n - 1).toNat default).Shape.toNat default).Fields.length = x.Args.length := hh
    rw [hh']
  have h1' : decide ((shAt e.M (chAt e n).Shape).Fields.length ≠ x.Args.length) = false := by
    rw [ne_dec] at h1
    have := of_decide_eq_false h1
    rw [decide_eq_false_iff_not]
    intro hh
    apply this
    intro h2
    apply hh
    exact Int.ofNat.inj h2
  rw [h1', cond_false]
  have hcdef : e.S.Chans.getD (n - 1).toNat default = chAt e n := rfl
  clear hq h1 hs hc
  generalize chAt e n = c at hcdef
  have hqc : c.Queue.length ≤ 16 := by rw [← hcdef]; exact hql
  refine loop_raw tb_ok mixed (fun gg st => ∃ k : Nat, k ≤ x.Args.length ∧ gg = x.Args.length - k ∧ (∀ i, i < k → (wantV ev (x.Args.getD i 0) (x.Match.getD i 0)).2 = 0) ∧ st = stPoll e x c (wantAt ev x.Args x.Match k) k) (by kernel_rfl) (by kernel_rfl)
    ⟨x.Args.length, Up.mk (l' := [(0, .tp (enc_Env e)), (3, .bp 0 0), (8, .bp 1 0), (9, .ow 2 0 (wantAt ev x.Args x.Match 0).length), (51, encL_Int true x.Args), (52, intV x.Args.length), (53, intV ((0 : Nat) : Int))])
      (hs' := [.box (enc_Expr x), .box (enc_Chan c), .arr true 0 (wantAt ev x.Args x.Match 0).length 1 (rowsIn (wantAt ev x.Args x.Match 0))]) ?_ ?_ ⟨0, Nat.zero_le _, rfl, fun i hi => by omega, rfl⟩⟩ ?_
  · rw [wantAt_len]; exact leT_refl _
  · rw [wantAt_len]
    refine ⟨Ob.le_refl _, by rw [← hcdef]; exact Ob.le_refl _, Ob.le_arr fun i hi => leL_eq ?_, trivial⟩
    have hz : rowsIn (wantAt ev x.Args x.Match 0) i = [intV 0] := by
      unfold rowsIn
      rw [wantAt_get (by omega), if_neg (Nat.not_lt_zero _)]
    refine Eq.trans ?_ hz.symm
    rfl
  · rintro gg st ⟨k, hk, rfl, hI, rfl⟩
    refine Asks.raw (poll1_raw _ _ e x c _ k _) ⟨fun hlt => ?_, fun hge => ?_⟩
    · have hlt' : k < x.Args.length := by have := lt_of hlt; omega
      have hto : (k : Int).toNat = k := by omega
      rw [hto]
      refine ⟨by omega, by omega, fun hy => ?_, fun hy => ⟨ev (x.Args.getD k 0), ha _ (getD_mem hlt'), by rw [wantAt_len]; omega, fun hz => leafQ ?_, fun hz => ?_⟩⟩
      · rw [ne_dec] at hy
        have h1 := of_decide_eq_true hy
        have hv : wantV ev (x.Args.getD k 0) (x.Match.getD k 0) = (0, 0) := by unfold wantV; rw [decide_eq_false h1]; rfl
        have e1 : wantAt ev x.Args x.Match k = wantAt ev x.Args x.Match (k + 1) := by
          unfold wantAt
          apply List.map_congr_left
          intro i _
          by_cases hik : i = k
          · subst hik; rw [if_neg (Nat.lt_irrefl _), if_pos (Nat.lt_succ_self _), hv]
          · by_cases hlt2 : i < k
            · rw [if_pos hlt2, if_pos (by omega)]
            · rw [if_neg hlt2, if_neg (by omega)]
        rw [e1, wrap_succ (by omega)]
        exact ⟨x.Args.length - (k + 1), by omega, Up.of ⟨k + 1, by omega, rfl, succ_of hI (by rw [hv]), rfl⟩⟩
      · have hm1 : decide (x.Match.getD k 0 = 1) = true := by rw [ne_dec] at hy; simpa using hy
        have hv : wantV ev (x.Args.getD k 0) (x.Match.getD k 0) = ev (x.Args.getD k 0) := by unfold wantV; rw [hm1]; rfl
        have hnz : (wantV ev (x.Args.getD k 0) (x.Match.getD k 0)).2 ≠ 0 := by rw [hv]; simpa using hz
        have he : wantsE ev x.Args x.Match x.Args.length = (ev (x.Args.getD k 0)).2 := by
          unfold wantsE
          rw [errI_hit (f := fun i => (wantV ev (x.Args.getD i 0) (x.Match.getD i 0)).2) hI hnz hlt', hv]
        rw [he]
        exact ct (by simpa using hz) rfl
      · have hm1 : decide (x.Match.getD k 0 = 1) = true := by rw [ne_dec] at hy; simpa using hy
        have hv : wantV ev (x.Args.getD k 0) (x.Match.getD k 0) = ev (x.Args.getD k 0) := by unfold wantV; rw [hm1]; rfl
        have h2 : (ev (x.Args.getD k 0)).2 = 0 := by simpa using hz
        rw [wrap_succ (by omega)]
        refine ⟨x.Args.length - (k + 1), by omega, Up.mk (l' := [(0, .tp (enc_Env e)), (3, .bp 0 0), (8, .bp 1 0), (9, .ow 2 0 (wantAt ev x.Args x.Match (k + 1)).length), (51, encL_Int true x.Args), (52, intV x.Args.length), (53, intV ((k + 1 : Nat) : Int))])
          (hs' := [.box (enc_Expr x), .box (enc_Chan c), .arr true 0 (wantAt ev x.Args x.Match (k + 1)).length 1 (rowsIn (wantAt ev x.Args x.Match (k + 1)))]) ?_ ?_ ⟨k + 1, by omega, rfl, succ_of hI (by rw [hv]; exact h2), rfl⟩⟩
        · rw [wantAt_len, wantAt_len]; exact leT_refl _
        · rw [wantAt_len, wantAt_len]
          refine ⟨Ob.le_refl _, Ob.le_refl _, Ob.le_arr fun i hi => leL_eq ?_, trivial⟩
          show (bif i.beq k then [intV (ev (x.Args.getD k 0)).1] else [intV ((wantAt ev x.Args x.Match k).getD i 0)]) = [intV ((wantAt ev x.Args x.Match (k + 1)).getD i 0)]
          rw [wantAt_get hi, wantAt_get hi]
          cases hq : i.beq k with
          | true =>
            have := Nat.eq_of_beq_eq_true hq; subst this
            rw [cond_true, if_pos (Nat.lt_succ_self _), hv]
          | false =>
            have : i ≠ k := Nat.ne_of_beq_eq_false hq
            rw [cond_false]
            by_cases hlt2 : i < k
            · rw [if_pos hlt2, if_pos (by omega)]
            · rw [if_neg hlt2, if_neg (by omega)]
    · obtain rfl : k = x.Args.length := by have := ge_of hge; omega
      have he : wantsE ev x.Args x.Match x.Args.length = 0 := errI_zero hI
      rw [he, wantAt_all]
      refine ⟨_, find_spec (by unfold Len; omega) (by unfold Len; omega), _, truth_spec, leafQ (cf rfl ?_)⟩
      rw [ieq]
end Go.Proofs.YtiaebjpcgjkhoaaGreatDoor
namespace Go.Proofs.YtiaebjpcgjkhoaaGreatDoor
open Go.RowKit
theorem holder_spec {e : D.Env} {ev : Evl} {v : D.Var} (hE : EnvOk e) (hv : wf_Var v) (hw : ¬ (v.Scope = 0 ∨ v.Scope = 1) → EvS e v.Who (ev v.Who)) : VSpec Tryz.prog 116 [] [.tp (enc_Env e), .agg (enc_Var v)] [] (vII (holderV e ev v)) := by
  have hp := hE.pid
  refine vspec_raw tb_ok mixed Tryz.func116 (by kernel_rfl) rfl (holder_raw _ _ e v) ⟨fun h => ⟨_, reach_spec hv, fun h1 => leafQ ?_, fun h1 => leafQ ?_⟩, fun h => ⟨fun h1 => ⟨_, fun _ => reach_spec hv, fun h2 => ?_, fun h2 => leafQ ?_, fun h2 => leafQ ?_⟩, fun h1 => ⟨_, hw ?_, fun h2 => leafQ ?_, fun h2 => ⟨fun h3 => ?_, fun h3 => leafQ ?_, fun h3 => ⟨_, reach_spec hv, ?_, fun h4 => leafQ ?_, fun h4 => leafQ ?_⟩⟩⟩⟩⟩
  · exact ct (by simpa using h) (ct h1 rfl)
  · exact ct (by simpa using h) (cf h1 rfl)
  · simp at h2; omega
  · exact cf (by simpa using h) (ct (by simpa using h1) (ct (by rw [bif_or] at h2; exact h2) rfl))
  · exact cf (by simpa using h) (ct (by simpa using h1) (cf (by rw [bif_or] at h2; exact h2) rfl))
  · simp at h h1; omega
  · exact cf (by simpa using h) (cf (by simpa using h1) (ct (by simpa using h2) rfl))
  · simp at h3; omega
  · refine cf (by simpa using h) (cf (by simpa using h1) (cf (by simpa using h2) (ct ?_ rfl)))
    simp only [bif_or, ne_dec, ge_iff_le, Bool.or_assoc] at h3; exact h3
  · simp at h3; omega
  · refine cf (by simpa using h) (cf (by simpa using h1) (cf (by simpa using h2) (cf ?_ (ct h4 rfl))))
    simp only [bif_or, ne_dec, ge_iff_le, Bool.or_assoc] at h3; exact h3
  · refine cf (by simpa using h) (cf (by simpa using h1) (cf (by simpa using h2) (cf ?_ (cf h4 rfl))))
    simp only [bif_or, ne_dec, ge_iff_le, Bool.or_assoc] at h3; exact h3
theorem dimsV_cons {ev : Evl} {n : Int} {d : D.Dim} {l : List D.Dim} : dimsV ev n (d :: l) = bif decide ((ev d.I).2 ≠ 0) then (0, (ev d.I).2) else bif decide ((ev d.I).1 < 0) || decide (d.Len ≤ (ev d.I).1) then (0, 47) else dimsV ev (n + (ev d.I).1 * d.Stride) l := rfl
structure DimOk (d : D.Dim) : Prop where
  l1 : 1 ≤ d.Len
  l2 : d.Len ≤ 128
  s1 : 0 ≤ d.Stride
  s2 : d.Stride ≤ 128
theorem mul_in {i s n : Int} (h0 : 0 ≤ i) (h1 : i < n) (h2 : n ≤ 128) (s0 : 0 ≤ s) (s1 : s ≤ 128) : 0 ≤ i * s ∧ i * s ≤ (n - 1) * s ∧ (n - 1) * s ≤ 16384 := by
  have a := Int.mul_nonneg h0 s0
  have b := Int.mul_le_mul_of_nonneg_right (show i ≤ n - 1 by omega) s0
  have c := Int.mul_le_mul (show n - 1 ≤ 128 by omega) s1 s0 (by omega)
  omega
theorem slot_spec {e : D.Env} {ev : Evl} {x : Int} (hE : EnvOk e) (hx : 0 ≤ x ∧ x < e.M.Exprs.length) (hv : wf_Var (exAt e.M x).V) (hw : (exAt e.M x).Op = 2 → ¬ ((exAt e.M x).V.Scope = 0 ∨ (exAt e.M x).V.Scope = 1) → EvS e (exAt e.M x).V.Who (ev (exAt e.M x).V.Who))
    (hs : (exAt e.M x).Op = 2 → 0 ≤ (exAt e.M x).V.Slot ∧ (exAt e.M x).V.Slot ≤ 128 ∧ (exAt e.M x).V.Dims.length ≤ 4) (hd : (exAt e.M x).Op = 2 → ∀ d ∈ (exAt e.M x).V.Dims, DimOk d ∧ EvS e d.I (ev d.I)) : VSpec Tryz.prog 80 [] [.tp (enc_Env e), intV x] [] (vIII (slotV e ev (exAt e.M x))) := by
  refine vspec_raw tb_ok mixed Tryz.func80 (by kernel_rfl) rfl (slot_raw _ _ _ e x) ⟨hx, hx, fun h => leafR (ct (by simpa [exAt] using h) rfl), fun h => ?_⟩
  have h0 : (exAt e.M x).Op = 2 := by simpa [exAt] using h
  change ∃ y : Int × Int, VSpec Tryz.prog 116 [] [.tp (enc_Env e), .agg (enc_Var (exAt e.M x).V)] [] (vII y) ∧ _
  replace hw := hw h0
  replace hs := hs h0
  replace hd := hd h0
  have hq : slotV e ev (exAt e.M x) = bif decide ((holderV e ev (exAt e.M x).V).2 ≠ 0) then (0, 0, (holderV e ev (exAt e.M x).V).2)
      else bif decide ((dimsV ev (exAt e.M x).V.Slot (exAt e.M x).V.Dims).2 ≠ 0) then (0, 0, (dimsV ev (exAt e.M x).V.Slot (exAt e.M x).V.Dims).2) else ((holderV e ev (exAt e.M x).V).1, (dimsV ev (exAt e.M x).V.Slot (exAt e.M x).V.Dims).1, 0) := by
    unfold slotV; rw [decide_eq_false (by rw [h0]; simp)]; rfl
  rw [hq]
  refine ⟨_, holder_spec hE hv hw, fun h1 => leafR (ct (by simpa using h1) rfl), fun h1 => ?_⟩
  have h1' : decide ((holderV e ev (exAt e.M x).V).2 ≠ 0) = false := by simpa using h1
  rw [h1', cond_false]
  generalize (holderV e ev (exAt e.M x).V).1 = who
  have hsl := hs.1
  have hsl2 := hs.2
  change SatC _ [1, 1, 1, 1, 1, 1, 0, 1, 0] (stSlot e (exAt e.M x).V.Dims who (exAt e.M x).V.Slot 0)
  clear hq hw hv h h1 h1' hs
  generalize (exAt e.M x).V.Dims = ds at hd hsl2 ⊢
  generalize (exAt e.M x).V.Slot = sl at hsl hsl2 ⊢
  generalize hR : dimsV ev sl ds = R
  refine loop_raw tb_ok mixed (fun gg st => ∃ (k : Nat) (n : Int), k ≤ ds.length ∧ gg = ds.length - k ∧ 0 ≤ n ∧ n ≤ 128 + 16384 * k ∧ dimsV ev n (ds.drop k) = R ∧ st = stSlot e ds who n k) (by kernel_rfl) (by kernel_rfl)
    ⟨ds.length, Up.of ⟨0, sl, Nat.zero_le _, rfl, hsl, by omega, hR, rfl⟩⟩ ?_
  rintro gg st ⟨k, n, hk, rfl, hn0, hn1, hI, rfl⟩
  refine Asks.raw (slot1_raw _ _ _ e x ds who n k _) ⟨fun hlt => ?_, fun hge => ?_⟩
  · have hlt' : k < ds.length := by have := lt_of hlt; omega
    have hto : (k : Int).toNat = k := by omega
    rw [hto]
    obtain ⟨hD, hE'⟩ := hd _ (getD_mem (d := default) hlt')
    rw [drop_cons (d := default) hlt', dimsV_cons] at hI
    generalize ds.getD k default = d at hD hE' hI ⊢
    refine ⟨by omega, _, hE', fun h2 => leafR ?_, fun h2 => ⟨fun h3 => leafR ?_, fun h3 => ?_⟩⟩
    · have h2' : decide ((ev d.I).2 ≠ 0) = true := by simpa using h2
      rw [h2', cond_true] at hI
      subst hI
      exact ct h2' rfl
    · have h2' : decide ((ev d.I).2 ≠ 0) = false := by simpa using h2
      rw [bif_or] at h3
      rw [h2', cond_false] at hI
      have h3' : (decide ((ev d.I).1 < 0) || decide (d.Len ≤ (ev d.I).1)) = true := h3
      rw [h3', cond_true] at hI
      subst hI
      exact ct rfl rfl
    · have h2' : decide ((ev d.I).2 ≠ 0) = false := by simpa using h2
      rw [bif_or] at h3
      have h3' : (decide ((ev d.I).1 < 0) || decide (d.Len ≤ (ev d.I).1)) = false := h3
      rw [h2', cond_false, h3', cond_false] at hI
      simp only [Bool.or_eq_false_iff, decide_eq_false_iff_not] at h3'
      have hm := mul_in (i := (ev d.I).1) (s := d.Stride) (n := d.Len) (by omega) (by omega) hD.l2 hD.s1 hD.s2
      have hk4 : k < 4 := by omega
      rw [wrap_id (n := (ev d.I).1 * d.Stride) (by omega) (by omega), wrap_id (by omega) (by omega), wrap_succ (by omega)]
      exact ⟨ds.length - (k + 1), by omega, Up.of ⟨k + 1, n + (ev d.I).1 * d.Stride, by omega, rfl, by omega, by omega, hI, rfl⟩⟩
  · obtain rfl : k = ds.length := by have := ge_of hge; omega
    rw [List.drop_length] at hI
    subst hI
    exact leafR (cf rfl rfl)
end Go.Proofs.YtiaebjpcgjkhoaaGreatDoor
namespace Go.Proofs.YtiaebjpcgjkhoaaGreatDoor
open Go.RowKit
theorem progress_spec {e : D.Env} (hE : EnvOk e) : VSpec Tryz.prog 85 [] [.tp (enc_Env e)] [] (boolV (progressP e)) := by
  have hpl := hE.fit.p
  refine vspec_raw tb_ok mixed Tryz.func85 (by kernel_rfl) rfl (progress_raw _ e) ?_
  refine loop_idx tb_ok mixed e.S.Procs.length (fun k => stProg e k) (fun k => ∀ i, i < k → (!((locsOf e.M (e.S.Procs.getD i default).Type_).getD (e.S.Procs.getD i default).Loc.toNat default).Progress) = true) (by kernel_rfl) (by kernel_rfl) (fun i hi => by omega) ?_
  intro k hk hI J next
  refine Asks.raw (progress1_raw _ e k J) ⟨fun hlt => ?_, fun hge => leafB ?_⟩
  · have hlt' : k < e.S.Procs.length := by have := lt_of hlt; omega
    have hto : (k : Int).toNat = k := by omega
    rw [hto]
    have hf := proc_facts (hE.proc (getD_mem (d := default) hlt'))
    refine ⟨by omega, hf.1, hf.2.1, fun hy => leafB ?_, fun hy => next _ hlt' (succ_of hI ?_) (Up.of ?_)⟩
    · unfold progressP
      rw [allI_no (f := fun i => !((locsOf e.M (e.S.Procs.getD i default).Type_).getD (e.S.Procs.getD i default).Loc.toNat default).Progress) hlt' (by show (!_) = false; unfold locsOf; rw [hy]; rfl)]; rfl
    · show (!_) = true
      unfold locsOf; rw [hy]; rfl
    · rw [wrap_succ (by omega)]; rfl
  · have hge' : e.S.Procs.length ≤ k := by have := ge_of hge; omega
    unfold progressP
    rw [allI_iff.2 fun i hi => hI i (by omega)]; rfl
structure ExOk (m : D.Model) (k : Int) (x : D.Expr) : Prop where
  op : 1 ≤ x.Op ∧ x.Op ≤ 39
  a : 1 ≤ partsP x.Op → 0 ≤ x.A ∧ x.A < k
  b : 2 ≤ partsP x.Op → 0 ≤ x.B ∧ x.B < k
  c : 3 ≤ partsP x.Op → 0 ≤ x.C ∧ x.C < k
  num : x.Op = 1 → fitsP ⟨32, true⟩ x.N = true
  var : x.Op = 2 → variableP m k x.V = true
  poll : x.Op = 30 → matchedP m k x.Args x.Match = true
theorem part_in {k op p : Int} {i : Nat} (h : partP k op i p = true) (hi : i < partsP op) : 0 ≤ p ∧ p < k := by
  unfold partP at h
  rw [decide_eq_true hi, cond_true] at h
  exact inP_iff.1 h
theorem ex_ok {m : D.Model} {k : Int} (h : exprP m k = true) : ExOk m k (exAt m k) := by
  unfold exprP at h
  simp only [Bool.and_eq_true, decide_eq_true_eq] at h
  obtain ⟨⟨h1, ⟨hA, hB⟩, hC⟩, h3⟩ := h
  refine ⟨h1, fun hi => part_in hA (by omega), fun hi => part_in hB (by omega), fun hi => part_in hC (by omega), fun ho => ?_, fun ho => ?_, fun ho => ?_⟩
  · rw [if_pos ho] at h3; exact h3
  · rw [if_neg (by omega), if_pos ho] at h3; exact h3
  · rw [if_neg (by omega), if_neg (by omega), if_pos ho, Bool.and_eq_true] at h3; exact h3.1
theorem mem_below {k : Int} {l : List Int} (h : belowP k l = true) : ∀ a ∈ l, 0 ≤ a ∧ a < k := fun a ha =>
  inP_iff.1 ((allL_iff (d := 0) (f := fun a => inP k a)).1 h a ha)
structure VarOk (m : D.Model) (k : Int) (v : D.Var) : Prop where
  scope : 0 ≤ v.Scope ∧ v.Scope ≤ 2
  slot : 0 ≤ v.Slot ∧ v.Slot ≤ 128
  dims : v.Dims.length ≤ 4
  who : v.Scope = 2 → 0 ≤ v.Who ∧ v.Who < k
  dim : ∀ d ∈ v.Dims, DimOk d ∧ 0 ≤ d.I ∧ d.I < k
theorem var_ok {m : D.Model} {k : Int} {v : D.Var} (h : variableP m k v = true) : VarOk m k v := by
  unfold variableP at h
  simp only [Bool.and_eq_true, decide_eq_true_eq] at h
  obtain ⟨⟨⟨⟨⟨⟨h1, h2⟩, h3⟩, h4⟩, h5⟩, h6⟩, h7⟩ := h
  refine ⟨⟨h1, h2⟩, ⟨h3, h4⟩, h5, fun hs => ?_, fun d hd => ?_⟩
  · rw [decide_eq_true hs, cond_true, Bool.and_eq_true] at h6; exact inP_iff.1 h6.1
  · have := (allL_iff (d := default) (f := fun d => dimP k d)).1 h7 d hd
    unfold dimP at this
    simp only [Bool.and_eq_true, decide_eq_true_eq] at this
    obtain ⟨⟨⟨⟨a1, a2⟩, a3⟩, a4⟩, a5⟩ := this
    have := inP_iff.1 a1
    exact ⟨⟨a2, a3, a4, a5⟩, this⟩
theorem dims_in {ev : Evl} : ∀ {l : List D.Dim} {n r k : Int}, (∀ d ∈ l, DimOk d) → 0 ≤ n → n < r → (dimsV ev n l).2 = 0 → (dimsV ev n l).1 = k → 0 ≤ k ∧ k < reachL r l
  | [], n, r, k, _, h0, h1, _, hk => by subst hk; exact ⟨h0, h1⟩
  | d :: l, n, r, k, hd, h0, h1, h2, hk => by
    have hD := hd d (List.mem_cons_self ..)
    rw [dimsV_cons] at h2 hk
    cases c1 : decide ((ev d.I).2 ≠ 0) with
    | true => rw [c1, cond_true] at h2; exact absurd h2 (of_decide_eq_true c1)
    | false =>
      rw [c1, cond_false] at h2 hk
      cases c2 : (decide ((ev d.I).1 < 0) || decide (d.Len ≤ (ev d.I).1)) with
      | true => rw [c2, cond_true] at h2; simp at h2
      | false =>
        rw [c2, cond_false] at h2 hk
        simp only [Bool.or_eq_false_iff, decide_eq_false_iff_not] at c2
        have hm := mul_in (i := (ev d.I).1) (s := d.Stride) (n := d.Len) (by omega) (by omega) hD.l2 hD.s1 hD.s2
        have := dims_in (r := r + (d.Len - 1) * d.Stride) (fun x hx => hd x (List.mem_cons_of_mem _ hx)) (by omega) (by omega) h2 hk
        have hb : dimBad d = false := by
          have := hD.l1; have := hD.l2; have := hD.s1; have := hD.s2
          unfold dimBad; simp; omega
        show 0 ≤ k ∧ k < reachL r (d :: l)
        unfold reachL
        rw [hb, cond_false]
        exact this
structure SlotIn (e : D.Env) (who k : Int) : Prop where
  glob : who < 0 → 0 ≤ k ∧ k < e.S.Globals.length
  own : 0 ≤ who → who < e.S.Procs.length ∧ 0 ≤ k ∧ k < (psAt e who).Frame.length
theorem reach_var {m : D.Model} {k : Int} {v : D.Var} (h : VarOk m k v) : reachP v = reachL (v.Slot + 1) v.Dims := by
  have h1 := h.slot; have h2 := h.dims
  unfold reachP
  have : (decide (v.Slot < 0) || (decide (1073741824 < v.Slot) || decide (4 < v.Dims.length))) = false := by simp; omega
  rw [this, cond_false]
theorem slot_in {e : D.Env} {ev : Evl} {x : D.Expr} {k : Int} (hE : EnvOk e) (hv : x.Op = 2 → VarOk e.M k x.V) (h : (slotV e ev x).2.2 = 0) : SlotIn e (slotV e ev x).1 (slotV e ev x).2.1 := by
  have hpid := hE.pid
  unfold slotV at h ⊢
  cases c0 : decide (x.Op ≠ 2) with
  | true => rw [c0, cond_true] at h; simp at h
  | false =>
    rw [c0, cond_false] at h
    rw [cond_false]
    have hv := hv (by simpa using c0)
    have hr := reach_var hv
    cases c1 : decide ((holderV e ev x.V).2 ≠ 0) with
    | true => rw [c1, cond_true] at h; exact absurd h (of_decide_eq_true c1)
    | false =>
      rw [c1, cond_false] at h
      rw [cond_false]
      cases c2 : decide ((dimsV ev x.V.Slot x.V.Dims).2 ≠ 0) with
      | true => rw [c2, cond_true] at h; exact absurd h (of_decide_eq_true c2)
      | false =>
        rw [cond_false]
        have hd := dims_in (ev := ev) (l := x.V.Dims) (n := x.V.Slot) (r := x.V.Slot + 1) (fun d hd => (hv.dim d hd).1) hv.slot.1 (by omega) (by simpa using c2) rfl
        rw [← hr] at hd
        show SlotIn e (holderV e ev x.V).1 (dimsV ev x.V.Slot x.V.Dims).1
        generalize (dimsV ev x.V.Slot x.V.Dims).1 = n at hd
        unfold holderV at c1 ⊢
        cases d1 : decide (x.V.Scope = 0) with
        | true =>
          rw [d1, cond_true] at c1
          rw [cond_true]
          cases d2 : decide ((e.S.Globals.length : Int) < reachP x.V) with
          | true => rw [d2, cond_true] at c1; simp at c1
          | false =>
            have := of_decide_eq_false d2
            exact ⟨fun _ => ⟨hd.1, by omega⟩, fun h => by simp at h⟩
        | false =>
          rw [d1, cond_false] at c1
          rw [cond_false]
          cases d2 : decide (x.V.Scope = 1) with
          | true =>
            rw [d2, cond_true] at c1
            rw [cond_true]
            cases d3 : (decide (e.Pid < 0) || decide (((psAt e e.Pid).Frame.length : Int) < reachP x.V)) with
            | true => rw [d3, cond_true] at c1; simp at c1
            | false =>
              simp only [Bool.or_eq_false_iff, decide_eq_false_iff_not] at d3
              exact (show SlotIn e e.Pid n from ⟨fun h => absurd h d3.1, fun _ => ⟨hpid.2, hd.1, by omega⟩⟩)
          | false =>
            rw [d2, cond_false] at c1
            rw [cond_false]
            cases d3 : decide ((ev x.V.Who).2 ≠ 0) with
            | true => rw [d3, cond_true] at c1; rw [d3] at c1; exact absurd c1 (by simp)
            | false =>
              rw [d3, cond_false] at c1
              rw [cond_false]
              cases d4 : (decide ((ev x.V.Who).1 < 0) || (decide ((e.S.Procs.length : Int) ≤ (ev x.V.Who).1) || decide ((psAt e (ev x.V.Who).1).Type_ ≠ x.V.Type_))) with
              | true => rw [d4, cond_true] at c1; simp at c1
              | false =>
                rw [d4, cond_false] at c1
                rw [cond_false]
                simp only [Bool.or_eq_false_iff, decide_eq_false_iff_not] at d4
                cases d5 : decide (((psAt e (ev x.V.Who).1).Frame.length : Int) < reachP x.V) with
                | true => rw [d5, cond_true] at c1; simp at c1
                | false =>
                  have := of_decide_eq_false d5
                  exact (show SlotIn e (ev x.V.Who).1 n from ⟨fun h => absurd h d4.1, fun _ => ⟨by omega, hd.1, by omega⟩⟩)
theorem poll_ok {m : D.Model} {k : Int} {a t : List Int} (h : matchedP m k a t = true) : a.length ≤ 8 ∧ t.length = a.length ∧ ∀ x ∈ a, 0 ≤ x ∧ x < k := by
  unfold matchedP at h
  simp only [Bool.and_eq_true, decide_eq_true_eq] at h
  exact ⟨h.1.1.1.2, h.1.1.2, mem_below h.1.2⟩
theorem ex_mem {m : D.Model} {x : Int} (hx : 0 ≤ x ∧ x < m.Exprs.length) : exAt m x ∈ m.Exprs := getD_mem (d := default) (by omega)
theorem args_len {e : D.Env} {x : Int} (hE : EnvOk e) (hx : 0 ≤ x ∧ x < e.M.Exprs.length) : Len (exAt e.M x).Args.length := by
  have := (hE.wf.Exprs.2 _ (ex_mem hx)).Args.1
  unfold Len; omega
theorem slot_at {e : D.Env} {ev : Evl} {x : Int} (hE : EnvOk e) (hx : 0 ≤ x ∧ x < e.M.Exprs.length) (hok : ExOk e.M x (exAt e.M x)) (hev : ∀ a, 0 ≤ a → a < x → EvS e a (ev a)) : VSpec Tryz.prog 80 [] [.tp (enc_Env e), intV x] [] (vIII (slotV e ev (exAt e.M x))) := by
  refine slot_spec hE hx (hE.wf.Exprs.2 _ (ex_mem hx)).V (fun ho hs => ?_) (fun ho => ?_) (fun ho d hd => ?_)
  · have hv := var_ok (hok.var ho)
    have h1 := hv.scope
    exact hev _ (hv.who (by omega)).1 (hv.who (by omega)).2
  · have hv := var_ok (hok.var ho)
    exact ⟨hv.slot.1, hv.slot.2, hv.dims⟩
  · have hv := var_ok (hok.var ho)
    exact ⟨(hv.dim d hd).1, hev _ (hv.dim d hd).2.1 (hv.dim d hd).2.2⟩
theorem read_leaf {e : D.Env} {ev : Evl} {x : Int} (hE : EnvOk e) (hop : (e.M.Exprs.getD x.toNat default).Op = 2) (hok : ExOk e.M x (exAt e.M x)) (hsl : VSpec Tryz.prog 80 [] [.tp (enc_Env e), intV x] [] (vIII (slotV e ev (exAt e.M x)))) :
    ∃ y : Int × Int × Int, VSpec Tryz.prog 80 [] [.tp (enc_Env e), intV x] [] (vIII y) ∧ ((y.2.2 != 0) = true → leO [] [] ∧ VV.le (.tup [.sc (.int .i64 0), .sc (.int .i64 y.2.2)]) (vII (evalV e ev (exAt e.M x)))) ∧ ((y.2.2 != 0) = false →
      (decide (y.1 < 0) = true → (0 ≤ y.2.1 ∧ y.2.1 < (e.S.Globals.length : Int)) ∧ leO [] [] ∧ VV.le (.tup [.sc (.int .i64 (e.S.Globals.getD y.2.1.toNat 0)), .sc (.int .i64 0)]) (vII (evalV e ev (exAt e.M x)))) ∧
      (decide (y.1 < 0) = false → (0 ≤ y.1 ∧ y.1 < (e.S.Procs.length : Int)) ∧ (0 ≤ y.2.1 ∧ y.2.1 < ((e.S.Procs.getD y.1.toNat default).Frame.length : Int)) ∧ leO [] [] ∧ VV.le (.tup [.sc (.int .i64 ((e.S.Procs.getD y.1.toNat default).Frame.getD y.2.1.toNat 0)), .sc (.int .i64 0)]) (vII (evalV e ev (exAt e.M x))))) := by
  have hop' : (exAt e.M x).Op = 2 := hop
  have he : evalV e ev (exAt e.M x) = readV e ev (exAt e.M x) := by unfold evalV; rw [hop']; rfl
  rw [he]
  have hin := slot_in (e := e) (ev := ev) hE (fun ho => var_ok (hok.var ho))
  refine ⟨slotV e ev (exAt e.M x), hsl, fun h => leafQ (ct (by simpa using h) rfl), fun h => ⟨fun h1 => ?_, fun h1 => ?_⟩⟩
  · have h0 : decide ((slotV e ev (exAt e.M x)).2.2 ≠ 0) = false := by simpa using h
    exact ⟨(hin (by simpa using h0)).glob (of_decide_eq_true h1), leafQ (cf h0 (ct h1 rfl))⟩
  · have h0 : decide ((slotV e ev (exAt e.M x)).2.2 ≠ 0) = false := by simpa using h
    have hi := hin (by simpa using h0)
    have := of_decide_eq_false h1
    exact ⟨⟨by omega, (hi.own (by omega)).1⟩, (hi.own (by omega)).2, leafQ (cf h0 (cf h1 rfl))⟩
theorem able_leaf {e : D.Env} {ev : Evl} {x : Int} (hop : (e.M.Exprs.getD x.toNat default).Op = 36) (h : EvS e (exAt e.M x).A (ev (exAt e.M x).A)) :
    ∃ y : Int × Int, VSpec Tryz.prog 52 [] [.tp (enc_Env e), intV (exAt e.M x).A] [] (vII y) ∧ ((y.2 != 0) = true → leO [] [] ∧ VV.le (.tup [.sc (.int .i64 0), .sc (.int .i64 y.2)]) (vII (evalV e ev (exAt e.M x)))) ∧ ((y.2 != 0) = false →
      ((true && (bif decide (y.1 ≥ 0) then decide (y.1 < (e.Able.length : Int)) else false) == true) = true → 0 ≤ y.1 ∧ y.1 < (e.Able.length : Int)) ∧
      ∃ y1 : Int × Int, VSpec Tryz.prog 84 [] [boolV (bif bif decide (y.1 ≥ 0) then decide (y.1 < (e.Able.length : Int)) else false then e.Able.getD y.1.toNat false else false)] [] (vII y1) ∧ leO [] [] ∧ VV.le (vII y1) (vII (evalV e ev (exAt e.M x)))) := by
  have hop' : (exAt e.M x).Op = 36 := hop
  have he : evalV e ev (exAt e.M x) = ableV e ev (exAt e.M x) := by unfold evalV; rw [hop']; rfl
  rw [he]
  refine ⟨_, h, fun h1 => leafQ (ct (by simpa using h1) rfl), fun h1 => ⟨fun h2 => ?_, _, truth_spec, leafQ (cf (by simpa using h1) ?_)⟩⟩
  · simp at h2; omega
  · simp only [bif_and, ge_iff_le, Bool.and_assoc]
set_option maxHeartbeats 4000000 in
theorem eval_step {e : D.Env} {ev : Evl} {x : Int} (hE : EnvOk e) (hx : 0 ≤ x ∧ x < e.M.Exprs.length) (hev : ∀ a, 0 ≤ a → a < x → EvS e a (ev a)) : EvS e x (evalV e ev (exAt e.M x)) := by
  have hxn : ((x.toNat : Nat) : Int) = x := by omega
  have hok : ExOk e.M x (exAt e.M x) := ex_ok (by have := hE.expr x.toNat (by omega); rwa [hxn] at this)
  have hsl := slot_at hE hx hok hev
  refine vspec_raw tb_ok mixed Tryz.func52 (by kernel_rfl) rfl (eval_raw _ _ e x) ⟨hx, ?_⟩
  have hcase : (exAt e.M x).Op = 1 ∨ (exAt e.M x).Op = 2 ∨ (exAt e.M x).Op = 3 ∨ (exAt e.M x).Op = 4 ∨ (exAt e.M x).Op = 5 ∨ (exAt e.M x).Op = 6 ∨ (exAt e.M x).Op = 7 ∨ (exAt e.M x).Op = 8 ∨ (exAt e.M x).Op = 9 ∨ (exAt e.M x).Op = 10 ∨ (exAt e.M x).Op = 11 ∨ (exAt e.M x).Op = 12 ∨ (exAt e.M x).Op = 13 ∨ (exAt e.M x).Op = 14 ∨ (exAt e.M x).Op = 15 ∨ (exAt e.M x).Op = 16 ∨ (exAt e.M x).Op = 17 ∨ (exAt e.M x).Op = 18 ∨ (exAt e.M x).Op = 19 ∨ (exAt e.M x).Op = 20 ∨ (exAt e.M x).Op = 21 ∨ (exAt e.M x).Op = 22 ∨ (exAt e.M x).Op = 23 ∨ (exAt e.M x).Op = 24 ∨ (exAt e.M x).Op = 25 ∨ (exAt e.M x).Op = 26 ∨ (exAt e.M x).Op = 27 ∨ (exAt e.M x).Op = 28 ∨ (exAt e.M x).Op = 29 ∨ (exAt e.M x).Op = 30 ∨ (exAt e.M x).Op = 31 ∨ (exAt e.M x).Op = 32 ∨ (exAt e.M x).Op = 33 ∨ (exAt e.M x).Op = 34 ∨ (exAt e.M x).Op = 35 ∨ (exAt e.M x).Op = 36 ∨ (exAt e.M x).Op = 37 ∨ (exAt e.M x).Op = 38 ∨ (exAt e.M x).Op = 39 := by have := hok.op; omega
  rcases hcase with ho | ho | ho | ho | ho | ho | ho | ho | ho | ho | ho | ho | ho | ho | ho | ho | ho | ho | ho | ho | ho | ho | ho | ho | ho | ho | ho | ho | ho | ho | ho | ho | ho | ho | ho | ho | ho | ho | ho
  · have hop : (e.M.Exprs.getD x.toNat default).Op = 1 := ho
    repeat (first
      | refine ⟨fun h => absurd h (by rw [hop]; decide), fun _ => ?_⟩
      | refine ⟨fun _ => ?_, fun h => absurd h (by rw [hop]; decide)⟩)
    exact leafQ (by unfold evalV; rw [ho]; rfl)
  · have hop : (e.M.Exprs.getD x.toNat default).Op = 2 := ho
    repeat (first
      | refine ⟨fun h => absurd h (by rw [hop]; decide), fun _ => ?_⟩
      | refine ⟨fun _ => ?_, fun h => absurd h (by rw [hop]; decide)⟩)
    exact read_leaf hE hop hok hsl
  · have hop : (e.M.Exprs.getD x.toNat default).Op = 3 := ho
    repeat (first
      | refine ⟨fun h => absurd h (by rw [hop]; decide), fun _ => ?_⟩
      | refine ⟨fun _ => ?_, fun h => absurd h (by rw [hop]; decide)⟩)
    exact ⟨_, sums_spec (hev _ (hok.a (by rw [ho]; decide)).1 (hok.a (by rw [ho]; decide)).2) (fun h => absurd (by omega) h), leafQ (by unfold evalV; rw [ho]; rfl)⟩
  · have hop : (e.M.Exprs.getD x.toNat default).Op = 4 := ho
    repeat (first
      | refine ⟨fun h => absurd h (by rw [hop]; decide), fun _ => ?_⟩
      | refine ⟨fun _ => ?_, fun h => absurd h (by rw [hop]; decide)⟩)
    exact ⟨_, sums_spec (hev _ (hok.a (by rw [ho]; decide)).1 (hok.a (by rw [ho]; decide)).2) (fun h => absurd (by omega) h), leafQ (by unfold evalV; rw [ho]; rfl)⟩
  · have hop : (e.M.Exprs.getD x.toNat default).Op = 5 := ho
    repeat (first
      | refine ⟨fun h => absurd h (by rw [hop]; decide), fun _ => ?_⟩
      | refine ⟨fun _ => ?_, fun h => absurd h (by rw [hop]; decide)⟩)
    exact ⟨_, sums_spec (hev _ (hok.a (by rw [ho]; decide)).1 (hok.a (by rw [ho]; decide)).2) (fun h => absurd (by omega) h), leafQ (by unfold evalV; rw [ho]; rfl)⟩
  · have hop : (e.M.Exprs.getD x.toNat default).Op = 6 := ho
    repeat (first
      | refine ⟨fun h => absurd h (by rw [hop]; decide), fun _ => ?_⟩
      | refine ⟨fun _ => ?_, fun h => absurd h (by rw [hop]; decide)⟩)
    exact ⟨_, sums_spec (hev _ (hok.a (by rw [ho]; decide)).1 (hok.a (by rw [ho]; decide)).2) (fun _ => hev _ (hok.b (by rw [ho]; decide)).1 (hok.b (by rw [ho]; decide)).2), leafQ (by unfold evalV; rw [ho]; rfl)⟩
  · have hop : (e.M.Exprs.getD x.toNat default).Op = 7 := ho
    repeat (first
      | refine ⟨fun h => absurd h (by rw [hop]; decide), fun _ => ?_⟩
      | refine ⟨fun _ => ?_, fun h => absurd h (by rw [hop]; decide)⟩)
    exact ⟨_, sums_spec (hev _ (hok.a (by rw [ho]; decide)).1 (hok.a (by rw [ho]; decide)).2) (fun _ => hev _ (hok.b (by rw [ho]; decide)).1 (hok.b (by rw [ho]; decide)).2), leafQ (by unfold evalV; rw [ho]; rfl)⟩
  · have hop : (e.M.Exprs.getD x.toNat default).Op = 8 := ho
    repeat (first
      | refine ⟨fun h => absurd h (by rw [hop]; decide), fun _ => ?_⟩
      | refine ⟨fun _ => ?_, fun h => absurd h (by rw [hop]; decide)⟩)
    exact ⟨_, sums_spec (hev _ (hok.a (by rw [ho]; decide)).1 (hok.a (by rw [ho]; decide)).2) (fun _ => hev _ (hok.b (by rw [ho]; decide)).1 (hok.b (by rw [ho]; decide)).2), leafQ (by unfold evalV; rw [ho]; rfl)⟩
  · have hop : (e.M.Exprs.getD x.toNat default).Op = 9 := ho
    repeat (first
      | refine ⟨fun h => absurd h (by rw [hop]; decide), fun _ => ?_⟩
      | refine ⟨fun _ => ?_, fun h => absurd h (by rw [hop]; decide)⟩)
    exact ⟨_, sums_spec (hev _ (hok.a (by rw [ho]; decide)).1 (hok.a (by rw [ho]; decide)).2) (fun _ => hev _ (hok.b (by rw [ho]; decide)).1 (hok.b (by rw [ho]; decide)).2), leafQ (by unfold evalV; rw [ho]; rfl)⟩
  · have hop : (e.M.Exprs.getD x.toNat default).Op = 10 := ho
    repeat (first
      | refine ⟨fun h => absurd h (by rw [hop]; decide), fun _ => ?_⟩
      | refine ⟨fun _ => ?_, fun h => absurd h (by rw [hop]; decide)⟩)
    exact ⟨_, sums_spec (hev _ (hok.a (by rw [ho]; decide)).1 (hok.a (by rw [ho]; decide)).2) (fun _ => hev _ (hok.b (by rw [ho]; decide)).1 (hok.b (by rw [ho]; decide)).2), leafQ (by unfold evalV; rw [ho]; rfl)⟩
  · have hop : (e.M.Exprs.getD x.toNat default).Op = 11 := ho
    repeat (first
      | refine ⟨fun h => absurd h (by rw [hop]; decide), fun _ => ?_⟩
      | refine ⟨fun _ => ?_, fun h => absurd h (by rw [hop]; decide)⟩)
    exact ⟨_, sums_spec (hev _ (hok.a (by rw [ho]; decide)).1 (hok.a (by rw [ho]; decide)).2) (fun _ => hev _ (hok.b (by rw [ho]; decide)).1 (hok.b (by rw [ho]; decide)).2), leafQ (by unfold evalV; rw [ho]; rfl)⟩
  · have hop : (e.M.Exprs.getD x.toNat default).Op = 12 := ho
    repeat (first
      | refine ⟨fun h => absurd h (by rw [hop]; decide), fun _ => ?_⟩
      | refine ⟨fun _ => ?_, fun h => absurd h (by rw [hop]; decide)⟩)
    exact ⟨_, sums_spec (hev _ (hok.a (by rw [ho]; decide)).1 (hok.a (by rw [ho]; decide)).2) (fun _ => hev _ (hok.b (by rw [ho]; decide)).1 (hok.b (by rw [ho]; decide)).2), leafQ (by unfold evalV; rw [ho]; rfl)⟩
  · have hop : (e.M.Exprs.getD x.toNat default).Op = 13 := ho
    repeat (first
      | refine ⟨fun h => absurd h (by rw [hop]; decide), fun _ => ?_⟩
      | refine ⟨fun _ => ?_, fun h => absurd h (by rw [hop]; decide)⟩)
    exact ⟨_, sums_spec (hev _ (hok.a (by rw [ho]; decide)).1 (hok.a (by rw [ho]; decide)).2) (fun _ => hev _ (hok.b (by rw [ho]; decide)).1 (hok.b (by rw [ho]; decide)).2), leafQ (by unfold evalV; rw [ho]; rfl)⟩
  · have hop : (e.M.Exprs.getD x.toNat default).Op = 14 := ho
    repeat (first
      | refine ⟨fun h => absurd h (by rw [hop]; decide), fun _ => ?_⟩
      | refine ⟨fun _ => ?_, fun h => absurd h (by rw [hop]; decide)⟩)
    exact ⟨_, sums_spec (hev _ (hok.a (by rw [ho]; decide)).1 (hok.a (by rw [ho]; decide)).2) (fun _ => hev _ (hok.b (by rw [ho]; decide)).1 (hok.b (by rw [ho]; decide)).2), leafQ (by unfold evalV; rw [ho]; rfl)⟩
  · have hop : (e.M.Exprs.getD x.toNat default).Op = 15 := ho
    repeat (first
      | refine ⟨fun h => absurd h (by rw [hop]; decide), fun _ => ?_⟩
      | refine ⟨fun _ => ?_, fun h => absurd h (by rw [hop]; decide)⟩)
    exact ⟨_, sums_spec (hev _ (hok.a (by rw [ho]; decide)).1 (hok.a (by rw [ho]; decide)).2) (fun _ => hev _ (hok.b (by rw [ho]; decide)).1 (hok.b (by rw [ho]; decide)).2), leafQ (by unfold evalV; rw [ho]; rfl)⟩
  · have hop : (e.M.Exprs.getD x.toNat default).Op = 16 := ho
    repeat (first
      | refine ⟨fun h => absurd h (by rw [hop]; decide), fun _ => ?_⟩
      | refine ⟨fun _ => ?_, fun h => absurd h (by rw [hop]; decide)⟩)
    exact ⟨_, sums_spec (hev _ (hok.a (by rw [ho]; decide)).1 (hok.a (by rw [ho]; decide)).2) (fun _ => hev _ (hok.b (by rw [ho]; decide)).1 (hok.b (by rw [ho]; decide)).2), leafQ (by unfold evalV; rw [ho]; rfl)⟩
  · have hop : (e.M.Exprs.getD x.toNat default).Op = 17 := ho
    repeat (first
      | refine ⟨fun h => absurd h (by rw [hop]; decide), fun _ => ?_⟩
      | refine ⟨fun _ => ?_, fun h => absurd h (by rw [hop]; decide)⟩)
    exact ⟨_, sums_spec (hev _ (hok.a (by rw [ho]; decide)).1 (hok.a (by rw [ho]; decide)).2) (fun _ => hev _ (hok.b (by rw [ho]; decide)).1 (hok.b (by rw [ho]; decide)).2), leafQ (by unfold evalV; rw [ho]; rfl)⟩
  · have hop : (e.M.Exprs.getD x.toNat default).Op = 18 := ho
    repeat (first
      | refine ⟨fun h => absurd h (by rw [hop]; decide), fun _ => ?_⟩
      | refine ⟨fun _ => ?_, fun h => absurd h (by rw [hop]; decide)⟩)
    exact ⟨_, sums_spec (hev _ (hok.a (by rw [ho]; decide)).1 (hok.a (by rw [ho]; decide)).2) (fun _ => hev _ (hok.b (by rw [ho]; decide)).1 (hok.b (by rw [ho]; decide)).2), leafQ (by unfold evalV; rw [ho]; rfl)⟩
  · have hop : (e.M.Exprs.getD x.toNat default).Op = 19 := ho
    repeat (first
      | refine ⟨fun h => absurd h (by rw [hop]; decide), fun _ => ?_⟩
      | refine ⟨fun _ => ?_, fun h => absurd h (by rw [hop]; decide)⟩)
    exact ⟨_, sums_spec (hev _ (hok.a (by rw [ho]; decide)).1 (hok.a (by rw [ho]; decide)).2) (fun _ => hev _ (hok.b (by rw [ho]; decide)).1 (hok.b (by rw [ho]; decide)).2), leafQ (by unfold evalV; rw [ho]; rfl)⟩
  · have hop : (e.M.Exprs.getD x.toNat default).Op = 20 := ho
    repeat (first
      | refine ⟨fun h => absurd h (by rw [hop]; decide), fun _ => ?_⟩
      | refine ⟨fun _ => ?_, fun h => absurd h (by rw [hop]; decide)⟩)
    exact ⟨_, sums_spec (hev _ (hok.a (by rw [ho]; decide)).1 (hok.a (by rw [ho]; decide)).2) (fun _ => hev _ (hok.b (by rw [ho]; decide)).1 (hok.b (by rw [ho]; decide)).2), leafQ (by unfold evalV; rw [ho]; rfl)⟩
  · have hop : (e.M.Exprs.getD x.toNat default).Op = 21 := ho
    repeat (first
      | refine ⟨fun h => absurd h (by rw [hop]; decide), fun _ => ?_⟩
      | refine ⟨fun _ => ?_, fun h => absurd h (by rw [hop]; decide)⟩)
    exact ⟨_, sums_spec (hev _ (hok.a (by rw [ho]; decide)).1 (hok.a (by rw [ho]; decide)).2) (fun _ => hev _ (hok.b (by rw [ho]; decide)).1 (hok.b (by rw [ho]; decide)).2), leafQ (by unfold evalV; rw [ho]; rfl)⟩
  · have hop : (e.M.Exprs.getD x.toNat default).Op = 22 := ho
    repeat (first
      | refine ⟨fun h => absurd h (by rw [hop]; decide), fun _ => ?_⟩
      | refine ⟨fun _ => ?_, fun h => absurd h (by rw [hop]; decide)⟩)
    exact ⟨_, logic_spec (hev _ (hok.a (by rw [ho]; decide)).1 (hok.a (by rw [ho]; decide)).2) (hev _ (hok.b (by rw [ho]; decide)).1 (hok.b (by rw [ho]; decide)).2) (fun h => absurd h (by rw [hop]; decide)), leafQ (by unfold evalV; rw [ho]; rfl)⟩
  · have hop : (e.M.Exprs.getD x.toNat default).Op = 23 := ho
    repeat (first
      | refine ⟨fun h => absurd h (by rw [hop]; decide), fun _ => ?_⟩
      | refine ⟨fun _ => ?_, fun h => absurd h (by rw [hop]; decide)⟩)
    exact ⟨_, logic_spec (hev _ (hok.a (by rw [ho]; decide)).1 (hok.a (by rw [ho]; decide)).2) (hev _ (hok.b (by rw [ho]; decide)).1 (hok.b (by rw [ho]; decide)).2) (fun h => absurd h (by rw [hop]; decide)), leafQ (by unfold evalV; rw [ho]; rfl)⟩
  · have hop : (e.M.Exprs.getD x.toNat default).Op = 24 := ho
    repeat (first
      | refine ⟨fun h => absurd h (by rw [hop]; decide), fun _ => ?_⟩
      | refine ⟨fun _ => ?_, fun h => absurd h (by rw [hop]; decide)⟩)
    exact ⟨_, logic_spec (hev _ (hok.a (by rw [ho]; decide)).1 (hok.a (by rw [ho]; decide)).2) (hev _ (hok.b (by rw [ho]; decide)).1 (hok.b (by rw [ho]; decide)).2) (fun _ => hev _ (hok.c (by rw [ho]; decide)).1 (hok.c (by rw [ho]; decide)).2), leafQ (by unfold evalV; rw [ho]; rfl)⟩
  · have hop : (e.M.Exprs.getD x.toNat default).Op = 25 := ho
    repeat (first
      | refine ⟨fun h => absurd h (by rw [hop]; decide), fun _ => ?_⟩
      | refine ⟨fun _ => ?_, fun h => absurd h (by rw [hop]; decide)⟩)
    exact ⟨_, asks_spec hE (hev _ (hok.a (by rw [ho]; decide)).1 (hok.a (by rw [ho]; decide)).2), leafQ (by unfold evalV; rw [ho]; rfl)⟩
  · have hop : (e.M.Exprs.getD x.toNat default).Op = 26 := ho
    repeat (first
      | refine ⟨fun h => absurd h (by rw [hop]; decide), fun _ => ?_⟩
      | refine ⟨fun _ => ?_, fun h => absurd h (by rw [hop]; decide)⟩)
    exact ⟨_, asks_spec hE (hev _ (hok.a (by rw [ho]; decide)).1 (hok.a (by rw [ho]; decide)).2), leafQ (by unfold evalV; rw [ho]; rfl)⟩
  · have hop : (e.M.Exprs.getD x.toNat default).Op = 27 := ho
    repeat (first
      | refine ⟨fun h => absurd h (by rw [hop]; decide), fun _ => ?_⟩
      | refine ⟨fun _ => ?_, fun h => absurd h (by rw [hop]; decide)⟩)
    exact ⟨_, asks_spec hE (hev _ (hok.a (by rw [ho]; decide)).1 (hok.a (by rw [ho]; decide)).2), leafQ (by unfold evalV; rw [ho]; rfl)⟩
  · have hop : (e.M.Exprs.getD x.toNat default).Op = 28 := ho
    repeat (first
      | refine ⟨fun h => absurd h (by rw [hop]; decide), fun _ => ?_⟩
      | refine ⟨fun _ => ?_, fun h => absurd h (by rw [hop]; decide)⟩)
    exact ⟨_, asks_spec hE (hev _ (hok.a (by rw [ho]; decide)).1 (hok.a (by rw [ho]; decide)).2), leafQ (by unfold evalV; rw [ho]; rfl)⟩
  · have hop : (e.M.Exprs.getD x.toNat default).Op = 29 := ho
    repeat (first
      | refine ⟨fun h => absurd h (by rw [hop]; decide), fun _ => ?_⟩
      | refine ⟨fun _ => ?_, fun h => absurd h (by rw [hop]; decide)⟩)
    exact ⟨_, asks_spec hE (hev _ (hok.a (by rw [ho]; decide)).1 (hok.a (by rw [ho]; decide)).2), leafQ (by unfold evalV; rw [ho]; rfl)⟩
  · have hop : (e.M.Exprs.getD x.toNat default).Op = 30 := ho
    repeat (first
      | refine ⟨fun h => absurd h (by rw [hop]; decide), fun _ => ?_⟩
      | refine ⟨fun _ => ?_, fun h => absurd h (by rw [hop]; decide)⟩)
    exact ⟨_, poll_spec hE (hev _ (hok.a (by rw [ho]; decide)).1 (hok.a (by rw [ho]; decide)).2) (fun a ha => hev _ ((poll_ok (hok.poll ho)).2.2 a ha).1 ((poll_ok (hok.poll ho)).2.2 a ha).2) (poll_ok (hok.poll ho)).1 (poll_ok (hok.poll ho)).2.1, leafQ (by unfold evalV; rw [ho]; rfl)⟩
  · have hop : (e.M.Exprs.getD x.toNat default).Op = 31 := ho
    repeat (first
      | refine ⟨fun h => absurd h (by rw [hop]; decide), fun _ => ?_⟩
      | refine ⟨fun _ => ?_, fun h => absurd h (by rw [hop]; decide)⟩)
    exact leafQ (by unfold evalV; rw [ho]; rfl)
  · have hop : (e.M.Exprs.getD x.toNat default).Op = 32 := ho
    repeat (first
      | refine ⟨fun h => absurd h (by rw [hop]; decide), fun _ => ?_⟩
      | refine ⟨fun _ => ?_, fun h => absurd h (by rw [hop]; decide)⟩)
    exact leafQ (by unfold evalV; rw [ho]; rfl)
  · have hop : (e.M.Exprs.getD x.toNat default).Op = 33 := ho
    repeat (first
      | refine ⟨fun h => absurd h (by rw [hop]; decide), fun _ => ?_⟩
      | refine ⟨fun _ => ?_, fun h => absurd h (by rw [hop]; decide)⟩)
    exact leafQ (by unfold evalV; rw [ho]; rfl)
  · have hop : (e.M.Exprs.getD x.toNat default).Op = 34 := ho
    repeat (first
      | refine ⟨fun h => absurd h (by rw [hop]; decide), fun _ => ?_⟩
      | refine ⟨fun _ => ?_, fun h => absurd h (by rw [hop]; decide)⟩)
    exact ⟨_, progress_spec hE, _, truth_spec, leafQ (by unfold evalV; rw [ho]; rfl)⟩
  · have hop : (e.M.Exprs.getD x.toNat default).Op = 35 := ho
    repeat (first
      | refine ⟨fun h => absurd h (by rw [hop]; decide), fun _ => ?_⟩
      | refine ⟨fun _ => ?_, fun h => absurd h (by rw [hop]; decide)⟩)
    exact ⟨_, truth_spec, leafQ (by unfold evalV; rw [ho]; rfl)⟩
  · have hop : (e.M.Exprs.getD x.toNat default).Op = 36 := ho
    repeat (first
      | refine ⟨fun h => absurd h (by rw [hop]; decide), fun _ => ?_⟩
      | refine ⟨fun _ => ?_, fun h => absurd h (by rw [hop]; decide)⟩)
    exact able_leaf hop (hev _ (hok.a (by rw [ho]; decide)).1 (hok.a (by rw [ho]; decide)).2)
  · have hop : (e.M.Exprs.getD x.toNat default).Op = 37 := ho
    repeat (first
      | refine ⟨fun h => absurd h (by rw [hop]; decide), fun _ => ?_⟩
      | refine ⟨fun _ => ?_, fun h => absurd h (by rw [hop]; decide)⟩)
    exact ⟨_, remote_spec (hev _ (hok.a (by rw [ho]; decide)).1 (hok.a (by rw [ho]; decide)).2) (args_len hE hx), leafQ (by unfold evalV; rw [ho]; rfl)⟩
  · have hop : (e.M.Exprs.getD x.toNat default).Op = 38 := ho
    repeat (first
      | refine ⟨fun h => absurd h (by rw [hop]; decide), fun _ => ?_⟩
      | refine ⟨fun _ => ?_, fun h => absurd h (by rw [hop]; decide)⟩)
    exact ⟨_, remote_spec (hev _ (hok.a (by rw [ho]; decide)).1 (hok.a (by rw [ho]; decide)).2) (args_len hE hx), leafQ (by unfold evalV; rw [ho]; rfl)⟩
  · have hop : (e.M.Exprs.getD x.toNat default).Op = 39 := ho
    repeat (first
      | refine ⟨fun h => absurd h (by rw [hop]; decide), fun _ => ?_⟩
      | refine ⟨fun _ => ?_, fun h => absurd h (by rw [hop]; decide)⟩)
    exact leafQ (by unfold evalV; rw [ho]; rfl)
end Go.Proofs.YtiaebjpcgjkhoaaGreatDoor
namespace Go.Proofs.YtiaebjpcgjkhoaaGreatDoor
open Go.RowKit
theorem evalF_spec {e : D.Env} (hE : EnvOk e) : ∀ (n : Nat) (x : Int), 0 ≤ x → x < e.M.Exprs.length → x < n → EvS e x (evalF e n x)
  | 0, x, h0, _, h2 => by omega
  | n + 1, x, h0, h1, h2 => eval_step hE ⟨h0, h1⟩ fun a ha hlt => evalF_spec hE n a ha (by omega) (by omega)
theorem subP_spec {e : D.Env} (hE : EnvOk e) {x a : Int} (hx : x < e.M.Exprs.length) (h0 : 0 ≤ a) (h1 : a < x) : EvS e a (subP e a) := evalF_spec hE _ a h0 (by omega) (by omega)
theorem exAll_spec {e : D.Env} (hE : EnvOk e) {x : Int} (hx : 0 ≤ x ∧ x < e.M.Exprs.length) : EvS e x (evalV e (subP e) (exAt e.M x)) := eval_step hE hx fun _ h0 h1 => subP_spec hE hx.2 h0 h1
theorem excheck_spec {e : D.Env} (hw : wf_Model e.M) (hs : SmallS' e.S) (x : Int) : VSpec Tryz.prog 51 [] [.agg (enc_Env e), intV x] [] (intV (exCheck e x)) := by
  refine vspec_raw tb_ok mixed Tryz.func51 (by kernel_rfl) rfl (excheck_raw _ e x) ⟨_, stcheck_spec hw hs (fun h => (lim_of h).clp), fun h => leafI (ct (by simpa using h) rfl), fun h => ⟨fun h1 => leafI (cf (by simpa using h) (ct ?_ rfl)), fun h1 => leafI (cf (by simpa using h) (cf ?_ rfl))⟩⟩
  · simp only [bif_or, ge_iff_le, Bool.or_assoc] at h1; exact h1
  · simp only [bif_or, ge_iff_le, Bool.or_assoc] at h1; exact h1
theorem env_ok {e : D.Env} {x : Int} (hw : wf_Model e.M) (h : exCheck e x = 0) : EnvOk e ∧ 0 ≤ x ∧ x < e.M.Exprs.length := by
  unfold exCheck at h
  cases c1 : decide (stCheck e.M e.S ≠ 0) with
  | true => rw [c1, cond_true] at h; exact absurd h (of_decide_eq_true c1)
  | false =>
    rw [c1, cond_false] at h
    obtain ⟨h1, h2⟩ := check_zero (show stCheck e.M e.S = 0 by simpa using c1)
    cases c2 : (decide (e.Pid < -1) || (decide ((e.S.Procs.length : Int) ≤ e.Pid) || (decide (x < 0) || decide ((e.M.Exprs.length : Int) ≤ x)))) with
    | true => rw [c2, cond_true] at h; simp at h
    | false =>
      simp only [Bool.or_eq_false_iff, decide_eq_false_iff_not] at c2
      exact ⟨⟨h2, h1, hw, by omega, by omega⟩, by omega, by omega⟩
theorem eeval_spec {e : D.Env} (hw : wf_Model e.M) (hs : SmallS' e.S) (x : Int) : VSpec Tryz.prog 39 [] [.agg (enc_Env e), intV x] [] (vII (evalP e x)) := by
  refine vspec_raw tb_ok mixed Tryz.func39 (by kernel_rfl) rfl (eeval_raw _ _ e x) ⟨_, excheck_spec hw hs x, fun h => leafQ (ct (by simpa using h) rfl), fun h => ?_⟩
  obtain ⟨hE, hx⟩ := env_ok (x := x) hw (by simpa using h)
  exact ⟨_, exAll_spec hE hx, leafQ (cf (by simpa using h) rfl)⟩
theorem echan_spec {e : D.Env} (hw : wf_Model e.M) (hs : SmallS' e.S) (x : Int) : VSpec Tryz.prog 92 [] [.agg (enc_Env e), intV x] [] (vII (echanP e x)) := by
  refine vspec_raw tb_ok mixed Tryz.func92 (by kernel_rfl) rfl (echan_raw _ _ e x) ⟨_, excheck_spec hw hs x, fun h => leafQ (ct (by simpa using h) rfl), fun h => ?_⟩
  obtain ⟨hE, hx⟩ := env_ok (x := x) hw (by simpa using h)
  exact ⟨_, xchan_spec (evalF_spec hE _ x hx.1 hx.2 hx.2), leafQ (cf (by simpa using h) rfl)⟩
end Go.Proofs.YtiaebjpcgjkhoaaGreatDoor
namespace Go.Proofs.YtiaebjpcgjkhoaaGreatDoor
open Go.RowKit
end Go.Proofs.YtiaebjpcgjkhoaaGreatDoor
namespace Go.Proofs.YtiaebjpcgjkhoaaGreatDoor
open Go.RowKit
def fitT (t : D.Type) (v : Int) : Int := fitP t.Bits t.Signed v
end Go.Proofs.YtiaebjpcgjkhoaaGreatDoor
namespace Go.Proofs.YtiaebjpcgjkhoaaGreatDoor
open Go.RowKit
structure Pn where
  pid : Int
  esc : Int
  way : Int
deriving DecidableEq
instance : Inhabited Pn := ⟨⟨0, 0, 0⟩⟩
structure Ab where
  is : Bool
  err : Int
  wth : List Pn
instance : Inhabited Ab := ⟨⟨false, 0, []⟩⟩
structure Wy where
  Esc : Int
  Way : Int
  With : Int
  WithEsc : Int
  WithWay : Int
  Err : Int
deriving DecidableEq
instance : Inhabited Wy := ⟨⟨0, 0, 0, 0, 0, 0⟩⟩
section
variable (e : D.Env)
def exckP : Int := bif decide (stCheck e.M e.S ≠ 0) then stCheck e.M e.S else bif decide (e.Pid < 0) || decide ((e.S.Procs.length : Int) ≤ e.Pid) then 42 else 0
def procE : D.Proc := prAt e.M (psAt e e.Pid).Type_
def locE : D.Loc := (procE e).Locs.getD (psAt e e.Pid).Loc.toNat default
def runsE (x : Int) : Bool := decide (0 ≤ x) && decide ((exAt e.M x).Op = 39)
def escL : Nat → List (List D.Trans) → List (Int × List D.Trans)
  | _, [] => []
  | k, w :: r => ((k : Int), w) :: escL (k + 1) r
def listsE (l : D.Loc) : List (Int × List D.Trans) := escL 0 l.Esc ++ [(-1, l.Out)]
def allG (ev : Evl) : List Int → List Int → List Int × Int
  | out, [] => (out, 0)
  | out, x :: l => bif decide ((ev x).2 ≠ 0) then ([], (ev x).2) else allG ev (out ++ [(ev x).1]) l
def allE (l : List Int) : List Int × Int := allG (evalP e) [] l
def fitL (f : List D.Type) (l : List Int) : List Int := (List.range l.length).map fun i => fitT (f.getD i default) (l.getD i 0)
def fieldsE (c : Int) : List D.Type := (shAt e.M (chAt e c).Shape).Fields
def messageE (s : D.Stmt) : Int × List Int × Int :=
  bif decide ((echanP e s.A).2 ≠ 0) then (0, [], (echanP e s.A).2)
  else bif decide ((fieldsE e (echanP e s.A).1).length ≠ s.Args.length) then (0, [], 49)
  else bif decide ((allE e s.Args).2 ≠ 0) then (0, [], (allE e s.Args).2)
  else ((echanP e s.A).1, fitL (fieldsE e (echanP e s.A).1) (allE e s.Args).1, 0)
def wantsQ (s : D.Stmt) : List Int × Int :=
  bif decide (wantsE (evalP e) s.Args s.Match s.Args.length ≠ 0) then ([], wantsE (evalP e) s.Args s.Match s.Args.length) else (wantsV (evalP e) s.Args s.Match, 0)
def foundE (s : D.Stmt) : Int × Int × Int :=
  bif decide ((echanP e s.A).2 ≠ 0) then (0, -1, (echanP e s.A).2)
  else bif decide ((fieldsE e (echanP e s.A).1).length ≠ s.Args.length) then (0, -1, 49)
  else bif decide ((wantsQ e s).2 ≠ 0) then (0, -1, (wantsQ e s).2)
  else ((echanP e s.A).1, findP (chAt e (echanP e s.A).1) (wantsQ e s).1 s.Match (decide (s.N.tmod 2 = 1)), 0)
def takesE (s : D.Stmt) (c : Int) (m : List Int) : Bool :=
  bif decide (s.Kind ≠ 6) || (decide (1 < s.N) || decide (s.Args.length ≠ m.length)) then false
  else bif decide ((echanP e s.A).2 ≠ 0) || decide ((echanP e s.A).1 ≠ c) then false
  else bif decide ((wantsQ e s).2 ≠ 0) then false else decide (findP ⟨0, [m]⟩ (wantsQ e s).1 s.Match false = 0)
def roomE : Ab := ⟨decide (e.S.Procs.length < 16), 0, []⟩
def sendsE (mt : Int → List Int → List Pn) (s : D.Stmt) (self : Bool) : Ab :=
  bif decide ((echanP e s.A).2 ≠ 0) then ⟨true, (echanP e s.A).2, []⟩
  else bif decide ((fieldsE e (echanP e s.A).1).length ≠ s.Args.length) then ⟨true, 49, []⟩
  else bif decide (0 < (shAt e.M (chAt e (echanP e s.A).1).Shape).Room) then ⟨decide (((chAt e (echanP e s.A).1).Queue.length : Int) < (shAt e.M (chAt e (echanP e s.A).1).Shape).Room), 0, []⟩
  else bif self then ⟨false, 0, []⟩
  else bif decide ((messageE e s).2.2 ≠ 0) then ⟨true, (messageE e s).2.2, []⟩
  else ⟨decide (0 < (mt (echanP e s.A).1 (messageE e s).2.1).length), 0, mt (echanP e s.A).1 (messageE e s).2.1⟩
def stmtE (mt : Int → List Int → List Pn) (s : D.Stmt) (self : Bool) : Ab :=
  if s.Kind = 1 then (bif runsE e s.A then roomE e else ⟨decide ((evalP e s.A).1 ≠ 0) || decide ((evalP e s.A).2 ≠ 0), (evalP e s.A).2, []⟩)
  else if s.Kind = 2 then (bif runsE e s.B then roomE e else ⟨true, 0, []⟩)
  else if s.Kind = 9 then ⟨decide (e.S.Chans.length < 32), 0, []⟩
  else if s.Kind = 5 then sendsE e mt s self
  else if s.Kind = 6 then ⟨decide (0 ≤ (foundE e s).2.1) || decide ((foundE e s).2.2 ≠ 0), (foundE e s).2.2, []⟩
  else if s.Kind = 7 then ⟨false, 0, []⟩ else ⟨true, 0, []⟩
def someG (mt : Int → List Int → List Pn) (ways : List D.Trans) (self : Bool) : Nat → Bool
  | 0 => false
  | n + 1 => someG mt ways self n || (stmtE e mt (ways.getD n default).S self).is
def canAt (mt : Int → List Int → List Pn) (ways : List D.Trans) (self : Bool) (i : Nat) : Ab :=
  let x := stmtE e mt (ways.getD i default).S self
  bif decide ((ways.getD i default).S.Kind = 7) && !(someG e mt ways self ways.length) then { x with is := true } else x
def canE (mt : Int → List Int → List Pn) (ways : List D.Trans) (self : Bool) : List Ab := (List.range ways.length).map (canAt e mt ways self)
def noMt : Int → List Int → List Pn := fun _ _ => []
def isSome (l : List Ab) : Bool := l.any Ab.is
def recvG (c : Int) (m : List Int) (i : Int) : Nat → List D.Trans → List Pn
  | _, [] => []
  | k, t :: r => (bif takesE e t.S c m then [⟨e.Pid, i, k⟩] else []) ++ recvG c m i (k + 1) r
def recvL (c : Int) (m : List Int) : List (Int × List D.Trans) → List Pn
  | [] => []
  | (i, ws) :: r => bif decide (0 < (recvG e c m i 0 ws).length) || isSome (canE e noMt ws true) then recvG e c m i 0 ws else recvL c m r
def providedE : Bool × Int := bif decide ((procE e).Provided < 0) then (true, 0) else (decide ((evalP e (procE e).Provided).1 ≠ 0), (evalP e (procE e).Provided).2)
def recvE (c : Int) (m : List Int) : List Pn := bif !(providedE e).1 || decide ((providedE e).2 ≠ 0) then [] else recvL e c m (listsE (locE e))
def atPid (q : Int) : D.Env := { e with Pid := q }
def meetsG (c : Int) (m : List Int) : Nat → List Pn
  | 0 => []
  | n + 1 => meetsG c m n ++ bif decide ((n : Int) ≠ e.Pid) then recvE (atPid e n) c m else []
def meetsE (c : Int) (m : List Int) : List Pn := meetsG e c m e.S.Procs.length
def noneW (err : Int) : Wy := ⟨-1, -1, -1, -1, -1, err⟩
def withW (i : Int) (k : Nat) (err : Int) (p : Pn) : Wy := ⟨i, k, p.pid, p.esc, p.way, err⟩
def wayOf (i : Int) (k : Nat) (x : Ab) : List Wy := (bif x.is && decide (x.wth.length = 0) then [⟨i, k, -1, -1, -1, x.err⟩] else []) ++ x.wth.map (withW i k x.err)
def wayG (i : Int) : Nat → List Ab → List Wy
  | _, [] => []
  | k, x :: r => wayOf i k x ++ wayG i (k + 1) r
def pathL : List (Int × List D.Trans) → List Wy
  | [] => []
  | (i, ws) :: r => bif decide (0 < (wayG i 0 (canE e (meetsE e) ws false)).length) then wayG i 0 (canE e (meetsE e) ws false) else pathL r
def pathsE : List Wy :=
  bif decide ((psAt e e.Pid).Loc = (procE e).Final) then (bif decide (e.Pid = (e.S.Procs.length : Int) - 1) then [noneW 0] else [])
  else bif decide ((providedE e).2 ≠ 0) then [noneW (providedE e).2]
  else bif !(providedE e).1 then [] else pathL e (listsE (locE e))
def waysE : List Wy × Int := bif decide (exckP e ≠ 0) then ([], exckP e) else (pathsE e, 0)
end
end Go.Proofs.YtiaebjpcgjkhoaaGreatDoor
namespace Go.Proofs.YtiaebjpcgjkhoaaGreatDoor
open Go.RowKit
def thawT (y x : VV) : Prop := ∀ (w : World) (E : Prot) (v : Value), V w E none y v → ∀ B, V w ⟨fun _ => False, B⟩ none x v
def thawL : List VV → List VV → Prop
  | [], [] => True
  | y :: ys, x :: xs => thawT y x ∧ thawL ys xs
  | _, _ => False
theorem thawL_len : ∀ {ys xs : List VV}, thawL ys xs → ys.length = xs.length
  | [], [], _ => rfl
  | y :: ys, x :: xs, h => by simp [thawL_len h.2]
  | [], _ :: _, h => h.elim
  | _ :: _, [], h => h.elim
theorem thawL_at : ∀ {ys xs : List VV}, thawL ys xs → ∀ (j : Nat) x, xs[j]? = some x → ∃ y, ys[j]? = some y ∧ thawT y x
  | y :: ys, x :: xs, h, 0, z, hz => by simp only [List.getElem?_cons_zero, Option.some.injEq] at hz; subst hz; exact ⟨y, rfl, h.1⟩
  | y :: ys, x :: xs, h, j + 1, z, hz => by simpa using thawL_at h.2 j z (by simpa using hz)
  | [], _ :: _, h, _, _, _ => h.elim
  | _, [], _, _, _, hz => by simp at hz
theorem thaw_sc {u : Value} : thawT (.sc u) (.sc u) := fun w E v h B => by
  obtain rfl := h.sc_inv
  exact .sc
theorem thaw_sl {b : Bool} {n s : Nat} {f f' : Nat → List VV} (hr : ∀ i, i < n → thawL (f i) (f' i)) : thawT (.sl b n s f) (.sl true n s f') := fun w E v h B => by
  obtain ⟨a, cap, rfl, h1, h2, h3⟩ := V.sl_inv h
  refine V.sl_mk h1 h2 fun hp => ?_
  obtain ⟨g, off, rfl, hb, _, hl, u, hc, hv⟩ := h3 hp
  refine ⟨g, off, rfl, hb, fun h => h, fun i hi => by rw [← thawL_len (hr i hi)]; exact hl i hi, u, fun i j x hi hx => ?_, fun i j x hi hx => ?_⟩
  · obtain ⟨y, hy, _⟩ := thawL_at (hr i hi) j x hx
    exact hc i j y hi hy
  · obtain ⟨y, hy, hle⟩ := thawL_at (hr i hi) j x hx
    exact hle _ _ _ (hv i j y hi hy) _
theorem thaw_agg {ys xs : List VV} (hr : thawL ys xs) : thawT (.agg ys) (.agg xs) := fun w E v h B => by
  obtain ⟨vs, rfl, h1, h2⟩ := h.agg_inv
  refine .agg (h1.trans (thawL_len hr)) fun j x hx => ?_
  obtain ⟨y, hy, hle⟩ := thawL_at hr j x hx
  exact hle _ _ _ (h2 j y hy) _
def PlainV (r : VV) : Prop := ∀ (w : World) (E E' : Prot) (m m' : Option Phi) (v : Value), V w E m r v → V w E' m' r v
theorem plain_sc {u : Value} : PlainV (.sc u) := fun w E E' m m' v h => by
  obtain rfl := h.sc_inv
  exact .sc
theorem plain_tup {xs : List VV} (h : ∀ x ∈ xs, PlainV x) : PlainV (.tup xs) := fun w E E' m m' v hv => by
  cases hv with
  | tup h1 h2 => exact .tup h1 fun j x hx => h x (List.mem_of_getElem? hx) _ _ _ _ _ _ (h2 j x hx)
theorem VSpec.thaw {P : Program} {f : FuncId} {xs ys : List VV} {r : VV} (h : VSpec P f [] xs [] r) (hr : PlainV r) (hle : thawL ys xs) : VSpec P f [] ys [] r := by
  refine VSpec.hand h.callable fun w E vs hA hL hB hb hs => ?_
  refine (h.start hL hB ⟨hs.1.trans (thawL_len hle), fun j x hx => ?_⟩).mono ?_
  · obtain ⟨y, hy, hl⟩ := thawL_at hle j x hx
    exact hl _ _ _ (hs.2 j y hy) _
  · rintro e w' ⟨v, rfl, hB', hv⟩
    exact ⟨v, rfl, hr _ _ _ _ _ _ hv, hB'⟩
end Go.Proofs.YtiaebjpcgjkhoaaGreatDoor
namespace Go.Proofs.YtiaebjpcgjkhoaaGreatDoor
open Go.RowKit
def litEq : Value → Value → Bool
  | .int k a, .int l b => decide (k = l) && decide (a = b)
  | .bool a, .bool b => a == b
  | .string a, .string b => decide (a = b)
  | _, _ => false
theorem litEq_ok {u v : Value} (h : litEq u v = true) : u = v := by
  unfold litEq at h
  split at h
  · simp only [Bool.and_eq_true, decide_eq_true_eq] at h; rw [h.1, h.2]
  · simp only [beq_iff_eq] at h; rw [h]
  · simp only [decide_eq_true_eq] at h; rw [h]
  · cases h
end Go.Proofs.YtiaebjpcgjkhoaaGreatDoor
namespace Go.Proofs.YtiaebjpcgjkhoaaGreatDoor
open Go.RowKit
section
variable {P : Program} {w : World} {E : Prot} {φ : Phi} {hs hs' hs1 : List Ob} {xs : List VV} {r : VV} {f : FuncId}
theorem nlObj (hH : HRel E (obsH hs) φ w) (hφ : ∀ id, φ id ≠ none ↔ id < hs.length) (hz : ∀ k, E.fz k → k < w.heap.size) (sz : Nat) (g : Nat → List VV) :
    HRel E (obsH (hs ++ [.arr true 0 0 sz g])) (addP φ hs.length [Pl.arr 0 0 none]) w ∧ Ext w φ w (addP φ hs.length [Pl.arr 0 0 none]) ∧
      (∀ id, addP φ hs.length [Pl.arr 0 0 none] id ≠ none ↔ id < (hs ++ [Ob.arr true 0 0 sz g]).length) ∧ addP φ hs.length [Pl.arr 0 0 none] hs.length = some (.arr 0 0 none) := by
  have hnone : φ hs.length = none := Classical.byContradiction fun hn => by have := (hφ _).1 hn; omega
  have hroom : Room w [Pl.arr 0 0 none] w := Room.one (Below.refl _ _) fun k hk => by obtain ⟨_, e'⟩ := hk; cases e'
  have hidn : ∀ i, i < [Ob.arr true 0 0 sz g].length → φ (hs.length + i) = none := fun i hi => by
    simp only [List.length_cons, List.length_nil, Nat.zero_add, Nat.lt_one_iff] at hi
    subst hi; exact hnone
  have hnews : News w E φ hs.length [Ob.arr true 0 0 sz g] [Pl.arr 0 0 none] w := News.one hroom ⟨rfl, rfl, rfl⟩
  have hat : addP φ hs.length [Pl.arr 0 0 none] hs.length = some (.arr 0 0 none) := addP_at (i := 0) rfl
  refine ⟨hH.news hz hnews hidn (fun k hk => ?_) fun i o ho => ?_, hnews.ext hidn, fun id => ?_, hat⟩
  · have := (hφ k).1 hk
    show obsH (hs ++ _) k = obsH hs k
    simp [obsH, List.getElem?_append_left this]
  · show obsH (hs ++ _) (hs.length + i) = o
    unfold obsH
    rw [List.getD_eq_getElem?_getD, List.getElem?_append_right (by omega), show hs.length + i - hs.length = i by omega, ho]
    rfl
  · simp only [List.length_append, List.length_cons, List.length_nil]
    by_cases he : id = hs.length
    · subst he; rw [hat]; simp
    · rw [addP_out (by simp; omega)]
      rw [hφ id]; omega
theorem VSpec.conv {r2 : VV} {hs2 : List Ob} (h : VSpec P f hs xs hs1 r)
    (hc : ∀ (w : World) (E : Prot) (φ : Phi) (v : Value), HRel E (obsH hs1) φ w → (∀ id, φ id ≠ none ↔ id < hs1.length) → (∀ k, E.fz k → k < w.heap.size) → V w (E.up φ) (some φ) r v →
      ∃ φ', HRel E (obsH hs2) φ' w ∧ Ext w φ w φ' ∧ (∀ id, φ' id ≠ none ↔ id < hs2.length) ∧ V w (E.up φ') (some φ') r2 v) : VSpec P f hs xs hs2 r2 := by
  refine ⟨h.callable, fun w E φ vs hz hH hφ hs0 => (h.call w E φ vs hz hH hφ hs0).mono ?_⟩
  rintro e w' ⟨v, φ', rfl, h1, h2, h3, h4⟩
  obtain ⟨φ2, k1, k2, k3, k4⟩ := hc w' E φ' v h1 h3 (fun k hk => Nat.lt_of_lt_of_le (hz.lt k hk) h2.size) h4
  exact ⟨v, φ2, rfl, k1, h2.trans (Fr.of_ext k2), k3, k4⟩
theorem VSpec.ownR {ys : List VV} (h : VSpec P f hs xs hs1 (.tup ys)) (j : Nat) (hj : ys[j]? = some .nl) (sz : Nat) (g : Nat → List VV) : VSpec P f hs xs (hs1 ++ [.arr true 0 0 sz g]) (.tup (ys.set j (.ow hs1.length 0 0))) := by
  refine h.conv fun w E φ v hH hφ hz hv => ?_
  obtain ⟨h1, h2, h3, h4⟩ := nlObj hH hφ hz sz g
  refine ⟨_, h1, h2, h3, ?_⟩
  cases hv with
  | tup k1 k2 =>
    refine .tup (by simp [k1]) fun i x hx => ?_
    rw [List.getElem?_set] at hx
    split at hx
    · rename_i hij
      subst hij
      split at hx
      · simp only [Option.some.injEq] at hx
        subst hx
        rw [(k2 j _ hj).nl_inv]
        exact .ow h4 (Nat.le_refl _) (hd0 := none) ⟨rfl, rfl⟩ fun _ => ⟨rfl, Nat.le_refl _⟩
      · cases hx
    · exact (k2 i x hx).ext h2
theorem Fr.less {b b' : Nat} {w w' : World} {φ φ' : Phi} (h : Fr b w φ w' φ') (hb : b' ≤ b) : Fr b' w φ w' φ' :=
  ⟨h.os, h.tape, h.output, h.size, h.block, h.new, fun id p hi e => h.kind id p (Nat.lt_of_lt_of_le hi hb) e⟩
theorem VSpec.ownB {i j : Nat} {cs : List VV} (hi : hs[i]? = some (.box cs)) (hj : cs[j]? = some .nl) (sz : Nat) (g : Nat → List VV)
    (h : VSpec P f (hs.set i (.box (cs.set j (.ow hs.length 0 0))) ++ [.arr true 0 0 sz g]) xs hs' r) : VSpec P f hs xs hs' r := by
  refine ⟨h.callable, fun w E φ vs hz hH hφ hs0 => ?_⟩
  obtain ⟨h1, h2, h3, h4⟩ := nlObj hH hφ hz.lt sz g
  have hil : i < hs.length := (List.getElem?_eq_some_iff.1 hi).1
  refine (h.call w E _ vs (hz.ext h2) ⟨h1.sub, fun id p e => ?_, h1.inj, h1.free⟩ (fun id => by rw [h3 id]; simp) ⟨hs0.1, fun k x hx => (hs0.2 k x hx).ext h2⟩).mono ?_
  · have hob := h1.ob id p e
    show ObV w E _ (obsH (hs.set i _ ++ _) id) p
    by_cases he : id = i
    · subst he
      have e1 : obsH (hs ++ [Ob.arr true 0 0 sz g]) id = .box cs := by simp [obsH, List.getElem?_append_left hil, hi]
      have e2 : obsH (hs.set id (.box (cs.set j (.ow hs.length 0 0))) ++ [Ob.arr true 0 0 sz g]) id = .box (cs.set j (.ow hs.length 0 0)) := by
        simp [obsH, List.getElem?_append_left, hil]
      rw [e1] at hob
      rw [e2]
      cases p with
      | arr => exact hob.elim
      | box b =>
        obtain ⟨c, ty, k1, k2⟩ := hob
        refine ⟨c, ty, k1, by simp [k2.1], fun k x hx => ?_⟩
        rw [List.getElem?_set] at hx
        split at hx
        · rename_i hjk
          subst hjk
          split at hx
          · simp only [Option.some.injEq] at hx
            subst hx
            rw [(k2.2 j _ hj).nl_inv]
            exact .ow h4 (Nat.le_refl _) (hd0 := none) ⟨rfl, rfl⟩ fun _ => ⟨rfl, Nat.le_refl _⟩
          · cases hx
        · exact k2.2 k x hx
    · have e1 : obsH (hs.set i (.box (cs.set j (.ow hs.length 0 0))) ++ [Ob.arr true 0 0 sz g]) id = obsH (hs ++ [Ob.arr true 0 0 sz g]) id := by
        rcases Nat.lt_or_ge id hs.length with h' | h'
        · simp [obsH, List.getElem?_append_left, h', List.getElem_set_ne (Ne.symm he)]
        · simp [obsH, List.getElem?_append_right, h']
      rw [e1]; exact hob
  · rintro e w' ⟨v, φ', rfl, k1, k2, k3, k4⟩
    refine ⟨v, φ', rfl, k1, (Fr.of_ext h2).trans (k2.less (by simp)), k3, k4⟩
end
end Go.Proofs.YtiaebjpcgjkhoaaGreatDoor
namespace Go.Proofs.YtiaebjpcgjkhoaaGreatDoor
open Go.RowKit
def enc_Pn (x : Pn) : List VV := [intV x.pid, intV x.esc, intV x.way]
def rowsPn (l : List Pn) : Nat → List VV := fun i => enc_Pn (l.getD i default)
def encL_Pn (fz : Bool) (l : List Pn) : VV := .sl fz l.length 3 fun i => enc_Pn (l.getD i default)
def enc_Ab (x : Ab) : List VV := [boolV x.is, intV x.err, encL_Pn true x.wth]
def rowsAb (l : List Ab) : Nat → List VV := fun i => enc_Ab (l.getD i default)
def encL_Ab (fz : Bool) (l : List Ab) : VV := .sl fz l.length 3 fun i => enc_Ab (l.getD i default)
def enc_Wy (x : Wy) : List VV := [intV x.Esc, intV x.Way, intV x.With, intV x.WithEsc, intV x.WithWay, intV x.Err]
def rowsWy (l : List Wy) : Nat → List VV := fun i => enc_Wy (l.getD i default)
def encL_Wy (fz : Bool) (l : List Wy) : VV := .sl fz l.length 6 fun i => enc_Wy (l.getD i default)
def enc_EnvB (x : D.Env) : List VV := [encL_Type true x.M.Globals, encL_Int true x.M.Init, encL_Shape true x.M.Shapes, encL_Int true x.M.Chans, encL_Proc true x.M.Procs, intV x.M.Claim, encL_Expr true x.M.Exprs, encL_Int true x.S.Globals, encL_Chan false x.S.Chans, encL_Process false x.S.Procs, intV x.S.Last, intV x.S.Alone, intV x.S.Claim, intV x.Pid, boolV x.Timeout, encL_Bool true x.Able]
def shpPn : Shp := { α := List Pn, enc := fun y => ([], encL_Pn true y) }
def shpAb : Shp := { α := Ab, enc := fun y => ([], .agg (enc_Ab y)) }
def shpAbs : Shp := { α := List Ab, enc := fun y => ([], encL_Ab true y) }
def shpWy : Shp := { α := Wy, enc := fun y => ([], .agg (enc_Wy y)) }
def shpWys : Shp := { α := List Wy, enc := fun y => ([], encL_Wy true y) }
def shpLoc : Shp := { α := D.Loc, enc := fun y => ([], .agg (enc_Loc y)) }
def shpProc : Shp := { α := D.Proc, enc := fun y => ([], .agg (enc_Proc y)) }
def shpTrans : Shp := { α := D.Trans, enc := fun y => ([], .agg (enc_Trans y)) }
def shpBI : Shp := { α := Bool × Int, enc := fun y => ([], .tup [boolV y.1, intV y.2]) }
def shpILI : Shp := { α := Int × List Int × Int, enc := fun y => ([], .tup [intV y.1, encL_Int true y.2.1, intV y.2.2]) }
def shpLI : Shp := { α := List Int × Int, enc := fun y => ([], .tup [encL_Int true y.1, intV y.2]) }
def shpWI : Shp := { α := List Wy × Int, enc := fun y => ([], .tup [encL_Wy true y.1, intV y.2]) }
def shpAll : Shp := { α := List Int × Int, enc := fun y => ([.arr true 0 y.1.length 1 (rowsIn y.1)], .tup [.ow 0 0 y.1.length, intV y.2]) }
def shEc (f : FuncId) : Shp :=
  bif Nat.beq f 15 || Nat.beq f 33 || Nat.beq f 176 then shpI
  else bif Nat.beq f 21 then shpLoc
  else bif Nat.beq f 27 then shpProc
  else bif Nat.beq f 20 then shpTrans
  else bif Nat.beq f 36 || Nat.beq f 166 || Nat.beq f 167 || Nat.beq f 17 || Nat.beq f 168 then shpB
  else bif Nat.beq f 40 then shpAll
  else bif Nat.beq f 64 then shpILI
  else bif Nat.beq f 99 then shpLI
  else bif Nat.beq f 67 then shpIII
  else bif Nat.beq f 145 || Nat.beq f 115 then shpPn
  else bif Nat.beq f 29 then shpBI
  else bif Nat.beq f 77 || Nat.beq f 49 || Nat.beq f 78 then shpAb
  else bif Nat.beq f 32 then shpAbs
  else bif Nat.beq f 28 then shpWy
  else bif Nat.beq f 16 then shpWys
  else bif Nat.beq f 8 then shpWI
  else shEx f
def hsR (e : D.Env) (c : Int) (m : List Int) (out : List Pn) : List Ob := [.box (enc_Env e), .box [intV c], .box [encL_Int true m], .box [.ow 4 0 out.length], .arr true 0 out.length 3 (rowsPn out)]
def capR : VV := .fn (.func 165) [.bp 0 0, .bp 1 0, .bp 2 0, .bp 3 0]
def shR (e : D.Env) (c : Int) (m : List Int) (f : FuncId) : Shp :=
  bif Nat.beq f 165 then { α := List Pn × Bool, enc := fun y => (hsR e c m y.1, boolV y.2), lend := true }
  else bif Nat.beq f 30 then { α := List Pn, enc := fun y => (hsR e c m y, .tup []), lend := true }
  else shEc f
def hsW (e : D.Env) (out : List Wy) : List Ob := [.box (enc_Env e), .box [.ow 2 0 out.length], .arr true 0 out.length 6 (rowsWy out)]
def capW : VV := .fn (.func 31) [.bp 0 0, .bp 1 0]
def shW (e : D.Env) (f : FuncId) : Shp :=
  bif Nat.beq f 31 then { α := List Wy × Bool, enc := fun y => (hsW e y.1, boolV y.2), lend := true }
  else bif Nat.beq f 30 then { α := List Wy, enc := fun y => (hsW e y, .tup []), lend := true }
  else shEc f
end Go.Proofs.YtiaebjpcgjkhoaaGreatDoor
namespace Go.Proofs.YtiaebjpcgjkhoaaGreatDoor
open Go.RowKit
def ann_xall : Ann := { keep := fun
  | [0, 1, 0, 1, 1] => [2, 6, 11, 12, 13]
  | _ => [] }
def ann_xmsg : Ann := { keep := fun
  | [0, 1, 0, 1, 1, 1, 1, 1, 1, 1] => [7, 9, 10, 53, 54, 55]
  | _ => [] }
def ann_xwants : Ann := { keep := fun
  | [0, 1, 0, 1, 1] => [2, 3, 6, 16, 17, 18]
  | _ => [] }
def ann_xmeets : Ann := { keep := fun
  | [0, 1, 0, 1, 1] => [1, 2, 3, 7, 13, 14]
  | _ => [] }
def ann_xcan : Ann := { cut := (fun | [1, 1, 0, 0, 1, 1, 0, 0, 1, 0, 1, 1, 1] => true | _ => false), keep := fun
  | [0, 1, 0, 1, 1, 1] => [1, 2, 3, 7, 8, 16, 17, 18]
  | [0, 1, 0, 1, 1, 1, 1] => [7, 8, 40, 41, 42]
  | [1, 1, 0, 0, 1, 1, 0, 0, 1, 0, 1, 1, 1] => [1, 2, 3, 7, 8, 9, 16, 17, 18]
  | _ => [] }
def ann_xidxf : Ann := { keep := fun
  | [0, 1, 0, 1] => [0, 1, 7, 8]
  | _ => [] }
def ann_xidxw : Ann := { keep := fun
  | [0, 1, 0, 1] => [0, 3, 7, 8]
  | _ => [] }
def ann_xlistsR : Ann := { base := 5, keep := fun
  | [0, 1, 0, 1] => [1, 2, 7, 8, 9]
  | _ => [] }
def ann_xlistsW : Ann := { base := 3, keep := fun
  | [0, 1, 0, 1] => [1, 2, 7, 8, 9]
  | _ => [] }
def ann_xrcl : Ann := { base := 5, keep := fun
  | [0, 1, 0, 1] => [0, 1, 2, 3, 4, 5, 11, 12, 13]
  | _ => [] }
def ann_xpcl : Ann := { base := 3, keep := fun
  | [0, 1, 0, 1] => [0, 3, 14, 15, 16]
  | [0, 1, 1, 1, 1, 0, 0, 1, 1, 0, 0, 1, 0, 1] => [0, 3, 9, 14, 15, 16, 39, 40, 41]
  | _ => [] }
def stXall (e : D.Env) (l out : List Int) (k : Int) : St := mkSt [(2, .bp 0 0), (6, .ow 1 0 out.length), (11, encL_Int true l), (12, intV l.length), (13, intV k)] [.box (enc_EnvB e), .arr true 0 out.length 1 (rowsIn out)]
def stXmsg (c : Int) (f : List D.Type) (l : List Int) (k : Int) : St := mkSt [(7, intV c), (9, encL_Type true f), (10, .ow 0 0 l.length), (53, .ow 0 0 l.length), (54, intV l.length), (55, intV k)] [.arr true 0 l.length 1 (rowsIn l)]
def stXwants (e : D.Env) (s : D.Stmt) (want : List Int) (k : Int) : St := mkSt [(2, .bp 0 0), (3, .bp 1 0), (6, .ow 2 0 want.length), (16, encL_Int true s.Args), (17, intV s.Args.length), (18, intV k)] [.box (enc_Env e), .box (enc_Stmt s), .arr true 0 want.length 1 (rowsIn want)]
def stXmeets (e : D.Env) (c : Int) (m : List Int) (out : List Pn) (k : Int) : St := mkSt [(1, intV c), (2, encL_Int true m), (3, .bp 0 0), (7, .ow 1 0 out.length), (13, intV e.S.Procs.length), (14, intV k)] [.box (enc_Env e), .arr true 0 out.length 3 (rowsPn out)]
def stXcan1 (e : D.Env) (ws : List D.Trans) (self : Bool) (n : Nat) (F : Nat → List VV) (some : Bool) (k : Int) : St := mkSt [(1, encL_Trans true ws), (2, boolV self), (3, .bp 0 0), (7, .ow 1 0 n), (8, boolV some), (16, encL_Trans true ws), (17, intV ws.length), (18, intV k)] [.box (enc_Env e), .arr true 0 n 3 F]
def stXcanC (e : D.Env) (ws : List D.Trans) (self : Bool) (l : List Ab) (some : Bool) (i k : Int) : St := mkSt [(1, encL_Trans true ws), (2, boolV self), (3, .bp 0 0), (7, .ow 1 0 l.length), (8, boolV some), (9, intV i), (16, encL_Trans true ws), (17, intV ws.length), (18, intV k)] [.box (enc_Env e), .arr true 0 l.length 3 (rowsAb l)]
def stXcan2 (ws : List D.Trans) (l : List Ab) (some : Bool) (k : Int) : St := mkSt [(7, .ow 0 0 l.length), (8, boolV some), (40, encL_Trans true ws), (41, intV ws.length), (42, intV k)] [.arr true 0 l.length 3 (rowsAb l)]
def stXidxf (l : List Ab) (k : Int) : St := mkSt [(0, encL_Ab true l), (1, .fn (.func 168) []), (7, intV l.length), (8, intV k)] []
def stXidxw (l : List Wy) (w : Wy) (k : Int) : St := mkSt [(0, encL_Wy true l), (3, .bp 0 0), (7, intV l.length), (8, intV k)] [.box (enc_Wy w)]
def stXlistsR (e : D.Env) (c : Int) (m : List Int) (out : List Pn) (l : D.Loc) (k : Int) : St := mkSt [(1, capR), (2, .bp 5 0), (7, encL_Transs true l.Esc), (8, intV l.Esc.length), (9, intV k)] (hsR e c m out ++ [.box (enc_Loc l)])
def stXlistsW (e : D.Env) (out : List Wy) (l : D.Loc) (k : Int) : St := mkSt [(1, capW), (2, .bp 3 0), (7, encL_Transs true l.Esc), (8, intV l.Esc.length), (9, intV k)] (hsW e out ++ [.box (enc_Loc l)])
def stXrcl (e : D.Env) (c : Int) (m : List Int) (out : List Pn) (i : Int) (ws : List D.Trans) (k : Int) : St := mkSt [(0, intV i), (1, encL_Trans true ws), (2, .bp 0 0), (3, .bp 1 0), (4, .bp 2 0), (5, .bp 3 0), (11, encL_Trans true ws), (12, intV ws.length), (13, intV k)] (hsR e c m out)
def stXpcl1 (e : D.Env) (out : List Wy) (i : Int) (l : List Ab) (k : Int) : St := mkSt [(0, intV i), (3, .bp 1 0), (14, encL_Ab true l), (15, intV l.length), (16, intV k)] (hsW e out)
def stXpcl2 (e : D.Env) (out : List Wy) (i : Int) (l : List Ab) (k : Int) (w : Wy) (ps : List Pn) (j : Int) : St := mkSt [(0, intV i), (3, .bp 1 0), (9, .bp 3 0), (14, encL_Ab true l), (15, intV l.length), (16, intV k), (39, encL_Pn true ps), (40, intV ps.length), (41, intV j)] (hsW e out ++ [.box (enc_Wy w)])
end Go.Proofs.YtiaebjpcgjkhoaaGreatDoor
namespace Go.Proofs.YtiaebjpcgjkhoaaGreatDoor
open Go.RowKit
set_option maxRecDepth 100000
theorem xck_raw (r : Int) (e : D.Env) : (fnCtx Tryz.prog tb shEc annNo true Tryz.f15 [] (intV r)).goal (St.init [] [.agg (enc_Env e)]) =
    (∃ (y : Int), VSpec Tryz.prog 25 [] [VV.agg (enc_Model e.M), VV.agg (enc_State e.S)] [] (intV y) ∧ ((y != (0 : Int)) = true → leO [] [] ∧ (intV y).le (intV r)) ∧ ((y != (0 : Int)) = false → ((bif decide (e.Pid < (0 : Int)) then true else decide (e.Pid ≥ (↑e.S.Procs.length : Int))) = true → leO [] [] ∧ (intV (42 : Int)).le (intV r)) ∧ ((bif decide (e.Pid < (0 : Int)) then true else decide (e.Pid ≥ (↑e.S.Procs.length : Int))) = false → leO [] [] ∧ (intV (0 : Int)).le (intV r)))) := by kernel_rfl
theorem xloc_raw (l : D.Loc) (e : D.Env) : (fnCtx Tryz.prog tb shEc annNo true Tryz.f21 [] (.agg (enc_Loc l))).goal (St.init [] [.agg (enc_Env e)]) =
    (((0 : Int) ≤ e.Pid ∧ e.Pid < (↑e.S.Procs.length : Int)) ∧ ((0 : Int) ≤ (e.S.Procs.getD e.Pid.toNat default).Type_ ∧ (e.S.Procs.getD e.Pid.toNat default).Type_ < (↑e.M.Procs.length : Int)) ∧ ((0 : Int) ≤ (e.S.Procs.getD e.Pid.toNat default).Loc ∧ (e.S.Procs.getD e.Pid.toNat default).Loc < (↑(e.M.Procs.getD (e.S.Procs.getD e.Pid.toNat default).Type_.toNat default).Locs.length : Int)) ∧ leO [] [] ∧ (VV.agg (enc_Loc ((e.M.Procs.getD (e.S.Procs.getD e.Pid.toNat default).Type_.toNat default).Locs.getD (e.S.Procs.getD e.Pid.toNat default).Loc.toNat default))).le (VV.agg (enc_Loc l))) := by kernel_rfl
theorem xproc_raw (p : D.Proc) (e : D.Env) : (fnCtx Tryz.prog tb shEc annNo true Tryz.f27 [] (.agg (enc_Proc p))).goal (St.init [] [.agg (enc_Env e)]) =
    (((0 : Int) ≤ e.Pid ∧ e.Pid < (↑e.S.Procs.length : Int)) ∧ ((0 : Int) ≤ (e.S.Procs.getD e.Pid.toNat default).Type_ ∧ (e.S.Procs.getD e.Pid.toNat default).Type_ < (↑e.M.Procs.length : Int)) ∧ leO [] [] ∧ (VV.agg (enc_Proc (e.M.Procs.getD (e.S.Procs.getD e.Pid.toNat default).Type_.toNat default))).le (VV.agg (enc_Proc p))) := by kernel_rfl
theorem xruns_raw (b : Bool) (m : D.Model) (x : Int) : (fnCtx Tryz.prog tb shEc annNo true Tryz.f36 [] (boolV b)).goal (St.init [] [.agg (enc_Model m), intV x]) =
    (((true && decide (x ≥ (0 : Int)) == true) = true → (0 : Int) ≤ x ∧ x < (↑m.Exprs.length : Int)) ∧ leO [] [] ∧ (boolV (bif decide (x ≥ (0 : Int)) then (m.Exprs.getD x.toNat default).Op == 39 else false)).le (boolV b)) := by kernel_rfl
theorem xall_raw (hs' : List Ob) (r : VV) (e : D.Env) (l : List Int) : (fnCtx Tryz.prog tb shEc ann_xall false Tryz.f40 hs' (r)).goal (St.init [] [.agg (enc_EnvB e), encL_Int true l]) =
    (SatC (fnCtx Tryz.prog tb shEc ann_xall false Tryz.f40 hs' r) [1, 1, 0, 1, 0] (mkSt [(2, VV.bp 0 0), (6, VV.nl), (11, encL_Int true l), (12, intV (↑l.length : Int)), (13, intV (0 : Int))] [Ob.box (enc_EnvB e)])) := by kernel_rfl
theorem xmsg_raw (r : Int × List Int × Int) (e : D.Env) (s : D.Stmt) : (fnCtx Tryz.prog tb shEc ann_xmsg true Tryz.f64 [] (.tup [intV r.1, encL_Int true r.2.1, intV r.2.2])).goal (St.init [] [.agg (enc_EnvB e), .agg (enc_Stmt s)]) =
    (∃ (y : Int × Int), VSpec Tryz.prog 92 [] [VV.agg (enc_EnvB e), intV s.A] [] (VV.tup [intV y.fst, intV y.snd]) ∧ ((y.snd != (0 : Int)) = true → leO [] [] ∧ (VV.tup [intV (0 : Int), VV.nl, intV y.snd]).le (VV.tup [intV r.fst, encL_Int true r.snd.fst, intV r.snd.snd])) ∧ ((y.snd != (0 : Int)) = false → ((0 : Int) ≤ IntKind.i64.wrap (y.fst - (1 : Int)) ∧ IntKind.i64.wrap (y.fst - (1 : Int)) < (↑e.S.Chans.length : Int)) ∧ ((0 : Int) ≤ (e.S.Chans.getD (IntKind.i64.wrap (y.fst - (1 : Int))).toNat default).Shape ∧ (e.S.Chans.getD (IntKind.i64.wrap (y.fst - (1 : Int))).toNat default).Shape < (↑e.M.Shapes.length : Int)) ∧ (((↑(e.M.Shapes.getD (e.S.Chans.getD (IntKind.i64.wrap (y.fst - (1 : Int))).toNat default).Shape.toNat default).Fields.length : Int) != (↑s.Args.length : Int)) = true → leO [] [] ∧ (VV.tup [intV (0 : Int), VV.nl, intV (49 : Int)]).le (VV.tup [intV r.fst, encL_Int true r.snd.fst, intV r.snd.snd])) ∧ (((↑(e.M.Shapes.getD (e.S.Chans.getD (IntKind.i64.wrap (y.fst - (1 : Int))).toNat default).Shape.toNat default).Fields.length : Int) != (↑s.Args.length : Int)) = false → ∃ (y_1 : List Int × Int), VSpec Tryz.prog 40 [] [VV.agg (enc_EnvB e), encL_Int true s.Args] [Ob.arr true 0 y_1.fst.length 1 fun (i : Nat) => [intV (y_1.fst.getD i (0 : Int))]] (VV.tup [VV.ow 0 0 y_1.fst.length, intV y_1.snd]) ∧ ((y_1.snd != (0 : Int)) = true → leO [] [] ∧ (VV.tup [intV (0 : Int), VV.nl, intV y_1.snd]).le (VV.tup [intV r.fst, encL_Int true r.snd.fst, intV r.snd.snd])) ∧ ((y_1.snd != (0 : Int)) = false → SatC (fnCtx Tryz.prog tb shEc ann_xmsg true Tryz.f64 [] (VV.tup [intV r.fst, encL_Int true r.snd.fst, intV r.snd.snd])) [1, 1, 1, 1, 1, 1, 1, 0, 1, 0] (mkSt [(7, intV y.fst), (9, encL_Type true (e.M.Shapes.getD (e.S.Chans.getD (IntKind.i64.wrap (y.fst - (1 : Int))).toNat default).Shape.toNat default).Fields), (10, VV.ow 0 0 y_1.fst.length), (53, VV.ow 0 0 y_1.fst.length), (54, intV (↑y_1.fst.length : Int)), (55, intV (0 : Int))] [Ob.arr true 0 y_1.fst.length 1 fun (i : Nat) => [intV (y_1.fst.getD i (0 : Int))]]))))) := by kernel_rfl
theorem xwants_raw (r : List Int × Int) (e : D.Env) (s : D.Stmt) : (fnCtx Tryz.prog tb shEc ann_xwants true Tryz.f99 [] (.tup [encL_Int true r.1, intV r.2])).goal (St.init [] [.agg (enc_Env e), .agg (enc_Stmt s)]) =
    (((0 : Int) ≤ (↑s.Args.length : Int) ∧ (↑s.Args.length : Int) ≤ (↑s.Args.length : Int) ∧ (↑s.Args.length : Int) * (↑8 : Int) ≤ (140737488355328 : Int)) ∧ SatC (fnCtx Tryz.prog tb shEc ann_xwants true Tryz.f99 [] (VV.tup [encL_Int true r.fst, intV r.snd])) [1, 1, 0, 1, 0] (mkSt [(2, VV.bp 0 0), (3, VV.bp 1 0), (6, VV.ow 2 0 (↑s.Args.length : Int).toNat), (16, encL_Int true s.Args), (17, intV (↑s.Args.length : Int)), (18, intV (0 : Int))] [Ob.box (enc_Env e), Ob.box (enc_Stmt s), Ob.arr true 0 (↑s.Args.length : Int).toNat 1 fun (_ : Nat) => ((fnCtx Tryz.prog tb shEc ann_xwants true Tryz.f99 [] (VV.tup [encL_Int true r.fst, intV r.snd])).T (2 : TypeId)).zero])) := by kernel_rfl
theorem xfound_raw (r : Int × Int × Int) (e : D.Env) (s : D.Stmt) : (fnCtx Tryz.prog tb shEc annNo true Tryz.f67 [] (.tup [intV r.1, intV r.2.1, intV r.2.2])).goal (St.init [] [.agg (enc_Env e), .agg (enc_Stmt s)]) =
    (∃ (y : Int × Int), VSpec Tryz.prog 92 [] [VV.agg (enc_Env e), intV s.A] [] (VV.tup [intV y.fst, intV y.snd]) ∧ ((y.snd != (0 : Int)) = true → leO [] [] ∧ (VV.tup [intV (0 : Int), intV (-1 : Int), intV y.snd]).le (VV.tup [intV r.fst, intV r.snd.fst, intV r.snd.snd])) ∧ ((y.snd != (0 : Int)) = false → ((0 : Int) ≤ IntKind.i64.wrap (y.fst - (1 : Int)) ∧ IntKind.i64.wrap (y.fst - (1 : Int)) < (↑e.S.Chans.length : Int)) ∧ ((0 : Int) ≤ (e.S.Chans.getD (IntKind.i64.wrap (y.fst - (1 : Int))).toNat default).Shape ∧ (e.S.Chans.getD (IntKind.i64.wrap (y.fst - (1 : Int))).toNat default).Shape < (↑e.M.Shapes.length : Int)) ∧ (((↑(e.M.Shapes.getD (e.S.Chans.getD (IntKind.i64.wrap (y.fst - (1 : Int))).toNat default).Shape.toNat default).Fields.length : Int) != (↑s.Args.length : Int)) = true → leO [] [] ∧ (VV.tup [intV (0 : Int), intV (-1 : Int), intV (49 : Int)]).le (VV.tup [intV r.fst, intV r.snd.fst, intV r.snd.snd])) ∧ (((↑(e.M.Shapes.getD (e.S.Chans.getD (IntKind.i64.wrap (y.fst - (1 : Int))).toNat default).Shape.toNat default).Fields.length : Int) != (↑s.Args.length : Int)) = false → ∃ (y_1 : List Int × Int), VSpec Tryz.prog 99 [] [VV.agg (enc_Env e), VV.agg (enc_Stmt s)] [] (VV.tup [encL_Int true y_1.fst, intV y_1.snd]) ∧ ((y_1.snd != (0 : Int)) = true → leO [] [] ∧ (VV.tup [intV (0 : Int), intV (-1 : Int), intV y_1.snd]).le (VV.tup [intV r.fst, intV r.snd.fst, intV r.snd.snd])) ∧ ((y_1.snd != (0 : Int)) = false → ((0 : Int) ≤ IntKind.i64.wrap (y.fst - (1 : Int)) ∧ IntKind.i64.wrap (y.fst - (1 : Int)) < (↑e.S.Chans.length : Int)) ∧ (2 : Int) ≠ (0 : Int) ∧ ∃ (y_2 : Int), VSpec Tryz.prog 100 [] [VV.agg [intV (e.S.Chans.getD (IntKind.i64.wrap (y.fst - (1 : Int))).toNat default).Shape, encL_Ints true (e.S.Chans.getD (IntKind.i64.wrap (y.fst - (1 : Int))).toNat default).Queue], encL_Int true y_1.fst, encL_Int true s.Match, boolV (s.N.tmod (2 : Int) == 1)] [] (intV y_2) ∧ leO [] [] ∧ (VV.tup [intV y.fst, intV y_2, intV (0 : Int)]).le (VV.tup [intV r.fst, intV r.snd.fst, intV r.snd.snd]))))) := by kernel_rfl
theorem xtakes_raw (b : Bool) (e : D.Env) (s : D.Stmt) (c : Int) (m : List Int) : (fnCtx Tryz.prog tb shEc annNo true Tryz.f166 [] (boolV b)).goal (St.init [] [.agg (enc_Env e), .agg (enc_Stmt s), intV c, encL_Int true m]) =
    (((bif bif s.Kind != (6 : Int) then true else decide (s.N > (1 : Int)) then true else (↑s.Args.length : Int) != (↑m.length : Int)) = true → leO [] [] ∧ (boolV false).le (boolV b)) ∧ ((bif bif s.Kind != (6 : Int) then true else decide (s.N > (1 : Int)) then true else (↑s.Args.length : Int) != (↑m.length : Int)) = false → ∃ (y : Int × Int), VSpec Tryz.prog 92 [] [VV.agg (enc_Env e), intV s.A] [] (VV.tup [intV y.fst, intV y.snd]) ∧ ((bif y.snd != (0 : Int) then true else y.fst != c) = true → leO [] [] ∧ (boolV false).le (boolV b)) ∧ ((bif y.snd != (0 : Int) then true else y.fst != c) = false → ∃ (y : List Int × Int), VSpec Tryz.prog 99 [] [VV.agg (enc_Env e), VV.agg (enc_Stmt s)] [] (VV.tup [encL_Int true y.fst, intV y.snd]) ∧ ∃ (y_1 : Int), ((true && (y.snd == 0) == true) = true → VSpec Tryz.prog 100 [] [VV.agg [intV (0 : Int), VV.sl true 1 1 fun (i : Nat) => List.take 1 (List.drop (i * 1) [encL_Int true m])], encL_Int true y.fst, encL_Int true s.Match, boolV false] [] (intV y_1)) ∧ leO [] [] ∧ (boolV (bif y.snd == 0 then y_1 == 0 else false)).le (boolV b)))) := by kernel_rfl
theorem xmeets_raw (r : List Pn) (e : D.Env) (c : Int) (m : List Int) : (fnCtx Tryz.prog tb shEc ann_xmeets true Tryz.f115 [] (encL_Pn true r)).goal (St.init [] [.agg (enc_Env e), intV c, encL_Int true m]) =
    (SatC (fnCtx Tryz.prog tb shEc ann_xmeets true Tryz.f115 [] (encL_Pn true r)) [1, 1, 0, 1, 0] (mkSt [(1, intV c), (2, encL_Int true m), (3, VV.bp 0 0), (7, VV.nl), (13, intV (↑e.S.Procs.length : Int)), (14, intV (0 : Int))] [Ob.box (enc_Env e)])) := by kernel_rfl
theorem xprov_raw (r : Bool × Int) (e : D.Env) : (fnCtx Tryz.prog tb shEc annNo true Tryz.f29 [] (.tup [boolV r.1, intV r.2])).goal (St.init [] [.agg (enc_Env e)]) =
    (∃ (y : D.Proc), VSpec Tryz.prog 27 [] [VV.agg (enc_Env e)] [] (VV.agg (enc_Proc y)) ∧ (decide (y.Provided < (0 : Int)) = true → leO [] [] ∧ (VV.tup [boolV true, intV (0 : Int)]).le (VV.tup [boolV r.fst, intV r.snd])) ∧ (decide (y.Provided < (0 : Int)) = false → ∃ (y_1 : Int × Int), VSpec Tryz.prog 39 [] [VV.agg (enc_Env e), intV y.Provided] [] (VV.tup [intV y_1.fst, intV y_1.snd]) ∧ leO [] [] ∧ (VV.tup [boolV (y_1.fst != (0 : Int)), intV y_1.snd]).le (VV.tup [boolV r.fst, intV r.snd]))) := by kernel_rfl
theorem xroom_raw (r : Ab) (e : D.Env) : (fnCtx Tryz.prog tb shEc annNo true Tryz.f77 [] (.agg (enc_Ab r))).goal (St.init [] [.agg (enc_Env e)]) =
    (leO [] [] ∧ (VV.agg [boolV (decide ((↑e.S.Procs.length : Int) < (16 : Int))), intV (0 : Int), VV.nl]).le (VV.agg (enc_Ab r))) := by kernel_rfl
theorem xstmt_raw (r : Ab) (e : D.Env) (s : D.Stmt) (self : Bool) : (fnCtx Tryz.prog tb shEc annNo true Tryz.f49 [] (.agg (enc_Ab r))).goal (St.init [] [.agg (enc_Env e), .agg (enc_Stmt s), boolV self]) =
    (((s.Kind == 1) = true → ∃ (y : Bool), VSpec Tryz.prog 36 [] [VV.agg (enc_Model e.M), intV s.A] [] (boolV y) ∧ (y = true → ∃ (y : Ab), VSpec Tryz.prog 77 [] [VV.agg (enc_Env e)] [] (VV.agg (enc_Ab y)) ∧ leO [] [] ∧ (VV.agg (enc_Ab y)).le (VV.agg (enc_Ab r))) ∧ (y = false → ∃ (y : Int × Int), VSpec Tryz.prog 39 [] [VV.agg (enc_Env e), intV s.A] [] (VV.tup [intV y.fst, intV y.snd]) ∧ leO [] [] ∧ (VV.agg [boolV (bif y.fst != (0 : Int) then true else y.snd != (0 : Int)), intV y.snd, VV.nl]).le (VV.agg (enc_Ab r)))) ∧ ((s.Kind == 1) = false → ((s.Kind == 2) = true → ∃ (y : Bool), VSpec Tryz.prog 36 [] [VV.agg (enc_Model e.M), intV s.B] [] (boolV y) ∧ (y = true → ∃ (y : Ab), VSpec Tryz.prog 77 [] [VV.agg (enc_Env e)] [] (VV.agg (enc_Ab y)) ∧ leO [] [] ∧ (VV.agg (enc_Ab y)).le (VV.agg (enc_Ab r))) ∧ (y = false → leO [] [] ∧ (VV.agg [boolV true, intV (0 : Int), VV.nl]).le (VV.agg (enc_Ab r)))) ∧ ((s.Kind == 2) = false → ((s.Kind == 9) = true → leO [] [] ∧ (VV.agg [boolV (decide ((↑e.S.Chans.length : Int) < (32 : Int))), intV (0 : Int), VV.nl]).le (VV.agg (enc_Ab r))) ∧ ((s.Kind == 9) = false → ((s.Kind == 5) = true → ∃ (y : Ab), VSpec Tryz.prog 78 [] [VV.agg (enc_Env e), VV.agg (enc_Stmt s), boolV self] [] (VV.agg (enc_Ab y)) ∧ leO [] [] ∧ (VV.agg (enc_Ab y)).le (VV.agg (enc_Ab r))) ∧ ((s.Kind == 5) = false → ((s.Kind == 6) = true → ∃ (y : Int × Int × Int), VSpec Tryz.prog 67 [] [VV.agg (enc_Env e), VV.agg (enc_Stmt s)] [] (VV.tup [intV y.fst, intV y.snd.fst, intV y.snd.snd]) ∧ leO [] [] ∧ (VV.agg [boolV (bif decide (y.snd.fst ≥ (0 : Int)) then true else y.snd.snd != (0 : Int)), intV y.snd.snd, VV.nl]).le (VV.agg (enc_Ab r))) ∧ ((s.Kind == 6) = false → ((s.Kind == 7) = true → leO [] [] ∧ (VV.agg [boolV false, intV (0 : Int), VV.nl]).le (VV.agg (enc_Ab r))) ∧ ((s.Kind == 7) = false → leO [] [] ∧ (VV.agg [boolV true, intV (0 : Int), VV.nl]).le (VV.agg (enc_Ab r))))))))) := by kernel_rfl
theorem xsends_raw (r : Ab) (e : D.Env) (s : D.Stmt) (self : Bool) : (fnCtx Tryz.prog tb shEc annNo true Tryz.f78 [] (.agg (enc_Ab r))).goal (St.init [] [.agg (enc_Env e), .agg (enc_Stmt s), boolV self]) =
    (∃ (y : Int × Int), VSpec Tryz.prog 92 [] [VV.agg (enc_Env e), intV s.A] [] (VV.tup [intV y.fst, intV y.snd]) ∧ ((y.snd != (0 : Int)) = true → leO [] [] ∧ (VV.agg [boolV true, intV y.snd, VV.nl]).le (VV.agg (enc_Ab r))) ∧ ((y.snd != (0 : Int)) = false → ((0 : Int) ≤ IntKind.i64.wrap (y.fst - (1 : Int)) ∧ IntKind.i64.wrap (y.fst - (1 : Int)) < (↑e.S.Chans.length : Int)) ∧ ((0 : Int) ≤ (e.S.Chans.getD (IntKind.i64.wrap (y.fst - (1 : Int))).toNat default).Shape ∧ (e.S.Chans.getD (IntKind.i64.wrap (y.fst - (1 : Int))).toNat default).Shape < (↑e.M.Shapes.length : Int)) ∧ (((↑(e.M.Shapes.getD (e.S.Chans.getD (IntKind.i64.wrap (y.fst - (1 : Int))).toNat default).Shape.toNat default).Fields.length : Int) != (↑s.Args.length : Int)) = true → leO [] [] ∧ (VV.agg [boolV true, intV (49 : Int), VV.nl]).le (VV.agg (enc_Ab r))) ∧ (((↑(e.M.Shapes.getD (e.S.Chans.getD (IntKind.i64.wrap (y.fst - (1 : Int))).toNat default).Shape.toNat default).Fields.length : Int) != (↑s.Args.length : Int)) = false → (decide ((e.M.Shapes.getD (e.S.Chans.getD (IntKind.i64.wrap (y.fst - (1 : Int))).toNat default).Shape.toNat default).Room > (0 : Int)) = true → leO [] [] ∧ (VV.agg [boolV (decide ((↑(e.S.Chans.getD (IntKind.i64.wrap (y.fst - (1 : Int))).toNat default).Queue.length : Int) < (e.M.Shapes.getD (e.S.Chans.getD (IntKind.i64.wrap (y.fst - (1 : Int))).toNat default).Shape.toNat default).Room)), intV (0 : Int), VV.nl]).le (VV.agg (enc_Ab r))) ∧ (decide ((e.M.Shapes.getD (e.S.Chans.getD (IntKind.i64.wrap (y.fst - (1 : Int))).toNat default).Shape.toNat default).Room > (0 : Int)) = false → (self = true → leO [] [] ∧ (VV.agg [boolV false, intV (0 : Int), VV.nl]).le (VV.agg (enc_Ab r))) ∧ (self = false → ∃ (y_1 : Int × List Int × Int), VSpec Tryz.prog 64 [] [VV.agg (enc_Env e), VV.agg (enc_Stmt s)] [] (VV.tup [intV y_1.fst, encL_Int true y_1.snd.fst, intV y_1.snd.snd]) ∧ ((y_1.snd.snd != (0 : Int)) = true → leO [] [] ∧ (VV.agg [boolV true, intV y_1.snd.snd, VV.nl]).le (VV.agg (enc_Ab r))) ∧ ((y_1.snd.snd != (0 : Int)) = false → ∃ (y_2 : List Pn), VSpec Tryz.prog 115 [] [VV.agg (enc_Env e), intV y.fst, encL_Int true y_1.snd.fst] [] (encL_Pn true y_2) ∧ leO [] [] ∧ (VV.agg [boolV (decide ((↑y_2.length : Int) > (0 : Int))), intV (0 : Int), encL_Pn true y_2]).le (VV.agg (enc_Ab r)))))))) := by kernel_rfl
theorem xcan_raw (r : List Ab) (e : D.Env) (ws : List D.Trans) (self : Bool) : (fnCtx Tryz.prog tb shEc ann_xcan true Tryz.f32 [] (encL_Ab true r)).goal (St.init [] [.agg (enc_Env e), encL_Trans true ws, boolV self]) =
    (((0 : Int) ≤ (↑ws.length : Int) ∧ (↑ws.length : Int) ≤ (↑ws.length : Int) ∧ (↑ws.length : Int) * (↑40 : Int) ≤ (140737488355328 : Int)) ∧ SatC (fnCtx Tryz.prog tb shEc ann_xcan true Tryz.f32 [] (encL_Ab true r)) [1, 1, 1, 0, 1, 0] (mkSt [(1, encL_Trans true ws), (2, boolV self), (3, VV.bp 0 0), (7, VV.ow 1 0 (↑ws.length : Int).toNat), (8, boolV false), (16, encL_Trans true ws), (17, intV (↑ws.length : Int)), (18, intV (0 : Int))] [Ob.box (enc_Env e), Ob.arr true 0 (↑ws.length : Int).toNat 3 fun (_ : Nat) => ((fnCtx Tryz.prog tb shEc ann_xcan true Tryz.f32 [] (encL_Ab true r)).T (95 : TypeId)).zero])) := by kernel_rfl
theorem xnone_raw (r : Wy) (err : Int) : (fnCtx Tryz.prog tb shEc annNo true Tryz.f28 [] (.agg (enc_Wy r))).goal (St.init [] [intV err]) =
    (leO [] [] ∧ (VV.agg [intV (-1 : Int), intV (-1 : Int), intV (-1 : Int), intV (-1 : Int), intV (-1 : Int), intV err]).le (VV.agg (enc_Wy r))) := by kernel_rfl
theorem xWays_raw (r : List Wy × Int) (e : D.Env) : (fnCtx Tryz.prog tb shEc annNo true Tryz.f8 [] (.tup [encL_Wy true r.1, intV r.2])).goal (St.init [] [.agg (enc_Env e)]) =
    (∃ (y : Int), VSpec Tryz.prog 15 [] [VV.agg (enc_Env e)] [] (intV y) ∧ ((y != (0 : Int)) = true → leO [] [] ∧ (VV.tup [VV.nl, intV y]).le (VV.tup [encL_Wy true r.fst, intV r.snd])) ∧ ((y != (0 : Int)) = false → ∃ (y : List Wy), VSpec Tryz.prog 16 [] [VV.agg (enc_Env e)] [] (encL_Wy true y) ∧ leO [] [] ∧ (VV.tup [encL_Wy true y, intV (0 : Int)]).le (VV.tup [encL_Wy true r.fst, intV r.snd]))) := by kernel_rfl
theorem xway_raw (t : D.Trans) (l : D.Loc) (esc i : Int) : (fnCtx Tryz.prog tb shEc annNo true Tryz.f20 [] (.agg (enc_Trans t))).goal (St.init [] [.agg (enc_Loc l), intV esc, intV i]) =
    ((decide (esc < (0 : Int)) = true → ((0 : Int) ≤ i ∧ i < (↑l.Out.length : Int)) ∧ leO [] [] ∧ (VV.agg (enc_Trans (l.Out.getD i.toNat default))).le (VV.agg (enc_Trans t))) ∧ (decide (esc < (0 : Int)) = false → ((0 : Int) ≤ esc ∧ esc < (↑l.Esc.length : Int)) ∧ ((0 : Int) ≤ i ∧ i < (↑(l.Esc.getD esc.toNat []).length : Int)) ∧ leO [] [] ∧ (VV.agg (enc_Trans ((l.Esc.getD esc.toNat []).getD i.toNat default))).le (VV.agg (enc_Trans t)))) := by kernel_rfl
theorem xcontf_raw (b : Bool) (l : List Ab) : (fnCtx Tryz.prog tb shEc annNo true Tryz.f167 [] (boolV b)).goal (St.init [] [encL_Ab true l, .fn (.func 168) []]) =
    (∃ (y : Int), VSpec Tryz.prog 176 [] [encL_Ab true l, VV.fn (Fn.func (nat_lit 168)) []] [] (intV y) ∧ leO [] [] ∧ (boolV (decide (y ≥ (0 : Int)))).le (boolV b)) := by kernel_rfl
theorem xidxf_raw (r : Int) (l : List Ab) : (fnCtx Tryz.prog tb shEc ann_xidxf true Tryz.f176 [] (intV r)).goal (St.init [] [encL_Ab true l, .fn (.func 168) []]) =
    (SatC (fnCtx Tryz.prog tb shEc ann_xidxf true Tryz.f176 [] (intV r)) [1, 0, 1, 0] (mkSt [(0, encL_Ab true l), (1, VV.fn (Fn.func (nat_lit 168)) []), (7, intV (↑l.length : Int)), (8, intV (0 : Int))] [])) := by kernel_rfl
theorem xisab_raw (b : Bool) (x : Ab) : (fnCtx Tryz.prog tb shEc annNo true Tryz.f168 [] (boolV b)).goal (St.init [] [.agg (enc_Ab x)]) =
    (leO [] [] ∧ (boolV x.is).le (boolV b)) := by kernel_rfl
theorem xcontw_raw (b : Bool) (l : List Wy) (w : Wy) : (fnCtx Tryz.prog tb shEc annNo true Tryz.f17 [] (boolV b)).goal (St.init [] [encL_Wy true l, .agg (enc_Wy w)]) =
    (∃ (y : Int), VSpec Tryz.prog 33 [] [encL_Wy true l, VV.agg (enc_Wy w)] [] (intV y) ∧ leO [] [] ∧ (boolV (decide (y ≥ (0 : Int)))).le (boolV b)) := by kernel_rfl
theorem xidxw_raw (r : Int) (l : List Wy) (w : Wy) : (fnCtx Tryz.prog tb shEc ann_xidxw true Tryz.f33 [] (intV r)).goal (St.init [] [encL_Wy true l, .agg (enc_Wy w)]) =
    (SatC (fnCtx Tryz.prog tb shEc ann_xidxw true Tryz.f33 [] (intV r)) [1, 0, 1, 0] (mkSt [(0, encL_Wy true l), (3, VV.bp 0 0), (7, intV (↑l.length : Int)), (8, intV (0 : Int))] [Ob.box (enc_Wy w)])) := by kernel_rfl
theorem xrecv_raw (r : List Pn) (e : D.Env) (c : Int) (m : List Int) : (fnCtx Tryz.prog tb (shR e c m) annNo true Tryz.f145 [] (encL_Pn true r)).goal (St.init [] [.agg (enc_Env e), intV c, encL_Int true m]) =
    (∃ (y : Bool × Int), VSpec Tryz.prog 29 [] [VV.agg (enc_Env e)] [] (VV.tup [boolV y.fst, intV y.snd]) ∧ ((bif !y.fst then true else y.snd != (0 : Int)) = true → leO [] [] ∧ VV.nl.le (encL_Pn true r)) ∧ ((bif !y.fst then true else y.snd != (0 : Int)) = false → ∃ (y : D.Loc), VSpec Tryz.prog 21 [] [VV.agg (enc_Env e)] [] (VV.agg (enc_Loc y)) ∧ ∃ (y_1 : List Pn), VSpec Tryz.prog 30 [Ob.box (enc_Env e), Ob.box [intV c], Ob.box [encL_Int true m], Ob.box [VV.nl]] [VV.agg (enc_Loc y), VV.fn (Fn.func (nat_lit 165)) [VV.bp 0 0, VV.bp 1 0, VV.bp 2 0, VV.bp 3 0]] [Ob.box (enc_Env e), Ob.box [intV c], Ob.box [encL_Int true m], Ob.box [VV.ow 4 0 y_1.length], Ob.arr true 0 y_1.length 3 fun (i : Nat) => enc_Pn (y_1.getD i default)] (VV.tup []) ∧ leO [] [] ∧ (encL_Pn true y_1).le (encL_Pn true r))) := by kernel_rfl
theorem xlistsR_raw (r out : List Pn) (e : D.Env) (c : Int) (m : List Int) (l : D.Loc) : (fnCtx Tryz.prog tb (shR e c m) ann_xlistsR true Tryz.f30 (hsR e c m r) (.tup [])).goal (St.init (hsR e c m out) [.agg (enc_Loc l), capR]) =
    (SatC (fnCtx Tryz.prog tb (shR e c m) ann_xlistsR true Tryz.f30 (hsR e c m r) (VV.tup [])) [1, 0, 1, 0] (mkSt [(1, VV.fn (Fn.func (nat_lit 165)) [VV.bp 0 0, VV.bp 1 0, VV.bp 2 0, VV.bp 3 0]), (2, VV.bp 5 0), (7, encL_Transs true l.Esc), (8, intV (↑l.Esc.length : Int)), (9, intV (0 : Int))] [Ob.box (enc_Env e), Ob.box [intV c], Ob.box [encL_Int true m], Ob.box [VV.ow 4 0 out.length], Ob.arr true 0 out.length 3 fun (i : Nat) => enc_Pn (out.getD i default), Ob.box (enc_Loc l)])) := by kernel_rfl
theorem xlistsW_raw (r out : List Wy) (e : D.Env) (l : D.Loc) : (fnCtx Tryz.prog tb (shW e) ann_xlistsW true Tryz.f30 (hsW e r) (.tup [])).goal (St.init (hsW e out) [.agg (enc_Loc l), capW]) =
    (SatC (fnCtx Tryz.prog tb (shW e) ann_xlistsW true Tryz.f30 (hsW e r) (VV.tup [])) [1, 0, 1, 0] (mkSt [(1, VV.fn (Fn.func (nat_lit 31)) [VV.bp 0 0, VV.bp 1 0]), (2, VV.bp 3 0), (7, encL_Transs true l.Esc), (8, intV (↑l.Esc.length : Int)), (9, intV (0 : Int))] [Ob.box (enc_Env e), Ob.box [VV.ow 2 0 out.length], Ob.arr true 0 out.length 6 fun (i : Nat) => enc_Wy (out.getD i default), Ob.box (enc_Loc l)])) := by kernel_rfl
theorem xrcl_raw (r out : List Pn) (b : Bool) (e : D.Env) (c : Int) (m : List Int) (i : Int) (ws : List D.Trans) : (fnCtx Tryz.prog tb shEc ann_xrcl true Tryz.f165 (hsR e c m r) (boolV b)).goal (St.init (hsR e c m out) [intV i, encL_Trans true ws, .bp 0 0, .bp 1 0, .bp 2 0, .bp 3 0]) =
    (SatC (fnCtx Tryz.prog tb shEc ann_xrcl true Tryz.f165 (hsR e c m r) (boolV b)) [1, 0, 1, 0] (mkSt [(0, intV i), (1, encL_Trans true ws), (2, VV.bp 0 0), (3, VV.bp 1 0), (4, VV.bp 2 0), (5, VV.bp 3 0), (11, encL_Trans true ws), (12, intV (↑ws.length : Int)), (13, intV (0 : Int))] [Ob.box (enc_Env e), Ob.box [intV c], Ob.box [encL_Int true m], Ob.box [VV.ow 4 0 out.length], Ob.arr true 0 out.length 3 fun (i : Nat) => enc_Pn (out.getD i default)])) := by kernel_rfl
theorem xpcl_raw (r out : List Wy) (b : Bool) (e : D.Env) (i : Int) (ws : List D.Trans) : (fnCtx Tryz.prog tb shEc ann_xpcl true Tryz.f31 (hsW e r) (boolV b)).goal (St.init (hsW e out) [intV i, encL_Trans true ws, .bp 0 0, .bp 1 0]) =
    (∃ (y : List Ab), VSpec Tryz.prog 32 [] [VV.agg (enc_Env e), encL_Trans true ws, boolV false] [] (encL_Ab true y) ∧ SatC (fnCtx Tryz.prog tb shEc ann_xpcl true Tryz.f31 (hsW e r) (boolV b)) [1, 0, 1, 0] (mkSt [(0, intV i), (3, VV.bp 1 0), (14, encL_Ab true y), (15, intV (↑y.length : Int)), (16, intV (0 : Int))] [Ob.box (enc_Env e), Ob.box [VV.ow 2 0 out.length], Ob.arr true 0 out.length 6 fun (i : Nat) => enc_Wy (out.getD i default)])) := by kernel_rfl
theorem xpaths_raw (r : List Wy) (e : D.Env) : (fnCtx Tryz.prog tb (shW e) annNo true Tryz.f16 [] (encL_Wy true r)).goal (St.init [] [.agg (enc_Env e)]) =
    (((0 : Int) ≤ e.Pid ∧ e.Pid < (↑e.S.Procs.length : Int)) ∧ ∃ (y : D.Proc), VSpec Tryz.prog 27 [] [VV.agg (enc_Env e)] [] (VV.agg (enc_Proc y)) ∧ (((e.S.Procs.getD e.Pid.toNat default).Loc == y.Final) = true → ((e.Pid == IntKind.i64.wrap ((↑e.S.Procs.length : Int) - (1 : Int))) = true → ∃ (y : Wy), VSpec Tryz.prog 28 [] [intV (0 : Int)] [] (VV.agg (enc_Wy y)) ∧ leO [] [] ∧ (VV.sl true 1 6 fun (i : Nat) => List.take 6 (List.drop (i * 6) [intV y.Esc, intV y.Way, intV y.With, intV y.WithEsc, intV y.WithWay, intV y.Err])).le (encL_Wy true r)) ∧ ((e.Pid == IntKind.i64.wrap ((↑e.S.Procs.length : Int) - (1 : Int))) = false → leO [] [] ∧ VV.nl.le (encL_Wy true r))) ∧ (((e.S.Procs.getD e.Pid.toNat default).Loc == y.Final) = false → ∃ (y : Bool × Int), VSpec Tryz.prog 29 [] [VV.agg (enc_Env e)] [] (VV.tup [boolV y.fst, intV y.snd]) ∧ ((y.snd != (0 : Int)) = true → ∃ (y_1 : Wy), VSpec Tryz.prog 28 [] [intV y.snd] [] (VV.agg (enc_Wy y_1)) ∧ leO [] [] ∧ (VV.sl true 1 6 fun (i : Nat) => List.take 6 (List.drop (i * 6) [intV y_1.Esc, intV y_1.Way, intV y_1.With, intV y_1.WithEsc, intV y_1.WithWay, intV y_1.Err])).le (encL_Wy true r)) ∧ ((y.snd != (0 : Int)) = false → ((!y.fst) = true → leO [] [] ∧ VV.nl.le (encL_Wy true r)) ∧ ((!y.fst) = false → ∃ (y : D.Loc), VSpec Tryz.prog 21 [] [VV.agg (enc_Env e)] [] (VV.agg (enc_Loc y)) ∧ ∃ (y_1 : List Wy), VSpec Tryz.prog 30 [Ob.box (enc_Env e), Ob.box [VV.nl]] [VV.agg (enc_Loc y), VV.fn (Fn.func (nat_lit 31)) [VV.bp 0 0, VV.bp 1 0]] [Ob.box (enc_Env e), Ob.box [VV.ow 2 0 y_1.length], Ob.arr true 0 y_1.length 6 fun (i : Nat) => enc_Wy (y_1.getD i default)] (VV.tup []) ∧ leO [] [] ∧ (encL_Wy true y_1).le (encL_Wy true r))))) := by kernel_rfl
theorem xall1_raw (hs' : List Ob) (r : VV) (e : D.Env) (l out : List Int) (k : Int) (J : St → Prop) : ((fnCtx Tryz.prog tb shEc ann_xall false Tryz.f40 hs' (r)).loop [1, 1, 0, 1, 0] J).goal (stXall e l out k) =
    ((decide (k < (↑l.length : Int)) = true → ((0 : Int) ≤ k ∧ k < (↑l.length : Int)) ∧ ∃ (y : Int × Int), VSpec Tryz.prog 39 [] [VV.agg (enc_EnvB e), intV (l.getD k.toNat (0 : Int))] [] (VV.tup [intV y.fst, intV y.snd]) ∧ ((y.snd != (0 : Int)) = true → leO [] hs' ∧ (VV.tup [VV.nl, intV y.snd]).le r) ∧ ((y.snd != (0 : Int)) = false → (out.length + 1) * 8 ≤ 140737488355328 ∧ J (mkSt [(2, VV.bp 0 0), (6, VV.ow 1 0 (out.length + 1)), (11, encL_Int true l), (12, intV (↑l.length : Int)), (13, intV (IntKind.i64.wrap (k + (1 : Int))))] [Ob.box (enc_EnvB e), Ob.arr true 0 (out.length + 1) 1 fun (i : Nat) => bif i.blt out.length then [intV (out.getD i (0 : Int))] else (fun (i : Nat) => List.take 1 (List.drop (i * 1) [intV y.fst])) (i - out.length)]))) ∧ (decide (k < (↑l.length : Int)) = false → leO [Ob.arr true 0 out.length 1 fun (i : Nat) => [intV (out.getD i (0 : Int))]] hs' ∧ (VV.tup [VV.ow 0 0 out.length, intV (0 : Int)]).le r)) := by kernel_rfl
theorem xmsg1_raw (r : Int × List Int × Int) (c : Int) (f : List D.Type) (l : List Int) (k : Int) (J : St → Prop) : ((fnCtx Tryz.prog tb shEc ann_xmsg true Tryz.f64 [] (.tup [intV r.1, encL_Int true r.2.1, intV r.2.2])).loop [1, 1, 1, 1, 1, 1, 1, 0, 1, 0] J).goal (stXmsg c f l k) =
    ((decide (k < (↑l.length : Int)) = true → ((0 : Int) ≤ k ∧ k < (↑l.length : Int)) ∧ ((0 : Int) ≤ k ∧ k < (↑f.length : Int)) ∧ ∃ (y : Int), VSpec Tryz.prog 91 [] [VV.agg (enc_Type (f.getD k.toNat default)), intV (l.getD k.toNat (0 : Int))] [] (intV y) ∧ ((0 : Int) ≤ k ∧ k < (↑l.length : Int)) ∧ J (mkSt [(7, intV c), (9, encL_Type true f), (10, VV.ow 0 0 l.length), (53, VV.ow 0 0 l.length), (54, intV (↑l.length : Int)), (55, intV (IntKind.i64.wrap (k + (1 : Int))))] [Ob.arr true 0 l.length 1 fun (j : Nat) => bif j.beq k.toNat then [intV y] else [intV (l.getD j (0 : Int))]])) ∧ (decide (k < (↑l.length : Int)) = false → leO [] [] ∧ (VV.tup [intV c, encL_Int true l, intV (0 : Int)]).le (VV.tup [intV r.fst, encL_Int true r.snd.fst, intV r.snd.snd]))) := by kernel_rfl
theorem xwants1_raw (r : List Int × Int) (e : D.Env) (s : D.Stmt) (want : List Int) (k : Int) (J : St → Prop) : ((fnCtx Tryz.prog tb shEc ann_xwants true Tryz.f99 [] (.tup [encL_Int true r.1, intV r.2])).loop [1, 1, 0, 1, 0] J).goal (stXwants e s want k) =
    ((decide (k < (↑s.Args.length : Int)) = true → ((0 : Int) ≤ k ∧ k < (↑s.Args.length : Int)) ∧ ((0 : Int) ≤ k ∧ k < (↑s.Match.length : Int)) ∧ ((s.Match.getD k.toNat (0 : Int) != (1 : Int)) = true → J (mkSt [(2, VV.bp 0 0), (3, VV.bp 1 0), (6, VV.ow 2 0 want.length), (16, encL_Int true s.Args), (17, intV (↑s.Args.length : Int)), (18, intV (IntKind.i64.wrap (k + (1 : Int))))] [Ob.box (enc_Env e), Ob.box (enc_Stmt s), Ob.arr true 0 want.length 1 fun (i : Nat) => [intV (want.getD i (0 : Int))]])) ∧ ((s.Match.getD k.toNat (0 : Int) != (1 : Int)) = false → ∃ (y : Int × Int), VSpec Tryz.prog 39 [] [VV.agg (enc_Env e), intV (s.Args.getD k.toNat (0 : Int))] [] (VV.tup [intV y.fst, intV y.snd]) ∧ ((y.snd != (0 : Int)) = true → leO [] [] ∧ (VV.tup [VV.nl, intV y.snd]).le (VV.tup [encL_Int true r.fst, intV r.snd])) ∧ ((y.snd != (0 : Int)) = false → ((0 : Int) ≤ k ∧ k < (↑want.length : Int)) ∧ J (mkSt [(2, VV.bp 0 0), (3, VV.bp 1 0), (6, VV.ow 2 0 want.length), (16, encL_Int true s.Args), (17, intV (↑s.Args.length : Int)), (18, intV (IntKind.i64.wrap (k + (1 : Int))))] [Ob.box (enc_Env e), Ob.box (enc_Stmt s), Ob.arr true 0 want.length 1 fun (j : Nat) => bif j.beq k.toNat then [intV y.fst] else [intV (want.getD j (0 : Int))]])))) ∧ (decide (k < (↑s.Args.length : Int)) = false → leO [] [] ∧ (VV.tup [encL_Int true want, intV (0 : Int)]).le (VV.tup [encL_Int true r.fst, intV r.snd]))) := by kernel_rfl
theorem xmeets1_raw (r : List Pn) (e : D.Env) (c : Int) (m : List Int) (out : List Pn) (k : Int) (J : St → Prop) : ((fnCtx Tryz.prog tb shEc ann_xmeets true Tryz.f115 [] (encL_Pn true r)).loop [1, 1, 0, 1, 0] J).goal (stXmeets e c m out k) =
    ((decide (k < (↑e.S.Procs.length : Int)) = true → ((k != e.Pid) = true → ∃ (y : List Pn), VSpec Tryz.prog 145 [] [VV.agg [encL_Type true e.M.Globals, encL_Int true e.M.Init, encL_Shape true e.M.Shapes, encL_Int true e.M.Chans, encL_Proc true e.M.Procs, intV e.M.Claim, encL_Expr true e.M.Exprs, encL_Int true e.S.Globals, encL_Chan true e.S.Chans, encL_Process true e.S.Procs, intV e.S.Last, intV e.S.Alone, intV e.S.Claim, intV k, boolV e.Timeout, encL_Bool true e.Able], intV c, encL_Int true m] [] (encL_Pn true y) ∧ (out.length + y.length) * 24 ≤ 140737488355328 ∧ (∀ (i : Nat), i < y.length → ((fun (i : Nat) => enc_Pn (y.getD i default)) i).all VV.mem1 = true) ∧ J (mkSt [(1, intV c), (2, encL_Int true m), (3, VV.bp 0 0), (7, VV.ow 1 0 (out.length + y.length)), (13, intV (↑e.S.Procs.length : Int)), (14, intV (IntKind.i64.wrap (k + (1 : Int))))] [Ob.box (enc_Env e), Ob.arr true 0 (out.length + y.length) 3 fun (i : Nat) => bif i.blt out.length then rowsPn out i else (fun (i : Nat) => enc_Pn (y.getD i default)) (i - out.length)])) ∧ ((k != e.Pid) = false → J (mkSt [(1, intV c), (2, encL_Int true m), (3, VV.bp 0 0), (7, VV.ow 1 0 out.length), (13, intV (↑e.S.Procs.length : Int)), (14, intV (IntKind.i64.wrap (k + (1 : Int))))] [Ob.box (enc_Env e), Ob.arr true 0 out.length 3 fun (i : Nat) => enc_Pn (out.getD i default)]))) ∧ (decide (k < (↑e.S.Procs.length : Int)) = false → leO [] [] ∧ (encL_Pn true out).le (encL_Pn true r))) := by kernel_rfl
theorem xcan1_raw (r : List Ab) (e : D.Env) (ws : List D.Trans) (self : Bool) (n : Nat) (F : Nat → List VV) (some : Bool) (k : Int) (J : St → Prop) : ((fnCtx Tryz.prog tb shEc ann_xcan true Tryz.f32 [] (encL_Ab true r)).loop [1, 1, 1, 0, 1, 0] J).goal (stXcan1 e ws self n F some k) =
    ((decide (k < (↑ws.length : Int)) = true → ((0 : Int) ≤ k ∧ k < (↑ws.length : Int)) ∧ ∃ (y : Ab), VSpec Tryz.prog 49 [] [VV.agg (enc_Env e), VV.agg (enc_Stmt (ws.getD k.toNat default).S), boolV self] [] (VV.agg (enc_Ab y)) ∧ ((0 : Int) ≤ k ∧ k < (↑n : Int)) ∧ SatC ((fnCtx Tryz.prog tb shEc ann_xcan true Tryz.f32 [] (encL_Ab true r)).loop [1, 1, 1, 0, 1, 0] J) [1, 1, 0, 0, 1, 1] (mkSt [(1, encL_Trans true ws), (2, boolV self), (3, VV.bp 0 0), (7, VV.ow 1 0 n), (8, boolV some), (9, intV k), (16, encL_Trans true ws), (17, intV (↑ws.length : Int)), (18, intV k)] [Ob.box (enc_Env e), Ob.arr true 0 n 3 fun (j : Nat) => bif j.beq k.toNat then [boolV y.is, intV y.err, encL_Pn true y.wth] else F j])) ∧ (decide (k < (↑ws.length : Int)) = false → SatC (fnCtx Tryz.prog tb shEc ann_xcan true Tryz.f32 [] (encL_Ab true r)) [1, 1, 1, 1, 0, 1, 0] (mkSt [(7, VV.ow 0 0 n), (8, boolV some), (40, encL_Trans true ws), (41, intV (↑ws.length : Int)), (42, intV (0 : Int))] [Ob.arr true 0 n 3 F]))) := by kernel_rfl
theorem xcanc_raw (r : List Ab) (e : D.Env) (ws : List D.Trans) (self : Bool) (l : List Ab) (some : Bool) (i k : Int) (J : St → Prop) : (((fnCtx Tryz.prog tb shEc ann_xcan true Tryz.f32 [] (encL_Ab true r)).loop [1, 1, 1, 0, 1, 0] J).cut [1, 1, 0, 0, 1, 1]).goal (stXcanC e ws self l some i k) =
    (((true && some == false) = true → (0 : Int) ≤ i ∧ i < (↑l.length : Int)) ∧ J (mkSt [(1, encL_Trans true ws), (2, boolV self), (3, VV.bp 0 0), (7, VV.ow 1 0 l.length), (8, boolV (bif some then true else (l.getD i.toNat default).is)), (16, encL_Trans true ws), (17, intV (↑ws.length : Int)), (18, intV (IntKind.i64.wrap (k + (1 : Int))))] [Ob.box (enc_Env e), Ob.arr true 0 l.length 3 fun (i : Nat) => enc_Ab (l.getD i default)])) := by kernel_rfl
theorem xcan2_raw (r : List Ab) (ws : List D.Trans) (l : List Ab) (some : Bool) (k : Int) (J : St → Prop) : ((fnCtx Tryz.prog tb shEc ann_xcan true Tryz.f32 [] (encL_Ab true r)).loop [1, 1, 1, 1, 0, 1, 0] J).goal (stXcan2 ws l some k) =
    ((decide (k < (↑ws.length : Int)) = true → ((0 : Int) ≤ k ∧ k < (↑ws.length : Int)) ∧ ((bif (ws.getD k.toNat default).S.Kind == 7 then !some else false) = true → ((0 : Int) ≤ k ∧ k < (↑l.length : Int)) ∧ J (mkSt [(7, VV.ow 0 0 l.length), (8, boolV some), (40, encL_Trans true ws), (41, intV (↑ws.length : Int)), (42, intV (IntKind.i64.wrap (k + (1 : Int))))] [Ob.arr true 0 l.length 3 fun (j : Nat) => bif j.beq k.toNat then [boolV true, intV (l.getD k.toNat default).err, encL_Pn true (l.getD k.toNat default).wth] else [boolV (l.getD j default).is, intV (l.getD j default).err, encL_Pn true (l.getD j default).wth]])) ∧ ((bif (ws.getD k.toNat default).S.Kind == 7 then !some else false) = false → J (mkSt [(7, VV.ow 0 0 l.length), (8, boolV some), (40, encL_Trans true ws), (41, intV (↑ws.length : Int)), (42, intV (IntKind.i64.wrap (k + (1 : Int))))] [Ob.arr true 0 l.length 3 fun (i : Nat) => enc_Ab (l.getD i default)]))) ∧ (decide (k < (↑ws.length : Int)) = false → leO [] [] ∧ (encL_Ab true l).le (encL_Ab true r))) := by kernel_rfl
theorem xidxf1_raw (r : Int) (l : List Ab) (k : Int) (J : St → Prop) : ((fnCtx Tryz.prog tb shEc ann_xidxf true Tryz.f176 [] (intV r)).loop [1, 0, 1, 0] J).goal (stXidxf l k) =
    ((decide (k < (↑l.length : Int)) = true → ((0 : Int) ≤ k ∧ k < (↑l.length : Int)) ∧ ∃ (y : Bool), VSpec Tryz.prog 168 [] [VV.agg (enc_Ab (l.getD k.toNat default))] [] (boolV y) ∧ (y = true → leO [] [] ∧ (intV k).le (intV r)) ∧ (y = false → J (mkSt [(0, encL_Ab true l), (1, VV.fn (Fn.func (nat_lit 168)) []), (7, intV (↑l.length : Int)), (8, intV (IntKind.i64.wrap (k + (1 : Int))))] []))) ∧ (decide (k < (↑l.length : Int)) = false → leO [] [] ∧ (intV (-1 : Int)).le (intV r))) := by kernel_rfl
theorem xidxw1_raw (r : Int) (l : List Wy) (w : Wy) (k : Int) (J : St → Prop) : ((fnCtx Tryz.prog tb shEc ann_xidxw true Tryz.f33 [] (intV r)).loop [1, 0, 1, 0] J).goal (stXidxw l w k) =
    ((decide (k < (↑l.length : Int)) = true → ((0 : Int) ≤ k ∧ k < (↑l.length : Int)) ∧ ((w.Esc == (l.getD k.toNat default).Esc && (w.Way == (l.getD k.toNat default).Way && (w.With == (l.getD k.toNat default).With && (w.WithEsc == (l.getD k.toNat default).WithEsc && (w.WithWay == (l.getD k.toNat default).WithWay && (w.Err == (l.getD k.toNat default).Err && true)))))) = true → leO [] [] ∧ (intV k).le (intV r)) ∧ ((w.Esc == (l.getD k.toNat default).Esc && (w.Way == (l.getD k.toNat default).Way && (w.With == (l.getD k.toNat default).With && (w.WithEsc == (l.getD k.toNat default).WithEsc && (w.WithWay == (l.getD k.toNat default).WithWay && (w.Err == (l.getD k.toNat default).Err && true)))))) = false → J (mkSt [(0, encL_Wy true l), (3, VV.bp 0 0), (7, intV (↑l.length : Int)), (8, intV (IntKind.i64.wrap (k + (1 : Int))))] [Ob.box (enc_Wy w)]))) ∧ (decide (k < (↑l.length : Int)) = false → leO [] [] ∧ (intV (-1 : Int)).le (intV r))) := by kernel_rfl
theorem xlistsR1_raw (r : List Pn) (e : D.Env) (c : Int) (m : List Int) (out : List Pn) (l : D.Loc) (k : Int) (J : St → Prop) : ((fnCtx Tryz.prog tb (shR e c m) ann_xlistsR true Tryz.f30 (hsR e c m r) (.tup [])).loop [1, 0, 1, 0] J).goal (stXlistsR e c m out l k) =
    ((decide (k < (↑l.Esc.length : Int)) = true → ((0 : Int) ≤ k ∧ k < (↑l.Esc.length : Int)) ∧ ∃ (y : List Pn × Bool), VSpec Tryz.prog 165 [Ob.box (enc_Env e), Ob.box [intV c], Ob.box [encL_Int true m], Ob.box [VV.ow 4 0 out.length], Ob.arr true 0 out.length 3 fun (i : Nat) => enc_Pn (out.getD i default)] [intV k, encL_Trans true (l.Esc.getD k.toNat []), VV.bp 0 0, VV.bp 1 0, VV.bp 2 0, VV.bp 3 0] [Ob.box (enc_Env e), Ob.box [intV c], Ob.box [encL_Int true m], Ob.box [VV.ow 4 0 y.fst.length], Ob.arr true 0 y.fst.length 3 fun (i : Nat) => enc_Pn (y.fst.getD i default)] (boolV y.snd) ∧ (y.snd = true → leO [Ob.box (enc_Env e), Ob.box [intV c], Ob.box [encL_Int true m], Ob.box [VV.ow 4 0 y.fst.length], Ob.arr true 0 y.fst.length 3 fun (i : Nat) => enc_Pn (y.fst.getD i default)] [Ob.box (enc_Env e), Ob.box [intV c], Ob.box [encL_Int true m], Ob.box [VV.ow 4 0 r.length], Ob.arr true 0 r.length 3 fun (i : Nat) => enc_Pn (r.getD i default)] ∧ (VV.tup []).le (VV.tup [])) ∧ (y.snd = false → J (mkSt [(1, VV.fn (Fn.func (nat_lit 165)) [VV.bp 0 0, VV.bp 1 0, VV.bp 2 0, VV.bp 3 0]), (2, VV.bp 5 0), (7, encL_Transs true l.Esc), (8, intV (↑l.Esc.length : Int)), (9, intV (IntKind.i64.wrap (k + (1 : Int))))] [Ob.box (enc_Env e), Ob.box [intV c], Ob.box [encL_Int true m], Ob.box [VV.ow 4 0 y.fst.length], Ob.arr true 0 y.fst.length 3 fun (i : Nat) => enc_Pn (y.fst.getD i default), Ob.box (enc_Loc l)]))) ∧ (decide (k < (↑l.Esc.length : Int)) = false → ∃ (y : List Pn × Bool), VSpec Tryz.prog 165 [Ob.box (enc_Env e), Ob.box [intV c], Ob.box [encL_Int true m], Ob.box [VV.ow 4 0 out.length], Ob.arr true 0 out.length 3 fun (i : Nat) => enc_Pn (out.getD i default)] [intV (-1 : Int), encL_Trans true l.Out, VV.bp 0 0, VV.bp 1 0, VV.bp 2 0, VV.bp 3 0] [Ob.box (enc_Env e), Ob.box [intV c], Ob.box [encL_Int true m], Ob.box [VV.ow 4 0 y.fst.length], Ob.arr true 0 y.fst.length 3 fun (i : Nat) => enc_Pn (y.fst.getD i default)] (boolV y.snd) ∧ leO [Ob.box (enc_Env e), Ob.box [intV c], Ob.box [encL_Int true m], Ob.box [VV.ow 4 0 y.fst.length], Ob.arr true 0 y.fst.length 3 fun (i : Nat) => enc_Pn (y.fst.getD i default)] [Ob.box (enc_Env e), Ob.box [intV c], Ob.box [encL_Int true m], Ob.box [VV.ow 4 0 r.length], Ob.arr true 0 r.length 3 fun (i : Nat) => enc_Pn (r.getD i default)] ∧ (VV.tup []).le (VV.tup []))) := by kernel_rfl
theorem xlistsW1_raw (r : List Wy) (e : D.Env) (out : List Wy) (l : D.Loc) (k : Int) (J : St → Prop) : ((fnCtx Tryz.prog tb (shW e) ann_xlistsW true Tryz.f30 (hsW e r) (.tup [])).loop [1, 0, 1, 0] J).goal (stXlistsW e out l k) =
    ((decide (k < (↑l.Esc.length : Int)) = true → ((0 : Int) ≤ k ∧ k < (↑l.Esc.length : Int)) ∧ ∃ (y : List Wy × Bool), VSpec Tryz.prog 31 [Ob.box (enc_Env e), Ob.box [VV.ow 2 0 out.length], Ob.arr true 0 out.length 6 fun (i : Nat) => enc_Wy (out.getD i default)] [intV k, encL_Trans true (l.Esc.getD k.toNat []), VV.bp 0 0, VV.bp 1 0] [Ob.box (enc_Env e), Ob.box [VV.ow 2 0 y.fst.length], Ob.arr true 0 y.fst.length 6 fun (i : Nat) => enc_Wy (y.fst.getD i default)] (boolV y.snd) ∧ (y.snd = true → leO [Ob.box (enc_Env e), Ob.box [VV.ow 2 0 y.fst.length], Ob.arr true 0 y.fst.length 6 fun (i : Nat) => enc_Wy (y.fst.getD i default)] [Ob.box (enc_Env e), Ob.box [VV.ow 2 0 r.length], Ob.arr true 0 r.length 6 fun (i : Nat) => enc_Wy (r.getD i default)] ∧ (VV.tup []).le (VV.tup [])) ∧ (y.snd = false → J (mkSt [(1, VV.fn (Fn.func (nat_lit 31)) [VV.bp 0 0, VV.bp 1 0]), (2, VV.bp 3 0), (7, encL_Transs true l.Esc), (8, intV (↑l.Esc.length : Int)), (9, intV (IntKind.i64.wrap (k + (1 : Int))))] [Ob.box (enc_Env e), Ob.box [VV.ow 2 0 y.fst.length], Ob.arr true 0 y.fst.length 6 fun (i : Nat) => enc_Wy (y.fst.getD i default), Ob.box (enc_Loc l)]))) ∧ (decide (k < (↑l.Esc.length : Int)) = false → ∃ (y : List Wy × Bool), VSpec Tryz.prog 31 [Ob.box (enc_Env e), Ob.box [VV.ow 2 0 out.length], Ob.arr true 0 out.length 6 fun (i : Nat) => enc_Wy (out.getD i default)] [intV (-1 : Int), encL_Trans true l.Out, VV.bp 0 0, VV.bp 1 0] [Ob.box (enc_Env e), Ob.box [VV.ow 2 0 y.fst.length], Ob.arr true 0 y.fst.length 6 fun (i : Nat) => enc_Wy (y.fst.getD i default)] (boolV y.snd) ∧ leO [Ob.box (enc_Env e), Ob.box [VV.ow 2 0 y.fst.length], Ob.arr true 0 y.fst.length 6 fun (i : Nat) => enc_Wy (y.fst.getD i default)] [Ob.box (enc_Env e), Ob.box [VV.ow 2 0 r.length], Ob.arr true 0 r.length 6 fun (i : Nat) => enc_Wy (r.getD i default)] ∧ (VV.tup []).le (VV.tup []))) := by kernel_rfl
theorem xrcl1_raw (r : List Pn) (b : Bool) (e : D.Env) (c : Int) (m : List Int) (out : List Pn) (i : Int) (ws : List D.Trans) (k : Int) (J : St → Prop) : ((fnCtx Tryz.prog tb shEc ann_xrcl true Tryz.f165 (hsR e c m r) (boolV b)).loop [1, 0, 1, 0] J).goal (stXrcl e c m out i ws k) =
    ((decide (k < (↑ws.length : Int)) = true → ((0 : Int) ≤ k ∧ k < (↑ws.length : Int)) ∧ ∃ (y : Bool), VSpec Tryz.prog 166 [] [VV.agg (enc_Env e), VV.agg (enc_Stmt (ws.getD k.toNat default).S), intV c, encL_Int true m] [] (boolV y) ∧ (y = true → (out.length + 1) * 24 ≤ 140737488355328 ∧ J (mkSt [(0, intV i), (1, encL_Trans true ws), (2, VV.bp 0 0), (3, VV.bp 1 0), (4, VV.bp 2 0), (5, VV.bp 3 0), (11, encL_Trans true ws), (12, intV (↑ws.length : Int)), (13, intV (IntKind.i64.wrap (k + (1 : Int))))] [Ob.box (enc_Env e), Ob.box [intV c], Ob.box [encL_Int true m], Ob.box [VV.ow 4 0 (out.length + 1)], Ob.arr true 0 (out.length + 1) 3 fun (i_1 : Nat) => bif i_1.blt out.length then [intV (out.getD i_1 default).pid, intV (out.getD i_1 default).esc, intV (out.getD i_1 default).way] else (fun (i_2 : Nat) => List.take 3 (List.drop (i_2 * 3) [intV e.Pid, intV i, intV k])) (i_1 - out.length)])) ∧ (y = false → J (mkSt [(0, intV i), (1, encL_Trans true ws), (2, VV.bp 0 0), (3, VV.bp 1 0), (4, VV.bp 2 0), (5, VV.bp 3 0), (11, encL_Trans true ws), (12, intV (↑ws.length : Int)), (13, intV (IntKind.i64.wrap (k + (1 : Int))))] [Ob.box (enc_Env e), Ob.box [intV c], Ob.box [encL_Int true m], Ob.box [VV.ow 4 0 out.length], Ob.arr true 0 out.length 3 fun (i : Nat) => enc_Pn (out.getD i default)]))) ∧ (decide (k < (↑ws.length : Int)) = false → ∃ (y : List Ab), ((true && decide ((↑out.length : Int) > (0 : Int)) == false) = true → VSpec Tryz.prog 32 [] [VV.agg (enc_Env e), encL_Trans true ws, boolV true] [] (encL_Ab true y)) ∧ ∃ (y_1 : Bool), ((true && decide ((↑out.length : Int) > (0 : Int)) == false) = true → VSpec Tryz.prog 167 [] [encL_Ab true y, VV.fn (Fn.func (nat_lit 168)) []] [] (boolV y_1)) ∧ leO [Ob.box (enc_Env e), Ob.box [intV c], Ob.box [encL_Int true m], Ob.box [VV.ow 4 0 out.length], Ob.arr true 0 out.length 3 fun (i : Nat) => enc_Pn (out.getD i default)] [Ob.box (enc_Env e), Ob.box [intV c], Ob.box [encL_Int true m], Ob.box [VV.ow 4 0 r.length], Ob.arr true 0 r.length 3 fun (i : Nat) => enc_Pn (r.getD i default)] ∧ (boolV (bif decide ((↑out.length : Int) > (0 : Int)) then true else y_1)).le (boolV b))) := by kernel_rfl
theorem xpcl1_raw (r : List Wy) (b : Bool) (e : D.Env) (out : List Wy) (i : Int) (l : List Ab) (k : Int) (J : St → Prop) : ((fnCtx Tryz.prog tb shEc ann_xpcl true Tryz.f31 (hsW e r) (boolV b)).loop [1, 0, 1, 0] J).goal (stXpcl1 e out i l k) =
    ((decide (k < (↑l.length : Int)) = true → ((0 : Int) ≤ k ∧ k < (↑l.length : Int)) ∧ ((bif (l.getD k.toNat default).is then (↑(l.getD k.toNat default).wth.length : Int) == 0 else false) = true → (out.length + 1) * 48 ≤ 140737488355328 ∧ SatC ((fnCtx Tryz.prog tb shEc ann_xpcl true Tryz.f31 (hsW e r) (boolV b)).loop [1, 0, 1, 0] J) [1, 1, 0, 0, 1, 1, 1, 1, 0] (mkSt [(0, intV i), (3, VV.bp 1 0), (9, VV.bp 3 0), (14, encL_Ab true l), (15, intV (↑l.length : Int)), (16, intV k), (39, encL_Pn true (l.getD k.toNat default).wth), (40, intV (↑(l.getD k.toNat default).wth.length : Int)), (41, intV (0 : Int))] [Ob.box (enc_Env e), Ob.box [VV.ow 2 0 (out.length + 1)], Ob.arr true 0 (out.length + 1) 6 fun (i_1 : Nat) => bif i_1.blt out.length then [intV (out.getD i_1 default).Esc, intV (out.getD i_1 default).Way, intV (out.getD i_1 default).With, intV (out.getD i_1 default).WithEsc, intV (out.getD i_1 default).WithWay, intV (out.getD i_1 default).Err] else (fun (i_2 : Nat) => List.take 6 (List.drop (i_2 * 6) [intV i, intV k, intV (-1 : Int), intV (-1 : Int), intV (-1 : Int), intV (l.getD k.toNat default).err])) (i_1 - out.length), Ob.box [intV i, intV k, intV (-1 : Int), intV (-1 : Int), intV (-1 : Int), intV (l.getD k.toNat default).err]])) ∧ ((bif (l.getD k.toNat default).is then (↑(l.getD k.toNat default).wth.length : Int) == 0 else false) = false → SatC ((fnCtx Tryz.prog tb shEc ann_xpcl true Tryz.f31 (hsW e r) (boolV b)).loop [1, 0, 1, 0] J) [1, 1, 0, 0, 1, 1, 1, 1, 0] (mkSt [(0, intV i), (3, VV.bp 1 0), (9, VV.bp 3 0), (14, encL_Ab true l), (15, intV (↑l.length : Int)), (16, intV k), (39, encL_Pn true (l.getD k.toNat default).wth), (40, intV (↑(l.getD k.toNat default).wth.length : Int)), (41, intV (0 : Int))] [Ob.box (enc_Env e), Ob.box [VV.ow 2 0 out.length], Ob.arr true 0 out.length 6 fun (i : Nat) => enc_Wy (out.getD i default), Ob.box [intV i, intV k, intV (-1 : Int), intV (-1 : Int), intV (-1 : Int), intV (l.getD k.toNat default).err]]))) ∧ (decide (k < (↑l.length : Int)) = false → leO [Ob.box (enc_Env e), Ob.box [VV.ow 2 0 out.length], Ob.arr true 0 out.length 6 fun (i : Nat) => enc_Wy (out.getD i default)] [Ob.box (enc_Env e), Ob.box [VV.ow 2 0 r.length], Ob.arr true 0 r.length 6 fun (i : Nat) => enc_Wy (r.getD i default)] ∧ (boolV (decide ((↑out.length : Int) > (0 : Int)))).le (boolV b))) := by kernel_rfl
theorem xpcl2_raw (r : List Wy) (b : Bool) (e : D.Env) (out : List Wy) (i : Int) (l : List Ab) (k : Int) (w : Wy) (ps : List Pn) (j : Int) (J J2 : St → Prop) : (((fnCtx Tryz.prog tb shEc ann_xpcl true Tryz.f31 (hsW e r) (boolV b)).loop [1, 0, 1, 0] J).loop [1, 1, 0, 0, 1, 1, 1, 1, 0] J2).goal (stXpcl2 e out i l k w ps j) =
    ((decide (j < (↑ps.length : Int)) = true → ((0 : Int) ≤ j ∧ j < (↑ps.length : Int)) ∧ (out.length + 1) * 48 ≤ 140737488355328 ∧ J2 (mkSt [(0, intV i), (3, VV.bp 1 0), (9, VV.bp 3 0), (14, encL_Ab true l), (15, intV (↑l.length : Int)), (16, intV k), (39, encL_Pn true ps), (40, intV (↑ps.length : Int)), (41, intV (IntKind.i64.wrap (j + (1 : Int))))] [Ob.box (enc_Env e), Ob.box [VV.ow 2 0 (out.length + 1)], Ob.arr true 0 (out.length + 1) 6 fun (i : Nat) => bif i.blt out.length then [intV (out.getD i default).Esc, intV (out.getD i default).Way, intV (out.getD i default).With, intV (out.getD i default).WithEsc, intV (out.getD i default).WithWay, intV (out.getD i default).Err] else (fun (i : Nat) => List.take 6 (List.drop (i * 6) [intV w.Esc, intV w.Way, intV (ps.getD j.toNat default).pid, intV (ps.getD j.toNat default).esc, intV (ps.getD j.toNat default).way, intV w.Err])) (i - out.length), Ob.box [intV w.Esc, intV w.Way, intV (ps.getD j.toNat default).pid, intV (ps.getD j.toNat default).esc, intV (ps.getD j.toNat default).way, intV w.Err]])) ∧ (decide (j < (↑ps.length : Int)) = false → J (mkSt [(0, intV i), (3, VV.bp 1 0), (14, encL_Ab true l), (15, intV (↑l.length : Int)), (16, intV (IntKind.i64.wrap (k + (1 : Int))))] [Ob.box (enc_Env e), Ob.box [VV.ow 2 0 out.length], Ob.arr true 0 out.length 6 fun (i : Nat) => enc_Wy (out.getD i default)]))) := by kernel_rfl
end Go.Proofs.YtiaebjpcgjkhoaaGreatDoor
namespace Go.Proofs.YtiaebjpcgjkhoaaGreatDoor
open Go.RowKit
structure PidE (e : D.Env) : Prop where
  ok : EnvOk e
  p0 : 0 ≤ e.Pid
section
variable {e : D.Env}
theorem exck_zero (hw : wf_Model e.M) (h : exckP e = 0) : PidE e := by
  unfold exckP at h
  cases c1 : decide (stCheck e.M e.S ≠ 0) with
  | true => rw [c1, cond_true] at h; exact absurd h (of_decide_eq_true c1)
  | false =>
    rw [c1, cond_false] at h
    obtain ⟨h1, h2⟩ := check_zero (show stCheck e.M e.S = 0 by simpa using c1)
    cases c2 : (decide (e.Pid < 0) || decide ((e.S.Procs.length : Int) ≤ e.Pid)) with
    | true => rw [c2, cond_true] at h; simp at h
    | false =>
      simp only [Bool.or_eq_false_iff, decide_eq_false_iff_not] at c2
      exact ⟨⟨h2, h1, hw, by omega, by omega⟩, by omega⟩
theorem PidE.small (h : PidE e) : SmallS' e.S := h.ok.fit.small
theorem PidE.lt (h : PidE e) : e.Pid.toNat < e.S.Procs.length := by have := h.ok.pid; have := h.p0; omega
theorem PidE.mem (h : PidE e) : psAt e e.Pid ∈ e.S.Procs := getD_mem h.lt
theorem PidE.facts (h : PidE e) : (0 ≤ (psAt e e.Pid).Type_ ∧ (psAt e e.Pid).Type_ < e.M.Procs.length) ∧ (0 ≤ (psAt e e.Pid).Loc ∧ (psAt e e.Pid).Loc < (procE e).Locs.length) :=
  let hp := proc_facts (h.ok.proc h.mem); ⟨hp.1, hp.2.1⟩
theorem PidE.wproc (h : PidE e) : wf_Proc (procE e) := h.ok.wf.Procs.2 _ (getD_mem (by have := h.facts.1; omega))
theorem PidE.wloc (h : PidE e) : wf_Loc (locE e) := h.wproc.Locs.2 _ (getD_mem (by have := h.facts.2; omega))
theorem xck_spec (hw : wf_Model e.M) (hs : SmallS' e.S) : VSpec Tryz.prog 15 [] [.agg (enc_Env e)] [] (intV (exckP e)) := by
  refine vspec_raw tb_ok mixed Tryz.func15 (by kernel_rfl) rfl (xck_raw _ e) ⟨_, stcheck_spec hw hs (fun h => (lim_of h).clp), fun h => leafI (ct (by simpa using h) rfl), fun h => ⟨fun h1 => leafI (cf (by simpa using h) (ct ?_ rfl)), fun h1 => leafI (cf (by simpa using h) (cf ?_ rfl))⟩⟩
  · simp only [bif_or, ge_iff_le] at h1; exact h1
  · simp only [bif_or, ge_iff_le] at h1; exact h1
theorem xloc_spec (h : PidE e) : VSpec Tryz.prog 21 [] [.agg (enc_Env e)] [] (.agg (enc_Loc (locE e))) :=
  vspec_raw tb_ok mixed Tryz.func21 (by kernel_rfl) rfl (xloc_raw _ e) ⟨⟨h.p0, h.ok.pid.2⟩, h.facts.1, h.facts.2, trivial, VV.le_refl _⟩
theorem xproc_spec (h : PidE e) : VSpec Tryz.prog 27 [] [.agg (enc_Env e)] [] (.agg (enc_Proc (procE e))) :=
  vspec_raw tb_ok mixed Tryz.func27 (by kernel_rfl) rfl (xproc_raw _ e) ⟨⟨h.p0, h.ok.pid.2⟩, h.facts.1, trivial, VV.le_refl _⟩
theorem xruns_spec {x : Int} (h : 0 ≤ x → x < e.M.Exprs.length) : VSpec Tryz.prog 36 [] [.agg (enc_Model e.M), intV x] [] (boolV (runsE e x)) := by
  refine vspec_raw tb_ok mixed Tryz.func36 (by kernel_rfl) rfl (xruns_raw _ e.M x) ⟨fun hx => ?_, leafB ?_⟩
  · have hx : 0 ≤ x := by simpa using hx
    exact ⟨hx, h hx⟩
  · unfold runsE exAt
    rw [bif_and, ieq]
theorem xroom_spec : VSpec Tryz.prog 77 [] [.agg (enc_Env e)] [] (.agg (enc_Ab (roomE e))) := by
  refine vspec_raw tb_ok mixed Tryz.func77 (by kernel_rfl) rfl (xroom_raw _ e) ⟨trivial, VV.le_agg ⟨VV.le_eq ?_, VV.le_refl _, VV.le_nil, trivial⟩⟩
  have : decide ((e.S.Procs.length : Int) < 16) = decide (e.S.Procs.length < 16) := by rw [Bool.eq_iff_iff, decide_eq_true_eq, decide_eq_true_eq]; omega
  rw [this]; rfl
theorem xnone_spec {err : Int} : VSpec Tryz.prog 28 [] [intV err] [] (.agg (enc_Wy (noneW err))) :=
  vspec_raw tb_ok mixed Tryz.func28 (by kernel_rfl) rfl (xnone_raw _ err) ⟨trivial, VV.le_refl _⟩
theorem xway_spec {l : D.Loc} {esc i : Int} (h1 : esc < 0 → 0 ≤ i ∧ i < l.Out.length) (h2 : 0 ≤ esc → esc < l.Esc.length ∧ 0 ≤ i ∧ i < (l.Esc.getD esc.toNat []).length) :
    VSpec Tryz.prog 20 [] [.agg (enc_Loc l), intV esc, intV i] [] (.agg (enc_Trans ((bif decide (esc < 0) then l.Out else l.Esc.getD esc.toNat []).getD i.toNat default))) := by
  refine vspec_raw tb_ok mixed Tryz.func20 (by kernel_rfl) rfl (xway_raw _ l esc i) ⟨fun h => ⟨h1 (by simpa using h), trivial, ?_⟩, fun h => ?_⟩
  · rw [h, cond_true]; exact VV.le_refl _
  · have h0 : 0 ≤ esc := by simpa using h
    refine ⟨⟨h0, (h2 h0).1⟩, (h2 h0).2, trivial, ?_⟩
    rw [h, cond_false]; exact VV.le_refl _
theorem allG_cons {ev : Evl} {out : List Int} {x : Int} {l : List Int} : allG ev out (x :: l) = bif decide ((ev x).2 ≠ 0) then ([], (ev x).2) else allG ev (out ++ [(ev x).1]) l := rfl
theorem xall_gen {l : List Int} {hs' : List Ob} {r : VV} (hev : ∀ x ∈ l, VSpec Tryz.prog 39 [] [.agg (enc_EnvB e), intV x] [] (vII (evalP e x))) (hl : l.length ≤ 1048576)
    (h1 : ∀ er, allE e l = ([], er) → er ≠ 0 → leO [] hs' ∧ VV.le (.tup [.nl, intV er]) r) (h2 : ∀ out, allE e l = (out, 0) → leO [.arr true 0 out.length 1 (rowsIn out)] hs' ∧ VV.le (.tup [.ow 0 0 out.length, intV 0]) r) :
    VSpec Tryz.prog 40 [] [.agg (enc_EnvB e), encL_Int true l] hs' r := by
  refine vspec_raw tb_ok mixed Tryz.func40 (by kernel_rfl) rfl (xall_raw hs' r e l) ?_
  refine SatC.own 1 6 1 (rowsIn []) rfl ?_
  change SatC _ _ (stXall e l [] 0)
  refine loop_raw tb_ok mixed (fun g st => ∃ (k : Nat) (out : List Int), k ≤ l.length ∧ g = l.length - k ∧ out.length ≤ k ∧ allG (evalP e) out (l.drop k) = allE e l ∧ st = stXall e l out k) (by kernel_rfl) (by kernel_rfl) ⟨_, Up.of ⟨0, [], Nat.zero_le _, rfl, Nat.zero_le _, rfl, rfl⟩⟩ ?_
  rintro g st ⟨k, out, hk, rfl, ho, hq, rfl⟩
  refine Asks.raw (xall1_raw hs' r e l out k _) ⟨fun hlt => ?_, fun hge => ?_⟩
  · have hlt' : k < l.length := by have := lt_of hlt; omega
    have hto : (k : Int).toNat = k := by omega
    rw [hto]
    rw [drop_cons (d := 0) hlt', allG_cons] at hq
    refine ⟨⟨by omega, by omega⟩, evalP e (l.getD k 0), hev _ (getD_mem hlt'), fun he => ?_, fun he => ⟨by omega, l.length - (k + 1), by omega, Up.mk (hs' := [.box (enc_EnvB e), .arr true 0 (out.length + 1) 1 (rowsIn (out ++ [(evalP e (l.getD k 0)).1]))]) (leT_refl _) ⟨Ob.le_refl _, Ob.le_arr fun i hi => leL_eq (rows_app (f := fun n => [intV n]) (d := 0) (l := out) (r := [(evalP e (l.getD k 0)).1]) (F := fun i => [.sc (.int .i64 (out.getD i 0))]) (fun _ _ => rfl) row_one (by simp; omega)), trivial⟩ ⟨k + 1, out ++ [(evalP e (l.getD k 0)).1], by omega, rfl, by simp; omega, ?_, ?_⟩⟩⟩
    · rw [show decide ((evalP e (l.getD k 0)).2 ≠ 0) = true by simpa using he, cond_true] at hq
      exact h1 _ hq.symm (by simpa using he)
    · rw [show decide ((evalP e (l.getD k 0)).2 ≠ 0) = false by simpa using he, cond_false] at hq
      exact hq
    · rw [wrap_succ (by omega)]
      unfold stXall
      rw [List.length_append]; rfl
  · have hge' : l.length ≤ k := by have := ge_of hge; omega
    rw [List.drop_of_length_le hge'] at hq
    exact h2 out hq.symm
theorem xall_spec {l : List Int} (hev : ∀ x ∈ l, VSpec Tryz.prog 39 [] [.agg (enc_EnvB e), intV x] [] (vII (evalP e x))) (hl : l.length ≤ 1048576) :
    VSpec Tryz.prog 40 [] [.agg (enc_EnvB e), encL_Int true l] [.arr true 0 (allE e l).1.length 1 (rowsIn (allE e l).1)] (.tup [.ow 0 0 (allE e l).1.length, intV (allE e l).2]) := by
  rcases hq : allE e l with ⟨out, er⟩
  by_cases he : er = 0
  · subst he
    refine xall_gen hev hl (fun er' h h' => ?_) fun out' h => ?_
    · rw [hq] at h; exact absurd (congrArg Prod.snd h).symm h'
    · rw [hq] at h
      obtain rfl : out = out' := congrArg Prod.fst h
      exact ⟨⟨Ob.le_refl _, trivial⟩, VV.le_refl _⟩
  · have hout : out = [] := by
      have key : ∀ (l : List Int) (o : List Int), (allG (evalP e) o l).2 ≠ 0 → (allG (evalP e) o l).1 = [] := by
        intro l
        induction l with
        | nil => intro o h; exact absurd rfl h
        | cons x l ih =>
          intro o h
          rw [allG_cons] at h ⊢
          cases c : decide ((evalP e x).2 ≠ 0) with
          | true => rfl
          | false => rw [c, cond_false] at h; exact ih _ h
      have := key l [] (by have : allG (evalP e) [] l = (out, er) := hq; rw [this]; exact he)
      have e2 : allG (evalP e) [] l = (out, er) := hq
      rw [e2] at this; exact this
    subst hout
    have h := xall_gen (hs' := []) (r := .tup [.nl, intV er]) hev hl (fun er' h h' => ?_) fun out' h => ?_
    · exact h.ownR 0 rfl 1 (rowsIn [])
    · rw [hq] at h
      obtain rfl : er = er' := congrArg Prod.snd h
      exact ⟨trivial, VV.le_refl _⟩
    · rw [hq] at h; exact absurd (congrArg Prod.snd h) he
end
end Go.Proofs.YtiaebjpcgjkhoaaGreatDoor
