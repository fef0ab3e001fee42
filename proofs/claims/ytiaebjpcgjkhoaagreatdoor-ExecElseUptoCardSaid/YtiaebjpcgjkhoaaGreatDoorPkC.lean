/-
  Texts, joined: GdS, GdA, GdH, GdL, GdW1, GdW2, GdW3, GdW4, GdW5, GdW6, CkP, CkS, CkA, CkH, CkW, Touch, StClone, ExS, ExA.
-/
import Derived.Test.YtiaebjpcgjkhoaaGreatDoorPkB
import Derived.KernelRfl
import Derived.WalkKit
import Derived.OneCell
import Derived.Deep.QuietTactic
import Derived.BigRegion
import Derived.Deep.RegionLaw
import Derived.Deep.AppendLies
import Derived.Lib.SliceRun
import Derived.Lib.Hide
namespace Go.Proofs.YtiaebjpcgjkhoaaGreatDoor
open Go.RowKit
def shpI : Shp := { α := Int, enc := fun b => ([], intV b) }
def shpB : Shp := { α := Bool, enc := fun b => ([], boolV b) }
def shpL : Shp := { α := List Int, enc := fun l => ([], encL_Int true l) }
def shpW : Shp := { α := List (List D.Trans), enc := fun l => ([], encL_Transs true l) }
def shpII : Shp := { α := Int × Int, enc := fun y => ([], .tup [intV y.1, intV y.2]) }
def shpIII : Shp := { α := Int × Int × Int, enc := fun y => ([], .tup [intV y.1, intV y.2.1, intV y.2.2]) }
def shGd (f : FuncId) : Shp :=
  bif Nat.beq f 146 || Nat.beq f 130 || Nat.beq f 156 || Nat.beq f 163 then shpI
  else bif Nat.beq f 133 then shpL else bif Nat.beq f 134 then shpW else bif Nat.beq f 102 then shpII else bif Nat.beq f 70 then shpIII else shpB
def tpM (m : D.Model) : VV := .tp (enc_Model m)
def annNo : Ann := { keep := fun _ => [] }
end Go.Proofs.YtiaebjpcgjkhoaaGreatDoor
namespace Go.Proofs.YtiaebjpcgjkhoaaGreatDoor
open Go.RowKit
def ann_reach : Ann := { keep := fun
  | [0, 1, 0, 1, 1, 1] => [3, 24, 25, 26]
  | _ => [] }
def ann_types : Ann := { keep := fun
  | [0, 1, 0, 1] => [0, 1, 7, 8]
  | _ => [] }
def ann_shape : Ann := { keep := fun
  | [0, 1, 0, 1, 1] => [26, 27, 28]
  | _ => [] }
def ann_below : Ann := { keep := fun
  | [0, 1, 0, 1] => [0, 7, 8, 9]
  | _ => [] }
def ann_belowt : Ann := { keep := fun
  | [0, 1, 0, 1] => [0, 7, 8, 9]
  | _ => [] }
def ann_vari : Ann := { keep := fun
  | [0, 1, 0, 1, 1, 1] => [1, 58, 59, 60]
  | _ => [] }
def ann_matched : Ann := { keep := fun
  | [0, 1, 0, 1, 1] => [0, 2, 32, 33, 34]
  | _ => [] }
def ann_expr : Ann := { keep := fun
  | [0, 1, 0, 1, 1, 1] => [0, 1, 5, 30, 31]
  | _ => [] }
def ann_graph : Ann := { keep := fun
  | [0, 1, 0, 1, 1, 1, 1] => [1, 3, 4, 43, 44, 45]
  | [0, 1, 1, 1, 0, 0, 1, 1, 0, 0, 1, 0, 1, 1, 1, 1] => [1, 3, 4, 43, 44, 45, 79, 80, 81]
  | [0, 1, 1, 1, 1, 1, 0, 0, 1, 1, 0, 0, 1, 1, 1, 0, 0, 1, 1, 0, 0, 1, 0, 1, 1, 1, 1] => [1, 3, 4, 43, 44, 45, 79, 80, 81, 99, 100, 101]
  | _ => [] }
def ann_claimed : Ann := { keep := fun
  | [0, 1, 0, 1, 1] => [25, 26, 27]
  | _ => [] }
def ann_taken : Ann := { keep := fun
  | [0, 1, 0, 1, 1] => [0, 3, 21, 22, 23]
  | _ => [] }
def ann_uses : Ann := { keep := fun
  | [1] => [0, 1, 2, 3, 9, 10, 11]
  | _ => [] }
def ann_proc : Ann := { keep := fun
  | [0, 1, 0, 1, 1] => [0, 1, 5, 21, 22, 23]
  | [0, 1, 1, 0, 0, 1, 1, 0, 0, 1, 0, 1, 1] => [0, 1, 5, 21, 22, 23, 28, 29, 30]
  | [0, 1, 1, 0, 0, 1, 1, 0, 0, 1, 1, 0, 0, 1, 1, 0, 0, 1, 0, 1, 1] => [0, 1, 5, 21, 22, 23, 28, 29, 30, 34, 35, 36]
  | _ => [] }
def ann_tables : Ann := { keep := fun
  | [0, 1, 0, 1, 1, 1, 1, 1] => [0, 4, 50, 51, 52]
  | [0, 1, 0, 1, 1, 1, 1, 1, 1] => [0, 4, 63, 64, 65]
  | [0, 1, 0, 1, 1, 1, 1, 1, 1, 1, 1, 1] => [0, 4, 10, 116, 117]
  | [0, 1, 1, 1, 0, 0, 1, 1, 0, 0, 1, 0, 1, 1, 1, 1, 1, 1, 1, 1, 1] => [0, 4, 10, 11, 116, 117, 130, 131, 132]
  | _ => [] }
def ann_held : Ann := { keep := fun
  | [0, 1, 1, 0, 1, 0, 1, 1, 1] => [3, 45, 46, 47]
  | _ => [] }
def ann_check : Ann := { keep := fun
  | [0, 1, 0, 1, 1, 1, 1] => [1, 5, 8, 25, 26, 27]
  | [0, 1, 0, 1, 1, 1, 1, 1, 1] => [5, 74, 75]
  | _ => [] }
def rowsBo (l : List Bool) : Nat → List VV := fun i => [boolV (l.getD i false)]
def rowsIn (l : List Int) : Nat → List VV := fun i => [intV (l.getD i 0)]
def stReach (n : Int) (v : D.Var) (k : Int) : St := mkSt [(3, intV n), (24, encL_Dim true v.Dims), (25, intV v.Dims.length), (26, intV k)] []
def stTypes (t : List D.Type) (init : List Int) (k : Int) : St := mkSt [(0, encL_Type true t), (1, encL_Int true init), (7, intV t.length), (8, intV k)] []
def stShape (s : D.Shape) (k : Int) : St := mkSt [(26, encL_Type true s.Fields), (27, intV s.Fields.length), (28, intV k)] []
def stBelow (a : Int) (l : List Int) (k : Int) : St := mkSt [(0, intV a), (7, encL_Int false l), (8, intV l.length), (9, intV k)] []
def stBelowt (a : Int) (l : List Int) (k : Int) : St := mkSt [(0, intV a), (7, encL_Int true l), (8, intV l.length), (9, intV k)] []
def stVari (a : Int) (v : D.Var) (k : Int) : St := mkSt [(1, intV a), (58, encL_Dim true v.Dims), (59, intV v.Dims.length), (60, intV k)] []
def stMatched (m : D.Model) (args mt : List Int) (k : Int) : St := mkSt [(0, tpM m), (2, encL_Int true args), (32, encL_Int true mt), (33, intV mt.length), (34, intV k)] []
def stExpr (m : D.Model) (a : Int) (x : D.Expr) (k : Int) : St := mkSt [(0, tpM m), (1, intV a), (5, .bp 0 0), (30, .agg [intV x.A, intV x.B, intV x.C]), (31, intV k)] [.box (enc_Expr x)]
def stGraph1 (p : D.Proc) (many k : Int) : St := mkSt [(1, .bp 0 0), (3, intV p.Locs.length), (4, intV many), (43, encL_Loc true p.Locs), (44, intV p.Locs.length), (45, intV k)] [.box (enc_Proc p)]
def stGraph2 (p : D.Proc) (many k : Int) (ws : List (List D.Trans)) (j : Int) : St := mkSt [(1, .bp 0 0), (3, intV p.Locs.length), (4, intV many), (43, encL_Loc true p.Locs), (44, intV p.Locs.length), (45, intV k), (79, encL_Transs true ws), (80, intV ws.length), (81, intV j)] [.box (enc_Proc p)]
def stGraph3 (p : D.Proc) (many k : Int) (ws : List (List D.Trans)) (j : Int) (w : List D.Trans) (h : Int) : St := mkSt [(1, .bp 0 0), (3, intV p.Locs.length), (4, intV many), (43, encL_Loc true p.Locs), (44, intV p.Locs.length), (45, intV k), (79, encL_Transs true ws), (80, intV ws.length), (81, intV j), (99, encL_Trans true w), (100, intV w.length), (101, intV h)] [.box (enc_Proc p)]
def stClaimed (p : D.Proc) (k : Int) : St := mkSt [(25, encL_Loc true p.Locs), (26, intV p.Locs.length), (27, intV k)] []
def stTaken (m : D.Model) (s : D.Stmt) (k : Int) : St := mkSt [(0, tpM m), (3, .bp 0 0), (21, encL_Int true s.Match), (22, intV s.Match.length), (23, intV k)] [.box (enc_Stmt s)]
def stUses (m : D.Model) (i : Int) (list : List Int) (run : Int) (seen : List Bool) (todo : List Int) (k : Int) : St := mkSt [(0, tpM m), (1, intV i), (2, encL_Int false list), (3, intV run), (9, .ow 0 0 seen.length), (10, .ow 1 0 todo.length), (11, intV k)] [.arr true 0 seen.length 1 (rowsBo seen), .arr true 0 todo.length 1 (rowsIn todo)]
def stUses0 (m : D.Model) (i : Int) (list : List Int) (run : Int) : St := mkSt [(0, tpM m), (1, intV i), (2, encL_Int false list), (3, intV run), (9, .dead), (10, .dead), (11, .dead)] []
def stProc1 (m : D.Model) (i : Int) (p : D.Proc) (k : Int) : St := mkSt [(0, tpM m), (1, intV i), (5, .bp 0 0), (21, encL_Loc true p.Locs), (22, intV p.Locs.length), (23, intV k)] [.box (enc_Proc p)]
def stProc2 (m : D.Model) (i : Int) (p : D.Proc) (k : Int) (ws : List (List D.Trans)) (j : Int) : St := mkSt [(0, tpM m), (1, intV i), (5, .bp 0 0), (21, encL_Loc true p.Locs), (22, intV p.Locs.length), (23, intV k), (28, encL_Transs true ws), (29, intV ws.length), (30, intV j)] [.box (enc_Proc p)]
def stProc3 (m : D.Model) (i : Int) (p : D.Proc) (k : Int) (ws : List (List D.Trans)) (j : Int) (w : List D.Trans) (h : Int) : St := mkSt [(0, tpM m), (1, intV i), (5, .bp 0 0), (21, encL_Loc true p.Locs), (22, intV p.Locs.length), (23, intV k), (28, encL_Transs true ws), (29, intV ws.length), (30, intV j), (34, encL_Trans true w), (35, intV w.length), (36, intV h)] [.box (enc_Proc p)]
def stTab1 (m : D.Model) (k : Int) : St := mkSt [(0, tpM m), (4, .bp 0 0), (50, encL_Shape true m.Shapes), (51, intV m.Shapes.length), (52, intV k)] [.box (enc_Model m)]
def stTab2 (m : D.Model) (k : Int) : St := mkSt [(0, tpM m), (4, .bp 0 0), (63, encL_Int true m.Chans), (64, intV m.Chans.length), (65, intV k)] [.box (enc_Model m)]
def stTab3 (m : D.Model) (had : List Bool) (k : Int) : St := mkSt [(0, tpM m), (4, .bp 0 0), (10, .ow 1 0 had.length), (116, intV m.Exprs.length), (117, intV k)] [.box (enc_Model m), .arr true 0 had.length 1 (rowsBo had)]
def stTab4 (m : D.Model) (had : List Bool) (k : Int) (l : List Int) (j : Int) : St := mkSt [(0, tpM m), (4, .bp 0 0), (10, .ow 1 0 had.length), (11, intV k), (116, intV m.Exprs.length), (117, intV k), (130, encL_Int true l), (131, intV l.length), (132, intV j)] [.box (enc_Model m), .arr true 0 had.length 1 (rowsBo had)]
def stHeld (x : D.Expr) (l : List Int) (k : Int) : St := mkSt [(3, .ow 0 0 l.length), (45, encL_Dim true x.V.Dims), (46, intV x.V.Dims.length), (47, intV k)] [.arr true 0 l.length 1 (rowsIn l)]
def stCheck1 (m : D.Model) (many k : Int) : St := mkSt [(1, .bp 0 0), (5, .bp 1 0), (8, intV many), (25, encL_Proc true m.Procs), (26, intV m.Procs.length), (27, intV k)] [.box (enc_Model m), .box (enc_Model m)]
def stCheck2 (m : D.Model) (k : Int) : St := mkSt [(5, .bp 0 0), (74, intV m.Procs.length), (75, intV k)] [.box (enc_Model m)]
end Go.Proofs.YtiaebjpcgjkhoaaGreatDoor
namespace Go.Proofs.YtiaebjpcgjkhoaaGreatDoor
open Go.RowKit
set_option maxRecDepth 100000
theorem typ_raw (b : Bool) (t : D.Type) : (fnCtx Tryz.prog tb shGd annNo true Tryz.f93 [] (boolV b)).goal (St.init [] [.agg (enc_Type t)]) =
    (leO [] [] ∧ (boolV (bif bif decide (t.Bits ≥ (1 : Int)) then decide (t.Bits ≤ (32 : Int)) else false then bif bif !t.Signed then true else t.Bits == 16 then true else t.Bits == 32 else false)).le (boolV b)) := by kernel_rfl
theorem fits_raw (b : Bool) (t : D.Type) (v : Int) : (fnCtx Tryz.prog tb shGd annNo true Tryz.f107 [] (boolV b)).goal (St.init [] [.agg (enc_Type t), intV v]) =
    (∃ (y : Bool), VSpec Tryz.prog 93 [] [VV.agg (enc_Type t)] [] (boolV y) ∧ ((!y) = true → leO [] [] ∧ (boolV false).le (boolV b)) ∧ ((!y) = false → (t.Signed = true → (0 : Int) ≤ IntKind.i64.wrap (t.Bits - (1 : Int)) ∧ ((true && decide (v ≥ IntKind.i64.wrap ((-1 : Int) * (2 : Int) ^ min (IntKind.i64.wrap (t.Bits - (1 : Int))).toNat IntKind.i64.bits)) == true) = true → (0 : Int) ≤ IntKind.i64.wrap (t.Bits - (1 : Int))) ∧ leO [] [] ∧ (boolV (bif decide (v ≥ IntKind.i64.wrap ((-1 : Int) * (2 : Int) ^ min (IntKind.i64.wrap (t.Bits - (1 : Int))).toNat IntKind.i64.bits)) then decide (v < IntKind.i64.wrap ((1 : Int) * (2 : Int) ^ min (IntKind.i64.wrap (t.Bits - (1 : Int))).toNat IntKind.i64.bits)) else false)).le (boolV b)) ∧ (t.Signed = false → ((true && decide (v ≥ (0 : Int)) == true) = true → (0 : Int) ≤ t.Bits) ∧ leO [] [] ∧ (boolV (bif decide (v ≥ (0 : Int)) then decide (v < IntKind.i64.wrap ((1 : Int) * (2 : Int) ^ min t.Bits.toNat IntKind.i64.bits)) else false)).le (boolV b)))) := by kernel_rfl
theorem reach_raw (r : Int) (v : D.Var) : (fnCtx Tryz.prog tb shGd ann_reach true Tryz.f146 [] (intV r)).goal (St.init [] [.agg (enc_Var v)]) =
    (((bif bif decide (v.Slot < (0 : Int)) then true else decide (v.Slot > (1073741824 : Int)) then true else decide ((↑v.Dims.length : Int) > (4 : Int))) = true → leO [] [] ∧ (intV (0 : Int)).le (intV r)) ∧ ((bif bif decide (v.Slot < (0 : Int)) then true else decide (v.Slot > (1073741824 : Int)) then true else decide ((↑v.Dims.length : Int) > (4 : Int))) = false → SatC (fnCtx Tryz.prog tb shGd ann_reach true Tryz.f146 [] (intV r)) [1, 1, 1, 0, 1, 0] (mkSt [(3, intV (IntKind.i64.wrap (v.Slot + (1 : Int)))), (24, encL_Dim true v.Dims), (25, intV (↑v.Dims.length : Int)), (26, intV (0 : Int))] []))) := by kernel_rfl
theorem types_raw (r : Int) (t : List D.Type) (init : List Int) : (fnCtx Tryz.prog tb shGd ann_types true Tryz.f130 [] (intV r)).goal (St.init [] [encL_Type true t, encL_Int true init]) =
    (SatC (fnCtx Tryz.prog tb shGd ann_types true Tryz.f130 [] (intV r)) [1, 0, 1, 0] (mkSt [(0, encL_Type true t), (1, encL_Int true init), (7, intV (↑t.length : Int)), (8, intV (0 : Int))] [])) := by kernel_rfl
theorem shape_raw (b : Bool) (s : D.Shape) : (fnCtx Tryz.prog tb shGd ann_shape true Tryz.f131 [] (boolV b)).goal (St.init [] [.agg (enc_Shape s)]) =
    (((bif bif bif decide (s.Room < (0 : Int)) then true else decide (s.Room > (16 : Int)) then true else decide ((↑s.Fields.length : Int) < (1 : Int)) then true else decide ((↑s.Fields.length : Int) > (8 : Int))) = true → leO [] [] ∧ (boolV false).le (boolV b)) ∧ ((bif bif bif decide (s.Room < (0 : Int)) then true else decide (s.Room > (16 : Int)) then true else decide ((↑s.Fields.length : Int) < (1 : Int)) then true else decide ((↑s.Fields.length : Int) > (8 : Int))) = false → SatC (fnCtx Tryz.prog tb shGd ann_shape true Tryz.f131 [] (boolV b)) [1, 1, 0, 1, 0] (mkSt [(26, encL_Type true s.Fields), (27, intV (↑s.Fields.length : Int)), (28, intV (0 : Int))] []))) := by kernel_rfl
theorem procty_raw (b : Bool) (m : D.Model) (n : Int) : (fnCtx Tryz.prog tb shGd annNo true Tryz.f161 [] (boolV b)).goal (St.init [] [tpM m, intV n]) =
    (leO [] [] ∧ (boolV (bif bif decide (n ≥ (0 : Int)) then decide (n < (↑m.Procs.length : Int)) else false then n != m.Claim else false)).le (boolV b)) := by kernel_rfl
theorem below_raw (b : Bool) (a : Int) (l : List Int) : (fnCtx Tryz.prog tb shGd ann_below true Tryz.f157 [] (boolV b)).goal (St.init [] [intV a, encL_Int false l]) =
    (SatC (fnCtx Tryz.prog tb shGd ann_below true Tryz.f157 [] (boolV b)) [1, 0, 1, 0] (mkSt [(0, intV a), (7, encL_Int false l), (8, intV (↑l.length : Int)), (9, intV (0 : Int))] [])) := by kernel_rfl
theorem belowt_raw (b : Bool) (a : Int) (l : List Int) : (fnCtx Tryz.prog tb shGd ann_belowt true Tryz.f157 [] (boolV b)).goal (St.init [] [intV a, encL_Int true l]) =
    (SatC (fnCtx Tryz.prog tb shGd ann_belowt true Tryz.f157 [] (boolV b)) [1, 0, 1, 0] (mkSt [(0, intV a), (7, encL_Int true l), (8, intV (↑l.length : Int)), (9, intV (0 : Int))] [])) := by kernel_rfl
theorem vari_raw (b : Bool) (m : D.Model) (a : Int) (v : D.Var) : (fnCtx Tryz.prog tb shGd ann_vari true Tryz.f158 [] (boolV b)).goal (St.init [] [tpM m, intV a, .agg (enc_Var v)]) =
    (((bif bif bif bif decide (v.Scope < (0 : Int)) then true else decide (v.Scope > (2 : Int)) then true else decide (v.Slot < (0 : Int)) then true else decide (v.Slot > (128 : Int)) then true else decide ((↑v.Dims.length : Int) > (4 : Int))) = true → leO [] [] ∧ (boolV false).le (boolV b)) ∧ ((bif bif bif bif decide (v.Scope < (0 : Int)) then true else decide (v.Scope > (2 : Int)) then true else decide (v.Slot < (0 : Int)) then true else decide (v.Slot > (128 : Int)) then true else decide ((↑v.Dims.length : Int) > (4 : Int))) = false → ((v.Scope == 2) = true → ∃ (y : Bool), VSpec Tryz.prog 157 [] [intV a, VV.sl false 1 1 fun (i : Nat) => List.take 1 (List.drop (i * 1) [intV v.Who])] [] (boolV y) ∧ ∃ (y_1 : Bool), ((true && (!y) == false) = true → VSpec Tryz.prog 161 [] [VV.tp (enc_Model m), intV v.Type_] [] (boolV y_1)) ∧ ((bif !y then true else !y_1) = true → leO [] [] ∧ (boolV false).le (boolV b)) ∧ ((bif !y then true else !y_1) = false → SatC (fnCtx Tryz.prog tb shGd ann_vari true Tryz.f158 [] (boolV b)) [1, 1, 1, 0, 1, 0] (mkSt [(1, intV a), (58, encL_Dim true v.Dims), (59, intV (↑v.Dims.length : Int)), (60, intV (0 : Int))] []))) ∧ ((v.Scope == 2) = false → ((bif v.Who != (-1 : Int) then true else v.Type_ != (-1 : Int)) = true → leO [] [] ∧ (boolV false).le (boolV b)) ∧ ((bif v.Who != (-1 : Int) then true else v.Type_ != (-1 : Int)) = false → SatC (fnCtx Tryz.prog tb shGd ann_vari true Tryz.f158 [] (boolV b)) [1, 1, 1, 0, 1, 0] (mkSt [(1, intV a), (58, encL_Dim true v.Dims), (59, intV (↑v.Dims.length : Int)), (60, intV (0 : Int))] []))))) := by kernel_rfl
theorem parts_raw (r : Int) (op : Int) : (fnCtx Tryz.prog tb shGd annNo true Tryz.f156 [] (intV r)).goal (St.init [] [intV op]) =
    (((op == 1) = true → ((op == 1) = true → leO [] [] ∧ (intV (0 : Int)).le (intV r)) ∧ ((op == 1) = false → ((op == 24) = true → leO [] [] ∧ (intV (3 : Int)).le (intV r)) ∧ ((op == 24) = false → ((bif decide (op ≥ (6 : Int)) then decide (op ≤ (23 : Int)) else false) = true → leO [] [] ∧ (intV (2 : Int)).le (intV r)) ∧ ((bif decide (op ≥ (6 : Int)) then decide (op ≤ (23 : Int)) else false) = false → leO [] [] ∧ (intV (1 : Int)).le (intV r))))) ∧ ((op == 1) = false → ((op == 2) = true → ((op == 2) = true → leO [] [] ∧ (intV (0 : Int)).le (intV r)) ∧ ((op == 2) = false → ((op == 24) = true → leO [] [] ∧ (intV (3 : Int)).le (intV r)) ∧ ((op == 24) = false → ((bif decide (op ≥ (6 : Int)) then decide (op ≤ (23 : Int)) else false) = true → leO [] [] ∧ (intV (2 : Int)).le (intV r)) ∧ ((bif decide (op ≥ (6 : Int)) then decide (op ≤ (23 : Int)) else false) = false → leO [] [] ∧ (intV (1 : Int)).le (intV r))))) ∧ ((op == 2) = false → ((op == 31) = true → ((op == 31) = true → leO [] [] ∧ (intV (0 : Int)).le (intV r)) ∧ ((op == 31) = false → ((op == 24) = true → leO [] [] ∧ (intV (3 : Int)).le (intV r)) ∧ ((op == 24) = false → ((bif decide (op ≥ (6 : Int)) then decide (op ≤ (23 : Int)) else false) = true → leO [] [] ∧ (intV (2 : Int)).le (intV r)) ∧ ((bif decide (op ≥ (6 : Int)) then decide (op ≤ (23 : Int)) else false) = false → leO [] [] ∧ (intV (1 : Int)).le (intV r))))) ∧ ((op == 31) = false → ((op == 32) = true → ((op == 32) = true → leO [] [] ∧ (intV (0 : Int)).le (intV r)) ∧ ((op == 32) = false → ((op == 24) = true → leO [] [] ∧ (intV (3 : Int)).le (intV r)) ∧ ((op == 24) = false → ((bif decide (op ≥ (6 : Int)) then decide (op ≤ (23 : Int)) else false) = true → leO [] [] ∧ (intV (2 : Int)).le (intV r)) ∧ ((bif decide (op ≥ (6 : Int)) then decide (op ≤ (23 : Int)) else false) = false → leO [] [] ∧ (intV (1 : Int)).le (intV r))))) ∧ ((op == 32) = false → ((op == 33) = true → ((op == 33) = true → leO [] [] ∧ (intV (0 : Int)).le (intV r)) ∧ ((op == 33) = false → ((op == 24) = true → leO [] [] ∧ (intV (3 : Int)).le (intV r)) ∧ ((op == 24) = false → ((bif decide (op ≥ (6 : Int)) then decide (op ≤ (23 : Int)) else false) = true → leO [] [] ∧ (intV (2 : Int)).le (intV r)) ∧ ((bif decide (op ≥ (6 : Int)) then decide (op ≤ (23 : Int)) else false) = false → leO [] [] ∧ (intV (1 : Int)).le (intV r))))) ∧ ((op == 33) = false → ((op == 34) = true → ((op == 34) = true → leO [] [] ∧ (intV (0 : Int)).le (intV r)) ∧ ((op == 34) = false → ((op == 24) = true → leO [] [] ∧ (intV (3 : Int)).le (intV r)) ∧ ((op == 24) = false → ((bif decide (op ≥ (6 : Int)) then decide (op ≤ (23 : Int)) else false) = true → leO [] [] ∧ (intV (2 : Int)).le (intV r)) ∧ ((bif decide (op ≥ (6 : Int)) then decide (op ≤ (23 : Int)) else false) = false → leO [] [] ∧ (intV (1 : Int)).le (intV r))))) ∧ ((op == 34) = false → ((op == 35) = true → ((op == 35) = true → leO [] [] ∧ (intV (0 : Int)).le (intV r)) ∧ ((op == 35) = false → ((op == 24) = true → leO [] [] ∧ (intV (3 : Int)).le (intV r)) ∧ ((op == 24) = false → ((bif decide (op ≥ (6 : Int)) then decide (op ≤ (23 : Int)) else false) = true → leO [] [] ∧ (intV (2 : Int)).le (intV r)) ∧ ((bif decide (op ≥ (6 : Int)) then decide (op ≤ (23 : Int)) else false) = false → leO [] [] ∧ (intV (1 : Int)).le (intV r))))) ∧ ((op == 35) = false → ((op == 39) = true → leO [] [] ∧ (intV (0 : Int)).le (intV r)) ∧ ((op == 39) = false → ((op == 24) = true → leO [] [] ∧ (intV (3 : Int)).le (intV r)) ∧ ((op == 24) = false → ((bif decide (op ≥ (6 : Int)) then decide (op ≤ (23 : Int)) else false) = true → leO [] [] ∧ (intV (2 : Int)).le (intV r)) ∧ ((bif decide (op ≥ (6 : Int)) then decide (op ≤ (23 : Int)) else false) = false → leO [] [] ∧ (intV (1 : Int)).le (intV r)))))))))))) := by kernel_rfl
theorem matched_raw (b : Bool) (m : D.Model) (a : Int) (args mt : List Int) : (fnCtx Tryz.prog tb shGd ann_matched true Tryz.f159 [] (boolV b)).goal (St.init [] [tpM m, intV a, encL_Int true args, encL_Int true mt]) =
    (∃ (y : Bool), ((true && (bif bif decide ((↑args.length : Int) < (1 : Int)) then true else decide ((↑args.length : Int) > (8 : Int)) then true else (↑mt.length : Int) != (↑args.length : Int)) == false) = true → VSpec Tryz.prog 157 [] [intV a, encL_Int true args] [] (boolV y)) ∧ ((bif bif bif decide ((↑args.length : Int) < (1 : Int)) then true else decide ((↑args.length : Int) > (8 : Int)) then true else (↑mt.length : Int) != (↑args.length : Int) then true else !y) = true → leO [] [] ∧ (boolV false).le (boolV b)) ∧ ((bif bif bif decide ((↑args.length : Int) < (1 : Int)) then true else decide ((↑args.length : Int) > (8 : Int)) then true else (↑mt.length : Int) != (↑args.length : Int) then true else !y) = false → SatC (fnCtx Tryz.prog tb shGd ann_matched true Tryz.f159 [] (boolV b)) [1, 1, 0, 1, 0] (mkSt [(0, VV.tp (enc_Model m)), (2, encL_Int true args), (32, encL_Int true mt), (33, intV (↑mt.length : Int)), (34, intV (0 : Int))] []))) := by kernel_rfl
theorem expr_raw (b : Bool) (m : D.Model) (a : Int) : (fnCtx Tryz.prog tb shGd ann_expr true Tryz.f132 [] (boolV b)).goal (St.init [] [tpM m, intV a]) =
    (((0 : Int) ≤ a ∧ a < (↑m.Exprs.length : Int)) ∧ ((bif decide ((m.Exprs.getD a.toNat default).Op < (1 : Int)) then true else decide ((m.Exprs.getD a.toNat default).Op > (39 : Int))) = true → leO [] [] ∧ (boolV false).le (boolV b)) ∧ ((bif decide ((m.Exprs.getD a.toNat default).Op < (1 : Int)) then true else decide ((m.Exprs.getD a.toNat default).Op > (39 : Int))) = false → SatC (fnCtx Tryz.prog tb shGd ann_expr true Tryz.f132 [] (boolV b)) [1, 1, 1, 0, 1, 0] (mkSt [(0, VV.tp (enc_Model m)), (1, intV a), (5, VV.bp 0 0), (30, VV.agg [intV (m.Exprs.getD a.toNat default).A, intV (m.Exprs.getD a.toNat default).B, intV (m.Exprs.getD a.toNat default).C]), (31, intV (0 : Int))] [Ob.box (enc_Expr (m.Exprs.getD a.toNat default))]))) := by kernel_rfl
theorem places_raw (b : Bool) (m : D.Model) (x : D.Expr) : (fnCtx Tryz.prog tb shGd annNo true Tryz.f160 [] (boolV b)).goal (St.init [] [tpM m, .agg (enc_Expr x)]) =
    (∃ (y : Bool), ((true && (bif decide (x.N < (0 : Int)) then true else decide (x.N ≥ (1073741824 : Int))) == false) = true → VSpec Tryz.prog 161 [] [VV.tp (enc_Model m), intV x.N] [] (boolV y)) ∧ ((bif bif bif decide (x.N < (0 : Int)) then true else decide (x.N ≥ (1073741824 : Int)) then true else !y then true else decide ((↑x.Args.length : Int) < (1 : Int))) = true → leO [] [] ∧ (boolV false).le (boolV b)) ∧ ((bif bif bif decide (x.N < (0 : Int)) then true else decide (x.N ≥ (1073741824 : Int)) then true else !y then true else decide ((↑x.Args.length : Int) < (1 : Int))) = false → ((0 : Int) ≤ x.N ∧ x.N < (↑m.Procs.length : Int)) ∧ ∃ (y : Bool), VSpec Tryz.prog 157 [] [intV (↑(m.Procs.getD x.N.toNat default).Locs.length : Int), encL_Int true x.Args] [] (boolV y) ∧ leO [] [] ∧ (boolV y).le (boolV b))) := by kernel_rfl
theorem ways_raw (r : List (List D.Trans)) (l : D.Loc) : (fnCtx Tryz.prog tb shGd annNo true Tryz.f134 [] (encL_Transs true r)).goal (St.init [] [.agg (enc_Loc l)]) =
    ((1 + l.Esc.length) * 24 ≤ 140737488355328 ∧ (∀ (i : Nat), i < l.Esc.length → ((fun (i : Nat) => [encL_Trans true (l.Esc.getD i [])]) i).all VV.mem1 = true) ∧ leO [] [] ∧ (VV.sl true (1 + l.Esc.length) 1 fun (i : Nat) => bif i.blt 1 then (fun (i : Nat) => List.take 1 (List.drop (i * 1) [encL_Trans true l.Out])) i else [encL_Trans true (l.Esc.getD (i - 1) [])]).le (encL_Transs true r)) := by kernel_rfl
theorem frame_raw (b : Bool) (p : D.Proc) : (fnCtx Tryz.prog tb shGd annNo true Tryz.f103 [] (boolV b)).goal (St.init [] [.agg (enc_Proc p)]) =
    (∃ (y : Int), ((true && (bif decide ((↑p.Frame.length : Int) ≤ (128 : Int)) then (↑p.Init.length : Int) == (↑p.Frame.length : Int) else false) == true) = true → VSpec Tryz.prog 130 [] [encL_Type true p.Frame, encL_Int true p.Init] [] (intV y)) ∧ leO [] [] ∧ (boolV (bif bif bif bif bif bif bif bif decide ((↑p.Frame.length : Int) ≤ (128 : Int)) then (↑p.Init.length : Int) == (↑p.Frame.length : Int) else false then decide (y < (0 : Int)) else false then decide (p.Params ≥ (0 : Int)) else false then decide (p.Params ≤ (↑p.Frame.length : Int)) else false then decide (p.Active ≥ (0 : Int)) else false then decide (p.Active ≤ (16 : Int)) else false then decide (p.Prio ≥ (1 : Int)) else false then decide (p.Prio ≤ (255 : Int)) else false)).le (boolV b)) := by kernel_rfl
theorem graph_raw (b : Bool) (p : D.Proc) : (fnCtx Tryz.prog tb shGd ann_graph true Tryz.f104 [] (boolV b)).goal (St.init [] [.agg (enc_Proc p)]) =
    (((bif bif bif bif bif decide ((↑p.Locs.length : Int) < (1 : Int)) then true else decide ((↑p.Locs.length : Int) > (256 : Int)) then true else decide (p.Start < (0 : Int)) then true else decide (p.Start ≥ (↑p.Locs.length : Int)) then true else decide (p.Final < (0 : Int)) then true else decide (p.Final ≥ (↑p.Locs.length : Int))) = true → leO [] [] ∧ (boolV false).le (boolV b)) ∧ ((bif bif bif bif bif decide ((↑p.Locs.length : Int) < (1 : Int)) then true else decide ((↑p.Locs.length : Int) > (256 : Int)) then true else decide (p.Start < (0 : Int)) then true else decide (p.Start ≥ (↑p.Locs.length : Int)) then true else decide (p.Final < (0 : Int)) then true else decide (p.Final ≥ (↑p.Locs.length : Int))) = false → SatC (fnCtx Tryz.prog tb shGd ann_graph true Tryz.f104 [] (boolV b)) [1, 1, 1, 1, 0, 1, 0] (mkSt [(1, VV.bp 0 0), (3, intV (↑p.Locs.length : Int)), (4, intV (0 : Int)), (43, encL_Loc true p.Locs), (44, intV (↑p.Locs.length : Int)), (45, intV (0 : Int))] [Ob.box (enc_Proc p)]))) := by kernel_rfl
theorem claimed_raw (b : Bool) (p : D.Proc) : (fnCtx Tryz.prog tb shGd ann_claimed true Tryz.f105 [] (boolV b)).goal (St.init [] [.agg (enc_Proc p)]) =
    (((bif bif bif decide ((↑p.Frame.length : Int) > (0 : Int)) then true else decide (p.Params > (0 : Int)) then true else decide (p.Active > (0 : Int)) then true else p.Provided != (-1 : Int)) = true → leO [] [] ∧ (boolV false).le (boolV b)) ∧ ((bif bif bif decide ((↑p.Frame.length : Int) > (0 : Int)) then true else decide (p.Params > (0 : Int)) then true else decide (p.Active > (0 : Int)) then true else p.Provided != (-1 : Int)) = false → SatC (fnCtx Tryz.prog tb shGd ann_claimed true Tryz.f105 [] (boolV b)) [1, 1, 0, 1, 0] (mkSt [(25, encL_Loc true p.Locs), (26, intV (↑p.Locs.length : Int)), (27, intV (0 : Int))] []))) := by kernel_rfl
theorem empty_raw (b : Bool) (s : D.Stmt) (u v x : Bool) : (fnCtx Tryz.prog tb shGd annNo true Tryz.f173 [] (boolV b)).goal (St.init [] [.agg (enc_Stmt s), boolV u, boolV v, boolV x]) =
    (leO [] [] ∧ (boolV (bif bif bif !u then true else IntKind.i64.wrap ((↑s.Args.length : Int) + (↑s.Match.length : Int)) == 0 then bif !v then true else s.N == 0 else false then bif !x then true else s.Text.toList == (⟨#[]⟩ : ByteArray).toList else false)).le (boolV b)) := by kernel_rfl
theorem place_raw (b : Bool) (m : D.Model) (a : Int) : (fnCtx Tryz.prog tb shGd annNo true Tryz.f172 [] (boolV b)).goal (St.init [] [tpM m, intV a]) =
    (∃ (y : Bool), VSpec Tryz.prog 157 [] [intV (↑m.Exprs.length : Int), VV.sl false 1 1 fun (i : Nat) => List.take 1 (List.drop (i * 1) [intV a])] [] (boolV y) ∧ leO [] [] ∧ (boolV y).le (boolV b)) := by kernel_rfl
theorem target_raw (b : Bool) (m : D.Model) (a : Int) : (fnCtx Tryz.prog tb shGd annNo true Tryz.f174 [] (boolV b)).goal (St.init [] [tpM m, intV a]) =
    (∃ (y : Bool), VSpec Tryz.prog 172 [] [VV.tp (enc_Model m), intV a] [] (boolV y) ∧ ((true && y == true) = true → (0 : Int) ≤ a ∧ a < (↑m.Exprs.length : Int)) ∧ ((true && (bif y then (m.Exprs.getD a.toNat default).Op == 2 else false) == true) = true → (0 : Int) ≤ a ∧ a < (↑m.Exprs.length : Int)) ∧ leO [] [] ∧ (boolV (bif bif y then (m.Exprs.getD a.toNat default).Op == 2 else false then (m.Exprs.getD a.toNat default).V.Scope != (2 : Int) else false)).le (boolV b)) := by kernel_rfl
theorem statement_raw (b : Bool) (m : D.Model) (s : D.Stmt) : (fnCtx Tryz.prog tb shGd annNo true Tryz.f162 [] (boolV b)).goal (St.init [] [tpM m, .agg (enc_Stmt s)]) =
    (((s.Kind == 1) = true → ((s.Kind == 1) = true → ∃ (y : Bool), VSpec Tryz.prog 172 [] [VV.tp (enc_Model m), intV s.A] [] (boolV y) ∧ ∃ (y_1 : Bool), ((true && (bif y then s.B == (-1 : Int) else false) == true) = true → VSpec Tryz.prog 173 [] [VV.agg (enc_Stmt s), boolV true, boolV true, boolV true] [] (boolV y_1)) ∧ leO [] [] ∧ (boolV (bif bif y then s.B == (-1 : Int) else false then y_1 else false)).le (boolV b)) ∧ ((s.Kind == 1) = false → ((s.Kind == 2) = true → ∃ (y : Bool), VSpec Tryz.prog 174 [] [VV.tp (enc_Model m), intV s.A] [] (boolV y) ∧ ∃ (y_1 : Bool), ((true && y == true) = true → VSpec Tryz.prog 172 [] [VV.tp (enc_Model m), intV s.B] [] (boolV y_1)) ∧ ∃ (y_2 : Bool), ((true && (bif y then y_1 else false) == true) = true → VSpec Tryz.prog 173 [] [VV.agg (enc_Stmt s), boolV true, boolV true, boolV true] [] (boolV y_2)) ∧ leO [] [] ∧ (boolV (bif bif y then y_1 else false then y_2 else false)).le (boolV b)) ∧ ((s.Kind == 2) = false → ((s.Kind == 4) = true → ∃ (y : Bool), ((true && (bif s.A == (-1 : Int) then s.B == (-1 : Int) else false) == true) = true → VSpec Tryz.prog 157 [] [intV (↑m.Exprs.length : Int), encL_Int true s.Args] [] (boolV y)) ∧ leO [] [] ∧ (boolV (bif bif bif bif bif s.A == (-1 : Int) then s.B == (-1 : Int) else false then y else false then (↑s.Match.length : Int) == 0 else false then decide ((↑s.Text.size : Int) ≤ (256 : Int)) else false then s.N == 0 else false)).le (boolV b)) ∧ ((s.Kind == 4) = false → ((s.Kind == 5) = true → ∃ (y : Bool), VSpec Tryz.prog 172 [] [VV.tp (enc_Model m), intV s.A] [] (boolV y) ∧ ∃ (y_1 : Bool), ((true && (bif bif bif y then s.B == (-1 : Int) else false then decide ((↑s.Args.length : Int) ≥ (1 : Int)) else false then decide ((↑s.Args.length : Int) ≤ (8 : Int)) else false) == true) = true → VSpec Tryz.prog 157 [] [intV (↑m.Exprs.length : Int), encL_Int true s.Args] [] (boolV y_1)) ∧ leO [] [] ∧ (boolV (bif bif bif bif bif bif bif y then s.B == (-1 : Int) else false then decide ((↑s.Args.length : Int) ≥ (1 : Int)) else false then decide ((↑s.Args.length : Int) ≤ (8 : Int)) else false then y_1 else false then (↑s.Match.length : Int) == 0 else false then bif s.N == 0 then true else s.N == 1 else false then s.Text.toList == (⟨#[]⟩ : ByteArray).toList else false)).le (boolV b)) ∧ ((s.Kind == 5) = false → ((s.Kind == 6) = true → ∃ (y : Bool), VSpec Tryz.prog 172 [] [VV.tp (enc_Model m), intV s.A] [] (boolV y) ∧ ∃ (y_1 : Bool), ((true && (bif y then s.B == (-1 : Int) else false) == true) = true → VSpec Tryz.prog 175 [] [VV.tp (enc_Model m), VV.agg (enc_Stmt s)] [] (boolV y_1)) ∧ leO [] [] ∧ (boolV (bif bif bif bif bif y then s.B == (-1 : Int) else false then y_1 else false then decide (s.N ≥ (0 : Int)) else false then decide (s.N ≤ (3 : Int)) else false then s.Text.toList == (⟨#[]⟩ : ByteArray).toList else false)).le (boolV b)) ∧ ((s.Kind == 6) = false → ((s.Kind == 7) = true → ((s.Kind == 7) = true → ∃ (y : Bool), ((true && (bif s.A == (-1 : Int) then s.B == (-1 : Int) else false) == true) = true → VSpec Tryz.prog 173 [] [VV.agg (enc_Stmt s), boolV true, boolV true, boolV true] [] (boolV y)) ∧ leO [] [] ∧ (boolV (bif bif s.A == (-1 : Int) then s.B == (-1 : Int) else false then y else false)).le (boolV b)) ∧ ((s.Kind == 7) = false → ((s.Kind == 9) = true → ∃ (y : Bool), VSpec Tryz.prog 174 [] [VV.tp (enc_Model m), intV s.A] [] (boolV y) ∧ ∃ (y_1 : Bool), ((true && (bif bif bif y then s.B == (-1 : Int) else false then decide (s.N ≥ (0 : Int)) else false then decide (s.N < (↑m.Shapes.length : Int)) else false) == true) = true → VSpec Tryz.prog 173 [] [VV.agg (enc_Stmt s), boolV true, boolV false, boolV true] [] (boolV y_1)) ∧ leO [] [] ∧ (boolV (bif bif bif bif y then s.B == (-1 : Int) else false then decide (s.N ≥ (0 : Int)) else false then decide (s.N < (↑m.Shapes.length : Int)) else false then y_1 else false)).le (boolV b)) ∧ ((s.Kind == 9) = false → leO [] [] ∧ (boolV false).le (boolV b)))) ∧ ((s.Kind == 7) = false → ((s.Kind == 8) = true → ∃ (y : Bool), ((true && (bif s.A == (-1 : Int) then s.B == (-1 : Int) else false) == true) = true → VSpec Tryz.prog 173 [] [VV.agg (enc_Stmt s), boolV true, boolV true, boolV true] [] (boolV y)) ∧ leO [] [] ∧ (boolV (bif bif s.A == (-1 : Int) then s.B == (-1 : Int) else false then y else false)).le (boolV b)) ∧ ((s.Kind == 8) = false → ((s.Kind == 9) = true → ∃ (y : Bool), VSpec Tryz.prog 174 [] [VV.tp (enc_Model m), intV s.A] [] (boolV y) ∧ ∃ (y_1 : Bool), ((true && (bif bif bif y then s.B == (-1 : Int) else false then decide (s.N ≥ (0 : Int)) else false then decide (s.N < (↑m.Shapes.length : Int)) else false) == true) = true → VSpec Tryz.prog 173 [] [VV.agg (enc_Stmt s), boolV true, boolV false, boolV true] [] (boolV y_1)) ∧ leO [] [] ∧ (boolV (bif bif bif bif y then s.B == (-1 : Int) else false then decide (s.N ≥ (0 : Int)) else false then decide (s.N < (↑m.Shapes.length : Int)) else false then y_1 else false)).le (boolV b)) ∧ ((s.Kind == 9) = false → leO [] [] ∧ (boolV false).le (boolV b)))))))))) ∧ ((s.Kind == 1) = false → ((s.Kind == 3) = true → ∃ (y : Bool), VSpec Tryz.prog 172 [] [VV.tp (enc_Model m), intV s.A] [] (boolV y) ∧ ∃ (y_1 : Bool), ((true && (bif y then s.B == (-1 : Int) else false) == true) = true → VSpec Tryz.prog 173 [] [VV.agg (enc_Stmt s), boolV true, boolV true, boolV true] [] (boolV y_1)) ∧ leO [] [] ∧ (boolV (bif bif y then s.B == (-1 : Int) else false then y_1 else false)).le (boolV b)) ∧ ((s.Kind == 3) = false → ((s.Kind == 2) = true → ∃ (y : Bool), VSpec Tryz.prog 174 [] [VV.tp (enc_Model m), intV s.A] [] (boolV y) ∧ ∃ (y_1 : Bool), ((true && y == true) = true → VSpec Tryz.prog 172 [] [VV.tp (enc_Model m), intV s.B] [] (boolV y_1)) ∧ ∃ (y_2 : Bool), ((true && (bif y then y_1 else false) == true) = true → VSpec Tryz.prog 173 [] [VV.agg (enc_Stmt s), boolV true, boolV true, boolV true] [] (boolV y_2)) ∧ leO [] [] ∧ (boolV (bif bif y then y_1 else false then y_2 else false)).le (boolV b)) ∧ ((s.Kind == 2) = false → ((s.Kind == 4) = true → ∃ (y : Bool), ((true && (bif s.A == (-1 : Int) then s.B == (-1 : Int) else false) == true) = true → VSpec Tryz.prog 157 [] [intV (↑m.Exprs.length : Int), encL_Int true s.Args] [] (boolV y)) ∧ leO [] [] ∧ (boolV (bif bif bif bif bif s.A == (-1 : Int) then s.B == (-1 : Int) else false then y else false then (↑s.Match.length : Int) == 0 else false then decide ((↑s.Text.size : Int) ≤ (256 : Int)) else false then s.N == 0 else false)).le (boolV b)) ∧ ((s.Kind == 4) = false → ((s.Kind == 5) = true → ∃ (y : Bool), VSpec Tryz.prog 172 [] [VV.tp (enc_Model m), intV s.A] [] (boolV y) ∧ ∃ (y_1 : Bool), ((true && (bif bif bif y then s.B == (-1 : Int) else false then decide ((↑s.Args.length : Int) ≥ (1 : Int)) else false then decide ((↑s.Args.length : Int) ≤ (8 : Int)) else false) == true) = true → VSpec Tryz.prog 157 [] [intV (↑m.Exprs.length : Int), encL_Int true s.Args] [] (boolV y_1)) ∧ leO [] [] ∧ (boolV (bif bif bif bif bif bif bif y then s.B == (-1 : Int) else false then decide ((↑s.Args.length : Int) ≥ (1 : Int)) else false then decide ((↑s.Args.length : Int) ≤ (8 : Int)) else false then y_1 else false then (↑s.Match.length : Int) == 0 else false then bif s.N == 0 then true else s.N == 1 else false then s.Text.toList == (⟨#[]⟩ : ByteArray).toList else false)).le (boolV b)) ∧ ((s.Kind == 5) = false → ((s.Kind == 6) = true → ∃ (y : Bool), VSpec Tryz.prog 172 [] [VV.tp (enc_Model m), intV s.A] [] (boolV y) ∧ ∃ (y_1 : Bool), ((true && (bif y then s.B == (-1 : Int) else false) == true) = true → VSpec Tryz.prog 175 [] [VV.tp (enc_Model m), VV.agg (enc_Stmt s)] [] (boolV y_1)) ∧ leO [] [] ∧ (boolV (bif bif bif bif bif y then s.B == (-1 : Int) else false then y_1 else false then decide (s.N ≥ (0 : Int)) else false then decide (s.N ≤ (3 : Int)) else false then s.Text.toList == (⟨#[]⟩ : ByteArray).toList else false)).le (boolV b)) ∧ ((s.Kind == 6) = false → ((s.Kind == 7) = true → ((s.Kind == 7) = true → ∃ (y : Bool), ((true && (bif s.A == (-1 : Int) then s.B == (-1 : Int) else false) == true) = true → VSpec Tryz.prog 173 [] [VV.agg (enc_Stmt s), boolV true, boolV true, boolV true] [] (boolV y)) ∧ leO [] [] ∧ (boolV (bif bif s.A == (-1 : Int) then s.B == (-1 : Int) else false then y else false)).le (boolV b)) ∧ ((s.Kind == 7) = false → ((s.Kind == 9) = true → ∃ (y : Bool), VSpec Tryz.prog 174 [] [VV.tp (enc_Model m), intV s.A] [] (boolV y) ∧ ∃ (y_1 : Bool), ((true && (bif bif bif y then s.B == (-1 : Int) else false then decide (s.N ≥ (0 : Int)) else false then decide (s.N < (↑m.Shapes.length : Int)) else false) == true) = true → VSpec Tryz.prog 173 [] [VV.agg (enc_Stmt s), boolV true, boolV false, boolV true] [] (boolV y_1)) ∧ leO [] [] ∧ (boolV (bif bif bif bif y then s.B == (-1 : Int) else false then decide (s.N ≥ (0 : Int)) else false then decide (s.N < (↑m.Shapes.length : Int)) else false then y_1 else false)).le (boolV b)) ∧ ((s.Kind == 9) = false → leO [] [] ∧ (boolV false).le (boolV b)))) ∧ ((s.Kind == 7) = false → ((s.Kind == 8) = true → ∃ (y : Bool), ((true && (bif s.A == (-1 : Int) then s.B == (-1 : Int) else false) == true) = true → VSpec Tryz.prog 173 [] [VV.agg (enc_Stmt s), boolV true, boolV true, boolV true] [] (boolV y)) ∧ leO [] [] ∧ (boolV (bif bif s.A == (-1 : Int) then s.B == (-1 : Int) else false then y else false)).le (boolV b)) ∧ ((s.Kind == 8) = false → ((s.Kind == 9) = true → ∃ (y : Bool), VSpec Tryz.prog 174 [] [VV.tp (enc_Model m), intV s.A] [] (boolV y) ∧ ∃ (y_1 : Bool), ((true && (bif bif bif y then s.B == (-1 : Int) else false then decide (s.N ≥ (0 : Int)) else false then decide (s.N < (↑m.Shapes.length : Int)) else false) == true) = true → VSpec Tryz.prog 173 [] [VV.agg (enc_Stmt s), boolV true, boolV false, boolV true] [] (boolV y_1)) ∧ leO [] [] ∧ (boolV (bif bif bif bif y then s.B == (-1 : Int) else false then decide (s.N ≥ (0 : Int)) else false then decide (s.N < (↑m.Shapes.length : Int)) else false then y_1 else false)).le (boolV b)) ∧ ((s.Kind == 9) = false → leO [] [] ∧ (boolV false).le (boolV b))))))))))) := by kernel_rfl
theorem taken_raw (b : Bool) (m : D.Model) (s : D.Stmt) : (fnCtx Tryz.prog tb shGd ann_taken true Tryz.f175 [] (boolV b)).goal (St.init [] [tpM m, .agg (enc_Stmt s)]) =
    (∃ (y : Bool), VSpec Tryz.prog 159 [] [VV.tp (enc_Model m), intV (↑m.Exprs.length : Int), encL_Int true s.Args, encL_Int true s.Match] [] (boolV y) ∧ ((!y) = true → leO [] [] ∧ (boolV false).le (boolV b)) ∧ ((!y) = false → SatC (fnCtx Tryz.prog tb shGd ann_taken true Tryz.f175 [] (boolV b)) [1, 1, 0, 1, 0] (mkSt [(0, VV.tp (enc_Model m)), (3, VV.bp 0 0), (21, encL_Int true s.Match), (22, intV (↑s.Match.length : Int)), (23, intV (0 : Int))] [Ob.box (enc_Stmt s)]))) := by kernel_rfl
theorem uses_raw (b : Bool) (m : D.Model) (i : Int) (list : List Int) (run : Int) : (fnCtx Tryz.prog tb shGd ann_uses true Tryz.f136 [] (boolV b)).goal (St.init [] [tpM m, intV i, encL_Int false list, intV run]) =
    (SatC (fnCtx Tryz.prog tb shGd ann_uses true Tryz.f136 [] (boolV b)) [1] (mkSt [(0, VV.tp (enc_Model m)), (1, intV i), (2, encL_Int false list), (3, intV run), (9, VV.dead), (10, VV.dead), (11, VV.dead)] [])) := by kernel_rfl
theorem slots_raw (r : Int) (m : D.Model) (i : Int) (v : D.Var) : (fnCtx Tryz.prog tb shGd annNo true Tryz.f163 [] (intV r)).goal (St.init [] [tpM m, intV i, .agg (enc_Var v)]) =
    (((v.Scope == 0) = true → leO [] [] ∧ (intV (↑m.Globals.length : Int)).le (intV r)) ∧ ((v.Scope == 0) = false → ((v.Scope == 1) = true → ((0 : Int) ≤ i ∧ i < (↑m.Procs.length : Int)) ∧ leO [] [] ∧ (intV (↑(m.Procs.getD i.toNat default).Frame.length : Int)).le (intV r)) ∧ ((v.Scope == 1) = false → ((0 : Int) ≤ v.Type_ ∧ v.Type_ < (↑m.Procs.length : Int)) ∧ leO [] [] ∧ (intV (↑(m.Procs.getD v.Type_.toNat default).Frame.length : Int)).le (intV r)))) := by kernel_rfl
theorem way_raw (b : Bool) (m : D.Model) (i : Int) (s : D.Stmt) : (fnCtx Tryz.prog tb shGd annNo true Tryz.f135 [] (boolV b)).goal (St.init [] [tpM m, intV i, .agg (enc_Stmt s)]) =
    (∃ (y : Bool), VSpec Tryz.prog 162 [] [VV.tp (enc_Model m), VV.agg (enc_Stmt s)] [] (boolV y) ∧ ((bif !y then true else bif bif bif bif i == m.Claim then s.Kind != (1 : Int) else false then s.Kind != (3 : Int) else false then s.Kind != (7 : Int) else false then s.Kind != (8 : Int) else false) = true → leO [] [] ∧ (boolV false).le (boolV b)) ∧ ((bif !y then true else bif bif bif bif i == m.Claim then s.Kind != (1 : Int) else false then s.Kind != (3 : Int) else false then s.Kind != (7 : Int) else false then s.Kind != (8 : Int) else false) = false → s.Args.length * 8 ≤ 140737488355328 ∧ (∀ (i : Nat), i < s.Args.length → ((fun (i : Nat) => [intV (s.Args.getD i (0 : Int))]) i).all VV.mem1 = true) ∧ (decide (s.A ≥ (0 : Int)) = true → (s.Args.length + 1) * 8 ≤ 140737488355328 ∧ (decide (s.B ≥ (0 : Int)) = true → (s.Args.length + 1 + 1) * 8 ≤ 140737488355328 ∧ ((s.Kind == 1) = true → ∃ (y : Bool), VSpec Tryz.prog 136 [] [VV.tp (enc_Model m), intV i, VV.sl false (s.Args.length + 1 + 1) 1 fun (i : Nat) => bif i.blt (s.Args.length + 1) then (fun (i : Nat) => bif i.blt s.Args.length then [intV (s.Args.getD i (0 : Int))] else (fun (i : Nat) => List.take 1 (List.drop (i * 1) [intV s.A])) (i - s.Args.length)) i else (fun (i : Nat) => List.take 1 (List.drop (i * 1) [intV s.B])) (i - (s.Args.length + 1)), intV s.A] [] (boolV y) ∧ leO [] [] ∧ (boolV y).le (boolV b)) ∧ ((s.Kind == 1) = false → ((s.Kind == 2) = true → ∃ (y : Bool), VSpec Tryz.prog 136 [] [VV.tp (enc_Model m), intV i, VV.sl false (s.Args.length + 1 + 1) 1 fun (i : Nat) => bif i.blt (s.Args.length + 1) then (fun (i : Nat) => bif i.blt s.Args.length then [intV (s.Args.getD i (0 : Int))] else (fun (i : Nat) => List.take 1 (List.drop (i * 1) [intV s.A])) (i - s.Args.length)) i else (fun (i : Nat) => List.take 1 (List.drop (i * 1) [intV s.B])) (i - (s.Args.length + 1)), intV s.B] [] (boolV y) ∧ leO [] [] ∧ (boolV y).le (boolV b)) ∧ ((s.Kind == 2) = false → ∃ (y : Bool), VSpec Tryz.prog 136 [] [VV.tp (enc_Model m), intV i, VV.sl false (s.Args.length + 1 + 1) 1 fun (i : Nat) => bif i.blt (s.Args.length + 1) then (fun (i : Nat) => bif i.blt s.Args.length then [intV (s.Args.getD i (0 : Int))] else (fun (i : Nat) => List.take 1 (List.drop (i * 1) [intV s.A])) (i - s.Args.length)) i else (fun (i : Nat) => List.take 1 (List.drop (i * 1) [intV s.B])) (i - (s.Args.length + 1)), intV (-1 : Int)] [] (boolV y) ∧ leO [] [] ∧ (boolV y).le (boolV b)))) ∧ (decide (s.B ≥ (0 : Int)) = false → ((s.Kind == 1) = true → ∃ (y : Bool), VSpec Tryz.prog 136 [] [VV.tp (enc_Model m), intV i, VV.sl false (s.Args.length + 1) 1 fun (i : Nat) => bif i.blt s.Args.length then [intV (s.Args.getD i (0 : Int))] else (fun (i : Nat) => List.take 1 (List.drop (i * 1) [intV s.A])) (i - s.Args.length), intV s.A] [] (boolV y) ∧ leO [] [] ∧ (boolV y).le (boolV b)) ∧ ((s.Kind == 1) = false → ((s.Kind == 2) = true → ∃ (y : Bool), VSpec Tryz.prog 136 [] [VV.tp (enc_Model m), intV i, VV.sl false (s.Args.length + 1) 1 fun (i : Nat) => bif i.blt s.Args.length then [intV (s.Args.getD i (0 : Int))] else (fun (i : Nat) => List.take 1 (List.drop (i * 1) [intV s.A])) (i - s.Args.length), intV s.B] [] (boolV y) ∧ leO [] [] ∧ (boolV y).le (boolV b)) ∧ ((s.Kind == 2) = false → ∃ (y : Bool), VSpec Tryz.prog 136 [] [VV.tp (enc_Model m), intV i, VV.sl false (s.Args.length + 1) 1 fun (i : Nat) => bif i.blt s.Args.length then [intV (s.Args.getD i (0 : Int))] else (fun (i : Nat) => List.take 1 (List.drop (i * 1) [intV s.A])) (i - s.Args.length), intV (-1 : Int)] [] (boolV y) ∧ leO [] [] ∧ (boolV y).le (boolV b))))) ∧ (decide (s.A ≥ (0 : Int)) = false → (decide (s.B ≥ (0 : Int)) = true → (s.Args.length + 1) * 8 ≤ 140737488355328 ∧ ((s.Kind == 1) = true → ∃ (y : Bool), VSpec Tryz.prog 136 [] [VV.tp (enc_Model m), intV i, VV.sl false (s.Args.length + 1) 1 fun (i : Nat) => bif i.blt s.Args.length then [intV (s.Args.getD i (0 : Int))] else (fun (i : Nat) => List.take 1 (List.drop (i * 1) [intV s.B])) (i - s.Args.length), intV s.A] [] (boolV y) ∧ leO [] [] ∧ (boolV y).le (boolV b)) ∧ ((s.Kind == 1) = false → ((s.Kind == 2) = true → ∃ (y : Bool), VSpec Tryz.prog 136 [] [VV.tp (enc_Model m), intV i, VV.sl false (s.Args.length + 1) 1 fun (i : Nat) => bif i.blt s.Args.length then [intV (s.Args.getD i (0 : Int))] else (fun (i : Nat) => List.take 1 (List.drop (i * 1) [intV s.B])) (i - s.Args.length), intV s.B] [] (boolV y) ∧ leO [] [] ∧ (boolV y).le (boolV b)) ∧ ((s.Kind == 2) = false → ∃ (y : Bool), VSpec Tryz.prog 136 [] [VV.tp (enc_Model m), intV i, VV.sl false (s.Args.length + 1) 1 fun (i : Nat) => bif i.blt s.Args.length then [intV (s.Args.getD i (0 : Int))] else (fun (i : Nat) => List.take 1 (List.drop (i * 1) [intV s.B])) (i - s.Args.length), intV (-1 : Int)] [] (boolV y) ∧ leO [] [] ∧ (boolV y).le (boolV b)))) ∧ (decide (s.B ≥ (0 : Int)) = false → ((s.Kind == 1) = true → ∃ (y : Bool), VSpec Tryz.prog 136 [] [VV.tp (enc_Model m), intV i, encL_Int false s.Args, intV s.A] [] (boolV y) ∧ leO [] [] ∧ (boolV y).le (boolV b)) ∧ ((s.Kind == 1) = false → ((s.Kind == 2) = true → ∃ (y : Bool), VSpec Tryz.prog 136 [] [VV.tp (enc_Model m), intV i, encL_Int false s.Args, intV s.B] [] (boolV y) ∧ leO [] [] ∧ (boolV y).le (boolV b)) ∧ ((s.Kind == 2) = false → ∃ (y : Bool), VSpec Tryz.prog 136 [] [VV.tp (enc_Model m), intV i, encL_Int false s.Args, intV (-1 : Int)] [] (boolV y) ∧ leO [] [] ∧ (boolV y).le (boolV b))))))) := by kernel_rfl
theorem proc_raw (b : Bool) (m : D.Model) (i : Int) : (fnCtx Tryz.prog tb shGd ann_proc true Tryz.f106 [] (boolV b)).goal (St.init [] [tpM m, intV i]) =
    (((0 : Int) ≤ i ∧ i < (↑m.Procs.length : Int)) ∧ SatC (fnCtx Tryz.prog tb shGd ann_proc true Tryz.f106 [] (boolV b)) [1, 1, 0, 1, 0] (mkSt [(0, VV.tp (enc_Model m)), (1, intV i), (5, VV.bp 0 0), (21, encL_Loc true (m.Procs.getD i.toNat default).Locs), (22, intV (↑(m.Procs.getD i.toNat default).Locs.length : Int)), (23, intV (0 : Int))] [Ob.box (enc_Proc (m.Procs.getD i.toNat default))])) := by kernel_rfl
theorem tables_raw (r e : Int) (m : D.Model) : (fnCtx Tryz.prog tb shGd ann_tables true Tryz.f102 [] (.tup [intV r, intV e])).goal (St.init [] [tpM m]) =
    (((bif decide ((↑m.Globals.length : Int) > (128 : Int)) then true else (↑m.Init.length : Int) != (↑m.Globals.length : Int)) = true → leO [] [] ∧ (VV.tup [intV (1 : Int), intV (-1 : Int)]).le (VV.tup [intV r, intV e])) ∧ ((bif decide ((↑m.Globals.length : Int) > (128 : Int)) then true else (↑m.Init.length : Int) != (↑m.Globals.length : Int)) = false → ∃ (y : Int), VSpec Tryz.prog 130 [] [encL_Type true m.Globals, encL_Int true m.Init] [] (intV y) ∧ (decide (y ≥ (0 : Int)) = true → leO [] [] ∧ (VV.tup [intV (1 : Int), intV y]).le (VV.tup [intV r, intV e])) ∧ (decide (y ≥ (0 : Int)) = false → ((bif decide ((↑m.Shapes.length : Int) > (32 : Int)) then true else decide ((↑m.Chans.length : Int) > (32 : Int))) = true → leO [] [] ∧ (VV.tup [intV (2 : Int), intV (-1 : Int)]).le (VV.tup [intV r, intV e])) ∧ ((bif decide ((↑m.Shapes.length : Int) > (32 : Int)) then true else decide ((↑m.Chans.length : Int) > (32 : Int))) = false → SatC (fnCtx Tryz.prog tb shGd ann_tables true Tryz.f102 [] (VV.tup [intV r, intV e])) [1, 1, 1, 1, 1, 0, 1, 0] (mkSt [(0, VV.tp (enc_Model m)), (4, VV.bp 0 0), (50, encL_Shape true m.Shapes), (51, intV (↑m.Shapes.length : Int)), (52, intV (0 : Int))] [Ob.box (enc_Model m)]))))) := by kernel_rfl
theorem held_raw (r : List Int) (x : D.Expr) : (fnCtx Tryz.prog tb shGd ann_held true Tryz.f133 [] (encL_Int true r)).goal (St.init [] [.agg (enc_Expr x)]) =
    (∃ (y : Int), VSpec Tryz.prog 156 [] [intV x.Op] [] (intV y) ∧ ((0 : Int) ≤ y ∧ y ≤ (↑3 : Int)) ∧ y.toNat * 8 ≤ 140737488355328 ∧ ((bif x.Op == 30 then true else x.Op == 39) = true → (y.toNat + x.Args.length) * 8 ≤ 140737488355328 ∧ (∀ (i : Nat), i < x.Args.length → ((fun (i : Nat) => [intV (x.Args.getD i (0 : Int))]) i).all VV.mem1 = true) ∧ ((x.Op == 2) = true → ((x.V.Scope == 2) = true → (y.toNat + x.Args.length + 1) * 8 ≤ 140737488355328 ∧ SatC (fnCtx Tryz.prog tb shGd ann_held true Tryz.f133 [] (encL_Int true r)) [1, 1, 1, 0, 1, 0, 1, 1, 0] (mkSt [(3, VV.ow 0 0 (y.toNat + x.Args.length + 1)), (45, encL_Dim true x.V.Dims), (46, intV (↑x.V.Dims.length : Int)), (47, intV (0 : Int))] [Ob.arr true 0 (y.toNat + x.Args.length + 1) 1 fun (i : Nat) => bif i.blt (y.toNat + x.Args.length) then (fun (i : Nat) => bif i.blt y.toNat then (fun (i : Nat) => List.take 1 (List.drop (i * 1) [intV x.A, intV x.B, intV x.C])) i else [intV (x.Args.getD (i - y.toNat) (0 : Int))]) i else (fun (i : Nat) => List.take 1 (List.drop (i * 1) [intV x.V.Who])) (i - (y.toNat + x.Args.length))])) ∧ ((x.V.Scope == 2) = false → SatC (fnCtx Tryz.prog tb shGd ann_held true Tryz.f133 [] (encL_Int true r)) [1, 1, 1, 0, 1, 0, 1, 1, 0] (mkSt [(3, VV.ow 0 0 (y.toNat + x.Args.length)), (45, encL_Dim true x.V.Dims), (46, intV (↑x.V.Dims.length : Int)), (47, intV (0 : Int))] [Ob.arr true 0 (y.toNat + x.Args.length) 1 fun (i : Nat) => bif i.blt y.toNat then (fun (i : Nat) => List.take 1 (List.drop (i * 1) [intV x.A, intV x.B, intV x.C])) i else [intV (x.Args.getD (i - y.toNat) (0 : Int))]]))) ∧ ((x.Op == 2) = false → leO [] [] ∧ (VV.sl true (y.toNat + x.Args.length) 1 fun (i : Nat) => bif i.blt y.toNat then (fun (i : Nat) => List.take 1 (List.drop (i * 1) [intV x.A, intV x.B, intV x.C])) i else [intV (x.Args.getD (i - y.toNat) (0 : Int))]).le (encL_Int true r))) ∧ ((bif x.Op == 30 then true else x.Op == 39) = false → ((x.Op == 2) = true → ((x.V.Scope == 2) = true → (y.toNat + 1) * 8 ≤ 140737488355328 ∧ SatC (fnCtx Tryz.prog tb shGd ann_held true Tryz.f133 [] (encL_Int true r)) [1, 1, 1, 0, 1, 0, 1, 1, 0] (mkSt [(3, VV.ow 0 0 (y.toNat + 1)), (45, encL_Dim true x.V.Dims), (46, intV (↑x.V.Dims.length : Int)), (47, intV (0 : Int))] [Ob.arr true 0 (y.toNat + 1) 1 fun (i : Nat) => bif i.blt y.toNat then (fun (i : Nat) => List.take 1 (List.drop (i * 1) [intV x.A, intV x.B, intV x.C])) i else (fun (i : Nat) => List.take 1 (List.drop (i * 1) [intV x.V.Who])) (i - y.toNat)])) ∧ ((x.V.Scope == 2) = false → SatC (fnCtx Tryz.prog tb shGd ann_held true Tryz.f133 [] (encL_Int true r)) [1, 1, 1, 0, 1, 0, 1, 1, 0] (mkSt [(3, VV.ow 0 0 y.toNat), (45, encL_Dim true x.V.Dims), (46, intV (↑x.V.Dims.length : Int)), (47, intV (0 : Int))] [Ob.arr true 0 y.toNat 1 fun (i : Nat) => List.take 1 (List.drop (i * 1) [intV x.A, intV x.B, intV x.C])]))) ∧ ((x.Op == 2) = false → leO [] [] ∧ (VV.sl true y.toNat 1 fun (i : Nat) => List.take 1 (List.drop (i * 1) [intV x.A, intV x.B, intV x.C])).le (encL_Int true r)))) := by kernel_rfl
theorem check_raw (r e f : Int) (m : D.Model) : (fnCtx Tryz.prog tb shGd ann_check true Tryz.f70 [] (.tup [intV r, intV e, intV f])).goal (St.init [] [.agg (enc_Model m)]) =
    (∃ (y : Int × Int), VSpec Tryz.prog 102 [] [VV.tp (enc_Model m)] [] (VV.tup [intV y.fst, intV y.snd]) ∧ (decide (y.fst > (0 : Int)) = true → leO [] [] ∧ (VV.tup [intV (40 : Int), intV y.fst, intV y.snd]).le (VV.tup [intV r, intV e, intV f])) ∧ (decide (y.fst > (0 : Int)) = false → SatC (fnCtx Tryz.prog tb shGd ann_check true Tryz.f70 [] (VV.tup [intV r, intV e, intV f])) [1, 1, 1, 1, 0, 1, 0] (mkSt [(1, VV.bp 0 0), (5, VV.bp 1 0), (8, intV (0 : Int)), (25, encL_Proc true m.Procs), (26, intV (↑m.Procs.length : Int)), (27, intV (0 : Int))] [Ob.box (enc_Model m), Ob.box (enc_Model m)]))) := by kernel_rfl
end Go.Proofs.YtiaebjpcgjkhoaaGreatDoor
namespace Go.Proofs.YtiaebjpcgjkhoaaGreatDoor
open Go.RowKit
set_option maxRecDepth 100000
theorem reach1_raw (r : Int) (n : Int) (v : D.Var) (k : Int) (J : St → Prop) : ((fnCtx Tryz.prog tb shGd ann_reach true Tryz.f146 [] (intV r)).loop [1, 1, 1, 0, 1, 0] J).goal (stReach n v k) =
    ((decide (k < (↑v.Dims.length : Int)) = true → ((0 : Int) ≤ k ∧ k < (↑v.Dims.length : Int)) ∧ ((bif bif bif decide ((v.Dims.getD k.toNat default).Len < (1 : Int)) then true else decide (IntKind.i64.wrap ((v.Dims.getD k.toNat default).Len - (1 : Int)) > (1073741824 : Int)) then true else decide ((v.Dims.getD k.toNat default).Stride < (0 : Int)) then true else decide ((v.Dims.getD k.toNat default).Stride > (1073741824 : Int))) = true → leO [] [] ∧ (intV (0 : Int)).le (intV r)) ∧ ((bif bif bif decide ((v.Dims.getD k.toNat default).Len < (1 : Int)) then true else decide (IntKind.i64.wrap ((v.Dims.getD k.toNat default).Len - (1 : Int)) > (1073741824 : Int)) then true else decide ((v.Dims.getD k.toNat default).Stride < (0 : Int)) then true else decide ((v.Dims.getD k.toNat default).Stride > (1073741824 : Int))) = false → J (mkSt [(3, intV (IntKind.i64.wrap (n + IntKind.i64.wrap (IntKind.i64.wrap ((v.Dims.getD k.toNat default).Len - (1 : Int)) * (v.Dims.getD k.toNat default).Stride)))), (24, encL_Dim true v.Dims), (25, intV (↑v.Dims.length : Int)), (26, intV (IntKind.i64.wrap (k + (1 : Int))))] []))) ∧ (decide (k < (↑v.Dims.length : Int)) = false → leO [] [] ∧ (intV n).le (intV r))) := by kernel_rfl
theorem types1_raw (r : Int) (t : List D.Type) (init : List Int) (k : Int) (J : St → Prop) : ((fnCtx Tryz.prog tb shGd ann_types true Tryz.f130 [] (intV r)).loop [1, 0, 1, 0] J).goal (stTypes t init k) =
    ((decide (k < (↑t.length : Int)) = true → ((0 : Int) ≤ k ∧ k < (↑t.length : Int)) ∧ ((0 : Int) ≤ k ∧ k < (↑init.length : Int)) ∧ ∃ (y : Bool), VSpec Tryz.prog 107 [] [VV.agg (enc_Type (t.getD k.toNat default)), intV (init.getD k.toNat (0 : Int))] [] (boolV y) ∧ ((!y) = true → leO [] [] ∧ (intV k).le (intV r)) ∧ ((!y) = false → J (mkSt [(0, encL_Type true t), (1, encL_Int true init), (7, intV (↑t.length : Int)), (8, intV (IntKind.i64.wrap (k + (1 : Int))))] []))) ∧ (decide (k < (↑t.length : Int)) = false → leO [] [] ∧ (intV (-1 : Int)).le (intV r))) := by kernel_rfl
theorem shape1_raw (b : Bool) (s : D.Shape) (k : Int) (J : St → Prop) : ((fnCtx Tryz.prog tb shGd ann_shape true Tryz.f131 [] (boolV b)).loop [1, 1, 0, 1, 0] J).goal (stShape s k) =
    ((decide (k < (↑s.Fields.length : Int)) = true → ((0 : Int) ≤ k ∧ k < (↑s.Fields.length : Int)) ∧ ∃ (y : Bool), VSpec Tryz.prog 93 [] [VV.agg (enc_Type (s.Fields.getD k.toNat default))] [] (boolV y) ∧ ((!y) = true → leO [] [] ∧ (boolV false).le (boolV b)) ∧ ((!y) = false → J (mkSt [(26, encL_Type true s.Fields), (27, intV (↑s.Fields.length : Int)), (28, intV (IntKind.i64.wrap (k + (1 : Int))))] []))) ∧ (decide (k < (↑s.Fields.length : Int)) = false → leO [] [] ∧ (boolV true).le (boolV b))) := by kernel_rfl
theorem below1_raw (b : Bool) (a : Int) (l : List Int) (k : Int) (J : St → Prop) : ((fnCtx Tryz.prog tb shGd ann_below true Tryz.f157 [] (boolV b)).loop [1, 0, 1, 0] J).goal (stBelow a l k) =
    ((decide (k < (↑l.length : Int)) = true → ((0 : Int) ≤ k ∧ k < (↑l.length : Int)) ∧ ((bif decide (l.getD k.toNat (0 : Int) < (0 : Int)) then true else decide (l.getD k.toNat (0 : Int) ≥ a)) = true → leO [] [] ∧ (boolV false).le (boolV b)) ∧ ((bif decide (l.getD k.toNat (0 : Int) < (0 : Int)) then true else decide (l.getD k.toNat (0 : Int) ≥ a)) = false → J (mkSt [(0, intV a), (7, encL_Int false l), (8, intV (↑l.length : Int)), (9, intV (IntKind.i64.wrap (k + (1 : Int))))] []))) ∧ (decide (k < (↑l.length : Int)) = false → leO [] [] ∧ (boolV true).le (boolV b))) := by kernel_rfl
theorem belowt1_raw (b : Bool) (a : Int) (l : List Int) (k : Int) (J : St → Prop) : ((fnCtx Tryz.prog tb shGd ann_belowt true Tryz.f157 [] (boolV b)).loop [1, 0, 1, 0] J).goal (stBelowt a l k) =
    ((decide (k < (↑l.length : Int)) = true → ((0 : Int) ≤ k ∧ k < (↑l.length : Int)) ∧ ((bif decide (l.getD k.toNat (0 : Int) < (0 : Int)) then true else decide (l.getD k.toNat (0 : Int) ≥ a)) = true → leO [] [] ∧ (boolV false).le (boolV b)) ∧ ((bif decide (l.getD k.toNat (0 : Int) < (0 : Int)) then true else decide (l.getD k.toNat (0 : Int) ≥ a)) = false → J (mkSt [(0, intV a), (7, encL_Int true l), (8, intV (↑l.length : Int)), (9, intV (IntKind.i64.wrap (k + (1 : Int))))] []))) ∧ (decide (k < (↑l.length : Int)) = false → leO [] [] ∧ (boolV true).le (boolV b))) := by kernel_rfl
theorem vari1_raw (b : Bool) (a : Int) (v : D.Var) (k : Int) (J : St → Prop) : ((fnCtx Tryz.prog tb shGd ann_vari true Tryz.f158 [] (boolV b)).loop [1, 1, 1, 0, 1, 0] J).goal (stVari a v k) =
    ((decide (k < (↑v.Dims.length : Int)) = true → ((0 : Int) ≤ k ∧ k < (↑v.Dims.length : Int)) ∧ ∃ (y : Bool), VSpec Tryz.prog 157 [] [intV a, VV.sl false 1 1 fun (i : Nat) => List.take 1 (List.drop (i * 1) [intV (v.Dims.getD k.toNat default).I])] [] (boolV y) ∧ ((bif bif bif bif !y then true else decide ((v.Dims.getD k.toNat default).Len < (1 : Int)) then true else decide ((v.Dims.getD k.toNat default).Len > (128 : Int)) then true else decide ((v.Dims.getD k.toNat default).Stride < (0 : Int)) then true else decide ((v.Dims.getD k.toNat default).Stride > (128 : Int))) = true → leO [] [] ∧ (boolV false).le (boolV b)) ∧ ((bif bif bif bif !y then true else decide ((v.Dims.getD k.toNat default).Len < (1 : Int)) then true else decide ((v.Dims.getD k.toNat default).Len > (128 : Int)) then true else decide ((v.Dims.getD k.toNat default).Stride < (0 : Int)) then true else decide ((v.Dims.getD k.toNat default).Stride > (128 : Int))) = false → J (mkSt [(1, intV a), (58, encL_Dim true v.Dims), (59, intV (↑v.Dims.length : Int)), (60, intV (IntKind.i64.wrap (k + (1 : Int))))] []))) ∧ (decide (k < (↑v.Dims.length : Int)) = false → leO [] [] ∧ (boolV true).le (boolV b))) := by kernel_rfl
theorem matched1_raw (b : Bool) (m : D.Model) (args mt : List Int) (k : Int) (J : St → Prop) : ((fnCtx Tryz.prog tb shGd ann_matched true Tryz.f159 [] (boolV b)).loop [1, 1, 0, 1, 0] J).goal (stMatched m args mt k) =
    ((decide (k < (↑mt.length : Int)) = true → ((0 : Int) ≤ k ∧ k < (↑mt.length : Int)) ∧ ((true && (bif decide (mt.getD k.toNat (0 : Int) < (-1 : Int)) then true else decide (mt.getD k.toNat (0 : Int) > (1 : Int))) == false && (mt.getD k.toNat (0 : Int) == 0) == true) = true → (0 : Int) ≤ k ∧ k < (↑args.length : Int)) ∧ ((true && (bif decide (mt.getD k.toNat (0 : Int) < (-1 : Int)) then true else decide (mt.getD k.toNat (0 : Int) > (1 : Int))) == false && (mt.getD k.toNat (0 : Int) == 0) == true) = true → (0 : Int) ≤ args.getD k.toNat (0 : Int) ∧ args.getD k.toNat (0 : Int) < (↑m.Exprs.length : Int)) ∧ ((bif bif decide (mt.getD k.toNat (0 : Int) < (-1 : Int)) then true else decide (mt.getD k.toNat (0 : Int) > (1 : Int)) then true else bif mt.getD k.toNat (0 : Int) == 0 then (m.Exprs.getD (args.getD k.toNat (0 : Int)).toNat default).Op != (2 : Int) else false) = true → leO [] [] ∧ (boolV false).le (boolV b)) ∧ ((bif bif decide (mt.getD k.toNat (0 : Int) < (-1 : Int)) then true else decide (mt.getD k.toNat (0 : Int) > (1 : Int)) then true else bif mt.getD k.toNat (0 : Int) == 0 then (m.Exprs.getD (args.getD k.toNat (0 : Int)).toNat default).Op != (2 : Int) else false) = false → J (mkSt [(0, VV.tp (enc_Model m)), (2, encL_Int true args), (32, encL_Int true mt), (33, intV (↑mt.length : Int)), (34, intV (IntKind.i64.wrap (k + (1 : Int))))] []))) ∧ (decide (k < (↑mt.length : Int)) = false → leO [] [] ∧ (boolV true).le (boolV b))) := by kernel_rfl
theorem expr1_0_raw (b : Bool) (m : D.Model) (a : Int) (x : D.Expr) (J : St → Prop) : ((fnCtx Tryz.prog tb shGd ann_expr true Tryz.f132 [] (boolV b)).loop [1, 1, 1, 0, 1, 0] J).goal (stExpr m a x 0) =
    ((true = true → ((0 : Int) ≤ (0 : Int) ∧ (0 : Int) < (↑3 : Int)) ∧ ∃ (y : Int), VSpec Tryz.prog 156 [] [intV x.Op] [] (intV y) ∧ ∃ (y_1 : Bool), ((true && decide ((0 : Int) < y) == true) = true → VSpec Tryz.prog 157 [] [intV a, VV.sl true 1 1 fun (i : Nat) => List.take 1 (List.drop (i * 1) [intV x.A])] [] (boolV y_1)) ∧ ∃ (y_2 : Int), ((true && (bif decide ((0 : Int) < y) then !y_1 else false) == false) = true → VSpec Tryz.prog 156 [] [intV x.Op] [] (intV y_2)) ∧ ((bif bif decide ((0 : Int) < y) then !y_1 else false then true else bif decide ((0 : Int) ≥ y_2) then x.A != (-1 : Int) else false) = true → leO [] [] ∧ (boolV false).le (boolV b)) ∧ ((bif bif decide ((0 : Int) < y) then !y_1 else false then true else bif decide ((0 : Int) ≥ y_2) then x.A != (-1 : Int) else false) = false → J (mkSt [(0, VV.tp (enc_Model m)), (1, intV a), (5, VV.bp 0 0), (30, VV.agg [intV x.A, intV x.B, intV x.C]), (31, intV (IntKind.i64.wrap ((0 : Int) + (1 : Int))))] [Ob.box (enc_Expr x)]))) ∧ (true = false → ((x.Op == 1) = true → ∃ (y : Bool), VSpec Tryz.prog 107 [] [VV.agg [intV (32 : Int), boolV true], intV x.N] [] (boolV y) ∧ leO [] [] ∧ (boolV y).le (boolV b)) ∧ ((x.Op == 1) = false → ((x.Op == 2) = true → ∃ (y : Bool), VSpec Tryz.prog 158 [] [VV.tp (enc_Model m), intV a, VV.agg (enc_Var x.V)] [] (boolV y) ∧ leO [] [] ∧ (boolV y).le (boolV b)) ∧ ((x.Op == 2) = false → ((x.Op == 30) = true → ∃ (y : Bool), VSpec Tryz.prog 159 [] [VV.tp (enc_Model m), intV a, encL_Int true x.Args, encL_Int true x.Match] [] (boolV y) ∧ leO [] [] ∧ (boolV (bif y then bif x.N == 0 then true else x.N == 1 else false)).le (boolV b)) ∧ ((x.Op == 30) = false → ((x.Op == 38) = true → ∃ (y : Bool), VSpec Tryz.prog 160 [] [VV.tp (enc_Model m), VV.agg (enc_Expr x)] [] (boolV y) ∧ leO [] [] ∧ (boolV y).le (boolV b)) ∧ ((x.Op == 38) = false → ((x.Op == 39) = true → ∃ (y : Bool), ((true && (bif decide (x.N ≥ (0 : Int)) then decide (x.N < (1073741824 : Int)) else false) == true) = true → VSpec Tryz.prog 161 [] [VV.tp (enc_Model m), intV x.N] [] (boolV y)) ∧ ((true && (bif bif decide (x.N ≥ (0 : Int)) then decide (x.N < (1073741824 : Int)) else false then y else false) == true) = true → (0 : Int) ≤ x.N ∧ x.N < (↑m.Procs.length : Int)) ∧ ∃ (y_1 : Bool), ((true && (bif bif bif decide (x.N ≥ (0 : Int)) then decide (x.N < (1073741824 : Int)) else false then y else false then (↑x.Args.length : Int) == (m.Procs.getD x.N.toNat default).Params else false) == true) = true → VSpec Tryz.prog 157 [] [intV a, encL_Int true x.Args] [] (boolV y_1)) ∧ leO [] [] ∧ (boolV (bif bif bif bif decide (x.N ≥ (0 : Int)) then decide (x.N < (1073741824 : Int)) else false then y else false then (↑x.Args.length : Int) == (m.Procs.getD x.N.toNat default).Params else false then y_1 else false)).le (boolV b)) ∧ ((x.Op == 39) = false → leO [] [] ∧ (boolV true).le (boolV b)))))))) := by kernel_rfl
theorem expr1_1_raw (b : Bool) (m : D.Model) (a : Int) (x : D.Expr) (J : St → Prop) : ((fnCtx Tryz.prog tb shGd ann_expr true Tryz.f132 [] (boolV b)).loop [1, 1, 1, 0, 1, 0] J).goal (stExpr m a x 1) =
    ((true = true → ((0 : Int) ≤ (1 : Int) ∧ (1 : Int) < (↑3 : Int)) ∧ ∃ (y : Int), VSpec Tryz.prog 156 [] [intV x.Op] [] (intV y) ∧ ∃ (y_1 : Bool), ((true && decide ((1 : Int) < y) == true) = true → VSpec Tryz.prog 157 [] [intV a, VV.sl true 1 1 fun (i : Nat) => List.take 1 (List.drop (i * 1) [intV x.B])] [] (boolV y_1)) ∧ ∃ (y_2 : Int), ((true && (bif decide ((1 : Int) < y) then !y_1 else false) == false) = true → VSpec Tryz.prog 156 [] [intV x.Op] [] (intV y_2)) ∧ ((bif bif decide ((1 : Int) < y) then !y_1 else false then true else bif decide ((1 : Int) ≥ y_2) then x.B != (-1 : Int) else false) = true → leO [] [] ∧ (boolV false).le (boolV b)) ∧ ((bif bif decide ((1 : Int) < y) then !y_1 else false then true else bif decide ((1 : Int) ≥ y_2) then x.B != (-1 : Int) else false) = false → J (mkSt [(0, VV.tp (enc_Model m)), (1, intV a), (5, VV.bp 0 0), (30, VV.agg [intV x.A, intV x.B, intV x.C]), (31, intV (IntKind.i64.wrap ((1 : Int) + (1 : Int))))] [Ob.box (enc_Expr x)]))) ∧ (true = false → ((x.Op == 1) = true → ∃ (y : Bool), VSpec Tryz.prog 107 [] [VV.agg [intV (32 : Int), boolV true], intV x.N] [] (boolV y) ∧ leO [] [] ∧ (boolV y).le (boolV b)) ∧ ((x.Op == 1) = false → ((x.Op == 2) = true → ∃ (y : Bool), VSpec Tryz.prog 158 [] [VV.tp (enc_Model m), intV a, VV.agg (enc_Var x.V)] [] (boolV y) ∧ leO [] [] ∧ (boolV y).le (boolV b)) ∧ ((x.Op == 2) = false → ((x.Op == 30) = true → ∃ (y : Bool), VSpec Tryz.prog 159 [] [VV.tp (enc_Model m), intV a, encL_Int true x.Args, encL_Int true x.Match] [] (boolV y) ∧ leO [] [] ∧ (boolV (bif y then bif x.N == 0 then true else x.N == 1 else false)).le (boolV b)) ∧ ((x.Op == 30) = false → ((x.Op == 38) = true → ∃ (y : Bool), VSpec Tryz.prog 160 [] [VV.tp (enc_Model m), VV.agg (enc_Expr x)] [] (boolV y) ∧ leO [] [] ∧ (boolV y).le (boolV b)) ∧ ((x.Op == 38) = false → ((x.Op == 39) = true → ∃ (y : Bool), ((true && (bif decide (x.N ≥ (0 : Int)) then decide (x.N < (1073741824 : Int)) else false) == true) = true → VSpec Tryz.prog 161 [] [VV.tp (enc_Model m), intV x.N] [] (boolV y)) ∧ ((true && (bif bif decide (x.N ≥ (0 : Int)) then decide (x.N < (1073741824 : Int)) else false then y else false) == true) = true → (0 : Int) ≤ x.N ∧ x.N < (↑m.Procs.length : Int)) ∧ ∃ (y_1 : Bool), ((true && (bif bif bif decide (x.N ≥ (0 : Int)) then decide (x.N < (1073741824 : Int)) else false then y else false then (↑x.Args.length : Int) == (m.Procs.getD x.N.toNat default).Params else false) == true) = true → VSpec Tryz.prog 157 [] [intV a, encL_Int true x.Args] [] (boolV y_1)) ∧ leO [] [] ∧ (boolV (bif bif bif bif decide (x.N ≥ (0 : Int)) then decide (x.N < (1073741824 : Int)) else false then y else false then (↑x.Args.length : Int) == (m.Procs.getD x.N.toNat default).Params else false then y_1 else false)).le (boolV b)) ∧ ((x.Op == 39) = false → leO [] [] ∧ (boolV true).le (boolV b)))))))) := by kernel_rfl
theorem expr1_2_raw (b : Bool) (m : D.Model) (a : Int) (x : D.Expr) (J : St → Prop) : ((fnCtx Tryz.prog tb shGd ann_expr true Tryz.f132 [] (boolV b)).loop [1, 1, 1, 0, 1, 0] J).goal (stExpr m a x 2) =
    ((true = true → ((0 : Int) ≤ (2 : Int) ∧ (2 : Int) < (↑3 : Int)) ∧ ∃ (y : Int), VSpec Tryz.prog 156 [] [intV x.Op] [] (intV y) ∧ ∃ (y_1 : Bool), ((true && decide ((2 : Int) < y) == true) = true → VSpec Tryz.prog 157 [] [intV a, VV.sl true 1 1 fun (i : Nat) => List.take 1 (List.drop (i * 1) [intV x.C])] [] (boolV y_1)) ∧ ∃ (y_2 : Int), ((true && (bif decide ((2 : Int) < y) then !y_1 else false) == false) = true → VSpec Tryz.prog 156 [] [intV x.Op] [] (intV y_2)) ∧ ((bif bif decide ((2 : Int) < y) then !y_1 else false then true else bif decide ((2 : Int) ≥ y_2) then x.C != (-1 : Int) else false) = true → leO [] [] ∧ (boolV false).le (boolV b)) ∧ ((bif bif decide ((2 : Int) < y) then !y_1 else false then true else bif decide ((2 : Int) ≥ y_2) then x.C != (-1 : Int) else false) = false → J (mkSt [(0, VV.tp (enc_Model m)), (1, intV a), (5, VV.bp 0 0), (30, VV.agg [intV x.A, intV x.B, intV x.C]), (31, intV (IntKind.i64.wrap ((2 : Int) + (1 : Int))))] [Ob.box (enc_Expr x)]))) ∧ (true = false → ((x.Op == 1) = true → ∃ (y : Bool), VSpec Tryz.prog 107 [] [VV.agg [intV (32 : Int), boolV true], intV x.N] [] (boolV y) ∧ leO [] [] ∧ (boolV y).le (boolV b)) ∧ ((x.Op == 1) = false → ((x.Op == 2) = true → ∃ (y : Bool), VSpec Tryz.prog 158 [] [VV.tp (enc_Model m), intV a, VV.agg (enc_Var x.V)] [] (boolV y) ∧ leO [] [] ∧ (boolV y).le (boolV b)) ∧ ((x.Op == 2) = false → ((x.Op == 30) = true → ∃ (y : Bool), VSpec Tryz.prog 159 [] [VV.tp (enc_Model m), intV a, encL_Int true x.Args, encL_Int true x.Match] [] (boolV y) ∧ leO [] [] ∧ (boolV (bif y then bif x.N == 0 then true else x.N == 1 else false)).le (boolV b)) ∧ ((x.Op == 30) = false → ((x.Op == 38) = true → ∃ (y : Bool), VSpec Tryz.prog 160 [] [VV.tp (enc_Model m), VV.agg (enc_Expr x)] [] (boolV y) ∧ leO [] [] ∧ (boolV y).le (boolV b)) ∧ ((x.Op == 38) = false → ((x.Op == 39) = true → ∃ (y : Bool), ((true && (bif decide (x.N ≥ (0 : Int)) then decide (x.N < (1073741824 : Int)) else false) == true) = true → VSpec Tryz.prog 161 [] [VV.tp (enc_Model m), intV x.N] [] (boolV y)) ∧ ((true && (bif bif decide (x.N ≥ (0 : Int)) then decide (x.N < (1073741824 : Int)) else false then y else false) == true) = true → (0 : Int) ≤ x.N ∧ x.N < (↑m.Procs.length : Int)) ∧ ∃ (y_1 : Bool), ((true && (bif bif bif decide (x.N ≥ (0 : Int)) then decide (x.N < (1073741824 : Int)) else false then y else false then (↑x.Args.length : Int) == (m.Procs.getD x.N.toNat default).Params else false) == true) = true → VSpec Tryz.prog 157 [] [intV a, encL_Int true x.Args] [] (boolV y_1)) ∧ leO [] [] ∧ (boolV (bif bif bif bif decide (x.N ≥ (0 : Int)) then decide (x.N < (1073741824 : Int)) else false then y else false then (↑x.Args.length : Int) == (m.Procs.getD x.N.toNat default).Params else false then y_1 else false)).le (boolV b)) ∧ ((x.Op == 39) = false → leO [] [] ∧ (boolV true).le (boolV b)))))))) := by kernel_rfl
theorem expr1_3_raw (b : Bool) (m : D.Model) (a : Int) (x : D.Expr) (J : St → Prop) : ((fnCtx Tryz.prog tb shGd ann_expr true Tryz.f132 [] (boolV b)).loop [1, 1, 1, 0, 1, 0] J).goal (stExpr m a x 3) =
    ((false = true → ((0 : Int) ≤ (3 : Int) ∧ (3 : Int) < (↑3 : Int)) ∧ False ∧ ∃ (y : Int), VSpec Tryz.prog 156 [] [intV x.Op] [] (intV y) ∧ ((true && decide ((3 : Int) < y) == true) = true → False) ∧ ∃ (y_1 : Bool), ((true && decide ((3 : Int) < y) == true) = true → VSpec Tryz.prog 157 [] [intV a, VV.dead] [] (boolV y_1)) ∧ ∃ (y_2 : Int), ((true && (bif decide ((3 : Int) < y) then !y_1 else false) == false) = true → VSpec Tryz.prog 156 [] [intV x.Op] [] (intV y_2)) ∧ ((true && (bif decide ((3 : Int) < y) then !y_1 else false) == false && decide ((3 : Int) ≥ y_2) == true) = true → False) ∧ ((true && (bif decide ((3 : Int) < y) then !y_1 else false) == false) = true → False) ∧ False ∧ False) ∧ (false = false → ((x.Op == 1) = true → ∃ (y : Bool), VSpec Tryz.prog 107 [] [VV.agg [intV (32 : Int), boolV true], intV x.N] [] (boolV y) ∧ leO [] [] ∧ (boolV y).le (boolV b)) ∧ ((x.Op == 1) = false → ((x.Op == 2) = true → ∃ (y : Bool), VSpec Tryz.prog 158 [] [VV.tp (enc_Model m), intV a, VV.agg (enc_Var x.V)] [] (boolV y) ∧ leO [] [] ∧ (boolV y).le (boolV b)) ∧ ((x.Op == 2) = false → ((x.Op == 30) = true → ∃ (y : Bool), VSpec Tryz.prog 159 [] [VV.tp (enc_Model m), intV a, encL_Int true x.Args, encL_Int true x.Match] [] (boolV y) ∧ leO [] [] ∧ (boolV (bif y then bif x.N == 0 then true else x.N == 1 else false)).le (boolV b)) ∧ ((x.Op == 30) = false → ((x.Op == 38) = true → ∃ (y : Bool), VSpec Tryz.prog 160 [] [VV.tp (enc_Model m), VV.agg (enc_Expr x)] [] (boolV y) ∧ leO [] [] ∧ (boolV y).le (boolV b)) ∧ ((x.Op == 38) = false → ((x.Op == 39) = true → ∃ (y : Bool), ((true && (bif decide (x.N ≥ (0 : Int)) then decide (x.N < (1073741824 : Int)) else false) == true) = true → VSpec Tryz.prog 161 [] [VV.tp (enc_Model m), intV x.N] [] (boolV y)) ∧ ((true && (bif bif decide (x.N ≥ (0 : Int)) then decide (x.N < (1073741824 : Int)) else false then y else false) == true) = true → (0 : Int) ≤ x.N ∧ x.N < (↑m.Procs.length : Int)) ∧ ∃ (y_1 : Bool), ((true && (bif bif bif decide (x.N ≥ (0 : Int)) then decide (x.N < (1073741824 : Int)) else false then y else false then (↑x.Args.length : Int) == (m.Procs.getD x.N.toNat default).Params else false) == true) = true → VSpec Tryz.prog 157 [] [intV a, encL_Int true x.Args] [] (boolV y_1)) ∧ leO [] [] ∧ (boolV (bif bif bif bif decide (x.N ≥ (0 : Int)) then decide (x.N < (1073741824 : Int)) else false then y else false then (↑x.Args.length : Int) == (m.Procs.getD x.N.toNat default).Params else false then y_1 else false)).le (boolV b)) ∧ ((x.Op == 39) = false → leO [] [] ∧ (boolV true).le (boolV b)))))))) := by kernel_rfl
theorem graph1_raw (b : Bool) (p : D.Proc) (many k : Int) (J : St → Prop) : ((fnCtx Tryz.prog tb shGd ann_graph true Tryz.f104 [] (boolV b)).loop [1, 1, 1, 1, 0, 1, 0] J).goal (stGraph1 p many k) =
    ((decide (k < (↑p.Locs.length : Int)) = true → ((0 : Int) ≤ k ∧ k < (↑p.Locs.length : Int)) ∧ ((bif bif decide ((↑(p.Locs.getD k.toNat default).Esc.length : Int) > (8 : Int)) then true else bif (p.Locs.getD k.toNat default).Dstep then (p.Locs.getD k.toNat default).Atomic else false then true else bif k == p.Final then decide (IntKind.i64.wrap ((↑(p.Locs.getD k.toNat default).Out.length : Int) + (↑(p.Locs.getD k.toNat default).Esc.length : Int)) > (0 : Int)) else false) = true → leO [] [] ∧ (boolV false).le (boolV b)) ∧ ((bif bif decide ((↑(p.Locs.getD k.toNat default).Esc.length : Int) > (8 : Int)) then true else bif (p.Locs.getD k.toNat default).Dstep then (p.Locs.getD k.toNat default).Atomic else false then true else bif k == p.Final then decide (IntKind.i64.wrap ((↑(p.Locs.getD k.toNat default).Out.length : Int) + (↑(p.Locs.getD k.toNat default).Esc.length : Int)) > (0 : Int)) else false) = false → ∃ (y : List (List D.Trans)), VSpec Tryz.prog 134 [] [VV.agg (enc_Loc (p.Locs.getD k.toNat default))] [] (encL_Transs true y) ∧ SatC ((fnCtx Tryz.prog tb shGd ann_graph true Tryz.f104 [] (boolV b)).loop [1, 1, 1, 1, 0, 1, 0] J) [1, 1, 0, 0, 1, 1, 1, 0] (mkSt [(1, VV.bp 0 0), (3, intV (↑p.Locs.length : Int)), (4, intV many), (43, encL_Loc true p.Locs), (44, intV (↑p.Locs.length : Int)), (45, intV k), (79, encL_Transs true y), (80, intV (↑y.length : Int)), (81, intV (0 : Int))] [Ob.box (enc_Proc p)]))) ∧ (decide (k < (↑p.Locs.length : Int)) = false → leO [] [] ∧ (boolV true).le (boolV b))) := by kernel_rfl
theorem graph2_raw (b : Bool) (p : D.Proc) (many k : Int) (ws : List (List D.Trans)) (j : Int) (J J2 : St → Prop) : (((fnCtx Tryz.prog tb shGd ann_graph true Tryz.f104 [] (boolV b)).loop [1, 1, 1, 1, 0, 1, 0] J).loop [1, 1, 0, 0, 1, 1, 1, 0] J2).goal (stGraph2 p many k ws j) =
    ((decide (j < (↑ws.length : Int)) = true → ((0 : Int) ≤ j ∧ j < (↑ws.length : Int)) ∧ ((bif decide (j > (0 : Int)) then (↑(ws.getD j.toNat []).length : Int) == 0 else false) = true → leO [] [] ∧ (boolV false).le (boolV b)) ∧ ((bif decide (j > (0 : Int)) then (↑(ws.getD j.toNat []).length : Int) == 0 else false) = false → (decide (IntKind.i64.wrap (many + (↑(ws.getD j.toNat []).length : Int)) > (1024 : Int)) = true → leO [] [] ∧ (boolV false).le (boolV b)) ∧ (decide (IntKind.i64.wrap (many + (↑(ws.getD j.toNat []).length : Int)) > (1024 : Int)) = false → SatC (((fnCtx Tryz.prog tb shGd ann_graph true Tryz.f104 [] (boolV b)).loop [1, 1, 1, 1, 0, 1, 0] J).loop [1, 1, 0, 0, 1, 1, 1, 0] J2) [1, 1, 0, 0, 1, 1, 1, 1, 1, 0] (mkSt [(1, VV.bp 0 0), (3, intV (↑p.Locs.length : Int)), (4, intV (IntKind.i64.wrap (many + (↑(ws.getD j.toNat []).length : Int)))), (43, encL_Loc true p.Locs), (44, intV (↑p.Locs.length : Int)), (45, intV k), (79, encL_Transs true ws), (80, intV (↑ws.length : Int)), (81, intV j), (99, encL_Trans true (ws.getD j.toNat [])), (100, intV (↑(ws.getD j.toNat []).length : Int)), (101, intV (0 : Int))] [Ob.box (enc_Proc p)])))) ∧ (decide (j < (↑ws.length : Int)) = false → J (mkSt [(1, VV.bp 0 0), (3, intV (↑p.Locs.length : Int)), (4, intV many), (43, encL_Loc true p.Locs), (44, intV (↑p.Locs.length : Int)), (45, intV (IntKind.i64.wrap (k + (1 : Int))))] [Ob.box (enc_Proc p)]))) := by kernel_rfl
theorem graph3_raw (b : Bool) (p : D.Proc) (many k : Int) (ws : List (List D.Trans)) (j : Int) (w : List D.Trans) (h : Int) (J J2 J3 : St → Prop) : ((((fnCtx Tryz.prog tb shGd ann_graph true Tryz.f104 [] (boolV b)).loop [1, 1, 1, 1, 0, 1, 0] J).loop [1, 1, 0, 0, 1, 1, 1, 0] J2).loop [1, 1, 0, 0, 1, 1, 1, 1, 1, 0] J3).goal (stGraph3 p many k ws j w h) =
    ((decide (h < (↑w.length : Int)) = true → ((0 : Int) ≤ h ∧ h < (↑w.length : Int)) ∧ ((bif decide ((w.getD h.toNat default).To < (0 : Int)) then true else decide ((w.getD h.toNat default).To ≥ (↑p.Locs.length : Int))) = true → leO [] [] ∧ (boolV false).le (boolV b)) ∧ ((bif decide ((w.getD h.toNat default).To < (0 : Int)) then true else decide ((w.getD h.toNat default).To ≥ (↑p.Locs.length : Int))) = false → J3 (mkSt [(1, VV.bp 0 0), (3, intV (↑p.Locs.length : Int)), (4, intV many), (43, encL_Loc true p.Locs), (44, intV (↑p.Locs.length : Int)), (45, intV k), (79, encL_Transs true ws), (80, intV (↑ws.length : Int)), (81, intV j), (99, encL_Trans true w), (100, intV (↑w.length : Int)), (101, intV (IntKind.i64.wrap (h + (1 : Int))))] [Ob.box (enc_Proc p)]))) ∧ (decide (h < (↑w.length : Int)) = false → J2 (mkSt [(1, VV.bp 0 0), (3, intV (↑p.Locs.length : Int)), (4, intV many), (43, encL_Loc true p.Locs), (44, intV (↑p.Locs.length : Int)), (45, intV k), (79, encL_Transs true ws), (80, intV (↑ws.length : Int)), (81, intV (IntKind.i64.wrap (j + (1 : Int))))] [Ob.box (enc_Proc p)]))) := by kernel_rfl
theorem claimed1_raw (b : Bool) (p : D.Proc) (k : Int) (J : St → Prop) : ((fnCtx Tryz.prog tb shGd ann_claimed true Tryz.f105 [] (boolV b)).loop [1, 1, 0, 1, 0] J).goal (stClaimed p k) =
    ((decide (k < (↑p.Locs.length : Int)) = true → ((0 : Int) ≤ k ∧ k < (↑p.Locs.length : Int)) ∧ ((bif bif decide ((↑(p.Locs.getD k.toNat default).Esc.length : Int) > (0 : Int)) then true else (p.Locs.getD k.toNat default).Atomic then true else (p.Locs.getD k.toNat default).Dstep) = true → leO [] [] ∧ (boolV false).le (boolV b)) ∧ ((bif bif decide ((↑(p.Locs.getD k.toNat default).Esc.length : Int) > (0 : Int)) then true else (p.Locs.getD k.toNat default).Atomic then true else (p.Locs.getD k.toNat default).Dstep) = false → J (mkSt [(25, encL_Loc true p.Locs), (26, intV (↑p.Locs.length : Int)), (27, intV (IntKind.i64.wrap (k + (1 : Int))))] []))) ∧ (decide (k < (↑p.Locs.length : Int)) = false → leO [] [] ∧ (boolV true).le (boolV b))) := by kernel_rfl
theorem taken1_raw (b : Bool) (m : D.Model) (s : D.Stmt) (k : Int) (J : St → Prop) : ((fnCtx Tryz.prog tb shGd ann_taken true Tryz.f175 [] (boolV b)).loop [1, 1, 0, 1, 0] J).goal (stTaken m s k) =
    ((decide (k < (↑s.Match.length : Int)) = true → ((0 : Int) ≤ k ∧ k < (↑s.Match.length : Int)) ∧ ((true && (s.Match.getD k.toNat (0 : Int) == 0) == true) = true → (0 : Int) ≤ k ∧ k < (↑s.Args.length : Int)) ∧ ∃ (y : Bool), ((true && (s.Match.getD k.toNat (0 : Int) == 0) == true) = true → VSpec Tryz.prog 174 [] [VV.tp (enc_Model m), intV (s.Args.getD k.toNat (0 : Int))] [] (boolV y)) ∧ ((bif s.Match.getD k.toNat (0 : Int) == 0 then !y else false) = true → leO [] [] ∧ (boolV false).le (boolV b)) ∧ ((bif s.Match.getD k.toNat (0 : Int) == 0 then !y else false) = false → J (mkSt [(0, VV.tp (enc_Model m)), (3, VV.bp 0 0), (21, encL_Int true s.Match), (22, intV (↑s.Match.length : Int)), (23, intV (IntKind.i64.wrap (k + (1 : Int))))] [Ob.box (enc_Stmt s)]))) ∧ (decide (k < (↑s.Match.length : Int)) = false → leO [] [] ∧ (boolV true).le (boolV b))) := by kernel_rfl
theorem uses0_raw (b : Bool) (m : D.Model) (i : Int) (list : List Int) (run : Int) (J : St → Prop) : ((fnCtx Tryz.prog tb shGd ann_uses true Tryz.f136 [] (boolV b)).first [1] 0 J).goal (stUses0 m i list run) =
    (((0 : Int) ≤ (↑m.Exprs.length : Int) ∧ (↑m.Exprs.length : Int) ≤ (↑m.Exprs.length : Int) ∧ (↑m.Exprs.length : Int) * (↑1 : Int) ≤ (140737488355328 : Int)) ∧ list.length * 8 ≤ 140737488355328 ∧ (∀ (i : Nat), i < list.length → ((fun (i : Nat) => [intV (list.getD i (0 : Int))]) i).all VV.mem1 = true) ∧ (((0 : Int) == (↑list.length : Int)) = true → leO [] [] ∧ (boolV true).le (boolV b)) ∧ (((0 : Int) == (↑list.length : Int)) = false → ((0 : Int) ≤ (0 : Int) ∧ (0 : Int) < (↑list.length : Int)) ∧ ((0 : Int) ≤ list.getD (Int.toNat (0 : Int)) (0 : Int) ∧ list.getD (Int.toNat (0 : Int)) (0 : Int) < (↑(↑m.Exprs.length : Int).toNat : Int)) ∧ (false = true → J (mkSt [(0, VV.tp (enc_Model m)), (1, intV i), (2, encL_Int false list), (3, intV run), (9, VV.ow 0 0 (↑m.Exprs.length : Int).toNat), (10, VV.ow 1 0 list.length), (11, intV (IntKind.i64.wrap ((0 : Int) + (1 : Int))))] [Ob.arr true 0 (↑m.Exprs.length : Int).toNat 1 fun (_ : Nat) => (((fnCtx Tryz.prog tb shGd ann_uses true Tryz.f136 [] (boolV b)).first [1] 0 J).T (4 : TypeId)).zero, Ob.arr true 0 list.length 1 fun (i : Nat) => [intV (list.getD i (0 : Int))]])) ∧ (false = false → ((0 : Int) ≤ list.getD (Int.toNat (0 : Int)) (0 : Int) ∧ list.getD (Int.toNat (0 : Int)) (0 : Int) < (↑(↑m.Exprs.length : Int).toNat : Int)) ∧ ((0 : Int) ≤ list.getD (Int.toNat (0 : Int)) (0 : Int) ∧ list.getD (Int.toNat (0 : Int)) (0 : Int) < (↑m.Exprs.length : Int)) ∧ ((bif bif (m.Exprs.getD (list.getD (Int.toNat (0 : Int)) (0 : Int)).toNat default).Op == 39 then list.getD (Int.toNat (0 : Int)) (0 : Int) != run else false then true else bif i == m.Claim then bif bif (m.Exprs.getD (list.getD (Int.toNat (0 : Int)) (0 : Int)).toNat default).Op == 31 then true else (m.Exprs.getD (list.getD (Int.toNat (0 : Int)) (0 : Int)).toNat default).Op == 39 then true else bif (m.Exprs.getD (list.getD (Int.toNat (0 : Int)) (0 : Int)).toNat default).Op == 2 then (m.Exprs.getD (list.getD (Int.toNat (0 : Int)) (0 : Int)).toNat default).V.Scope == 1 else false else false) = true → leO [] [] ∧ (boolV false).le (boolV b)) ∧ ((bif bif (m.Exprs.getD (list.getD (Int.toNat (0 : Int)) (0 : Int)).toNat default).Op == 39 then list.getD (Int.toNat (0 : Int)) (0 : Int) != run else false then true else bif i == m.Claim then bif bif (m.Exprs.getD (list.getD (Int.toNat (0 : Int)) (0 : Int)).toNat default).Op == 31 then true else (m.Exprs.getD (list.getD (Int.toNat (0 : Int)) (0 : Int)).toNat default).Op == 39 then true else bif (m.Exprs.getD (list.getD (Int.toNat (0 : Int)) (0 : Int)).toNat default).Op == 2 then (m.Exprs.getD (list.getD (Int.toNat (0 : Int)) (0 : Int)).toNat default).V.Scope == 1 else false else false) = false → (((m.Exprs.getD (list.getD (Int.toNat (0 : Int)) (0 : Int)).toNat default).Op == 2) = true → ∃ (y : Int), VSpec Tryz.prog 146 [] [VV.agg [intV (m.Exprs.getD (list.getD (Int.toNat (0 : Int)) (0 : Int)).toNat default).V.Scope, intV (m.Exprs.getD (list.getD (Int.toNat (0 : Int)) (0 : Int)).toNat default).V.Slot, intV (m.Exprs.getD (list.getD (Int.toNat (0 : Int)) (0 : Int)).toNat default).V.Who, intV (m.Exprs.getD (list.getD (Int.toNat (0 : Int)) (0 : Int)).toNat default).V.Type_, encL_Dim true (m.Exprs.getD (list.getD (Int.toNat (0 : Int)) (0 : Int)).toNat default).V.Dims]] [] (intV y) ∧ ∃ (y_1 : Int), VSpec Tryz.prog 163 [] [VV.tp (enc_Model m), intV i, VV.agg [intV (m.Exprs.getD (list.getD (Int.toNat (0 : Int)) (0 : Int)).toNat default).V.Scope, intV (m.Exprs.getD (list.getD (Int.toNat (0 : Int)) (0 : Int)).toNat default).V.Slot, intV (m.Exprs.getD (list.getD (Int.toNat (0 : Int)) (0 : Int)).toNat default).V.Who, intV (m.Exprs.getD (list.getD (Int.toNat (0 : Int)) (0 : Int)).toNat default).V.Type_, encL_Dim true (m.Exprs.getD (list.getD (Int.toNat (0 : Int)) (0 : Int)).toNat default).V.Dims]] [] (intV y_1) ∧ (decide (y > y_1) = true → leO [] [] ∧ (boolV false).le (boolV b)) ∧ (decide (y > y_1) = false → ∃ (y : List Int), VSpec Tryz.prog 133 [] [VV.agg [intV (m.Exprs.getD (list.getD (Int.toNat (0 : Int)) (0 : Int)).toNat default).Op, intV (m.Exprs.getD (list.getD (Int.toNat (0 : Int)) (0 : Int)).toNat default).N, intV (m.Exprs.getD (list.getD (Int.toNat (0 : Int)) (0 : Int)).toNat default).A, intV (m.Exprs.getD (list.getD (Int.toNat (0 : Int)) (0 : Int)).toNat default).B, intV (m.Exprs.getD (list.getD (Int.toNat (0 : Int)) (0 : Int)).toNat default).C, intV (m.Exprs.getD (list.getD (Int.toNat (0 : Int)) (0 : Int)).toNat default).V.Scope, intV (m.Exprs.getD (list.getD (Int.toNat (0 : Int)) (0 : Int)).toNat default).V.Slot, intV (m.Exprs.getD (list.getD (Int.toNat (0 : Int)) (0 : Int)).toNat default).V.Who, intV (m.Exprs.getD (list.getD (Int.toNat (0 : Int)) (0 : Int)).toNat default).V.Type_, encL_Dim true (m.Exprs.getD (list.getD (Int.toNat (0 : Int)) (0 : Int)).toNat default).V.Dims, encL_Int true (m.Exprs.getD (list.getD (Int.toNat (0 : Int)) (0 : Int)).toNat default).Args, encL_Int true (m.Exprs.getD (list.getD (Int.toNat (0 : Int)) (0 : Int)).toNat default).Match]] [] (encL_Int true y) ∧ (list.length + y.length) * 8 ≤ 140737488355328 ∧ (∀ (i : Nat), i < y.length → ((fun (i : Nat) => [intV (y.getD i (0 : Int))]) i).all VV.mem1 = true) ∧ J (mkSt [(0, VV.tp (enc_Model m)), (1, intV i), (2, encL_Int false list), (3, intV run), (9, VV.ow 0 0 (↑m.Exprs.length : Int).toNat), (10, VV.ow 1 0 (list.length + y.length)), (11, intV (IntKind.i64.wrap ((0 : Int) + (1 : Int))))] [Ob.arr true 0 (↑m.Exprs.length : Int).toNat 1 fun (j : Nat) => bif j.beq (list.getD 0 (0 : Int)).toNat then [boolV true] else [boolV false], Ob.arr true 0 (list.length + y.length) 1 fun (i : Nat) => bif i.blt list.length then (fun (i : Nat) => [intV (list.getD i (0 : Int))]) i else (fun (i : Nat) => [intV (y.getD i (0 : Int))]) (i - list.length)]))) ∧ (((m.Exprs.getD (list.getD (Int.toNat (0 : Int)) (0 : Int)).toNat default).Op == 2) = false → ∃ (y : List Int), VSpec Tryz.prog 133 [] [VV.agg [intV (m.Exprs.getD (list.getD (Int.toNat (0 : Int)) (0 : Int)).toNat default).Op, intV (m.Exprs.getD (list.getD (Int.toNat (0 : Int)) (0 : Int)).toNat default).N, intV (m.Exprs.getD (list.getD (Int.toNat (0 : Int)) (0 : Int)).toNat default).A, intV (m.Exprs.getD (list.getD (Int.toNat (0 : Int)) (0 : Int)).toNat default).B, intV (m.Exprs.getD (list.getD (Int.toNat (0 : Int)) (0 : Int)).toNat default).C, intV (m.Exprs.getD (list.getD (Int.toNat (0 : Int)) (0 : Int)).toNat default).V.Scope, intV (m.Exprs.getD (list.getD (Int.toNat (0 : Int)) (0 : Int)).toNat default).V.Slot, intV (m.Exprs.getD (list.getD (Int.toNat (0 : Int)) (0 : Int)).toNat default).V.Who, intV (m.Exprs.getD (list.getD (Int.toNat (0 : Int)) (0 : Int)).toNat default).V.Type_, encL_Dim true (m.Exprs.getD (list.getD (Int.toNat (0 : Int)) (0 : Int)).toNat default).V.Dims, encL_Int true (m.Exprs.getD (list.getD (Int.toNat (0 : Int)) (0 : Int)).toNat default).Args, encL_Int true (m.Exprs.getD (list.getD (Int.toNat (0 : Int)) (0 : Int)).toNat default).Match]] [] (encL_Int true y) ∧ (list.length + y.length) * 8 ≤ 140737488355328 ∧ (∀ (i : Nat), i < y.length → ((fun (i : Nat) => [intV (y.getD i (0 : Int))]) i).all VV.mem1 = true) ∧ J (mkSt [(0, VV.tp (enc_Model m)), (1, intV i), (2, encL_Int false list), (3, intV run), (9, VV.ow 0 0 (↑m.Exprs.length : Int).toNat), (10, VV.ow 1 0 (list.length + y.length)), (11, intV (IntKind.i64.wrap ((0 : Int) + (1 : Int))))] [Ob.arr true 0 (↑m.Exprs.length : Int).toNat 1 fun (j : Nat) => bif j.beq (list.getD 0 (0 : Int)).toNat then [boolV true] else [boolV false], Ob.arr true 0 (list.length + y.length) 1 fun (i : Nat) => bif i.blt list.length then (fun (i : Nat) => [intV (list.getD i (0 : Int))]) i else (fun (i : Nat) => [intV (y.getD i (0 : Int))]) (i - list.length)])))))) := by kernel_rfl
theorem uses1_raw (b : Bool) (m : D.Model) (i : Int) (list : List Int) (run : Int) (seen : List Bool) (todo : List Int) (k : Int) (J : St → Prop) : ((fnCtx Tryz.prog tb shGd ann_uses true Tryz.f136 [] (boolV b)).pass [1] 0 J).goal (stUses m i list run seen todo k) =
    (((k == (↑todo.length : Int)) = true → leO [] [] ∧ (boolV true).le (boolV b)) ∧ ((k == (↑todo.length : Int)) = false → ((0 : Int) ≤ k ∧ k < (↑todo.length : Int)) ∧ ((0 : Int) ≤ todo.getD k.toNat (0 : Int) ∧ todo.getD k.toNat (0 : Int) < (↑seen.length : Int)) ∧ (seen.getD (todo.getD k.toNat (0 : Int)).toNat false = true → J (mkSt [(0, VV.tp (enc_Model m)), (1, intV i), (2, encL_Int false list), (3, intV run), (9, VV.ow 0 0 seen.length), (10, VV.ow 1 0 todo.length), (11, intV (IntKind.i64.wrap (k + (1 : Int))))] [Ob.arr true 0 seen.length 1 fun (i : Nat) => [boolV (seen.getD i false)], Ob.arr true 0 todo.length 1 fun (i : Nat) => [intV (todo.getD i (0 : Int))]])) ∧ (seen.getD (todo.getD k.toNat (0 : Int)).toNat false = false → ((0 : Int) ≤ todo.getD k.toNat (0 : Int) ∧ todo.getD k.toNat (0 : Int) < (↑seen.length : Int)) ∧ ((0 : Int) ≤ todo.getD k.toNat (0 : Int) ∧ todo.getD k.toNat (0 : Int) < (↑m.Exprs.length : Int)) ∧ ((bif bif (m.Exprs.getD (todo.getD k.toNat (0 : Int)).toNat default).Op == 39 then todo.getD k.toNat (0 : Int) != run else false then true else bif i == m.Claim then bif bif (m.Exprs.getD (todo.getD k.toNat (0 : Int)).toNat default).Op == 31 then true else (m.Exprs.getD (todo.getD k.toNat (0 : Int)).toNat default).Op == 39 then true else bif (m.Exprs.getD (todo.getD k.toNat (0 : Int)).toNat default).Op == 2 then (m.Exprs.getD (todo.getD k.toNat (0 : Int)).toNat default).V.Scope == 1 else false else false) = true → leO [] [] ∧ (boolV false).le (boolV b)) ∧ ((bif bif (m.Exprs.getD (todo.getD k.toNat (0 : Int)).toNat default).Op == 39 then todo.getD k.toNat (0 : Int) != run else false then true else bif i == m.Claim then bif bif (m.Exprs.getD (todo.getD k.toNat (0 : Int)).toNat default).Op == 31 then true else (m.Exprs.getD (todo.getD k.toNat (0 : Int)).toNat default).Op == 39 then true else bif (m.Exprs.getD (todo.getD k.toNat (0 : Int)).toNat default).Op == 2 then (m.Exprs.getD (todo.getD k.toNat (0 : Int)).toNat default).V.Scope == 1 else false else false) = false → (((m.Exprs.getD (todo.getD k.toNat (0 : Int)).toNat default).Op == 2) = true → ∃ (y : Int), VSpec Tryz.prog 146 [] [VV.agg (enc_Var (m.Exprs.getD (todo.getD k.toNat (0 : Int)).toNat default).V)] [] (intV y) ∧ ∃ (y_1 : Int), VSpec Tryz.prog 163 [] [VV.tp (enc_Model m), intV i, VV.agg (enc_Var (m.Exprs.getD (todo.getD k.toNat (0 : Int)).toNat default).V)] [] (intV y_1) ∧ (decide (y > y_1) = true → leO [] [] ∧ (boolV false).le (boolV b)) ∧ (decide (y > y_1) = false → ∃ (y : List Int), VSpec Tryz.prog 133 [] [VV.agg (enc_Expr (m.Exprs.getD (todo.getD k.toNat (0 : Int)).toNat default))] [] (encL_Int true y) ∧ (todo.length + y.length) * 8 ≤ 140737488355328 ∧ (∀ (i : Nat), i < y.length → ((fun (i : Nat) => [intV (y.getD i (0 : Int))]) i).all VV.mem1 = true) ∧ J (mkSt [(0, VV.tp (enc_Model m)), (1, intV i), (2, encL_Int false list), (3, intV run), (9, VV.ow 0 0 seen.length), (10, VV.ow 1 0 (todo.length + y.length)), (11, intV (IntKind.i64.wrap (k + (1 : Int))))] [Ob.arr true 0 seen.length 1 fun (j : Nat) => bif j.beq (todo.getD k.toNat (0 : Int)).toNat then [boolV true] else [boolV (seen.getD j false)], Ob.arr true 0 (todo.length + y.length) 1 fun (i : Nat) => bif i.blt todo.length then rowsIn todo i else (fun (i : Nat) => [intV (y.getD i (0 : Int))]) (i - todo.length)]))) ∧ (((m.Exprs.getD (todo.getD k.toNat (0 : Int)).toNat default).Op == 2) = false → ∃ (y : List Int), VSpec Tryz.prog 133 [] [VV.agg (enc_Expr (m.Exprs.getD (todo.getD k.toNat (0 : Int)).toNat default))] [] (encL_Int true y) ∧ (todo.length + y.length) * 8 ≤ 140737488355328 ∧ (∀ (i : Nat), i < y.length → ((fun (i : Nat) => [intV (y.getD i (0 : Int))]) i).all VV.mem1 = true) ∧ J (mkSt [(0, VV.tp (enc_Model m)), (1, intV i), (2, encL_Int false list), (3, intV run), (9, VV.ow 0 0 seen.length), (10, VV.ow 1 0 (todo.length + y.length)), (11, intV (IntKind.i64.wrap (k + (1 : Int))))] [Ob.arr true 0 seen.length 1 fun (j : Nat) => bif j.beq (todo.getD k.toNat (0 : Int)).toNat then [boolV true] else [boolV (seen.getD j false)], Ob.arr true 0 (todo.length + y.length) 1 fun (i : Nat) => bif i.blt todo.length then rowsIn todo i else (fun (i : Nat) => [intV (y.getD i (0 : Int))]) (i - todo.length)])))))) := by kernel_rfl
theorem proc1_raw (b : Bool) (m : D.Model) (i : Int) (p : D.Proc) (k : Int) (J : St → Prop) : ((fnCtx Tryz.prog tb shGd ann_proc true Tryz.f106 [] (boolV b)).loop [1, 1, 0, 1, 0] J).goal (stProc1 m i p k) =
    ((decide (k < (↑p.Locs.length : Int)) = true → ((0 : Int) ≤ k ∧ k < (↑p.Locs.length : Int)) ∧ ∃ (y : List (List D.Trans)), VSpec Tryz.prog 134 [] [VV.agg (enc_Loc (p.Locs.getD k.toNat default))] [] (encL_Transs true y) ∧ SatC ((fnCtx Tryz.prog tb shGd ann_proc true Tryz.f106 [] (boolV b)).loop [1, 1, 0, 1, 0] J) [1, 1, 0, 0, 1, 1, 0] (mkSt [(0, VV.tp (enc_Model m)), (1, intV i), (5, VV.bp 0 0), (21, encL_Loc true p.Locs), (22, intV (↑p.Locs.length : Int)), (23, intV k), (28, encL_Transs true y), (29, intV (↑y.length : Int)), (30, intV (0 : Int))] [Ob.box (enc_Proc p)])) ∧ (decide (k < (↑p.Locs.length : Int)) = false → ∃ (y : Bool), ((true && decide (p.Provided < (0 : Int)) == false) = true → VSpec Tryz.prog 136 [] [VV.tp (enc_Model m), intV i, VV.sl true 1 1 fun (i : Nat) => List.take 1 (List.drop (i * 1) [intV p.Provided]), intV (-1 : Int)] [] (boolV y)) ∧ leO [] [] ∧ (boolV (bif decide (p.Provided < (0 : Int)) then true else y)).le (boolV b))) := by kernel_rfl
theorem proc2_raw (b : Bool) (m : D.Model) (i : Int) (p : D.Proc) (k : Int) (ws : List (List D.Trans)) (j : Int) (J J2 : St → Prop) : (((fnCtx Tryz.prog tb shGd ann_proc true Tryz.f106 [] (boolV b)).loop [1, 1, 0, 1, 0] J).loop [1, 1, 0, 0, 1, 1, 0] J2).goal (stProc2 m i p k ws j) =
    ((decide (j < (↑ws.length : Int)) = true → ((0 : Int) ≤ j ∧ j < (↑ws.length : Int)) ∧ SatC (((fnCtx Tryz.prog tb shGd ann_proc true Tryz.f106 [] (boolV b)).loop [1, 1, 0, 1, 0] J).loop [1, 1, 0, 0, 1, 1, 0] J2) [1, 1, 0, 0, 1, 1, 0] (mkSt [(0, VV.tp (enc_Model m)), (1, intV i), (5, VV.bp 0 0), (21, encL_Loc true p.Locs), (22, intV (↑p.Locs.length : Int)), (23, intV k), (28, encL_Transs true ws), (29, intV (↑ws.length : Int)), (30, intV j), (34, encL_Trans true (ws.getD j.toNat [])), (35, intV (↑(ws.getD j.toNat []).length : Int)), (36, intV (0 : Int))] [Ob.box (enc_Proc p)])) ∧ (decide (j < (↑ws.length : Int)) = false → J (mkSt [(0, VV.tp (enc_Model m)), (1, intV i), (5, VV.bp 0 0), (21, encL_Loc true p.Locs), (22, intV (↑p.Locs.length : Int)), (23, intV (IntKind.i64.wrap (k + (1 : Int))))] [Ob.box (enc_Proc p)]))) := by kernel_rfl
theorem proc3_raw (b : Bool) (m : D.Model) (i : Int) (p : D.Proc) (k : Int) (ws : List (List D.Trans)) (j : Int) (w : List D.Trans) (h : Int) (J J2 J3 : St → Prop) : ((((fnCtx Tryz.prog tb shGd ann_proc true Tryz.f106 [] (boolV b)).loop [1, 1, 0, 1, 0] J).loop [1, 1, 0, 0, 1, 1, 0] J2).loop [1, 1, 0, 0, 1, 1, 0] J3).goal (stProc3 m i p k ws j w h) =
    ((decide (h < (↑w.length : Int)) = true → ((0 : Int) ≤ h ∧ h < (↑w.length : Int)) ∧ ∃ (y : Bool), VSpec Tryz.prog 135 [] [VV.tp (enc_Model m), intV i, VV.agg (enc_Stmt (w.getD h.toNat default).S)] [] (boolV y) ∧ ((!y) = true → leO [] [] ∧ (boolV false).le (boolV b)) ∧ ((!y) = false → J3 (mkSt [(0, VV.tp (enc_Model m)), (1, intV i), (5, VV.bp 0 0), (21, encL_Loc true p.Locs), (22, intV (↑p.Locs.length : Int)), (23, intV k), (28, encL_Transs true ws), (29, intV (↑ws.length : Int)), (30, intV j), (34, encL_Trans true w), (35, intV (↑w.length : Int)), (36, intV (IntKind.i64.wrap (h + (1 : Int))))] [Ob.box (enc_Proc p)]))) ∧ (decide (h < (↑w.length : Int)) = false → J2 (mkSt [(0, VV.tp (enc_Model m)), (1, intV i), (5, VV.bp 0 0), (21, encL_Loc true p.Locs), (22, intV (↑p.Locs.length : Int)), (23, intV k), (28, encL_Transs true ws), (29, intV (↑ws.length : Int)), (30, intV (IntKind.i64.wrap (j + (1 : Int))))] [Ob.box (enc_Proc p)]))) := by kernel_rfl
theorem tables1_raw (r e : Int) (m : D.Model) (k : Int) (J : St → Prop) : ((fnCtx Tryz.prog tb shGd ann_tables true Tryz.f102 [] (.tup [intV r, intV e])).loop [1, 1, 1, 1, 1, 0, 1, 0] J).goal (stTab1 m k) =
    ((decide (k < (↑m.Shapes.length : Int)) = true → ((0 : Int) ≤ k ∧ k < (↑m.Shapes.length : Int)) ∧ ∃ (y : Bool), VSpec Tryz.prog 131 [] [VV.agg (enc_Shape (m.Shapes.getD k.toNat default))] [] (boolV y) ∧ ((!y) = true → leO [] [] ∧ (VV.tup [intV (2 : Int), intV k]).le (VV.tup [intV r, intV e])) ∧ ((!y) = false → J (mkSt [(0, VV.tp (enc_Model m)), (4, VV.bp 0 0), (50, encL_Shape true m.Shapes), (51, intV (↑m.Shapes.length : Int)), (52, intV (IntKind.i64.wrap (k + (1 : Int))))] [Ob.box (enc_Model m)]))) ∧ (decide (k < (↑m.Shapes.length : Int)) = false → SatC (fnCtx Tryz.prog tb shGd ann_tables true Tryz.f102 [] (VV.tup [intV r, intV e])) [1, 1, 1, 1, 1, 1, 0, 1, 0] (mkSt [(0, VV.tp (enc_Model m)), (4, VV.bp 0 0), (63, encL_Int true m.Chans), (64, intV (↑m.Chans.length : Int)), (65, intV (0 : Int))] [Ob.box (enc_Model m)]))) := by kernel_rfl
theorem tables2_raw (r e : Int) (m : D.Model) (k : Int) (J : St → Prop) : ((fnCtx Tryz.prog tb shGd ann_tables true Tryz.f102 [] (.tup [intV r, intV e])).loop [1, 1, 1, 1, 1, 1, 0, 1, 0] J).goal (stTab2 m k) =
    ((decide (k < (↑m.Chans.length : Int)) = true → ((0 : Int) ≤ k ∧ k < (↑m.Chans.length : Int)) ∧ ((bif decide (m.Chans.getD k.toNat (0 : Int) < (0 : Int)) then true else decide (m.Chans.getD k.toNat (0 : Int) ≥ (↑m.Shapes.length : Int))) = true → leO [] [] ∧ (VV.tup [intV (2 : Int), intV k]).le (VV.tup [intV r, intV e])) ∧ ((bif decide (m.Chans.getD k.toNat (0 : Int) < (0 : Int)) then true else decide (m.Chans.getD k.toNat (0 : Int) ≥ (↑m.Shapes.length : Int))) = false → J (mkSt [(0, VV.tp (enc_Model m)), (4, VV.bp 0 0), (63, encL_Int true m.Chans), (64, intV (↑m.Chans.length : Int)), (65, intV (IntKind.i64.wrap (k + (1 : Int))))] [Ob.box (enc_Model m)]))) ∧ (decide (k < (↑m.Chans.length : Int)) = false → ((bif bif bif bif decide ((↑m.Procs.length : Int) < (1 : Int)) then true else decide ((↑m.Procs.length : Int) > (16 : Int)) then true else decide (m.Claim < (-1 : Int)) then true else decide (m.Claim ≥ (↑m.Procs.length : Int)) then true else decide ((↑m.Exprs.length : Int) > (4096 : Int))) = true → leO [] [] ∧ (VV.tup [intV (3 : Int), intV (-1 : Int)]).le (VV.tup [intV r, intV e])) ∧ ((bif bif bif bif decide ((↑m.Procs.length : Int) < (1 : Int)) then true else decide ((↑m.Procs.length : Int) > (16 : Int)) then true else decide (m.Claim < (-1 : Int)) then true else decide (m.Claim ≥ (↑m.Procs.length : Int)) then true else decide ((↑m.Exprs.length : Int) > (4096 : Int))) = false → ((0 : Int) ≤ (↑m.Exprs.length : Int) ∧ (↑m.Exprs.length : Int) ≤ (↑m.Exprs.length : Int) ∧ (↑m.Exprs.length : Int) * (↑1 : Int) ≤ (140737488355328 : Int)) ∧ SatC (fnCtx Tryz.prog tb shGd ann_tables true Tryz.f102 [] (VV.tup [intV r, intV e])) [1, 1, 1, 1, 1, 1, 1, 1, 1, 0, 1, 0] (mkSt [(0, VV.tp (enc_Model m)), (4, VV.bp 0 0), (10, VV.ow 1 0 (↑m.Exprs.length : Int).toNat), (116, intV (↑m.Exprs.length : Int)), (117, intV (0 : Int))] [Ob.box (enc_Model m), Ob.arr true 0 (↑m.Exprs.length : Int).toNat 1 fun (_ : Nat) => ((fnCtx Tryz.prog tb shGd ann_tables true Tryz.f102 [] (VV.tup [intV r, intV e])).T (4 : TypeId)).zero])))) := by kernel_rfl
theorem tables3_raw (r e : Int) (m : D.Model) (had : List Bool) (k : Int) (J : St → Prop) : ((fnCtx Tryz.prog tb shGd ann_tables true Tryz.f102 [] (.tup [intV r, intV e])).loop [1, 1, 1, 1, 1, 1, 1, 1, 1, 0, 1, 0] J).goal (stTab3 m had k) =
    ((decide (k < (↑m.Exprs.length : Int)) = true → ∃ (y : Bool), VSpec Tryz.prog 132 [] [VV.tp (enc_Model m), intV k] [] (boolV y) ∧ ((!y) = true → leO [] [] ∧ (VV.tup [intV (3 : Int), intV k]).le (VV.tup [intV r, intV e])) ∧ ((!y) = false → ((0 : Int) ≤ k ∧ k < (↑m.Exprs.length : Int)) ∧ ∃ (y : List Int), VSpec Tryz.prog 133 [] [VV.agg (enc_Expr (m.Exprs.getD k.toNat default))] [] (encL_Int true y) ∧ SatC ((fnCtx Tryz.prog tb shGd ann_tables true Tryz.f102 [] (VV.tup [intV r, intV e])).loop [1, 1, 1, 1, 1, 1, 1, 1, 1, 0, 1, 0] J) [1, 1, 0, 0, 1, 1, 1, 0] (mkSt [(0, VV.tp (enc_Model m)), (4, VV.bp 0 0), (10, VV.ow 1 0 had.length), (11, intV k), (116, intV (↑m.Exprs.length : Int)), (117, intV k), (130, encL_Int true y), (131, intV (↑y.length : Int)), (132, intV (0 : Int))] [Ob.box (enc_Model m), Ob.arr true 0 had.length 1 fun (i : Nat) => [boolV (had.getD i false)]]))) ∧ (decide (k < (↑m.Exprs.length : Int)) = false → leO [] [] ∧ (VV.tup [intV (0 : Int), intV (0 : Int)]).le (VV.tup [intV r, intV e]))) := by kernel_rfl
theorem tables4_raw (r e : Int) (m : D.Model) (had : List Bool) (k : Int) (l : List Int) (j : Int) (J J2 : St → Prop) : (((fnCtx Tryz.prog tb shGd ann_tables true Tryz.f102 [] (.tup [intV r, intV e])).loop [1, 1, 1, 1, 1, 1, 1, 1, 1, 0, 1, 0] J).loop [1, 1, 0, 0, 1, 1, 1, 0] J2).goal (stTab4 m had k l j) =
    ((decide (j < (↑l.length : Int)) = true → ((0 : Int) ≤ j ∧ j < (↑l.length : Int)) ∧ ((0 : Int) ≤ l.getD j.toNat (0 : Int) ∧ l.getD j.toNat (0 : Int) < (↑had.length : Int)) ∧ (had.getD (l.getD j.toNat (0 : Int)).toNat false = true → leO [] [] ∧ (VV.tup [intV (3 : Int), intV k]).le (VV.tup [intV r, intV e])) ∧ (had.getD (l.getD j.toNat (0 : Int)).toNat false = false → ((0 : Int) ≤ l.getD j.toNat (0 : Int) ∧ l.getD j.toNat (0 : Int) < (↑had.length : Int)) ∧ J2 (mkSt [(0, VV.tp (enc_Model m)), (4, VV.bp 0 0), (10, VV.ow 1 0 had.length), (11, intV k), (116, intV (↑m.Exprs.length : Int)), (117, intV k), (130, encL_Int true l), (131, intV (↑l.length : Int)), (132, intV (IntKind.i64.wrap (j + (1 : Int))))] [Ob.box (enc_Model m), Ob.arr true 0 had.length 1 fun (j_1 : Nat) => bif j_1.beq (l.getD j.toNat (0 : Int)).toNat then [boolV true] else [boolV (had.getD j_1 false)]]))) ∧ (decide (j < (↑l.length : Int)) = false → J (mkSt [(0, VV.tp (enc_Model m)), (4, VV.bp 0 0), (10, VV.ow 1 0 had.length), (116, intV (↑m.Exprs.length : Int)), (117, intV (IntKind.i64.wrap (k + (1 : Int))))] [Ob.box (enc_Model m), Ob.arr true 0 had.length 1 fun (i : Nat) => [boolV (had.getD i false)]]))) := by kernel_rfl
theorem held1_raw (r : List Int) (x : D.Expr) (l : List Int) (k : Int) (J : St → Prop) : ((fnCtx Tryz.prog tb shGd ann_held true Tryz.f133 [] (encL_Int true r)).loop [1, 1, 1, 0, 1, 0, 1, 1, 0] J).goal (stHeld x l k) =
    ((decide (k < (↑x.V.Dims.length : Int)) = true → ((0 : Int) ≤ k ∧ k < (↑x.V.Dims.length : Int)) ∧ (l.length + 1) * 8 ≤ 140737488355328 ∧ J (mkSt [(3, VV.ow 0 0 (l.length + 1)), (45, encL_Dim true x.V.Dims), (46, intV (↑x.V.Dims.length : Int)), (47, intV (IntKind.i64.wrap (k + (1 : Int))))] [Ob.arr true 0 (l.length + 1) 1 fun (i : Nat) => bif i.blt l.length then [intV (l.getD i (0 : Int))] else (fun (i : Nat) => List.take 1 (List.drop (i * 1) [intV (x.V.Dims.getD k.toNat default).I])) (i - l.length)])) ∧ (decide (k < (↑x.V.Dims.length : Int)) = false → leO [] [] ∧ (encL_Int true l).le (encL_Int true r))) := by kernel_rfl
theorem check1_raw (r e f : Int) (m : D.Model) (many k : Int) (J : St → Prop) : ((fnCtx Tryz.prog tb shGd ann_check true Tryz.f70 [] (.tup [intV r, intV e, intV f])).loop [1, 1, 1, 1, 0, 1, 0] J).goal (stCheck1 m many k) =
    ((decide (k < (↑m.Procs.length : Int)) = true → ((0 : Int) ≤ k ∧ k < (↑m.Procs.length : Int)) ∧ ∃ (y : Bool), VSpec Tryz.prog 103 [] [VV.agg (enc_Proc (m.Procs.getD k.toNat default))] [] (boolV y) ∧ ∃ (y_1 : Bool), ((true && (!y) == false) = true → VSpec Tryz.prog 104 [] [VV.agg (enc_Proc (m.Procs.getD k.toNat default))] [] (boolV y_1)) ∧ ∃ (y_2 : Bool), ((true && (bif bif bif !y then true else !y_1 then true else decide ((m.Procs.getD k.toNat default).Provided < (-1 : Int)) then true else decide ((m.Procs.getD k.toNat default).Provided ≥ (↑m.Exprs.length : Int))) == false && (k == m.Claim) == true) = true → VSpec Tryz.prog 105 [] [VV.agg (enc_Proc (m.Procs.getD k.toNat default))] [] (boolV y_2)) ∧ ((bif bif bif bif !y then true else !y_1 then true else decide ((m.Procs.getD k.toNat default).Provided < (-1 : Int)) then true else decide ((m.Procs.getD k.toNat default).Provided ≥ (↑m.Exprs.length : Int)) then true else bif k == m.Claim then !y_2 else false) = true → leO [] [] ∧ (VV.tup [intV (40 : Int), intV (4 : Int), intV k]).le (VV.tup [intV r, intV e, intV f])) ∧ ((bif bif bif bif !y then true else !y_1 then true else decide ((m.Procs.getD k.toNat default).Provided < (-1 : Int)) then true else decide ((m.Procs.getD k.toNat default).Provided ≥ (↑m.Exprs.length : Int)) then true else bif k == m.Claim then !y_2 else false) = false → J (mkSt [(1, VV.bp 0 0), (5, VV.bp 1 0), (8, intV (IntKind.i64.wrap (many + (m.Procs.getD k.toNat default).Active))), (25, encL_Proc true m.Procs), (26, intV (↑m.Procs.length : Int)), (27, intV (IntKind.i64.wrap (k + (1 : Int))))] [Ob.box (enc_Model m), Ob.box (enc_Model m)]))) ∧ (decide (k < (↑m.Procs.length : Int)) = false → (decide (many > (16 : Int)) = true → leO [] [] ∧ (VV.tup [intV (40 : Int), intV (5 : Int), intV (-1 : Int)]).le (VV.tup [intV r, intV e, intV f])) ∧ (decide (many > (16 : Int)) = false → SatC (fnCtx Tryz.prog tb shGd ann_check true Tryz.f70 [] (VV.tup [intV r, intV e, intV f])) [1, 1, 1, 1, 1, 1, 0, 1, 0] (mkSt [(5, VV.bp 0 0), (74, intV (↑m.Procs.length : Int)), (75, intV (0 : Int))] [Ob.box (enc_Model m)])))) := by kernel_rfl
theorem check2_raw (r e f : Int) (m : D.Model) (k : Int) (J : St → Prop) : ((fnCtx Tryz.prog tb shGd ann_check true Tryz.f70 [] (.tup [intV r, intV e, intV f])).loop [1, 1, 1, 1, 1, 1, 0, 1, 0] J).goal (stCheck2 m k) =
    ((decide (k < (↑m.Procs.length : Int)) = true → ∃ (y : Bool), VSpec Tryz.prog 106 [] [VV.tp (enc_Model m), intV k] [] (boolV y) ∧ ((!y) = true → leO [] [] ∧ (VV.tup [intV (40 : Int), intV (6 : Int), intV k]).le (VV.tup [intV r, intV e, intV f])) ∧ ((!y) = false → J (mkSt [(5, VV.bp 0 0), (74, intV (↑m.Procs.length : Int)), (75, intV (IntKind.i64.wrap (k + (1 : Int))))] [Ob.box (enc_Model m)]))) ∧ (decide (k < (↑m.Procs.length : Int)) = false → leO [] [] ∧ (VV.tup [intV (0 : Int), intV (0 : Int), intV (0 : Int)]).le (VV.tup [intV r, intV e, intV f]))) := by kernel_rfl
end Go.Proofs.YtiaebjpcgjkhoaaGreatDoor
namespace Go.Proofs.YtiaebjpcgjkhoaaGreatDoor
open Go.RowKit
theorem leafB {a b : Bool} (h : a = b) : leO [] [] ∧ VV.le (.sc (.bool a)) (.sc (.bool b)) := ⟨trivial, VV.le_eq (by rw [h])⟩
theorem leafI {a b : Int} (h : a = b) : leO [] [] ∧ VV.le (.sc (.int .i64 a)) (.sc (.int .i64 b)) := ⟨trivial, VV.le_eq (by rw [h])⟩
theorem leaf2 {a b c d : Int} (h : (a, b) = (c, d)) : leO [] [] ∧ VV.le (.tup [.sc (.int .i64 a), .sc (.int .i64 b)]) (.tup [.sc (.int .i64 c), .sc (.int .i64 d)]) := by
  simp only [Prod.mk.injEq] at h; exact ⟨trivial, VV.le_eq (by rw [h.1, h.2])⟩
theorem leaf3 {a b c d e f : Int} (h : (a, b, c) = (d, e, f)) : leO [] [] ∧ VV.le (.tup [.sc (.int .i64 a), .sc (.int .i64 b), .sc (.int .i64 c)]) (.tup [.sc (.int .i64 d), .sc (.int .i64 e), .sc (.int .i64 f)]) := by
  simp only [Prod.mk.injEq] at h; exact ⟨trivial, VV.le_eq (by rw [h.1, h.2.1, h.2.2])⟩
theorem lt_of {a b : Int} (h : decide (a < b) = true) : a < b := of_decide_eq_true h
theorem ge_of {a b : Int} (h : decide (a < b) = false) : b ≤ a := by have := of_decide_eq_false h; omega
theorem wf_in {n : Int} (h : Ev.wInt .i64 n) : -9223372036854775808 ≤ n ∧ n ≤ 9223372036854775807 := wf_i64.1 h
theorem typ_spec (t : D.Type) : VSpec Tryz.prog 93 [] [.agg (enc_Type t)] [] (boolV (typP t)) := by
  refine vspec_raw tb_ok mixed Tryz.func93 (by kernel_rfl) rfl (typ_raw _ t) (leafB ?_)
  rw [Bool.eq_iff_iff]; simp [typP]; cases t.Signed <;> simp <;> omega
theorem typ_in {t : D.Type} (h : typP t = true) : 1 ≤ t.Bits ∧ t.Bits ≤ 32 ∧ (t.Signed = true → t.Bits = 16 ∨ t.Bits = 32) := by
  unfold typP at h
  simp at h
  refine ⟨h.1, h.2.1, fun hs => ?_⟩
  rcases h.2.2 with h | h
  · rw [hs] at h; cases h
  · exact h
theorem pow_in {n : Nat} (h : n ≤ 32) : (1 : Int) ≤ 2 ^ n ∧ (2 : Int) ^ n ≤ 4294967296 := by
  have h1 : (2 : Nat) ^ n ≤ 2 ^ 32 := Nat.pow_le_pow_right (by omega) h
  have h2 : 1 ≤ (2 : Nat) ^ n := Nat.one_le_two_pow
  have e : (2 : Int) ^ n = ((2 ^ n : Nat) : Int) := by simp
  rw [e]
  have e32 : (2 : Nat) ^ 32 = 4294967296 := by decide
  omega
theorem fits_spec (t : D.Type) (v : Int) : VSpec Tryz.prog 107 [] [.agg (enc_Type t), intV v] [] (boolV (fitsP t v)) := by
  refine vspec_raw tb_ok mixed Tryz.func107 (by kernel_rfl) rfl (fits_raw _ t v) ⟨typP t, typ_spec t, fun h => leafB ?_, fun h => ?_⟩
  · have h' : typP t = false := by simpa using h
    simp [fitsP, h']
  · have h' : typP t = true := by simpa using h
    obtain ⟨h1, h2, h3⟩ := typ_in h'
    have hb : IntKind.i64.bits = 64 := rfl
    have hw : IntKind.i64.wrap (t.Bits - 1) = t.Bits - 1 := wrap_id (by omega) (by omega)
    refine ⟨fun hs => ?_, fun hs => ?_⟩
    · rw [hw]
      refine ⟨by omega, fun _ => by omega, leafB ?_⟩
      have hp := pow_in (n := (t.Bits - 1).toNat) (by omega)
      have hm : min (t.Bits - 1).toNat IntKind.i64.bits = (t.Bits - 1).toNat := by rw [hb]; omega
      rw [hm, wrap_id (n := -1 * _) (by omega) (by omega), wrap_id (n := 1 * _) (by omega) (by omega)]
      have e1 : (-1 : Int) * 2 ^ (t.Bits - 1).toNat = -(2 ^ (t.Bits - 1).toNat) := by omega
      have e2 : (1 : Int) * 2 ^ (t.Bits - 1).toNat = 2 ^ (t.Bits - 1).toNat := by omega
      rw [e1, e2]
      simp only [fitsP, h', hs, cond_true, Bool.true_and, ge_iff_le]
      cases decide (-(2 : Int) ^ (t.Bits - 1).toNat ≤ v) <;> rfl
    · refine ⟨fun _ => by omega, leafB ?_⟩
      have hp := pow_in (n := t.Bits.toNat) (by omega)
      have hm : min t.Bits.toNat IntKind.i64.bits = t.Bits.toNat := by rw [hb]; omega
      rw [hm, wrap_id (n := 1 * _) (by omega) (by omega)]
      have e2 : (1 : Int) * 2 ^ t.Bits.toNat = 2 ^ t.Bits.toNat := by omega
      rw [e2]
      simp only [fitsP, h', hs, cond_false, Bool.true_and, ge_iff_le]
      cases decide (0 ≤ v) <;> rfl
theorem reach_spec {v : D.Var} (hv : wf_Var v) : VSpec Tryz.prog 146 [] [.agg (enc_Var v)] [] (intV (reachP v)) := by
  have hd := hv.Dims
  refine vspec_raw tb_ok mixed Tryz.func146 (by kernel_rfl) rfl (reach_raw _ v) ⟨fun h => leafI ?_, fun h => ?_⟩
  · unfold reachP
    have : (decide (v.Slot < 0) || (decide (1073741824 < v.Slot) || decide (4 < v.Dims.length))) = true := by simp at h ⊢; omega
    rw [this, cond_true]
  · have hb : 0 ≤ v.Slot ∧ v.Slot ≤ 1073741824 ∧ v.Dims.length ≤ 4 := by simp at h; omega
    have e : reachP v = reachL (v.Slot + 1) v.Dims := by
      unfold reachP
      have : (decide (v.Slot < 0) || (decide (1073741824 < v.Slot) || decide (4 < v.Dims.length))) = false := by simp; omega
      rw [this, cond_false]
    rw [e, wrap_id (by omega) (by omega)]
    refine loop_raw tb_ok mixed (fun g st => ∃ (k : Nat) (n : Int), k ≤ v.Dims.length ∧ g = v.Dims.length - k ∧ 0 ≤ n ∧ n ≤ 1073741825 + k * 1152921504606846976 ∧ reachL n (v.Dims.drop k) = reachL (v.Slot + 1) v.Dims ∧ st = stReach n v k) (by kernel_rfl) (by kernel_rfl)
      ⟨_, Up.of ⟨0, v.Slot + 1, Nat.zero_le _, rfl, by omega, by omega, rfl, rfl⟩⟩ ?_
    rintro g st ⟨k, n, hk, rfl, hn0, hn1, hr, rfl⟩
    refine Asks.raw (reach1_raw _ n v k _) ⟨fun hlt => ?_, fun hge => leafI ?_⟩
    · have hlt' : k < v.Dims.length := by have := lt_of hlt; omega
      have hto : (k : Int).toNat = k := by omega
      rw [hto]
      have hdr : v.Dims.drop k = v.Dims.getD k default :: v.Dims.drop (k + 1) := by
        rw [List.drop_eq_getElem_cons hlt']; simp [List.getD, hlt']
      have hw := hd.2 _ (getD_mem (d := default) hlt')
      generalize v.Dims.getD k default = d at hdr hw ⊢
      have hwl := wf_in hw.Len
      rw [hdr] at hr
      refine ⟨⟨by omega, by omega⟩, fun hy => leafI ?_, fun hy => ?_⟩
      · rw [← hr]
        have : dimBad d = true := by
          unfold dimBad
          by_cases hl : d.Len < 1
          · simp [hl]
          · rw [wrap_id (by omega) (by omega)] at hy
            simp at hy ⊢; omega
        show _ = reachL n (d :: _)
        unfold reachL; rw [this]; rfl
      · have hl : 1 ≤ d.Len := by
          by_cases hl : d.Len < 1
          · simp [hl] at hy
          · omega
        have hwr : IntKind.i64.wrap (d.Len - 1) = d.Len - 1 := wrap_id (by omega) (by omega)
        rw [hwr] at hy ⊢
        have hb2 : d.Len - 1 ≤ 1073741824 ∧ 0 ≤ d.Stride ∧ d.Stride ≤ 1073741824 := by simp at hy; omega
        have hbad : dimBad d = false := by unfold dimBad; simp; omega
        have hm1 : 0 ≤ (d.Len - 1) * d.Stride := Int.mul_nonneg (by omega) hb2.2.1
        have hm2 : (d.Len - 1) * d.Stride ≤ 1073741824 * 1073741824 := Int.mul_le_mul hb2.1 hb2.2.2 hb2.2.1 (by omega)
        rw [wrap_id (n := (d.Len - 1) * d.Stride) (by omega) (by omega), wrap_id (n := n + _) (by omega) (by omega), wrap_succ (by omega)]
        refine ⟨v.Dims.length - (k + 1), by omega, Up.of ⟨k + 1, n + (d.Len - 1) * d.Stride, by omega, rfl, by omega, by omega, ?_, rfl⟩⟩
        rw [← hr]
        show _ = reachL n (d :: _)
        conv => rhs; unfold reachL
        rw [hbad]; rfl
    · have hge' : v.Dims.length ≤ k := by have := ge_of hge; omega
      rw [List.drop_eq_nil_of_le hge'] at hr
      rw [← hr]; rfl
theorem types_spec {t : List D.Type} {init : List Int} (hl : t.length ≤ init.length) (hs : t.length ≤ 1048576) : VSpec Tryz.prog 130 [] [encL_Type true t, encL_Int true init] [] (intV (typesP t init)) := by
  refine vspec_raw tb_ok mixed Tryz.func130 (by kernel_rfl) rfl (types_raw _ t init) ?_
  refine loop_idx tb_ok mixed t.length (fun k => stTypes t init k) (fun k => ∀ i, i < k → fitsP (t.getD i default) (init.getD i 0) = true) (by kernel_rfl) (by kernel_rfl) (fun i hi => by omega) ?_
  intro k hk hI J next
  refine Asks.raw (types1_raw _ t init k J) ⟨fun hlt => ?_, fun hge => leafI ?_⟩
  · have hlt' : k < t.length := by have := lt_of hlt; omega
    refine ⟨⟨by omega, by omega⟩, ⟨by omega, by omega⟩, fitsP (t.getD k default) (init.getD k 0), fits_spec _ _, fun hy => leafI ?_, fun hy => next _ hlt' (fun i hi => ?_) (Up.of ?_)⟩
    · exact (badI_some (f := fun i => fitsP (t.getD i default) (init.getD i 0)) hI hlt' (by simpa using hy)).symm
    · rcases Nat.lt_succ_iff_lt_or_eq.1 hi with h | rfl
      · exact hI i h
      · simpa using hy
    · rw [wrap_succ (by omega)]; rfl
  · have hge' : t.length ≤ k := by have := ge_of hge; omega
    exact (badI_none (f := fun i => fitsP (t.getD i default) (init.getD i 0)) fun i hi => hI i (by omega)).symm
theorem shape_spec {s : D.Shape} (hs : wf_Shape s) : VSpec Tryz.prog 131 [] [.agg (enc_Shape s)] [] (boolV (shapeP s)) := by
  have hl := hs.Fields.1
  refine vspec_raw tb_ok mixed Tryz.func131 (by kernel_rfl) rfl (shape_raw _ s) ⟨fun h => leafB ?_, fun h => ?_⟩
  · symm; rw [Bool.eq_false_iff]; intro hc; simp [shapeP] at hc h; omega
  · have e : shapeP s = allI s.Fields.length fun i => typP (s.Fields.getD i default) := by
      unfold shapeP
      have : (decide (0 ≤ s.Room) && decide (s.Room ≤ 16) && decide (1 ≤ s.Fields.length) && decide (s.Fields.length ≤ 8)) = true := by simp at h ⊢; omega
      rw [this, Bool.true_and]
    rw [e]
    refine loop_idx tb_ok mixed s.Fields.length (fun k => stShape s k) (fun k => ∀ i, i < k → typP (s.Fields.getD i default) = true) (by kernel_rfl) (by kernel_rfl) (fun i hi => by omega) ?_
    intro k hk hI J next
    refine Asks.raw (shape1_raw _ s k J) ⟨fun hlt => ?_, fun hge => leafB ?_⟩
    · have hlt' : k < s.Fields.length := by have := lt_of hlt; omega
      refine ⟨⟨by omega, by omega⟩, typP (s.Fields.getD k default), typ_spec _, fun hy => leafB ?_, fun hy => next _ hlt' (fun i hi => ?_) (Up.of ?_)⟩
      · exact (allI_no (f := fun i => typP (s.Fields.getD i default)) hlt' (by simpa using hy)).symm
      · rcases Nat.lt_succ_iff_lt_or_eq.1 hi with h | rfl
        · exact hI i h
        · simpa using hy
      · rw [wrap_succ (by omega)]; rfl
    · have hge' : s.Fields.length ≤ k := by have := ge_of hge; omega
      exact (allI_iff.2 fun i hi => hI i (by omega)).symm
theorem procty_spec (m : D.Model) (n : Int) : VSpec Tryz.prog 161 [] [tpM m, intV n] [] (boolV (procP m n)) := by
  refine vspec_raw tb_ok mixed Tryz.func161 (by kernel_rfl) rfl (procty_raw _ m n) (leafB ?_)
  rw [Bool.eq_iff_iff]; simp [procP]
theorem below_spec' {a : Int} {l : List Int} (hl : l.length ≤ 1099511627776) : VSpec Tryz.prog 157 [] [intV a, encL_Int false l] [] (boolV (belowP a l)) := by
  refine vspec_raw tb_ok mixed Tryz.func157 (by kernel_rfl) rfl (below_raw _ a l) ?_
  refine loop_idx tb_ok mixed l.length (fun k => stBelow a l k) (fun k => ∀ i, i < k → inP a (l.getD i 0) = true) (by kernel_rfl) (by kernel_rfl) (fun i hi => by omega) ?_
  intro k hk hI J next
  refine Asks.raw (below1_raw _ a l k J) ⟨fun hlt => ?_, fun hge => leafB ?_⟩
  · have hlt' : k < l.length := by have := lt_of hlt; omega
    have hto : (k : Int).toNat = k := by omega
    rw [hto]
    refine ⟨⟨by omega, by omega⟩, fun hy => leafB ?_, fun hy => next _ hlt' (fun i hi => ?_) (Up.of ?_)⟩
    · exact (allI_no (f := fun i => inP a (l.getD i 0)) hlt' (by rw [Bool.eq_false_iff]; intro hc; simp [inP] at hc hy; omega)).symm
    · rcases Nat.lt_succ_iff_lt_or_eq.1 hi with h | rfl
      · exact hI i h
      · simp [inP] at hy ⊢; omega
    · rw [wrap_succ (by omega)]; rfl
  · have hge' : l.length ≤ k := by have := ge_of hge; omega
    exact (allI_iff.2 fun i hi => hI i (by omega)).symm
theorem below_spec {a : Int} {l : List Int} (hl : l.length ≤ 1099511627776) : VSpec Tryz.prog 157 [] [intV a, encL_Int true l] [] (boolV (belowP a l)) := by
  refine vspec_raw tb_ok mixed Tryz.func157 (by kernel_rfl) rfl (belowt_raw _ a l) ?_
  refine loop_idx tb_ok mixed l.length (fun k => stBelowt a l k) (fun k => ∀ i, i < k → inP a (l.getD i 0) = true) (by kernel_rfl) (by kernel_rfl) (fun i hi => by omega) ?_
  intro k hk hI J next
  refine Asks.raw (belowt1_raw _ a l k J) ⟨fun hlt => ?_, fun hge => leafB ?_⟩
  · have hlt' : k < l.length := by have := lt_of hlt; omega
    have hto : (k : Int).toNat = k := by omega
    rw [hto]
    refine ⟨⟨by omega, by omega⟩, fun hy => leafB ?_, fun hy => next _ hlt' (fun i hi => ?_) (Up.of ?_)⟩
    · exact (allI_no (f := fun i => inP a (l.getD i 0)) hlt' (by rw [Bool.eq_false_iff]; intro hc; simp [inP] at hc hy; omega)).symm
    · rcases Nat.lt_succ_iff_lt_or_eq.1 hi with h | rfl
      · exact hI i h
      · simp [inP] at hy ⊢; omega
    · rw [wrap_succ (by omega)]; rfl
  · have hge' : l.length ≤ k := by have := ge_of hge; omega
    exact (allI_iff.2 fun i hi => hI i (by omega)).symm
theorem below_one {a x : Int} : VSpec Tryz.prog 157 [] [intV a, .sl false 1 1 fun i => List.take 1 (List.drop (i * 1) [.sc (.int .i64 x)])] [] (boolV (inP a x)) := by
  have h := below_spec' (a := a) (l := [x]) (by simp)
  have e : belowP a [x] = inP a x := by simp [belowP, allI, List.getD]
  rw [e] at h
  refine h.le trivial ⟨VV.le_refl _, VV.le_sl (.inl rfl) fun i hi => leL_eq ?_, trivial⟩ trivial (VV.le_refl _)
  obtain rfl : i = 0 := by omega
  rfl
end Go.Proofs.YtiaebjpcgjkhoaaGreatDoor
namespace Go.Proofs.YtiaebjpcgjkhoaaGreatDoor
open Go.RowKit
theorem bt {b : Bool} {p : Prop} (h : b = true) (k : b = false) : p := by rw [h] at k; cases k
theorem below_one' {a x : Int} : VSpec Tryz.prog 157 [] [intV a, .sl true 1 1 fun i => List.take 1 (List.drop (i * 1) [.sc (.int .i64 x)])] [] (boolV (inP a x)) := by
  have h := below_spec (a := a) (l := [x]) (by simp)
  have e : belowP a [x] = inP a x := by simp [belowP, allI, List.getD]
  rw [e] at h
  refine h.le trivial ⟨VV.le_refl _, VV.le_sl (.inl rfl) fun i hi => leL_eq ?_, trivial⟩ trivial (VV.le_refl _)
  obtain rfl : i = 0 := by omega
  rfl
theorem parts_spec (op : Int) : VSpec Tryz.prog 156 [] [intV op] [] (intV (partsP op)) := by
  refine vspec_raw tb_ok mixed Tryz.func156 (by kernel_rfl) rfl (parts_raw _ op) ?_
  have k0 : ∀ {p : Prop}, (op = 1 ∨ op = 2 ∨ op = 31 ∨ op = 32 ∨ op = 33 ∨ op = 34 ∨ op = 35 ∨ op = 39) → leO [] [] ∧ VV.le (.sc (.int .i64 0)) (.sc (.int .i64 (partsP op : Nat))) := fun h => leafI (by unfold partsP; rw [if_pos h]; rfl)
  have kx : ¬(op = 1 ∨ op = 2 ∨ op = 31 ∨ op = 32 ∨ op = 33 ∨ op = 34 ∨ op = 35 ∨ op = 39) → ((op == (24 : Int)) = true → leO [] [] ∧ (VV.sc (.int .i64 3)).le (.sc (.int .i64 (partsP op : Nat)))) ∧ ((op == (24 : Int)) = false →
      ((bif decide (op ≥ (6 : Int)) then decide (op ≤ (23 : Int)) else false) = true → leO [] [] ∧ (VV.sc (.int .i64 2)).le (.sc (.int .i64 (partsP op : Nat)))) ∧ ((bif decide (op ≥ (6 : Int)) then decide (op ≤ (23 : Int)) else false) = false → leO [] [] ∧ (VV.sc (.int .i64 1)).le (.sc (.int .i64 (partsP op : Nat))))) := by
    intro hn
    refine ⟨fun h => leafI ?_, fun h => ⟨fun h2 => leafI ?_, fun h2 => leafI ?_⟩⟩
    · unfold partsP; rw [if_neg hn, if_pos (by simpa using h)]; rfl
    · unfold partsP; rw [if_neg hn, if_neg (by simpa using h), if_pos (by simp at h2; omega)]; rfl
    · unfold partsP; rw [if_neg hn, if_neg (by simpa using h), if_neg (by simp at h2; omega)]; rfl
  refine ⟨fun h1 => ⟨fun _ => k0 (p := True) (by simp at h1; omega), fun h => bt h1 h⟩, fun h1 => ⟨fun h2 => ⟨fun _ => k0 (p := True) (by simp at h2; omega), fun h => bt h2 h⟩, fun h2 => ⟨fun h3 => ⟨fun _ => k0 (p := True) (by simp at h3; omega), fun h => bt h3 h⟩, fun h3 => ⟨fun h4 => ⟨fun _ => k0 (p := True) (by simp at h4; omega), fun h => bt h4 h⟩, fun h4 => ⟨fun h5 => ⟨fun _ => k0 (p := True) (by simp at h5; omega), fun h => bt h5 h⟩, fun h5 =>
    ⟨fun h6 => ⟨fun _ => k0 (p := True) (by simp at h6; omega), fun h => bt h6 h⟩, fun h6 => ⟨fun h7 => ⟨fun _ => k0 (p := True) (by simp at h7; omega), fun h => bt h7 h⟩, fun h7 => ⟨fun h8 => k0 (p := True) (by simp at h8; omega), fun h8 => kx (by simp at h1 h2 h3 h4 h5 h6 h7 h8; omega)⟩⟩⟩⟩⟩⟩⟩⟩
theorem vari_spec {m : D.Model} {a : Int} {v : D.Var} (hv : wf_Var v) : VSpec Tryz.prog 158 [] [tpM m, intV a, .agg (enc_Var v)] [] (boolV (variableP m a v)) := by
  have hl := hv.Dims.1
  refine vspec_raw tb_ok mixed Tryz.func158 (by kernel_rfl) rfl (vari_raw _ m a v) ?_
  have hloop : ∀ b : Bool, b = allI v.Dims.length (fun i => dimP a (v.Dims.getD i default)) → SatC (fnCtx Tryz.prog tb shGd ann_vari true Tryz.f158 [] (boolV b)) [1, 1, 1, 0, 1, 0] (stVari a v 0) := by
    rintro b rfl
    refine loop_idx tb_ok mixed v.Dims.length (fun k => stVari a v k) (fun k => ∀ i, i < k → dimP a (v.Dims.getD i default) = true) (by kernel_rfl) (by kernel_rfl) (fun i hi => by omega) ?_
    intro k hk hI J next
    refine Asks.raw (vari1_raw _ a v k J) ⟨fun hlt => ?_, fun hge => leafB ?_⟩
    · have hlt' : k < v.Dims.length := by have := lt_of hlt; omega
      have hto : (k : Int).toNat = k := by omega
      rw [hto]
      have hdim : ∀ d : D.Dim, dimP a d = !(bif bif bif bif !(inP a d.I) then true else decide (d.Len < 1) then true else decide (d.Len > 128) then true else decide (d.Stride < 0) then true else decide (d.Stride > 128)) := by
        intro d
        unfold dimP
        cases inP a d.I
        · rfl
        · rw [Bool.eq_iff_iff]; simp <;> omega
      refine ⟨⟨by omega, by omega⟩, inP a (v.Dims.getD k default).I, below_one, fun hy => leafB ?_, fun hy => next _ hlt' (fun i hi => ?_) (Up.of ?_)⟩
      · exact (allI_no (f := fun i => dimP a (v.Dims.getD i default)) hlt' (by show dimP a _ = false; rw [hdim, hy]; rfl)).symm
      · rcases Nat.lt_succ_iff_lt_or_eq.1 hi with h | rfl
        · exact hI i h
        · show dimP a _ = true; rw [hdim, hy]; rfl
      · rw [wrap_succ (by omega)]; rfl
    · have hge' : v.Dims.length ≤ k := by have := ge_of hge; omega
      exact (allI_iff.2 fun i hi => hI i (by omega)).symm
  unfold variableP
  generalize allI v.Dims.length (fun i => dimP a (v.Dims.getD i default)) = al at hloop ⊢
  refine ⟨fun h => leafB ?_, fun h => ⟨fun h2 => ?_, fun h2 => ?_⟩⟩
  · symm; rw [Bool.eq_false_iff]; intro hc; simp at h hc; omega
  all_goals
    have e : (decide (0 ≤ v.Scope) && decide (v.Scope ≤ 2) && decide (0 ≤ v.Slot) && decide (v.Slot ≤ 128) && decide (v.Dims.length ≤ 4)) = true := by simp at h ⊢; omega
    rw [e, Bool.true_and]
  · have e2 : decide (v.Scope = 2) = true := by simpa using h2
    rw [e2, cond_true]
    refine ⟨inP a v.Who, below_one, procP m v.Type_, fun _ => procty_spec _ _, fun hy => leafB ?_, fun hy => hloop _ ?_⟩
    · cases h3 : inP a v.Who <;> cases h4 : procP m v.Type_ <;> rw [h3, h4] at hy <;> first | rfl | cases hy
    · cases h3 : inP a v.Who <;> cases h4 : procP m v.Type_ <;> rw [h3, h4] at hy <;> first | (simp; done) | cases hy
  · have e2 : decide (v.Scope = 2) = false := by simpa using h2
    rw [e2, cond_false]
    refine ⟨fun hy => leafB ?_, fun hy => hloop _ ?_⟩
    · symm; rw [Bool.eq_false_iff]; intro hc; simp at hy hc; omega
    · have : (decide (v.Who = -1) && decide (v.Type_ = -1)) = true := by simp at hy ⊢; omega
      rw [this, Bool.true_and]
theorem matched_spec {m : D.Model} {a : Int} {args mt : List Int} (ha : a ≤ m.Exprs.length) (h1 : args.length ≤ 1048576) (h2 : mt.length ≤ 1048576) :
    VSpec Tryz.prog 159 [] [tpM m, intV a, encL_Int true args, encL_Int true mt] [] (boolV (matchedP m a args mt)) := by
  refine vspec_raw tb_ok mixed Tryz.func159 (by kernel_rfl) rfl (matched_raw _ m a args mt) ⟨belowP a args, fun _ => below_spec (by omega), fun h => leafB ?_, fun h => ?_⟩
  · unfold matchedP
    symm; rw [Bool.eq_false_iff]; intro hc
    simp at hc h
    obtain ⟨⟨⟨⟨c1, c2⟩, c3⟩, c4⟩, _⟩ := hc
    rw [c4] at h
    simp at h
    omega
  · have hb : belowP a args = true := by
      cases hq : belowP a args with
      | true => rfl
      | false => rw [hq] at h; simp at h
    have hlen : 1 ≤ args.length ∧ args.length ≤ 8 ∧ mt.length = args.length := by rw [hb] at h; simp at h; omega
    have e : matchedP m a args mt = allI mt.length fun i => matchP m (args.getD i 0) (mt.getD i 0) := by
      unfold matchedP
      rw [hb]; simp [hlen]
    rw [e]
    have hin := belowP_iff.1 hb
    refine loop_idx tb_ok mixed mt.length (fun k => stMatched m args mt k) (fun k => ∀ i, i < k → matchP m (args.getD i 0) (mt.getD i 0) = true) (by kernel_rfl) (by kernel_rfl) (fun i hi => by omega) ?_
    intro k hk hI J next
    refine Asks.raw (matched1_raw _ m args mt k J) ⟨fun hlt => ?_, fun hge => leafB ?_⟩
    · have hlt' : k < mt.length := by have := lt_of hlt; omega
      have hto : (k : Int).toNat = k := by omega
      rw [hto]
      have hx := hin _ (getD_mem (d := (0 : Int)) (show k < args.length by omega))
      have hm : matchP m (args.getD k 0) (mt.getD k 0) = !(bif bif decide (mt.getD k 0 < -1) then true else decide (mt.getD k 0 > 1) then true else bif mt.getD k 0 == 0 then (m.Exprs.getD (args.getD k 0).toNat default).Op != 2 else false) := by
        unfold matchP exAt
        rw [Bool.eq_iff_iff]; simp <;> omega
      refine ⟨⟨by omega, by omega⟩, fun _ => ⟨by omega, by omega⟩, fun _ => ⟨by omega, by omega⟩, fun hy => leafB ?_, fun hy => next _ hlt' (fun i hi => ?_) (Up.of ?_)⟩
      · exact (allI_no (f := fun i => matchP m (args.getD i 0) (mt.getD i 0)) hlt' (by show matchP m _ _ = false; rw [hm, hy]; rfl)).symm
      · rcases Nat.lt_succ_iff_lt_or_eq.1 hi with h | rfl
        · exact hI i h
        · rw [hm, hy]; rfl
      · rw [wrap_succ (by omega)]; rfl
    · have hge' : mt.length ≤ k := by have := ge_of hge; omega
      exact (allI_iff.2 fun i hi => hI i (by omega)).symm
theorem places_spec {m : D.Model} {x : D.Expr} (h1 : x.Args.length ≤ 1048576) : VSpec Tryz.prog 160 [] [tpM m, .agg (enc_Expr x)] [] (boolV (placesP m x)) := by
  refine vspec_raw tb_ok mixed Tryz.func160 (by kernel_rfl) rfl (places_raw _ m x) ⟨procP m x.N, fun _ => procty_spec _ _, fun h => leafB ?_, fun h => ?_⟩
  · unfold placesP
    symm; rw [Bool.eq_false_iff]; intro hc
    simp at hc h
    obtain ⟨⟨⟨⟨c1, c2⟩, c3⟩, c4⟩, _⟩ := hc
    rw [c3] at h
    simp at h
    omega
  · have hb : procP m x.N = true := by
      cases hq : procP m x.N with
      | true => rfl
      | false => rw [hq] at h; simp at h
    have hp : 0 ≤ x.N ∧ x.N < m.Procs.length := by unfold procP at hb; simp at hb; omega
    have hlen : 0 ≤ x.N ∧ x.N < 1073741824 ∧ 1 ≤ x.Args.length := by rw [hb] at h; simp at h; omega
    refine ⟨⟨by omega, by omega⟩, belowP (locsOf m x.N).length x.Args, below_spec (by omega), leafB ?_⟩
    unfold placesP
    rw [hb]; simp [hlen]
theorem partP_eq {a op : Int} {i : Nat} {p : Int} : partP a op i p = !(bif bif decide ((i : Int) < (partsP op : Nat)) then !(inP a p) else false then true else bif decide ((i : Int) ≥ (partsP op : Nat)) then p != -1 else false) := by
  unfold partP
  by_cases h : i < partsP op
  · have h1 : decide (i < partsP op) = true := by simpa using h
    have h2 : decide ((i : Int) < (partsP op : Nat)) = true := by simp; omega
    have h3 : decide ((i : Int) ≥ (partsP op : Nat)) = false := by simp; omega
    rw [h1, h2, h3]; simp
  · have h1 : decide (i < partsP op) = false := by simpa using h
    have h2 : decide ((i : Int) < (partsP op : Nat)) = false := by simp; omega
    have h3 : decide ((i : Int) ≥ (partsP op : Nat)) = true := by simp; omega
    rw [h1, h2, h3, Bool.eq_iff_iff]; simp
theorem expr_spec {m : D.Model} {a : Int} (h0 : 0 ≤ a) (ha : a < m.Exprs.length) (hw : wf_Expr (exAt m a)) : VSpec Tryz.prog 132 [] [tpM m, intV a] [] (boolV (exprP m a)) := by
  refine vspec_raw tb_ok mixed Tryz.func132 (by kernel_rfl) rfl (expr_raw _ m a) ⟨⟨h0, ha⟩, fun h => leafB ?_, fun h => ?_⟩
  · symm; rw [Bool.eq_false_iff]; intro hc
    unfold exprP at hc
    simp only [Bool.and_eq_true, decide_eq_true_eq] at hc
    have h' : (bif decide ((exAt m a).Op < 1) then true else decide ((exAt m a).Op > 39)) = true := h
    simp at h'
    omega
  · have hop : 1 ≤ (exAt m a).Op ∧ (exAt m a).Op ≤ 39 := by
      have h' : (bif decide ((exAt m a).Op < 1) then true else decide ((exAt m a).Op > 39)) = false := h
      simp at h'; omega
    have hargs := hw.Args.1
    have hmt := hw.Match.1
    have hwv := hw.V
    generalize hb : exprP m a = b
    unfold exprP at hb
    simp only at hb
    show SatC _ _ (stExpr m a (exAt m a) 0)
    generalize exAt m a = x at hop hargs hmt hwv hb ⊢
    have e : (decide (1 ≤ x.Op) && decide (x.Op ≤ 39)) = true := by simp; omega
    rw [e, Bool.true_and] at hb
    refine loop_raw tb_ok mixed (fun g st => (g = 3 ∧ st = stExpr m a x 0) ∨ (g = 2 ∧ partP a x.Op 0 x.A = true ∧ st = stExpr m a x 1) ∨ (g = 1 ∧ partP a x.Op 0 x.A = true ∧ partP a x.Op 1 x.B = true ∧ st = stExpr m a x 2) ∨ (g = 0 ∧ partP a x.Op 0 x.A = true ∧ partP a x.Op 1 x.B = true ∧ partP a x.Op 2 x.C = true ∧ st = stExpr m a x 3))
      (by kernel_rfl) (by kernel_rfl) ⟨3, Up.of (.inl ⟨rfl, rfl⟩)⟩ ?_
    rintro g st (⟨rfl, rfl⟩ | ⟨rfl, p0, rfl⟩ | ⟨rfl, p0, p1, rfl⟩ | ⟨rfl, p0, p1, p2, rfl⟩)
    · refine Asks.raw (expr1_0_raw _ m a x _) ⟨fun _ => ⟨⟨by omega, by omega⟩, _, parts_spec _, _, fun _ => below_one', _, fun _ => parts_spec _, fun hy => leafB ?_, fun hy => ⟨2, by omega, Up.of (.inr (.inl ⟨rfl, ?_, ?_⟩))⟩⟩, fun h => by cases h⟩
      · have hp : partP a x.Op 0 x.A = false := by rw [partP_eq]; exact congrArg (!·) hy
        rw [← hb, hp]; rfl
      · rw [partP_eq]; exact congrArg (!·) hy
      · rw [wrap_id (by omega) (by omega)]; rfl
    · refine Asks.raw (expr1_1_raw _ m a x _) ⟨fun _ => ⟨⟨by omega, by omega⟩, _, parts_spec _, _, fun _ => below_one', _, fun _ => parts_spec _, fun hy => leafB ?_, fun hy => ⟨1, by omega, Up.of (.inr (.inr (.inl ⟨rfl, p0, ?_, ?_⟩)))⟩⟩, fun h => by cases h⟩
      · have hp : partP a x.Op 1 x.B = false := by rw [partP_eq]; exact congrArg (!·) hy
        rw [← hb, p0, hp]; rfl
      · rw [partP_eq]; exact congrArg (!·) hy
      · rw [wrap_id (by omega) (by omega)]; rfl
    · refine Asks.raw (expr1_2_raw _ m a x _) ⟨fun _ => ⟨⟨by omega, by omega⟩, _, parts_spec _, _, fun _ => below_one', _, fun _ => parts_spec _, fun hy => leafB ?_, fun hy => ⟨0, by omega, Up.of (.inr (.inr (.inr ⟨rfl, p0, p1, ?_, ?_⟩)))⟩⟩, fun h => by cases h⟩
      · have hp : partP a x.Op 2 x.C = false := by rw [partP_eq]; exact congrArg (!·) hy
        rw [← hb, p0, p1, hp]; rfl
      · rw [partP_eq]; exact congrArg (!·) hy
      · rw [wrap_id (by omega) (by omega)]; rfl
    · rw [p0, p1, p2] at hb
      simp only [Bool.and_self, Bool.true_and] at hb
      subst hb
      refine Asks.raw (expr1_3_raw _ m a x _) ⟨fun h => (by cases h), fun _ => ⟨fun h1 => ⟨_, fits_spec ⟨32, true⟩ _, leafB ?_⟩, fun h1 => ⟨fun h2 => ⟨_, vari_spec hwv, leafB ?_⟩, fun h2 => ⟨fun h3 => ⟨_, matched_spec (by omega) hargs hmt, leafB ?_⟩, fun h3 => ⟨fun h4 => ⟨_, places_spec hargs, leafB ?_⟩, fun h4 =>
        ⟨fun h5 => ⟨procP m x.N, fun _ => procty_spec _ _, fun hy => ?_, belowP a x.Args, fun _ => below_spec (by omega), leafB ?_⟩, fun h5 => leafB ?_⟩⟩⟩⟩⟩⟩
      · rw [if_pos (by simpa using h1)]
      · rw [if_neg (by simpa using h1), if_pos (by simpa using h2)]
      · rw [if_neg (by simpa using h1), if_neg (by simpa using h2), if_pos (by simpa using h3)]
        cases matchedP m a x.Args x.Match
        · rfl
        · rw [Bool.eq_iff_iff]; simp
      · rw [if_neg (by simpa using h1), if_neg (by simpa using h2), if_neg (by simpa using h3), if_pos (by simpa using h4)]
      · have hb : procP m x.N = true := by
          cases hq : procP m x.N with
          | true => rfl
          | false => rw [hq] at hy; simp at hy
        unfold procP at hb; simp at hb; omega
      · rw [if_neg (by simpa using h1), if_neg (by simpa using h2), if_neg (by simpa using h3), if_neg (by simpa using h4), if_pos (by simpa using h5)]
        cases procP m x.N <;> cases belowP a x.Args <;> first | (simp; done) | (rw [Bool.eq_iff_iff]; simp)
      · rw [if_neg (by simpa using h1), if_neg (by simpa using h2), if_neg (by simpa using h3), if_neg (by simpa using h4), if_neg (by simpa using h5)]
end Go.Proofs.YtiaebjpcgjkhoaaGreatDoor
namespace Go.Proofs.YtiaebjpcgjkhoaaGreatDoor
open Go.RowKit
theorem drop_cons {α : Type} {l : List α} {k : Nat} {d : α} (h : k < l.length) : l.drop k = l.getD k d :: l.drop (k + 1) := by
  rw [List.drop_eq_getElem_cons h]; simp [List.getD, h]
theorem take_push {α : Type} {l : List α} {k : Nat} {d : α} (h : k < l.length) : l.take (k + 1) = l.take k ++ [l.getD k d] := by
  rw [List.take_add_one, List.getElem?_eq_getElem h]; simp [List.getD, h]
theorem cond_lt {α : Type} {i n : Nat} {a b : α} (h : i < n) : (bif Nat.blt i n then a else b) = a := by
  have hb : Nat.blt i n = true := Nat.ble_eq_true_of_le h
  rw [hb, cond_true]
theorem cond_ge {α : Type} {i n : Nat} {a b : α} (h : n ≤ i) : (bif Nat.blt i n then a else b) = b := by
  have hb : Nat.blt i n = false := by
    cases hq : Nat.blt i n with
    | true => have := Nat.le_of_ble_eq_true hq; omega
    | false => rfl
  rw [hb, cond_false]
theorem rows_app {α : Type} {f : α → List VV} {d : α} {l r : List α} {F G : Nat → List VV} (h1 : ∀ i, i < l.length → F i = f (l.getD i d)) (h2 : ∀ i, i < r.length → G i = f (r.getD i d)) {i : Nat} (hi : i < (l ++ r).length) :
    (bif i.blt l.length then F i else G (i - l.length)) = f ((l ++ r).getD i d) := by
  by_cases hl : i < l.length
  · rw [cond_lt hl, h1 i hl]
    simp only [List.getD_eq_getElem?_getD, List.getElem?_append_left hl]
  · rw [cond_ge (by omega), h2 _ (by simp at hi; omega)]
    simp only [List.getD_eq_getElem?_getD, List.getElem?_append_right (by omega : l.length ≤ i)]
theorem row_one {x : Int} : ∀ i, i < [x].length → (fun i => List.take 1 (List.drop (i * 1) [VV.sc (.int .i64 x)])) i = (fun n => [intV n]) ([x].getD i 0) := by
  intro i hi
  obtain rfl : i = 0 := by simpa using hi
  rfl
theorem satC_rows {c : Ctx} {rel : List Nat} {l : List (Nat × VV)} {g n sz : Nat} {F G : Nat → List VV} (h : ∀ i, i < n → F i = G i) (k : SatC c rel (mkSt l [.arr true g n sz G])) : SatC c rel (mkSt l [.arr true g n sz F]) :=
  SatC.le (hs := [.arr true g n sz F]) (hs' := [.arr true g n sz G]) (leT_refl _) ⟨Ob.le_arr fun i hi => leL_eq (h i hi), trivial⟩ k
theorem ways_spec {l : D.Loc} (h1 : l.Esc.length ≤ 1048576) : VSpec Tryz.prog 134 [] [.agg (enc_Loc l)] [] (encL_Transs true (waysP l)) := by
  refine vspec_raw tb_ok mixed Tryz.func134 (by kernel_rfl) rfl (ways_raw _ l) ⟨by omega, fun i hi => rfl, trivial, ?_⟩
  have e : 1 + l.Esc.length = (waysP l).length := by simp [waysP]; omega
  rw [e]
  refine VV.le_sl (.inl rfl) fun i hi => leL_eq ?_
  refine rows_app (l := [l.Out]) (r := l.Esc) (f := fun w => [encL_Trans true w]) (d := []) (F := fun i => List.take 1 (List.drop (i * 1) [encL_Trans true l.Out])) (G := fun i => [encL_Trans true (l.Esc.getD i [])]) (fun i hi => ?_) (fun i hi => rfl) hi
  obtain rfl : i = 0 := by simpa using hi
  rfl
theorem frame_spec {p : D.Proc} (hp : wf_Proc p) : VSpec Tryz.prog 103 [] [.agg (enc_Proc p)] [] (boolV (frameP p)) := by
  have h1 := hp.Frame.1
  refine vspec_raw tb_ok mixed Tryz.func103 (by kernel_rfl) rfl (frame_raw _ p) ⟨typesP p.Frame p.Init, fun h => types_spec ?_ h1, leafB ?_⟩
  · simp at h; omega
  · rw [Bool.eq_iff_iff]; simp [frameP]; omega
theorem claimed_spec {p : D.Proc} (hp : wf_Proc p) : VSpec Tryz.prog 105 [] [.agg (enc_Proc p)] [] (boolV (claimedP p)) := by
  have h1 := hp.Locs.1
  refine vspec_raw tb_ok mixed Tryz.func105 (by kernel_rfl) rfl (claimed_raw _ p) ⟨fun h => leafB ?_, fun h => ?_⟩
  · symm; rw [Bool.eq_false_iff]; intro hc; simp [claimedP, -List.length_eq_zero_iff] at hc h; omega
  · have e : claimedP p = allI p.Locs.length fun i => plainLoc (p.Locs.getD i default) := by
      unfold claimedP
      have : (decide (p.Frame.length = 0) && decide (p.Params ≤ 0) && decide (p.Active ≤ 0) && decide (p.Provided = -1)) = true := by simp at h ⊢; omega
      rw [this, Bool.true_and]
    rw [e]
    refine loop_idx tb_ok mixed p.Locs.length (fun k => stClaimed p k) (fun k => ∀ i, i < k → plainLoc (p.Locs.getD i default) = true) (by kernel_rfl) (by kernel_rfl) (fun i hi => by omega) ?_
    intro k hk hI J next
    refine Asks.raw (claimed1_raw _ p k J) ⟨fun hlt => ?_, fun hge => leafB ?_⟩
    · have hlt' : k < p.Locs.length := by have := lt_of hlt; omega
      have hto : (k : Int).toNat = k := by omega
      rw [hto]
      have hpl : ∀ l : D.Loc, plainLoc l = !(bif bif decide ((l.Esc.length : Int) > 0) then true else l.Atomic then true else l.Dstep) := by
        intro l
        unfold plainLoc
        cases l.Atomic <;> cases l.Dstep <;> rw [Bool.eq_iff_iff] <;> simp
      refine ⟨⟨by omega, by omega⟩, fun hy => leafB ?_, fun hy => next _ hlt' (fun i hi => ?_) (Up.of ?_)⟩
      · exact (allI_no (f := fun i => plainLoc (p.Locs.getD i default)) hlt' (by show plainLoc _ = false; rw [hpl, hy]; rfl)).symm
      · rcases Nat.lt_succ_iff_lt_or_eq.1 hi with h | rfl
        · exact hI i h
        · rw [hpl, hy]; rfl
      · rw [wrap_succ (by omega)]; rfl
    · have hge' : p.Locs.length ≤ k := by have := ge_of hge; omega
      exact (allI_iff.2 fun i hi => hI i (by omega)).symm
theorem graph_spec {p : D.Proc} (hp : wf_Proc p) : VSpec Tryz.prog 104 [] [.agg (enc_Proc p)] [] (boolV (graphP p)) := by
  have h1 := hp.Locs.1
  refine vspec_raw tb_ok mixed Tryz.func104 (by kernel_rfl) rfl (graph_raw _ p) ⟨fun h => leafB ?_, fun h => ?_⟩
  · symm; rw [Bool.eq_false_iff]; intro hc; simp [graphP, inP] at hc h; omega
  · have e : graphP p = locsOk p.Locs.length p.Final 0 0 p.Locs := by
      unfold graphP
      have : (decide (1 ≤ p.Locs.length) && decide (p.Locs.length ≤ 256) && inP p.Locs.length p.Start && inP p.Locs.length p.Final) = true := by simp [inP] at h ⊢; omega
      rw [this, Bool.true_and]
    rw [e]
    generalize hb : locsOk p.Locs.length p.Final 0 0 p.Locs = b
    refine loop_raw tb_ok mixed (fun g st => ∃ (k many : Nat), k ≤ p.Locs.length ∧ g = p.Locs.length - k ∧ many ≤ 1024 ∧ locsOk p.Locs.length p.Final many k (p.Locs.drop k) = b ∧ st = stGraph1 p many k) (by kernel_rfl) (by kernel_rfl) ⟨_, Up.of ⟨0, 0, Nat.zero_le _, rfl, by omega, hb, rfl⟩⟩ ?_
    rintro g st ⟨k, many, hk, rfl, hm, hr, rfl⟩
    refine Asks.raw (graph1_raw _ p many k _) ⟨fun hlt => ?_, fun hge => leafB ?_⟩
    · have hlt' : k < p.Locs.length := by have := lt_of hlt; omega
      have hto : (k : Int).toNat = k := by omega
      rw [hto]
      have hwl := hp.Locs.2 _ (getD_mem (d := default) hlt')
      rw [drop_cons (d := default) hlt'] at hr
      generalize p.Locs.getD k default = l at hwl hr ⊢
      have ho := hwl.Out.1
      have hes := hwl.Esc.1
      have hbad : locBad p.Final k l = bif bif decide ((l.Esc.length : Int) > 8) then true else bif l.Dstep then l.Atomic else false then true else bif (k : Int) == p.Final then decide (IntKind.i64.wrap ((l.Out.length : Int) + (l.Esc.length : Int)) > 0) else false := by
        rw [wrap_id (by omega) (by omega)]
        unfold locBad
        cases l.Dstep <;> cases l.Atomic <;> rw [Bool.eq_iff_iff] <;> simp <;> omega
      rw [← hbad]
      unfold locsOk at hr
      refine ⟨⟨by omega, by omega⟩, fun hy => leafB ?_, fun hy => ?_⟩
      · rw [hy, cond_true] at hr; exact hr
      · rw [hy, cond_false] at hr
        refine ⟨waysP l, ways_spec hes, ?_⟩
        have hwsl : (waysP l).length ≤ 1048577 := by simp [waysP]; omega
        have hwse : ∀ w ∈ waysP l, w.length ≤ 1048576 := by
          intro w hw
          rcases List.mem_cons.1 hw with rfl | hw
          · exact ho
          · exact (hwl.Esc.2 w hw).1
        generalize waysP l = ws at hr hwsl hwse ⊢
        generalize hwo : waysOk p.Locs.length many 0 ws = wo at hr
        refine loop_raw tb_ok mixed (fun g st => ∃ (j mn : Nat), j ≤ ws.length ∧ g = ws.length - j ∧ mn ≤ 1024 ∧ waysOk p.Locs.length mn j (ws.drop j) = wo ∧ st = stGraph2 p mn k ws j) (by kernel_rfl) (by kernel_rfl) ⟨_, Up.of ⟨0, many, Nat.zero_le _, rfl, hm, hwo, rfl⟩⟩ ?_
        rintro g st ⟨j, mn, hj, rfl, hmn, hq, rfl⟩
        refine Asks.raw (graph2_raw _ p mn k ws j _ _) ⟨fun hlt2 => ?_, fun hge2 => ?_⟩
        · have hlt2' : j < ws.length := by have := lt_of hlt2; omega
          have hto2 : (j : Int).toNat = j := by omega
          rw [hto2]
          have hwle := hwse _ (getD_mem (d := []) hlt2')
          rw [drop_cons (d := []) hlt2'] at hq
          generalize ws.getD j [] = w at hwle hq ⊢
          unfold waysOk at hq
          rw [wrap_id (n := (mn : Int) + _) (by omega) (by omega)]
          have e1 : (bif decide ((j : Int) > 0) then (w.length : Int) == 0 else false) = (decide (0 < j) && decide (w.length = 0)) := by
            rw [Bool.eq_iff_iff]; simp
          have e2 : decide ((mn : Int) + (w.length : Int) > 1024) = decide (1024 < mn + w.length) := by
            rw [Bool.eq_iff_iff]; simp; omega
          rw [e1, e2]
          refine ⟨⟨by omega, by omega⟩, fun hy1 => leafB ?_, fun hy1 => ⟨fun hy2 => leafB ?_, fun hy2 => ?_⟩⟩
          · rw [hy1, cond_true] at hq; rw [← hq] at hr; exact hr
          · rw [hy1, cond_false, hy2, cond_true] at hq; rw [← hq] at hr; exact hr
          · rw [hy1, cond_false, hy2, cond_false] at hq
            have hmn2 : mn + w.length ≤ 1024 := by simpa using hy2
            rw [show (mn : Int) + (w.length : Int) = ((mn + w.length : Nat) : Int) by omega]
            refine loop_idx tb_ok mixed w.length (fun h => stGraph3 p (mn + w.length : Nat) k ws j w h) (fun h => ∀ i, i < h → inP p.Locs.length (w.getD i default).To = true) (by kernel_rfl) (by kernel_rfl) (fun i hi => by omega) ?_
            intro h3 hh3 hI J3 next
            refine Asks.raw (graph3_raw _ p _ k ws j w h3 _ _ J3) ⟨fun hlt3 => ?_, fun hge3 => ?_⟩
            · have hlt3' : h3 < w.length := by have := lt_of hlt3; omega
              have hto3 : (h3 : Int).toNat = h3 := by omega
              rw [hto3]
              have hin : inP p.Locs.length (w.getD h3 default).To = !(bif decide ((w.getD h3 default).To < 0) then true else decide ((w.getD h3 default).To ≥ (p.Locs.length : Int))) := by
                unfold inP; rw [Bool.eq_iff_iff]; simp
              refine ⟨⟨by omega, by omega⟩, fun hy => leafB ?_, fun hy => next _ hlt3' (fun i hi => ?_) (Up.of ?_)⟩
              · have := allI_no (n := w.length) (f := fun i => inP p.Locs.length (w.getD i default).To) hlt3' (by show inP _ _ = false; rw [hin, hy]; rfl)
                rw [this, cond_false] at hq; rw [← hq] at hr; exact hr
              · rcases Nat.lt_succ_iff_lt_or_eq.1 hi with h | rfl
                · exact hI i h
                · rw [hin, hy]; rfl
              · rw [wrap_succ (by omega)]; rfl
            · have hge3' : w.length ≤ h3 := by have := ge_of hge3; omega
              have := (allI_iff (n := w.length) (f := fun i => inP p.Locs.length (w.getD i default).To)).2 fun i hi => hI i (by omega)
              rw [this, cond_true] at hq
              rw [wrap_succ (by omega)]
              exact ⟨ws.length - (j + 1), by omega, Up.of ⟨j + 1, mn + w.length, by omega, rfl, hmn2, hq, rfl⟩⟩
        · have hge2' : ws.length ≤ j := by have := ge_of hge2; omega
          rw [List.drop_eq_nil_of_le hge2'] at hq
          unfold waysOk at hq
          rw [← hq] at hr
          rw [wrap_succ (by omega)]
          exact ⟨p.Locs.length - (k + 1), by omega, Up.of ⟨k + 1, mn, by omega, rfl, hmn, hr, rfl⟩⟩
    · have hge' : p.Locs.length ≤ k := by have := ge_of hge; omega
      rw [List.drop_eq_nil_of_le hge'] at hr
      exact hr
theorem text_nil (t : ByteArray) : (t.toList == (⟨#[]⟩ : ByteArray).toList) = decide (t.size = 0) := by
  rw [ByteArray.toList_eq, ByteArray.toList_eq, Bool.eq_iff_iff, beq_iff_eq, decide_eq_true_eq]
  show t.data.toList = [] ↔ t.data.size = 0
  rw [← Array.length_toList, List.length_eq_zero_iff]
theorem empty_spec {s : D.Stmt} {u v x : Bool} (h1 : s.Args.length ≤ 1048576) (h2 : s.Match.length ≤ 1048576) : VSpec Tryz.prog 173 [] [.agg (enc_Stmt s), boolV u, boolV v, boolV x] [] (boolV (emptyP s u v x)) := by
  refine vspec_raw tb_ok mixed Tryz.func173 (by kernel_rfl) rfl (empty_raw _ s u v x) (leafB ?_)
  rw [wrap_id (by omega) (by omega), text_nil]
  unfold emptyP
  have e1 : ((s.Args.length : Int) + (s.Match.length : Int) == 0) = decide (s.Args.length + s.Match.length = 0) := by rw [Bool.eq_iff_iff, beq_iff_eq, decide_eq_true_eq]; omega
  have e2 : (s.N == 0) = decide (s.N = 0) := by rw [Bool.eq_iff_iff, beq_iff_eq, decide_eq_true_eq]
  rw [e1, e2]
  generalize decide (s.Args.length + s.Match.length = 0) = b1
  generalize decide (s.N = 0) = b2
  generalize decide (s.Text.size = 0) = b3
  cases u <;> cases v <;> cases x <;> cases b1 <;> cases b2 <;> cases b3 <;> rfl
theorem place_spec (m : D.Model) (a : Int) : VSpec Tryz.prog 172 [] [tpM m, intV a] [] (boolV (placeP m a)) :=
  vspec_raw tb_ok mixed Tryz.func172 (by kernel_rfl) rfl (place_raw _ m a) ⟨inP m.Exprs.length a, below_one, leafB rfl⟩
theorem target_spec (m : D.Model) (a : Int) : VSpec Tryz.prog 174 [] [tpM m, intV a] [] (boolV (targetP m a)) := by
  have hin : ∀ y : Bool, y = placeP m a → y = true → 0 ≤ a ∧ a < m.Exprs.length := fun y hy h => inP_iff.1 (by rw [hy] at h; exact h)
  refine vspec_raw tb_ok mixed Tryz.func174 (by kernel_rfl) rfl (target_raw _ m a) ⟨placeP m a, place_spec m a, fun h => hin _ rfl (by simpa using h), fun h => hin _ rfl ?_, leafB ?_⟩
  · cases hq : placeP m a with
    | true => rfl
    | false => rw [hq] at h; simp at h
  · unfold targetP exAt
    cases placeP m a
    · rfl
    · rw [Bool.eq_iff_iff]; simp
theorem taken_spec {m : D.Model} {s : D.Stmt} (h1 : s.Args.length ≤ 1048576) (h2 : s.Match.length ≤ 1048576) : VSpec Tryz.prog 175 [] [tpM m, .agg (enc_Stmt s)] [] (boolV (takenP m s)) := by
  refine vspec_raw tb_ok mixed Tryz.func175 (by kernel_rfl) rfl (taken_raw _ m s) ⟨matchedP m m.Exprs.length s.Args s.Match, matched_spec (Int.le_refl _) h1 h2, fun h => leafB ?_, fun h => ?_⟩
  · have h' : matchedP m m.Exprs.length s.Args s.Match = false := by simpa using h
    unfold takenP; rw [h', Bool.false_and]
  · have h' : matchedP m m.Exprs.length s.Args s.Match = true := by simpa using h
    have hlen : s.Match.length = s.Args.length := by
      unfold matchedP at h'
      simp only [Bool.and_eq_true, decide_eq_true_eq] at h'
      exact h'.1.1.2
    have e : takenP m s = allI s.Match.length fun i => !decide (s.Match.getD i 0 = 0) || targetP m (s.Args.getD i 0) := by unfold takenP; rw [h', Bool.true_and]
    rw [e]
    refine loop_idx tb_ok mixed s.Match.length (fun k => stTaken m s k) (fun k => ∀ i, i < k → (!decide (s.Match.getD i 0 = 0) || targetP m (s.Args.getD i 0)) = true) (by kernel_rfl) (by kernel_rfl) (fun i hi => by omega) ?_
    intro k hk hI J next
    refine Asks.raw (taken1_raw _ m s k J) ⟨fun hlt => ?_, fun hge => leafB ?_⟩
    · have hlt' : k < s.Match.length := by have := lt_of hlt; omega
      have hto : (k : Int).toNat = k := by omega
      rw [hto]
      have hm : (!decide (s.Match.getD k 0 = 0) || targetP m (s.Args.getD k 0)) = !(bif s.Match.getD k 0 == 0 then !(targetP m (s.Args.getD k 0)) else false) := by
        generalize s.Match.getD k 0 = z
        cases targetP m (s.Args.getD k 0)
        · rw [Bool.eq_iff_iff]; simp
        · simp
      refine ⟨⟨by omega, by omega⟩, fun _ => ⟨by omega, by omega⟩, targetP m (s.Args.getD k 0), fun _ => target_spec _ _, fun hy => leafB ?_, fun hy => next _ hlt' (fun i hi => ?_) (Up.of ?_)⟩
      · exact (allI_no (f := fun i => !decide (s.Match.getD i 0 = 0) || targetP m (s.Args.getD i 0)) hlt' (by show (!decide (s.Match.getD k 0 = 0) || targetP m (s.Args.getD k 0)) = false; rw [hm, hy]; rfl)).symm
      · rcases Nat.lt_succ_iff_lt_or_eq.1 hi with h | rfl
        · exact hI i h
        · rw [hm, hy]; rfl
      · rw [wrap_succ (by omega)]; rfl
    · have hge' : s.Match.length ≤ k := by have := ge_of hge; omega
      exact (allI_iff.2 fun i hi => hI i (by omega)).symm
theorem slots_spec {m : D.Model} {i : Int} {v : D.Var} (h1 : v.Scope = 1 → 0 ≤ i ∧ i < m.Procs.length) (h2 : v.Scope ≠ 0 → v.Scope ≠ 1 → 0 ≤ v.Type_ ∧ v.Type_ < m.Procs.length) : VSpec Tryz.prog 163 [] [tpM m, intV i, .agg (enc_Var v)] [] (intV (slotsP m i v)) := by
  refine vspec_raw tb_ok mixed Tryz.func163 (by kernel_rfl) rfl (slots_raw _ m i v) ⟨fun h => leafI ?_, fun h => ⟨fun k => ⟨h1 (by simpa using k), leafI ?_⟩, fun k => ⟨h2 (by simpa using h) (by simpa using k), leafI ?_⟩⟩⟩
  · unfold slotsP; rw [if_pos (by simpa using h)]
  · unfold slotsP; rw [if_neg (by simpa using h), if_pos (by simpa using k)]
  · unfold slotsP; rw [if_neg (by simpa using h), if_neg (by simpa using k)]
end Go.Proofs.YtiaebjpcgjkhoaaGreatDoor
namespace Go.Proofs.YtiaebjpcgjkhoaaGreatDoor
open Go.RowKit
def leS (x y : VV) : Prop := ∀ (w : World) (E : Prot) (m : Option Phi) (v : Value), (∀ k, E.br k → E.fz k) → V w E m x v → V w E m y v
theorem leS_refl (x : VV) : leS x x := fun _ _ _ _ _ h => h
theorem leS_sl {n sz : Nat} {f : Nat → List VV} : leS (.sl true n sz f) (.sl false n sz f) := by
  intro w E m v hE h
  obtain ⟨a, cap, rfl, h1, h2, h3⟩ := V.sl_inv h
  refine V.sl_mk h1 h2 fun hp => ?_
  obtain ⟨b, off, rfl, hb, hn, hl, u, hc, hv⟩ := h3 hp
  exact ⟨b, off, rfl, hb, fun hbr => hn (hE b hbr), hl, u, hc, fun i j x hi hx => (hv i j x hi hx).less (fun _ h => h) fun _ _ => trivial⟩
theorem VSpec.frz {P : Program} {f : FuncId} {hs hs' : List Ob} {xs ys : List VV} {r : VV} (h : VSpec P f hs xs hs' r) (hl : ys.length = xs.length) (hle : ∀ (j : Nat) x y, xs[j]? = some x → ys[j]? = some y → leS y x) : VSpec P f hs ys hs' r := by
  refine ⟨h.callable, fun w E φ vs hz hH hφ hs0 => h.call w E φ vs hz hH hφ ⟨hs0.1.trans hl, fun j x hx => ?_⟩⟩
  have hj : j < ys.length := by rw [hl]; exact (List.getElem?_eq_some_iff.1 hx).1
  exact hle j x _ hx (List.getElem?_eq_getElem hj) _ _ _ _ (fun k hk => hk.imp (hH.sub k) fun h => h) (hs0.2 j _ (List.getElem?_eq_getElem hj))
theorem ieq (a b : Int) : (a == b) = decide (a = b) := by rw [Bool.eq_iff_iff, beq_iff_eq, decide_eq_true_eq]
theorem bif_and (a b : Bool) : (bif a then b else false) = (a && b) := by cases a <;> rfl
theorem bif_or (a b : Bool) : (bif a then true else b) = (a || b) := by cases a <;> rfl
theorem nge (n k : Nat) : decide ((n : Int) ≥ k) = decide (k ≤ n) := by rw [Bool.eq_iff_iff, decide_eq_true_eq, decide_eq_true_eq]; omega
theorem nle (n k : Nat) : decide ((n : Int) ≤ k) = decide (n ≤ k) := by rw [Bool.eq_iff_iff, decide_eq_true_eq, decide_eq_true_eq]; omega
theorem ge1 (n : Nat) : decide ((n : Int) ≥ 1) = decide (1 ≤ n) := nge n 1
theorem le8 (n : Nat) : decide ((n : Int) ≤ 8) = decide (n ≤ 8) := nle n 8
theorem le256 (n : Nat) : decide ((n : Int) ≤ 256) = decide (n ≤ 256) := nle n 256
theorem neq0 (n : Nat) : decide ((n : Int) = 0) = decide (n = 0) := by rw [Bool.eq_iff_iff, decide_eq_true_eq, decide_eq_true_eq]; omega
structure SmallS (s : D.Stmt) : Prop where
  a : s.Args.length ≤ 1048576
  m : s.Match.length ≤ 1048576
theorem statement_spec {m : D.Model} {s : D.Stmt} (hs : SmallS s) : VSpec Tryz.prog 162 [] [tpM m, .agg (enc_Stmt s)] [] (boolV (statementP m s)) := by
  have ha := hs.a
  have hb := hs.m
  have em : ∀ u v x : Bool, VSpec Tryz.prog 173 [] [.agg (enc_Stmt s), boolV u, boolV v, boolV x] [] (boolV (emptyP s u v x)) := fun u v x => empty_spec ha hb
  have n1 : ∀ x : Bool, (bif x then s.B == (-1 : Int) else false) = (x && decide (s.B = -1)) := fun x => by rw [ieq, bif_and]
  have hkn : ∀ {k : Int}, (s.Kind == k) = true → s.Kind = k := fun h => by simpa using h
  have hkf : ∀ {k : Int}, (s.Kind == k) = false → s.Kind ≠ k := fun h => by simpa using h
  refine vspec_raw tb_ok mixed Tryz.func162 (by kernel_rfl) rfl (statement_raw _ m s) ?_
  have t13 : s.Kind = 1 ∨ s.Kind = 3 → statementP m s = (placeP m s.A && decide (s.B = -1) && emptyP s true true true) := fun h => by unfold statementP; rw [if_pos h]
  have t2 : s.Kind = 2 → statementP m s = (targetP m s.A && placeP m s.B && emptyP s true true true) := fun h => by unfold statementP; rw [if_neg (by omega), if_pos h]
  have t4 : s.Kind = 4 → statementP m s = (decide (s.A = -1) && decide (s.B = -1) && belowP m.Exprs.length s.Args && decide (s.Match.length = 0) && decide (s.Text.size ≤ 256) && decide (s.N = 0)) := fun h => by unfold statementP; rw [if_neg (by omega), if_neg (by omega), if_pos h]
  have t5 : s.Kind = 5 → statementP m s = (placeP m s.A && decide (s.B = -1) && decide (1 ≤ s.Args.length) && decide (s.Args.length ≤ 8) && belowP m.Exprs.length s.Args && decide (s.Match.length = 0) && (decide (s.N = 0) || decide (s.N = 1)) && decide (s.Text.size = 0)) := fun h => by unfold statementP; rw [if_neg (by omega), if_neg (by omega), if_neg (by omega), if_pos h]
  have t6 : s.Kind = 6 → statementP m s = (placeP m s.A && decide (s.B = -1) && takenP m s && decide (0 ≤ s.N) && decide (s.N ≤ 3) && decide (s.Text.size = 0)) := fun h => by unfold statementP; rw [if_neg (by omega), if_neg (by omega), if_neg (by omega), if_neg (by omega), if_pos h]
  have t7 : s.Kind = 7 ∨ s.Kind = 8 → statementP m s = (decide (s.A = -1) && decide (s.B = -1) && emptyP s true true true) := fun h => by unfold statementP; rw [if_neg (by omega), if_neg (by omega), if_neg (by omega), if_neg (by omega), if_neg (by omega), if_pos h]
  have t9 : s.Kind = 9 → statementP m s = (targetP m s.A && decide (s.B = -1) && decide (0 ≤ s.N) && decide (s.N < m.Shapes.length) && emptyP s true false true) := fun h => by unfold statementP; rw [if_neg (by omega), if_neg (by omega), if_neg (by omega), if_neg (by omega), if_neg (by omega), if_neg (by omega), if_pos h]
  have tx : ¬(s.Kind = 1 ∨ s.Kind = 3) → s.Kind ≠ 2 → s.Kind ≠ 4 → s.Kind ≠ 5 → s.Kind ≠ 6 → ¬(s.Kind = 7 ∨ s.Kind = 8) → s.Kind ≠ 9 → statementP m s = false := fun h1 h2 h3 h4 h5 h6 h7 => by unfold statementP; rw [if_neg h1, if_neg h2, if_neg h3, if_neg h4, if_neg h5, if_neg h6, if_neg h7]
  generalize statementP m s = b at t13 t2 t4 t5 t6 t7 t9 tx ⊢
  exact ⟨fun h1 => ⟨fun _ => ⟨_, place_spec m s.A, _, fun _ => em true true true, leafB (by rw [t13 (.inl (hkn h1)), n1, bif_and])⟩, fun h => bt h1 h⟩, fun h1 => ⟨fun h3 => ⟨_, place_spec m s.A, _, fun _ => em true true true, leafB (by rw [t13 (.inr (hkn h3)), n1, bif_and])⟩, fun h3 => ⟨fun h2 => ⟨_, target_spec m s.A, _, fun _ => place_spec m s.B, _, fun _ => em true true true, leafB (by rw [t2 (hkn h2), bif_and, bif_and])⟩, fun h2 => ⟨fun h4 => ⟨_, fun _ => below_spec (by omega), leafB (by rw [t4 (hkn h4)]; simp only [ieq, bif_and, neq0, le256])⟩, fun h4 => ⟨fun h5 => ⟨_, place_spec m s.A, _, fun _ => below_spec (by omega), leafB (by rw [t5 (hkn h5)]; simp only [ieq, bif_and, bif_or, neq0, text_nil, le8, ge1])⟩, fun h5 => ⟨fun h6 => ⟨_, place_spec m s.A, _, fun _ => taken_spec ha hb, leafB (by rw [t6 (hkn h6)]; simp only [ieq, bif_and, text_nil, ge_iff_le])⟩, fun h6 => ⟨fun h7 => ⟨fun _ => ⟨_, fun _ => em true true true, leafB (by rw [t7 (.inl (hkn h7))]; simp only [ieq, bif_and])⟩, fun h => bt h7 h⟩, fun h7 => ⟨fun h8 => ⟨_, fun _ => em true true true, leafB (by rw [t7 (.inr (hkn h8))]; simp only [ieq, bif_and])⟩, fun h8 => ⟨fun h9 => ⟨_, target_spec m s.A, _, fun _ => em true false true, leafB (by rw [t9 (hkn h9)]; simp only [ieq, bif_and, ge_iff_le])⟩, fun h9 => leafB (tx (fun h => h.elim (hkf h1) (hkf h3)) (hkf h2) (hkf h4) (hkf h5) (hkf h6) (fun h => h.elim (hkf h7) (hkf h8)) (hkf h9)).symm⟩⟩⟩⟩⟩⟩⟩⟩⟩
theorem held_spec {x : D.Expr} (h1 : x.Args.length ≤ 1048576) (h2 : x.V.Dims.length ≤ 1048576) : VSpec Tryz.prog 133 [] [.agg (enc_Expr x)] [] (encL_Int true (heldP x)) := by
  have hp3 := parts_le x.Op
  have hP : ([x.A, x.B, x.C].take (partsP x.Op)).length = partsP x.Op := by simp; omega
  have hrow : ∀ i, i < ([x.A, x.B, x.C].take (partsP x.Op)).length → List.take 1 (List.drop (i * 1) [VV.sc (.int .i64 x.A), .sc (.int .i64 x.B), .sc (.int .i64 x.C)]) = [intV (([x.A, x.B, x.C].take (partsP x.Op)).getD i 0)] := by
    intro i hi
    rw [hP] at hi
    have : ([x.A, x.B, x.C].take (partsP x.Op)).getD i 0 = [x.A, x.B, x.C].getD i 0 := by simp only [List.getD_eq_getElem?_getD, List.getElem?_take, hi, if_true]
    rw [this]
    rcases (show i = 0 ∨ i = 1 ∨ i = 2 by omega) with rfl | rfl | rfl <;> rfl
  have hto : ((partsP x.Op : Nat) : Int).toNat = partsP x.Op := by omega
  have loop : ∀ (L : List Int), L.length ≤ 2097152 → L ++ x.V.Dims.map D.Dim.I = heldP x → SatC (fnCtx Tryz.prog tb shGd ann_held true Tryz.f133 [] (encL_Int true (heldP x))) [1, 1, 1, 0, 1, 0, 1, 1, 0] (stHeld x L 0) := by
    intro L hL hR
    generalize heldP x = R at hR ⊢
    refine loop_idx tb_ok mixed x.V.Dims.length (fun k => stHeld x (L ++ (x.V.Dims.take k).map D.Dim.I) k) (fun _ => True) (by kernel_rfl) (by kernel_rfl) trivial ?_ |> fun h => by simpa using h
    intro k hk _ J next
    have hlen : (L ++ (x.V.Dims.take k).map D.Dim.I).length = L.length + k := by simp; omega
    refine Asks.raw (held1_raw _ x _ k J) ⟨fun hlt => ?_, fun hge => ⟨trivial, ?_⟩⟩
    · have hlt' : k < x.V.Dims.length := by have := lt_of hlt; omega
      have hto : (k : Int).toNat = k := by omega
      rw [hto]
      refine ⟨⟨by omega, by omega⟩, by rw [hlen]; omega, next _ hlt' trivial ?_⟩
      have hpush : (x.V.Dims.take (k + 1)).map D.Dim.I = (x.V.Dims.take k).map D.Dim.I ++ [(x.V.Dims.getD k default).I] := by rw [take_push (d := default) hlt']; simp
      have e : L ++ (x.V.Dims.take (k + 1)).map D.Dim.I = (L ++ (x.V.Dims.take k).map D.Dim.I) ++ [(x.V.Dims.getD k default).I] := by rw [hpush, List.append_assoc]
      rw [e, wrap_succ (by omega)]
      generalize L ++ (x.V.Dims.take k).map D.Dim.I = M
      generalize (x.V.Dims.getD k default).I = z
      refine Up.mk (l' := [(3, .ow 0 0 (M ++ [z]).length), (45, encL_Dim true x.V.Dims), (46, intV x.V.Dims.length), (47, intV ((k + 1 : Nat) : Int))]) (hs' := [.arr true 0 (M ++ [z]).length 1 (rowsIn (M ++ [z]))]) ?_ ?_ rfl
      · rw [show M.length + 1 = (M ++ [z]).length by simp]; exact leT_refl _
      · rw [show M.length + 1 = (M ++ [z]).length by simp]
        exact ⟨Ob.le_arr fun i hi => leL_eq (rows_app (f := fun n => [intV n]) (d := 0) (l := M) (r := [z]) (F := fun i => [.sc (.int .i64 (M.getD i 0))]) (fun i hi => rfl) row_one hi), trivial⟩
    · have hge' : x.V.Dims.length ≤ k := by have := ge_of hge; omega
      rw [List.take_of_length_le hge', hR]
      exact VV.le_refl _
  refine vspec_raw tb_ok mixed Tryz.func133 (by kernel_rfl) rfl (held_raw _ x) ⟨(partsP x.Op : Nat), parts_spec _, ?_⟩
  rw [hto]
  have hpp : partsP x.Op = ([x.A, x.B, x.C].take (partsP x.Op)).length := hP.symm
  generalize hLp : [x.A, x.B, x.C].take (partsP x.Op) = P at hrow hpp loop
  have hheld : heldP x = P ++ ((if x.Op = 30 ∨ x.Op = 39 then x.Args else []) ++ (if x.Op = 2 then (if x.V.Scope = 2 then [x.V.Who] else []) ++ x.V.Dims.map D.Dim.I else [])) := by unfold heldP; rw [hLp]
  generalize heldP x = R at hheld loop ⊢
  rw [hpp] at hp3 ⊢
  refine ⟨⟨by omega, by omega⟩, by omega, fun h => ⟨by omega, fun i hi => rfl, fun k => ?_, fun k => ⟨trivial, ?_⟩⟩, fun h => ⟨fun k => ⟨fun q => ⟨by omega, ?_⟩, fun q => ?_⟩, fun k => ⟨trivial, ?_⟩⟩⟩
  · simp at h k; omega
  · have e : R = P ++ x.Args := by rw [hheld, if_pos (by simpa using h), if_neg (by simpa using k)]; simp
    subst e
    rw [show P.length + x.Args.length = (P ++ x.Args).length by simp]
    exact VV.le_sl (.inl rfl) fun i hi => leL_eq (rows_app (f := fun n => [intV n]) (d := 0) (l := P) (r := x.Args) (G := fun j => [.sc (.int .i64 (x.Args.getD j 0))]) hrow (fun i hi => rfl) hi)
  · have h' : ¬(x.Op = 30 ∨ x.Op = 39) := by simpa using h
    have e : (P ++ [x.V.Who]) ++ x.V.Dims.map D.Dim.I = R := by rw [hheld, if_neg h', if_pos (by simpa using k), if_pos (by simpa using q)]; simp
    refine SatC.le (l' := [(3, .ow 0 0 (P ++ [x.V.Who]).length), (45, encL_Dim true x.V.Dims), (46, intV x.V.Dims.length), (47, intV 0)]) (hs' := [.arr true 0 (P ++ [x.V.Who]).length 1 (rowsIn (P ++ [x.V.Who]))]) ?_ ?_ (loop _ (by simp; omega) e)
    · rw [show P.length + 1 = (P ++ [x.V.Who]).length by simp]; exact leT_refl _
    · rw [show P.length + 1 = (P ++ [x.V.Who]).length by simp]
      exact ⟨Ob.le_arr fun i hi => leL_eq (rows_app (f := fun n => [intV n]) (d := 0) (l := P) (r := [x.V.Who]) hrow row_one hi), trivial⟩
  · have h' : ¬(x.Op = 30 ∨ x.Op = 39) := by simpa using h
    have e : P ++ x.V.Dims.map D.Dim.I = R := by rw [hheld, if_neg h', if_pos (by simpa using k), if_neg (by simpa using q)]; simp
    exact satC_rows (G := rowsIn P) (fun i hi => hrow i hi) (loop _ (by omega) e)
  · have h' : ¬(x.Op = 30 ∨ x.Op = 39) := by simpa using h
    have e : R = P := by rw [hheld, if_neg h', if_neg (by simpa using k)]; simp
    subst e
    exact VV.le_sl (.inl rfl) fun i hi => leL_eq (hrow i hi)
end Go.Proofs.YtiaebjpcgjkhoaaGreatDoor
namespace Go.Proofs.YtiaebjpcgjkhoaaGreatDoor
open Go.RowKit
structure Ready (m : D.Model) : Prop where
  wf : wf_Model m
  ex : ∀ k : Nat, k < m.Exprs.length → exprP m k = true
def InE (m : D.Model) (l : List Int) : Prop := ∀ x ∈ l, 0 ≤ x ∧ x < m.Exprs.length
theorem exAt_mem {m : D.Model} {k : Int} (h0 : 0 ≤ k) (h : k < m.Exprs.length) : exAt m k ∈ m.Exprs := getD_mem (by omega)
theorem Ready.at {m : D.Model} (h : Ready m) {k : Int} (h0 : 0 ≤ k) (hk : k < m.Exprs.length) : exprP m k = true := by
  have := h.ex k.toNat (by omega)
  rwa [show ((k.toNat : Nat) : Int) = k by omega] at this
theorem Ready.held {m : D.Model} (h : Ready m) {k : Int} (h0 : 0 ≤ k) (hk : k < m.Exprs.length) : InE m (heldP (exAt m k)) := fun x hx => by
  have := held_in (h.at h0 hk) x hx; omega
theorem Ready.small {m : D.Model} (h : Ready m) : ∀ x ∈ m.Exprs, x.Args.length ≤ 1048576 ∧ x.V.Dims.length ≤ 1048576 := fun x hx =>
  ⟨(h.wf.Exprs.2 x hx).Args.1, (h.wf.Exprs.2 x hx).V.Dims.1⟩
theorem Ready.slots {m : D.Model} (h : Ready m) {k : Int} (h0 : 0 ≤ k) (hk : k < m.Exprs.length) (h2 : (exAt m k).Op = 2) : (exAt m k).V.Scope ≠ 0 → (exAt m k).V.Scope ≠ 1 → 0 ≤ (exAt m k).V.Type_ ∧ (exAt m k).V.Type_ < m.Procs.length := by
  have hx := h.at h0 hk
  unfold exprP at hx
  simp only [Bool.and_eq_true] at hx
  obtain ⟨_, hO⟩ := hx
  generalize exAt m k = x at *
  rw [if_neg (by omega), if_pos h2] at hO
  simp only [Bool.and_eq_true, variableP] at hO
  obtain ⟨⟨⟨⟨⟨⟨hs0, hs2⟩, _⟩, _⟩, _⟩, hW⟩, _⟩ := hO
  intro n0 n1
  have hs : x.V.Scope = 2 := by simp at hs0 hs2; omega
  simp only [hs, decide_true, cond_true, Bool.and_eq_true] at hW
  have := hW.2
  unfold procP at this
  simp at this; omega
structure Inv (m : D.Model) (i run : Int) (n : Nat) (b : Bool) (seen : List Bool) (todo : List Int) (k : Nat) : Prop where
  sl : seen.length = m.Exprs.length
  le : k ≤ todo.length
  mem : InE m todo
  sum : todo.length + load m seen = n
  res : usesL m i run (todo.length - k + load m seen + 1) seen (todo.drop k) = b
section
variable {m : D.Model} {i run : Int} {n : Nat} {b : Bool} {seen : List Bool} {todo : List Int} {k : Nat}
theorem Inv.at (h : Inv m i run n b seen todo k) (hk : k < todo.length) : 0 ≤ todo.getD k 0 ∧ todo.getD k 0 < m.Exprs.length := h.mem _ (getD_mem hk)
theorem Inv.step (h : Inv m i run n b seen todo k) (hk : k < todo.length) :
    (bif seen.getD (todo.getD k 0).toNat false then usesL m i run (todo.length - (k + 1) + load m seen + 1) seen (todo.drop (k + 1)) else bif useBad m i run (todo.getD k 0) then false
      else usesL m i run (todo.length - (k + 1) + load m seen + 1) (seen.set (todo.getD k 0).toNat true) (todo.drop (k + 1) ++ heldP (exAt m (todo.getD k 0)))) = b := by
  have := h.res
  rw [drop_cons (d := 0) hk, show todo.length - k + load m seen + 1 = (todo.length - (k + 1) + load m seen + 1) + 1 by omega] at this
  exact this
theorem Inv.had (h : Inv m i run n b seen todo k) (hk : k < todo.length) (hs : seen.getD (todo.getD k 0).toNat false = true) : Inv m i run n b seen todo (k + 1) := by
  have := h.step hk
  rw [hs, cond_true] at this
  exact ⟨h.sl, hk, h.mem, h.sum, this⟩
theorem Inv.bad (h : Inv m i run n b seen todo k) (hk : k < todo.length) (hs : seen.getD (todo.getD k 0).toNat false = false) (hu : useBad m i run (todo.getD k 0) = true) : false = b := by
  have := h.step hk
  rw [hs, cond_false, hu, cond_true] at this
  exact this
theorem Inv.more (hr : Ready m) (h : Inv m i run n b seen todo k) (hk : k < todo.length) (hs : seen.getD (todo.getD k 0).toNat false = false) (hu : useBad m i run (todo.getD k 0) = false) :
    Inv m i run n b (seen.set (todo.getD k 0).toNat true) (todo ++ heldP (exAt m (todo.getD k 0))) (k + 1) := by
  have ht := h.at hk
  have hl := load_set (m := m) hs (by rw [h.sl]; omega) h.sl
  have := h.step hk
  rw [hs, cond_false, hu, cond_false] at this
  have hsum := h.sum
  have hx : m.Exprs.getD (todo.getD k 0).toNat default = exAt m (todo.getD k 0) := rfl
  rw [hx] at hl
  refine ⟨by simp [h.sl], by simp; omega, fun x hxm => ?_, by rw [List.length_append]; omega, ?_⟩
  · rcases List.mem_append.1 hxm with hxm | hxm
    · exact h.mem x hxm
    · exact hr.held ht.1 ht.2 x hxm
  · rw [List.drop_append_of_le_length hk, List.length_append]
    rw [show todo.length + (heldP (exAt m (todo.getD k 0))).length - (k + 1) + load m (seen.set (todo.getD k 0).toNat true) + 1 = todo.length - (k + 1) + load m seen + 1 by omega]
    exact this
end
theorem useBad_eq (m : D.Model) (i run k : Int) : useBad m i run k = ((bif bif (exAt m k).Op == 39 then k != run else false then true else bif i == m.Claim then bif bif (exAt m k).Op == 31 then true else (exAt m k).Op == 39 then true else bif (exAt m k).Op == 2 then (exAt m k).V.Scope == 1 else false else false) ||
    ((exAt m k).Op == 2 && decide (slotsP m i (exAt m k).V < reachP (exAt m k).V))) := by
  unfold useBad
  simp only [ieq, bif_and, bif_or, bne, Bool.or_assoc, decide_not]
theorem set_row {l : List Bool} {t j : Nat} (hj : j < l.length) : (bif j.beq t then [VV.sc (.bool true)] else [.sc (.bool (l.getD j false))]) = [boolV ((l.set t true).getD j false)] := by
  cases hq : j.beq t with
  | true =>
    have := Nat.eq_of_beq_eq_true hq; subst this
    simp [List.getD, hj, boolV]
  | false =>
    have hne : t ≠ j := by rintro rfl; simp at hq
    simp [List.getD, hne, boolV]
theorem app_row {l r : List Int} {F : Nat → List VV} (hF : ∀ i, i < l.length → F i = [intV (l.getD i 0)]) {i : Nat} (hi : i < (l ++ r).length) : (bif i.blt l.length then F i else (fun j => [intV (r.getD j 0)]) (i - l.length)) = rowsIn (l ++ r) i :=
  rows_app (f := fun n => [intV n]) (d := 0) (l := l) (r := r) (G := fun j => [intV (r.getD j 0)]) hF (fun _ _ => rfl) hi
theorem uses_spec {m : D.Model} {i run : Int} {list : List Int} (hr : Ready m) (hi0 : 0 ≤ i) (hi : i < m.Procs.length) (hin : InE m list) (hlen : list.length ≤ 2097152) :
    VSpec Tryz.prog 136 [] [tpM m, intV i, encL_Int false list, intV run] [] (boolV (usesP m i list run)) := by
  have hN := hr.wf.Exprs.1
  have hload := load_le hr.small (noneSeen m)
  have hmul : m.Exprs.length * 2097156 ≤ 1048576 * 2097156 := Nat.mul_le_mul_right _ hN
  generalize hb : usesP m i list run = b
  have inv0 : Inv m i run (list.length + load m (noneSeen m)) b (noneSeen m) list 0 := ⟨by simp [noneSeen], Nat.zero_le _, hin, rfl, by rw [← hb]; rfl⟩
  generalize hn : list.length + load m (noneSeen m) = n at inv0
  have hn2 : n ≤ 4398046511104 := by omega
  have small : ∀ {t : Int}, 0 ≤ t → t < m.Exprs.length → (exAt m t).Args.length ≤ 1048576 ∧ (exAt m t).V.Dims.length ≤ 1048576 := fun h0 h1 => hr.small _ (exAt_mem h0 h1)
  have wfv : ∀ {t : Int}, 0 ≤ t → t < m.Exprs.length → wf_Var (exAt m t).V := fun h0 h1 => (hr.wf.Exprs.2 _ (exAt_mem h0 h1)).V
  refine vspec_raw tb_ok mixed Tryz.func136 (by kernel_rfl) rfl (uses_raw _ m i list run) ?_
  refine scope_raw tb_ok mixed 0 (fun g st => ∃ (seen : List Bool) (todo : List Int) (k : Nat), Inv m i run n b seen todo k ∧ g = todo.length - k + load m seen ∧ st = stUses m i list run seen todo k) (by kernel_rfl) (by kernel_rfl) (by kernel_rfl) (by kernel_rfl) (Asks.raw (uses0_raw _ m i list run _) ?_) fun g st h => ?_
  · have hnn : ((m.Exprs.length : Int).toNat) = m.Exprs.length := by omega
    rw [hnn]
    have hto : Int.toNat 0 = 0 := rfl
    have hz : ∀ j, j < m.Exprs.length → (noneSeen m).getD j false = false := fun j hj => by simp [noneSeen, List.getD, hj]
    have hsl : (noneSeen m).length = m.Exprs.length := by simp [noneSeen]
    refine ⟨⟨by omega, by omega, by omega⟩, by omega, fun _ _ => rfl, fun h => leafB ?_, fun h => ?_⟩
    · have h0 : list.length = 0 := by simp at h; omega
      have := inv0.res
      rw [List.eq_nil_of_length_eq_zero h0] at this
      rw [← this]; rfl
    · have h0 : 0 < list.length := by simp at h; omega
      have ht := inv0.at h0
      rw [hto]
      have hs := hz (list.getD 0 0).toNat (by omega)
      have hbad := useBad_eq m i run (list.getD 0 0)
      have more := fun hu => inv0.more hr h0 hs hu
      have bad := fun hu => inv0.bad h0 hs hu
      have hsm := small ht.1 ht.2
      have hwv := wfv ht.1 ht.2
      have hsum := inv0.sum
      have hsl2 := hr.slots ht.1 ht.2
      refine ⟨⟨by omega, by omega⟩, ⟨by omega, by omega⟩, fun h => (by cases h), fun _ => ⟨⟨by omega, by omega⟩, ⟨by omega, by omega⟩, fun hc => leafB (bad (by rw [hbad, Bool.or_eq_true]; exact .inl hc)), fun hc => ?_⟩⟩
      have fin : useBad m i run (list.getD 0 0) = false → (list.length + (heldP (exAt m (list.getD 0 0))).length) * 8 ≤ 140737488355328 ∧ ∃ g, Up (fun st => ∃ (seen : List Bool) (todo : List Int) (k : Nat), Inv m i run n b seen todo k ∧ g = todo.length - k + load m seen ∧ st = stUses m i list run seen todo k)
          (mkSt [(0, tpM m), (1, intV i), (2, encL_Int false list), (3, intV run), (9, .ow 0 0 m.Exprs.length), (10, .ow 1 0 (list.length + (heldP (exAt m (list.getD 0 0))).length)), (11, intV (IntKind.i64.wrap (0 + 1)))]
            [.arr true 0 m.Exprs.length 1 (fun j => bif j.beq (list.getD 0 0).toNat then [.sc (.bool true)] else [.sc (.bool false)]), .arr true 0 (list.length + (heldP (exAt m (list.getD 0 0))).length) 1 (fun j => bif j.blt list.length then (fun j => [intV (list.getD j 0)]) j else (fun j => [intV ((heldP (exAt m (list.getD 0 0))).getD j 0)]) (j - list.length))]) := by
        intro hu
        have hm := more hu
        have hm2 := hm.sum
        generalize heldP (exAt m (list.getD 0 0)) = H at hm hm2 ⊢
        generalize (list.getD 0 0).toNat = t at hm hm2 ⊢
        rw [List.length_append] at hm2
        refine ⟨by omega, (list ++ H).length - (0 + 1) + load m ((noneSeen m).set t true), ?_⟩
        have hw1 : IntKind.i64.wrap (0 + 1) = ((1 : Nat) : Int) := rfl
        have hnl : m.Exprs.length = ((noneSeen m).set t true).length := by simp [noneSeen]
        refine Up.mk (l' := [(0, tpM m), (1, intV i), (2, encL_Int false list), (3, intV run), (9, .ow 0 0 ((noneSeen m).set t true).length), (10, .ow 1 0 (list ++ H).length), (11, intV ((1 : Nat) : Int))])
          (hs' := [.arr true 0 ((noneSeen m).set t true).length 1 (rowsBo ((noneSeen m).set t true)), .arr true 0 (list ++ H).length 1 (rowsIn (list ++ H))]) ?_ ?_ ⟨_, _, _, hm, rfl, rfl⟩
        · rw [hw1, ← hnl, List.length_append]; exact leT_refl _
        · rw [← hnl, ← List.length_append]
          refine ⟨Ob.le_arr fun j hj => leL_eq ?_, Ob.le_arr fun j hj => leL_eq (app_row (fun i hi => rfl) hj), trivial⟩
          have := set_row (l := noneSeen m) (t := t) (j := j) (by omega)
          rw [hz j hj] at this
          exact this
      refine ⟨fun h2 => ⟨_, reach_spec hwv, _, slots_spec (fun _ => ⟨hi0, hi⟩) (hsl2 (eq_of_beq h2)), fun h3 => leafB (bad ?_), fun h3 => ?_⟩, fun h2 => ?_⟩
      · rw [hbad, Bool.or_eq_true, Bool.and_eq_true]; exact .inr ⟨h2, h3⟩
      · have hu : useBad m i run (list.getD 0 0) = false := by
          rw [hbad, Bool.or_eq_false_iff, Bool.and_eq_false_iff]; exact ⟨hc, .inr h3⟩
        obtain ⟨f1, f2⟩ := fin hu
        exact ⟨heldP (exAt m (list.getD 0 0)), held_spec hsm.1 hsm.2, f1, fun i hi => rfl, f2⟩
      · have hu : useBad m i run (list.getD 0 0) = false := by
          rw [hbad, Bool.or_eq_false_iff, Bool.and_eq_false_iff]; exact ⟨hc, .inl h2⟩
        obtain ⟨f1, f2⟩ := fin hu
        exact ⟨heldP (exAt m (list.getD 0 0)), held_spec hsm.1 hsm.2, f1, fun i hi => rfl, f2⟩
  · obtain ⟨seen, todo, k, inv, rfl, rfl⟩ := h
    refine Asks.raw (uses1_raw _ m i list run seen todo k _) ⟨fun h => leafB ?_, fun h => ?_⟩
    · have h0 : k = todo.length := by simp at h; omega
      have := inv.res
      rw [List.drop_eq_nil_of_le (by omega)] at this
      rw [← this, usesL]
    · have hle := inv.le
      have h0 : k < todo.length := by simp at h; omega
      have ht := inv.at h0
      have hto : (k : Int).toNat = k := by omega
      rw [hto]
      have hbad := useBad_eq m i run (todo.getD k 0)
      have hsm := small ht.1 ht.2
      have hwv := wfv ht.1 ht.2
      have hsum := inv.sum
      have hsle := inv.sl
      have hsl2 := hr.slots ht.1 ht.2
      refine ⟨⟨by omega, by omega⟩, ⟨by omega, by omega⟩, fun hs => ?_, fun hs => ?_⟩
      · have hh := inv.had h0 hs
        refine ⟨todo.length - (k + 1) + load m seen, by omega, Up.of ⟨seen, todo, k + 1, hh, rfl, ?_⟩⟩
        rw [wrap_succ (by omega)]; rfl
      have more := fun hu => inv.more hr h0 hs hu
      have bad := fun hu => inv.bad h0 hs hu
      refine ⟨⟨by omega, by omega⟩, ⟨by omega, by omega⟩, fun hc => leafB (bad (by rw [hbad, Bool.or_eq_true]; exact .inl hc)), fun hc => ?_⟩
      have fin : useBad m i run (todo.getD k 0) = false → (todo.length + (heldP (exAt m (todo.getD k 0))).length) * 8 ≤ 140737488355328 ∧ ∃ g', g' < todo.length - k + load m seen ∧ Up (fun st => ∃ (seen : List Bool) (todo : List Int) (k : Nat), Inv m i run n b seen todo k ∧ g' = todo.length - k + load m seen ∧ st = stUses m i list run seen todo k)
          (mkSt [(0, tpM m), (1, intV i), (2, encL_Int false list), (3, intV run), (9, .ow 0 0 seen.length), (10, .ow 1 0 (todo.length + (heldP (exAt m (todo.getD k 0))).length)), (11, intV (IntKind.i64.wrap (k + 1)))]
            [.arr true 0 seen.length 1 (fun j => bif j.beq (todo.getD k 0).toNat then [.sc (.bool true)] else [.sc (.bool (seen.getD j false))]), .arr true 0 (todo.length + (heldP (exAt m (todo.getD k 0))).length) 1 (fun j => bif j.blt todo.length then rowsIn todo j else (fun j => [intV ((heldP (exAt m (todo.getD k 0))).getD j 0)]) (j - todo.length))]) := by
        intro hu
        have hm := more hu
        have hm2 := hm.sum
        generalize heldP (exAt m (todo.getD k 0)) = H at hm hm2 ⊢
        generalize (todo.getD k 0).toNat = t at hm hm2 ⊢
        rw [List.length_append] at hm2
        refine ⟨by omega, (todo ++ H).length - (k + 1) + load m (seen.set t true), by rw [List.length_append]; omega, ?_⟩
        have hnl : seen.length = (seen.set t true).length := by simp
        refine Up.mk (l' := [(0, tpM m), (1, intV i), (2, encL_Int false list), (3, intV run), (9, .ow 0 0 (seen.set t true).length), (10, .ow 1 0 (todo ++ H).length), (11, intV ((k + 1 : Nat) : Int))])
          (hs' := [.arr true 0 (seen.set t true).length 1 (rowsBo (seen.set t true)), .arr true 0 (todo ++ H).length 1 (rowsIn (todo ++ H))]) ?_ ?_ ⟨_, _, _, hm, rfl, rfl⟩
        · rw [wrap_succ (by omega), ← hnl, List.length_append]; exact leT_refl _
        · rw [← hnl, ← List.length_append]
          exact ⟨Ob.le_arr fun j hj => leL_eq (set_row hj), Ob.le_arr fun j hj => leL_eq (app_row (fun i hi => rfl) hj), trivial⟩
      refine ⟨fun h2 => ⟨_, reach_spec hwv, _, slots_spec (fun _ => ⟨hi0, hi⟩) (hsl2 (eq_of_beq h2)), fun h3 => leafB (bad ?_), fun h3 => ?_⟩, fun h2 => ?_⟩
      · rw [hbad, Bool.or_eq_true, Bool.and_eq_true]; exact .inr ⟨h2, h3⟩
      · have hu : useBad m i run (todo.getD k 0) = false := by
          rw [hbad, Bool.or_eq_false_iff, Bool.and_eq_false_iff]; exact ⟨hc, .inr h3⟩
        obtain ⟨f1, f2⟩ := fin hu
        exact ⟨heldP (exAt m (todo.getD k 0)), held_spec hsm.1 hsm.2, f1, fun i hi => rfl, f2⟩
      · have hu : useBad m i run (todo.getD k 0) = false := by
          rw [hbad, Bool.or_eq_false_iff, Bool.and_eq_false_iff]; exact ⟨hc, .inl h2⟩
        obtain ⟨f1, f2⟩ := fin hu
        exact ⟨heldP (exAt m (todo.getD k 0)), held_spec hsm.1 hsm.2, f1, fun i hi => rfl, f2⟩
theorem uses_at {m : D.Model} {i run : Int} {list : List Int} {n : Nat} {F : Nat → List VV} (hr : Ready m) (hi0 : 0 ≤ i) (hi : i < m.Procs.length) (hin : InE m list) (hlen : list.length ≤ 2097152) (hn : n = list.length) (hF : ∀ j, j < list.length → F j = [intV (list.getD j 0)]) :
    VSpec Tryz.prog 136 [] [tpM m, intV i, .sl false n 1 F, intV run] [] (boolV (usesP m i list run)) := by
  subst hn
  exact (uses_spec hr hi0 hi hin hlen).le trivial ⟨VV.le_refl _, VV.le_refl _, VV.le_sl (.inl rfl) fun j hj => leL_eq (hF j hj), VV.le_refl _, trivial⟩ trivial (VV.le_refl _)
def wayList (s : D.Stmt) : List Int := s.Args ++ ((if 0 ≤ s.A then [s.A] else []) ++ (if 0 ≤ s.B then [s.B] else []))
theorem placeP_in {m : D.Model} {a : Int} (h : placeP m a = true) : 0 ≤ a ∧ a < m.Exprs.length := inP_iff.1 h
theorem targetP_in {m : D.Model} {a : Int} (h : targetP m a = true) : 0 ≤ a ∧ a < m.Exprs.length := by
  unfold targetP at h
  simp only [Bool.and_eq_true] at h
  exact placeP_in h.1.1
theorem matchedP_in {m : D.Model} {a : Int} {args mt : List Int} (h : matchedP m a args mt = true) : 1 ≤ args.length ∧ args.length ≤ 8 ∧ mt.length = args.length ∧ ∀ x ∈ args, 0 ≤ x ∧ x < a := by
  unfold matchedP at h
  simp only [Bool.and_eq_true, decide_eq_true_eq] at h
  exact ⟨h.1.1.1.1, h.1.1.1.2, h.1.1.2, belowP_iff.1 h.1.2⟩
theorem stmt_in {m : D.Model} {s : D.Stmt} (h : statementP m s = true) : InE m s.Args ∧ (0 ≤ s.A → s.A < m.Exprs.length) ∧ (0 ≤ s.B → s.B < m.Exprs.length) := by
  have none : ∀ {n t : Bool}, emptyP s true n t = true → InE m s.Args := fun he => by
    unfold emptyP at he
    simp only [Bool.and_eq_true, Bool.not_true, Bool.false_or, decide_eq_true_eq] at he
    have : s.Args = [] := List.eq_nil_of_length_eq_zero (by omega)
    rw [this]; intro x hx; cases hx
  unfold statementP at h
  split at h
  · simp only [Bool.and_eq_true, decide_eq_true_eq] at h
    exact ⟨none h.2, fun _ => (placeP_in h.1.1).2, fun h0 => by omega⟩
  split at h
  · simp only [Bool.and_eq_true] at h
    exact ⟨none h.2, fun _ => (targetP_in h.1.1).2, fun _ => (placeP_in h.1.2).2⟩
  split at h
  · simp only [Bool.and_eq_true, decide_eq_true_eq] at h
    exact ⟨belowP_iff.1 h.1.1.1.2, fun h0 => by omega, fun h0 => by omega⟩
  split at h
  · simp only [Bool.and_eq_true, decide_eq_true_eq] at h
    exact ⟨belowP_iff.1 h.1.1.1.2, fun _ => (placeP_in h.1.1.1.1.1.1.1).2, fun h0 => by omega⟩
  split at h
  · simp only [Bool.and_eq_true, decide_eq_true_eq] at h
    have ht := h.1.1.1.2
    unfold takenP at ht
    simp only [Bool.and_eq_true] at ht
    exact ⟨(matchedP_in ht.1).2.2.2, fun _ => (placeP_in h.1.1.1.1.1).2, fun h0 => by omega⟩
  split at h
  · simp only [Bool.and_eq_true, decide_eq_true_eq] at h
    exact ⟨none h.2, fun h0 => by omega, fun h0 => by omega⟩
  split at h
  · simp only [Bool.and_eq_true, decide_eq_true_eq] at h
    exact ⟨none h.2, fun _ => (targetP_in h.1.1.1.1).2, fun h0 => by omega⟩
  · cases h
theorem wayList_in {m : D.Model} {s : D.Stmt} (h : statementP m s = true) : InE m (wayList s) := by
  obtain ⟨h1, h2, h3⟩ := stmt_in h
  intro x hx
  unfold wayList at hx
  rcases List.mem_append.1 hx with hx | hx
  · exact h1 x hx
  rcases List.mem_append.1 hx with hx | hx
  · split at hx
    · rename_i h0; obtain rfl := List.mem_singleton.1 hx; exact ⟨h0, h2 h0⟩
    · cases hx
  · split at hx
    · rename_i h0; obtain rfl := List.mem_singleton.1 hx; exact ⟨h0, h3 h0⟩
    · cases hx
theorem way_spec {m : D.Model} {i : Int} {s : D.Stmt} (hr : Ready m) (hi0 : 0 ≤ i) (hi : i < m.Procs.length) (hs : SmallS s) : VSpec Tryz.prog 135 [] [tpM m, intV i, .agg (enc_Stmt s)] [] (boolV (wayP m i s)) := by
  have ha := hs.a
  have hkn : ∀ {k : Int}, (s.Kind == k) = true → s.Kind = k := fun h => by simpa using h
  have hkf : ∀ {k : Int}, (s.Kind == k) = false → s.Kind ≠ k := fun h => by simpa using h
  have ec : (bif bif bif bif i == m.Claim then s.Kind != 1 else false then s.Kind != 3 else false then s.Kind != 7 else false then s.Kind != 8 else false) = (decide (i = m.Claim) && (decide (s.Kind ≠ 1) && (decide (s.Kind ≠ 3) && (decide (s.Kind ≠ 7) && decide (s.Kind ≠ 8))))) := by
    simp only [ieq, bif_and, bne, Bool.and_assoc, decide_not]
  refine vspec_raw tb_ok mixed Tryz.func135 (by kernel_rfl) rfl (way_raw _ m i s) ⟨statementP m s, statement_spec hs, ?_⟩
  rw [ec]
  have ew : wayP m i s = (statementP m s && !(decide (i = m.Claim) && (decide (s.Kind ≠ 1) && (decide (s.Kind ≠ 3) && (decide (s.Kind ≠ 7) && decide (s.Kind ≠ 8))))) && usesP m i (wayList s) (if s.Kind = 1 then s.A else if s.Kind = 2 then s.B else -1)) := rfl
  generalize (decide (i = m.Claim) && (decide (s.Kind ≠ 1) && (decide (s.Kind ≠ 3) && (decide (s.Kind ≠ 7) && decide (s.Kind ≠ 8))))) = cl at ew ⊢
  refine ⟨fun h => leafB ?_, fun h => ?_⟩
  · rw [ew]
    cases hq : statementP m s
    · rfl
    · rw [hq] at h
      have : cl = true := by simpa using h
      rw [this]; rfl
  · have hq : statementP m s = true := by
      cases hq : statementP m s with
      | true => rfl
      | false => rw [hq] at h; simp at h
    have hcl : cl = false := by rw [hq] at h; simpa using h
    rw [hq, hcl] at ew
    simp only [Bool.not_false, Bool.true_and] at ew
    have hin := wayList_in hq
    have go : ∀ (run : Int) (n : Nat) (F : Nat → List VV), n = (wayList s).length → (∀ j, j < (wayList s).length → F j = [intV ((wayList s).getD j 0)]) → VSpec Tryz.prog 136 [] [tpM m, intV i, .sl false n 1 F, intV run] [] (boolV (usesP m i (wayList s) run)) := fun run n F hn hF =>
      uses_at hr hi0 hi hin (by unfold wayList; simp only [List.length_append]; split <;> split <;> simp <;> omega) hn hF
    have r1 : s.Kind = 1 → wayP m i s = usesP m i (wayList s) s.A := fun h => by rw [ew, if_pos h]
    have r2 : s.Kind ≠ 1 → s.Kind = 2 → wayP m i s = usesP m i (wayList s) s.B := fun h h' => by rw [ew, if_neg h, if_pos h']
    have r3 : s.Kind ≠ 1 → s.Kind ≠ 2 → wayP m i s = usesP m i (wayList s) (-1) := fun h h' => by rw [ew, if_neg h, if_neg h']
    generalize wayP m i s = b at r1 r2 r3 ⊢
    refine ⟨by omega, fun _ _ => rfl, fun hA => ⟨by omega, fun hB => ⟨by omega, ?_⟩, fun hB => ?_⟩, fun hA => ⟨fun hB => ⟨by omega, ?_⟩, fun hB => ?_⟩⟩
    · have hL : wayList s = (s.Args ++ [s.A]) ++ [s.B] := by unfold wayList; rw [if_pos (by simpa using hA), if_pos (by simpa using hB), List.append_assoc]
      have c1 : s.Args.length + 1 + 1 = (wayList s).length := by rw [hL]; simp
      have e1 : s.Args.length + 1 = (s.Args ++ [s.A]).length := by simp
      have c2 : ∀ j, j < (wayList s).length → (bif Nat.blt j (s.Args.length + 1) then (fun j => bif Nat.blt j s.Args.length then [VV.sc (.int .i64 (s.Args.getD j 0))] else (fun i => List.take 1 (List.drop (i * 1) [VV.sc (.int .i64 s.A)])) (j - s.Args.length)) j else (fun i => List.take 1 (List.drop (i * 1) [VV.sc (.int .i64 s.B)])) (j - (s.Args.length + 1))) = [intV ((wayList s).getD j 0)] := by
        rw [hL, e1]
        exact fun j hj => rows_app (f := fun n => [intV n]) (d := 0) (l := s.Args ++ [s.A]) (r := [s.B]) (F := fun j => bif Nat.blt j s.Args.length then [VV.sc (.int .i64 (s.Args.getD j 0))] else (fun i => List.take 1 (List.drop (i * 1) [VV.sc (.int .i64 s.A)])) (j - s.Args.length)) (fun i hi => rows_app (f := fun n => [intV n]) (d := 0) (l := s.Args) (r := [s.A]) (F := fun j => [.sc (.int .i64 (s.Args.getD j 0))]) (fun i hi => rfl) row_one hi) row_one hj
      exact ⟨fun k1 => ⟨_, go _ _ _ c1 c2, leafB (r1 (hkn k1)).symm⟩, fun k1 => ⟨fun k2 => ⟨_, go _ _ _ c1 c2, leafB (r2 (hkf k1) (hkn k2)).symm⟩, fun k2 => ⟨_, go _ _ _ c1 c2, leafB (r3 (hkf k1) (hkf k2)).symm⟩⟩⟩
    · have hL : wayList s = s.Args ++ [s.A] := by unfold wayList; rw [if_pos (by simpa using hA), if_neg (by simpa using hB), List.append_nil]
      have c1 : s.Args.length + 1 = (wayList s).length := by rw [hL]; simp
      have c2 : ∀ j, j < (wayList s).length → (bif Nat.blt j s.Args.length then [VV.sc (.int .i64 (s.Args.getD j 0))] else (fun i => List.take 1 (List.drop (i * 1) [VV.sc (.int .i64 s.A)])) (j - s.Args.length)) = [intV ((wayList s).getD j 0)] := by
        rw [hL]
        exact fun j hj => rows_app (f := fun n => [intV n]) (d := 0) (l := s.Args) (r := [s.A]) (F := fun j => [.sc (.int .i64 (s.Args.getD j 0))]) (fun i hi => rfl) row_one hj
      exact ⟨fun k1 => ⟨_, go _ _ _ c1 c2, leafB (r1 (hkn k1)).symm⟩, fun k1 => ⟨fun k2 => ⟨_, go _ _ _ c1 c2, leafB (r2 (hkf k1) (hkn k2)).symm⟩, fun k2 => ⟨_, go _ _ _ c1 c2, leafB (r3 (hkf k1) (hkf k2)).symm⟩⟩⟩
    · have hL : wayList s = s.Args ++ [s.B] := by unfold wayList; rw [if_neg (by simpa using hA), if_pos (by simpa using hB), List.nil_append]
      have c1 : s.Args.length + 1 = (wayList s).length := by rw [hL]; simp
      have c2 : ∀ j, j < (wayList s).length → (bif Nat.blt j s.Args.length then [VV.sc (.int .i64 (s.Args.getD j 0))] else (fun i => List.take 1 (List.drop (i * 1) [VV.sc (.int .i64 s.B)])) (j - s.Args.length)) = [intV ((wayList s).getD j 0)] := by
        rw [hL]
        exact fun j hj => rows_app (f := fun n => [intV n]) (d := 0) (l := s.Args) (r := [s.B]) (F := fun j => [.sc (.int .i64 (s.Args.getD j 0))]) (fun i hi => rfl) row_one hj
      exact ⟨fun k1 => ⟨_, go _ _ _ c1 c2, leafB (r1 (hkn k1)).symm⟩, fun k1 => ⟨fun k2 => ⟨_, go _ _ _ c1 c2, leafB (r2 (hkf k1) (hkn k2)).symm⟩, fun k2 => ⟨_, go _ _ _ c1 c2, leafB (r3 (hkf k1) (hkf k2)).symm⟩⟩⟩
    · have hL : wayList s = s.Args := by unfold wayList; rw [if_neg (by simpa using hA), if_neg (by simpa using hB), List.append_nil, List.append_nil]
      have c1 : s.Args.length = (wayList s).length := by rw [hL]
      have c2 : ∀ j, j < (wayList s).length → [intV (s.Args.getD j 0)] = [intV ((wayList s).getD j 0)] := by rw [hL]; exact fun _ _ => rfl
      exact ⟨fun k1 => ⟨_, go _ _ _ c1 c2, leafB (r1 (hkn k1)).symm⟩, fun k1 => ⟨fun k2 => ⟨_, go _ _ _ c1 c2, leafB (r2 (hkf k1) (hkn k2)).symm⟩, fun k2 => ⟨_, go _ _ _ c1 c2, leafB (r3 (hkf k1) (hkf k2)).symm⟩⟩⟩
end Go.Proofs.YtiaebjpcgjkhoaaGreatDoor
namespace Go.Proofs.YtiaebjpcgjkhoaaGreatDoor
open Go.RowKit
theorem wf_trans {t : D.Trans} (h : wf_Trans t) : SmallS t.S := ⟨h.S.Args.1, h.S.Match.1⟩
theorem wf_ways {l : D.Loc} (h : wf_Loc l) : (waysP l).length ≤ 1048577 ∧ ∀ w ∈ waysP l, wfL_Trans w := by
  refine ⟨by have := h.Esc.1; simp [waysP]; omega, fun w hw => ?_⟩
  rcases List.mem_cons.1 hw with rfl | hw
  · exact h.Out
  · exact h.Esc.2 w hw
theorem proc_spec {m : D.Model} {i : Int} (hr : Ready m) (hi0 : 0 ≤ i) (hi : i < m.Procs.length) (hpv : (m.Procs.getD i.toNat default).Provided < m.Exprs.length) :
    VSpec Tryz.prog 106 [] [tpM m, intV i] [] (boolV (procAllP m i)) := by
  have hw := hr.wf.Procs.2 _ (getD_mem (d := default) (show i.toNat < m.Procs.length by omega))
  refine vspec_raw tb_ok mixed Tryz.func106 (by kernel_rfl) rfl (proc_raw _ m i) ⟨⟨hi0, hi⟩, ?_⟩
  generalize hb : procAllP m i = b
  unfold procAllP at hb
  simp only at hb
  generalize m.Procs.getD i.toNat default = p at hw hpv hb ⊢
  have hl := hw.Locs.1
  have bad : ∀ k, k < p.Locs.length → locP m i (p.Locs.getD k default) = false → false = b := fun k hk hf => by
    rw [allI_no (f := fun k => locP m i (p.Locs.getD k default)) hk hf] at hb
    simpa using hb
  refine loop_idx tb_ok mixed p.Locs.length (fun k => stProc1 m i p k) (fun k => ∀ j, j < k → locP m i (p.Locs.getD j default) = true) (by kernel_rfl) (by kernel_rfl) (fun i hi => by omega) ?_
  intro k hk hI J next
  refine Asks.raw (proc1_raw _ m i p k J) ⟨fun hlt => ?_, fun hge => ⟨usesP m i [p.Provided] (-1), fun hy => ?_, leafB ?_⟩⟩
  · have hlt' : k < p.Locs.length := by have := lt_of hlt; omega
    have hto : (k : Int).toNat = k := by omega
    rw [hto]
    have hwl := hw.Locs.2 _ (getD_mem (d := default) hlt')
    have bad' := bad k hlt'
    have next' : ∀ st', locP m i (p.Locs.getD k default) = true → Up (fun s => s = stProc1 m i p ((k + 1 : Nat) : Int)) st' → J st' := fun st' h hu => next st' hlt' (fun j hj => by
      rcases Nat.lt_succ_iff_lt_or_eq.1 hj with h' | rfl
      · exact hI j h'
      · exact h) hu
    generalize p.Locs.getD k default = l at hwl bad' next' ⊢
    obtain ⟨hws, hwe⟩ := wf_ways hwl
    refine ⟨⟨by omega, by omega⟩, waysP l, ways_spec hwl.Esc.1, ?_⟩
    unfold locP at bad' next'
    generalize waysP l = ws at hws hwe bad' next' ⊢
    refine loop_idx tb_ok mixed ws.length (fun j => stProc2 m i p k ws j) (fun j => ∀ x, x < j → transP m i (ws.getD x []) = true) (by kernel_rfl) (by kernel_rfl) (fun i hi => by omega) ?_
    intro j hj hI2 J2 next2
    refine Asks.raw (proc2_raw _ m i p k ws j J J2) ⟨fun hlt2 => ?_, fun hge2 => ?_⟩
    · have hlt2' : j < ws.length := by have := lt_of hlt2; omega
      have hto2 : (j : Int).toNat = j := by omega
      rw [hto2]
      have hwle := hwe _ (getD_mem (d := []) hlt2')
      have bad2 : transP m i (ws.getD j []) = false → false = b := fun hf => bad' (allI_no (f := fun x => transP m i (ws.getD x [])) hlt2' hf)
      have next2' : ∀ st', transP m i (ws.getD j []) = true → Up (fun s => s = stProc2 m i p k ws ((j + 1 : Nat) : Int)) st' → J2 st' := fun st' h hu => next2 st' hlt2' (fun x hx => by
        rcases Nat.lt_succ_iff_lt_or_eq.1 hx with h' | rfl
        · exact hI2 x h'
        · exact h) hu
      generalize ws.getD j [] = w at hwle bad2 next2' ⊢
      have hwl1 := hwle.1
      refine ⟨⟨by omega, by omega⟩, ?_⟩
      refine loop_idx tb_ok mixed w.length (fun h => stProc3 m i p k ws j w h) (fun h => ∀ x, x < h → wayP m i (w.getD x default).S = true) (by kernel_rfl) (by kernel_rfl) (fun i hi => by omega) ?_
      intro h hh hI3 J3 next3
      refine Asks.raw (proc3_raw _ m i p k ws j w h J J2 J3) ⟨fun hlt3 => ?_, fun hge3 => ?_⟩
      · have hlt3' : h < w.length := by have := lt_of hlt3; omega
        have hto3 : (h : Int).toNat = h := by omega
        rw [hto3]
        have hst := wf_trans (hwle.2 _ (getD_mem (d := default) hlt3'))
        refine ⟨⟨by omega, by omega⟩, wayP m i (w.getD h default).S, way_spec hr hi0 hi hst, fun hy => leafB ?_, fun hy => next3 _ hlt3' (fun x hx => ?_) (Up.of ?_)⟩
        · exact bad2 (allI_no (f := fun x => wayP m i (w.getD x default).S) hlt3' (by simpa using hy))
        · rcases Nat.lt_succ_iff_lt_or_eq.1 hx with h' | rfl
          · exact hI3 x h'
          · simpa using hy
        · rw [wrap_succ (by omega)]; rfl
      · have hge3' : w.length ≤ h := by have := ge_of hge3; omega
        refine next2' _ (allI_iff.2 fun x hx => hI3 x (by omega)) (Up.of ?_)
        rw [wrap_succ (by omega)]; rfl
    · have hge2' : ws.length ≤ j := by have := ge_of hge2; omega
      refine next' _ (allI_iff.2 fun x hx => hI2 x (by omega)) (Up.of ?_)
      rw [wrap_succ (by omega)]; rfl
  · have h0 : 0 ≤ p.Provided := by simp at hy; omega
    refine VSpec.frz (uses_at (list := [p.Provided]) (n := 1) hr hi0 hi (fun x hx => ?_) (by simp) rfl row_one) rfl ?_
    · obtain rfl := List.mem_singleton.1 hx; exact ⟨h0, hpv⟩
    · intro j x y hx hy
      match j with
      | 0 => simp at hx hy; subst hx hy; exact leS_refl _
      | 1 => simp at hx hy; subst hx hy; exact leS_refl _
      | 2 => simp only [List.getElem?_cons_succ, List.getElem?_cons_zero, Option.some.injEq] at hx hy; subst hx hy; exact leS_sl
      | 3 => simp at hx hy; subst hx hy; exact leS_refl _
      | j + 4 => simp at hx
  · have hge' : p.Locs.length ≤ k := by have := ge_of hge; omega
    rw [← hb, (allI_iff (n := p.Locs.length) (f := fun k => locP m i (p.Locs.getD k default))).2 fun j hj => hI j (by omega), Bool.true_and, bif_or]
theorem exprsL_ok {m : D.Model} : ∀ (g i : Nat) (had : List Bool), g + i = m.Exprs.length → exprsL m g i had < 0 → ∀ j, i ≤ j → j < m.Exprs.length → exprP m j = true
  | 0, i, had, h, _, j, h1, h2 => by omega
  | g + 1, i, had, h, hn, j, h1, h2 => by
    unfold exprsL at hn
    cases he : exprP m i with
    | false => rw [he, cond_false] at hn; omega
    | true =>
      rw [he, cond_true] at hn
      split at hn
      · rename_i had' _
        by_cases hij : i = j
        · subst hij; exact he
        · exact exprsL_ok g (i + 1) had' (by omega) hn j (by omega) h2
      · omega
theorem exprs_ok {m : D.Model} (h : exprsP m < 0) : ∀ k : Nat, k < m.Exprs.length → exprP m k = true := fun k hk => exprsL_ok _ 0 _ rfl h k (Nat.zero_le _) hk
theorem badI_neg {n : Nat} {f : Nat → Bool} (h : badI n f < 0) : ∀ i, i < n → f i = true := by
  rcases badI_cases (n := n) (f := f) with ⟨_, h2⟩ | ⟨k, _, h2, _⟩
  · exact h2
  · omega
theorem badI_ge {n : Nat} {f : Nat → Bool} : -1 ≤ badI n f := by
  rcases badI_cases (n := n) (f := f) with ⟨h1, _⟩ | ⟨k, _, h2, _⟩ <;> omega
theorem ngt (n k : Nat) : decide ((n : Int) > k) = decide (k < n) := by rw [Bool.eq_iff_iff, decide_eq_true_eq, decide_eq_true_eq]; omega
theorem tables_spec {m : D.Model} (hw : wf_Model m) : VSpec Tryz.prog 102 [] [tpM m] [] (.tup [intV (tablesP m).1, intV (tablesP m).2]) := by
  have hG := hw.Globals.1
  have hS := hw.Shapes.1
  have hC := hw.Chans.1
  have hE := hw.Exprs.1
  refine vspec_raw tb_ok mixed Tryz.func102 (by kernel_rfl) rfl (tables_raw _ _ m) ?_
  have t1 : (bif decide ((m.Globals.length : Int) > 128) then true else (m.Init.length : Int) != (m.Globals.length : Int)) = (decide (128 < m.Globals.length) || !decide (m.Init.length = m.Globals.length)) := by rw [Bool.eq_iff_iff]; simp; omega
  have t2 : (bif decide ((m.Shapes.length : Int) > 32) then true else decide ((m.Chans.length : Int) > 32)) = (decide (32 < m.Shapes.length) || decide (32 < m.Chans.length)) := by rw [Bool.eq_iff_iff]; simp; omega
  have t3 : (bif bif bif bif decide ((m.Procs.length : Int) < 1) then true else decide ((m.Procs.length : Int) > 16) then true else decide (m.Claim < (-1 : Int)) then true else decide (m.Claim ≥ (m.Procs.length : Int)) then true else decide ((m.Exprs.length : Int) > 4096)) =
      (decide (m.Procs.length < 1) || (decide (16 < m.Procs.length) || (decide (m.Claim < -1) || (decide ((m.Procs.length : Int) ≤ m.Claim) || decide (4096 < m.Exprs.length))))) := by
    have u1 : decide ((m.Procs.length : Int) < 1) = decide (m.Procs.length < 1) := by rw [Bool.eq_iff_iff, decide_eq_true_eq, decide_eq_true_eq]; omega
    have u2 : decide ((m.Procs.length : Int) > 16) = decide (16 < m.Procs.length) := ngt _ 16
    have u3 : decide ((m.Exprs.length : Int) > 4096) = decide (4096 < m.Exprs.length) := ngt _ 4096
    rw [u1, u2, u3]; simp only [bif_or, Bool.or_assoc]
  rw [t1, t2]
  generalize hR : tablesP m = R
  unfold tablesP at hR
  refine ⟨fun h => leaf2 (by rw [h, cond_true] at hR; exact hR), fun h => ⟨typesP m.Globals m.Init, types_spec (by simp at h; omega) hG, fun h2 => leaf2 (by rw [h, cond_false, h2, cond_true] at hR; exact hR), fun h2 => ⟨fun h3 => leaf2 ?_, fun h3 => ?_⟩⟩⟩
  · rw [h, cond_false, h2, cond_false, h3, cond_true] at hR; exact hR
  rw [h, cond_false, h2, cond_false, h3, cond_false] at hR
  refine loop_idx tb_ok mixed m.Shapes.length (fun k => stTab1 m k) (fun k => ∀ i, i < k → shapeP (m.Shapes.getD i default) = true) (by kernel_rfl) (by kernel_rfl) (fun i hi => by omega) ?_
  intro k hk hI J next
  refine Asks.raw (tables1_raw _ _ m k J) ⟨fun hlt => ?_, fun hge => ?_⟩
  · have hlt' : k < m.Shapes.length := by have := lt_of hlt; omega
    refine ⟨⟨by omega, by omega⟩, shapeP (m.Shapes.getD k default), shape_spec (hw.Shapes.2 _ (getD_mem hlt')), fun hy => leaf2 ?_, fun hy => next _ hlt' (fun i hi => ?_) (Up.of ?_)⟩
    · have e : shapesP m = k := badI_some (f := fun i => shapeP (m.Shapes.getD i default)) hI hlt' (by simpa using hy)
      rw [e, show decide ((0 : Int) ≤ (k : Int)) = true by simp, cond_true] at hR
      exact hR
    · rcases Nat.lt_succ_iff_lt_or_eq.1 hi with h | rfl
      · exact hI i h
      · simpa using hy
    · rw [wrap_succ (by omega)]; rfl
  have hge' : m.Shapes.length ≤ k := by have := ge_of hge; omega
  have es : shapesP m = -1 := badI_none (f := fun i => shapeP (m.Shapes.getD i default)) fun i hi => hI i (by omega)
  rw [es, show decide ((0 : Int) ≤ -1) = false from rfl, cond_false] at hR
  clear hI next
  refine loop_idx tb_ok mixed m.Chans.length (fun k => stTab2 m k) (fun k => ∀ i, i < k → inP m.Shapes.length (m.Chans.getD i 0) = true) (by kernel_rfl) (by kernel_rfl) (fun i hi => by omega) ?_
  intro k hk hI J next
  refine Asks.raw (tables2_raw _ _ m k J) ⟨fun hlt => ?_, fun hge => ?_⟩
  · have hlt' : k < m.Chans.length := by have := lt_of hlt; omega
    have hto : (k : Int).toNat = k := by omega
    rw [hto]
    have hin : inP m.Shapes.length (m.Chans.getD k 0) = !(bif decide (m.Chans.getD k 0 < 0) then true else decide (m.Chans.getD k 0 ≥ (m.Shapes.length : Int))) := by unfold inP; rw [Bool.eq_iff_iff]; simp
    refine ⟨⟨by omega, by omega⟩, fun hy => leaf2 ?_, fun hy => next _ hlt' (fun i hi => ?_) (Up.of ?_)⟩
    · have e : chansP m = k := badI_some (f := fun i => inP m.Shapes.length (m.Chans.getD i 0)) hI hlt' (by show inP _ _ = false; rw [hin, hy]; rfl)
      rw [e, show decide ((0 : Int) ≤ (k : Int)) = true by simp, cond_true] at hR
      exact hR
    · rcases Nat.lt_succ_iff_lt_or_eq.1 hi with h | rfl
      · exact hI i h
      · rw [hin, hy]; rfl
    · rw [wrap_succ (by omega)]; rfl
  have hge' : m.Chans.length ≤ k := by have := ge_of hge; omega
  have ec : chansP m = -1 := badI_none (f := fun i => inP m.Shapes.length (m.Chans.getD i 0)) fun i hi => hI i (by omega)
  rw [ec, show decide ((0 : Int) ≤ -1) = false from rfl, cond_false] at hR
  rw [t3]
  refine ⟨fun h4 => leaf2 (by rw [h4, cond_true] at hR; exact hR), fun h4 => ⟨⟨by omega, by omega, by omega⟩, ?_⟩⟩
  rw [h4, cond_false] at hR
  clear hI next
  have hnn : ((m.Exprs.length : Int).toNat) = (noneSeen m).length := by simp [noneSeen]
  have hnl : (noneSeen m).length = m.Exprs.length := by simp [noneSeen]
  refine SatC.le (l' := [(0, tpM m), (4, .bp 0 0), (10, .ow 1 0 (noneSeen m).length), (116, intV m.Exprs.length), (117, intV 0)]) (hs' := [.box (enc_Model m), .arr true 0 (noneSeen m).length 1 (rowsBo (noneSeen m))]) ?_ ?_ ?_
  · rw [hnn]; exact leT_refl _
  · rw [hnn]
    refine ⟨Ob.le_refl _, Ob.le_arr fun i hi => leL_eq ?_, trivial⟩
    have : (noneSeen m).getD i false = false := by
      have hi' : i < m.Exprs.length := by rw [← hnl]; exact hi
      simp [noneSeen, List.getD, hi']
    show _ = [boolV ((noneSeen m).getD i false)]
    rw [this]; rfl
  generalize hX : exprsP m = X at hR
  have fin : ∀ {y : Int × Int}, (bif decide (0 ≤ X) then ((3 : Int), X) else (0, 0)) = y → y = R := fun h => by rw [← h]; exact hR
  refine loop_raw tb_ok mixed (fun g st => ∃ (k : Nat) (had : List Bool), k ≤ m.Exprs.length ∧ g = m.Exprs.length - k ∧ had.length = m.Exprs.length ∧ exprsL m (m.Exprs.length - k) k had = X ∧ st = stTab3 m had k) (by kernel_rfl) (by kernel_rfl) ⟨_, Up.of ⟨0, noneSeen m, Nat.zero_le _, rfl, hnl, hX, rfl⟩⟩ ?_
  rintro g st ⟨k, had, hk, rfl, hhl, hr, rfl⟩
  refine Asks.raw (tables3_raw _ _ m had k _) ⟨fun hlt => ?_, fun hge => leaf2 (fin ?_)⟩
  · have hlt' : k < m.Exprs.length := by have := lt_of hlt; omega
    have hto : (k : Int).toNat = k := by omega
    rw [hto]
    have hwx : wf_Expr (m.Exprs.getD k default) := hw.Exprs.2 _ (getD_mem hlt')
    rw [show m.Exprs.length - k = (m.Exprs.length - (k + 1)) + 1 by omega] at hr
    unfold exprsL at hr
    refine ⟨exprP m k, expr_spec (by omega) (by omega) (by unfold exAt; rw [hto]; exact hwx), fun hy => leaf2 (fin ?_), fun hy => ⟨⟨by omega, by omega⟩, heldP (m.Exprs.getD k default), held_spec hwx.Args.1 hwx.V.Dims.1, ?_⟩⟩
    · rw [show exprP m k = false by simpa using hy, cond_false] at hr
      rw [← hr, show decide ((0 : Int) ≤ (k : Int)) = true by simp, cond_true]
    · have hye : exprP m k = true := by simpa using hy
      rw [hye, cond_true] at hr
      have hin := held_in hye
      have hhlen := held_len hwx.Args.1 hwx.V.Dims.1
      unfold exAt at hin
      rw [hto] at hin
      generalize heldP (m.Exprs.getD k default) = l at hin hhlen hr ⊢
      generalize ho : hadL had l = o at hr
      refine loop_raw tb_ok mixed (fun g st => ∃ (j : Nat) (had' : List Bool), j ≤ l.length ∧ g = l.length - j ∧ had'.length = m.Exprs.length ∧ hadL had' (l.drop j) = o ∧ st = stTab4 m had' k l j) (by kernel_rfl) (by kernel_rfl) ⟨_, Up.of ⟨0, had, Nat.zero_le _, rfl, hhl, ho, rfl⟩⟩ ?_
      rintro g st ⟨j, had', hj, rfl, hhl', hq, rfl⟩
      refine Asks.raw (tables4_raw _ _ m had' k l j _ _) ⟨fun hlt2 => ?_, fun hge2 => ?_⟩
      · have hlt2' : j < l.length := by have := lt_of hlt2; omega
        have hto2 : (j : Int).toNat = j := by omega
        rw [hto2]
        have hpi := hin _ (getD_mem (d := 0) hlt2')
        rw [drop_cons (d := 0) hlt2'] at hq
        generalize l.getD j 0 = p at hpi hq ⊢
        unfold hadL at hq
        refine ⟨⟨by omega, by omega⟩, ⟨by omega, by omega⟩, fun hy => leaf2 (fin ?_), fun hy => ⟨⟨by omega, by omega⟩, l.length - (j + 1), by omega, ?_⟩⟩
        · rw [hy, cond_true] at hq
          rw [← hq] at hr
          rw [← hr, show decide ((0 : Int) ≤ (k : Int)) = true by simp, cond_true]
        · rw [hy, cond_false] at hq
          have hsl : (had'.set p.toNat true).length = had'.length := by simp
          rw [wrap_succ (by omega)]
          refine Up.mk (l' := [(0, tpM m), (4, .bp 0 0), (10, .ow 1 0 (had'.set p.toNat true).length), (11, intV k), (116, intV m.Exprs.length), (117, intV k), (130, encL_Int true l), (131, intV l.length), (132, intV ((j + 1 : Nat) : Int))])
            (hs' := [.box (enc_Model m), .arr true 0 (had'.set p.toNat true).length 1 (rowsBo (had'.set p.toNat true))]) ?_ ?_ ⟨j + 1, had'.set p.toNat true, by omega, rfl, by rw [hsl]; exact hhl', hq, rfl⟩
          · rw [hsl]; exact leT_refl _
          · rw [hsl]
            exact ⟨Ob.le_refl _, Ob.le_arr fun i hi => leL_eq (set_row hi), trivial⟩
      · have hge2' : l.length ≤ j := by have := ge_of hge2; omega
        rw [List.drop_eq_nil_of_le hge2'] at hq
        unfold hadL at hq
        rw [← hq] at hr
        rw [wrap_succ (by omega)]
        exact ⟨m.Exprs.length - (k + 1), by omega, Up.of ⟨k + 1, had', by omega, rfl, hhl', hr, rfl⟩⟩
  · have hge' : m.Exprs.length ≤ k := by have := ge_of hge; omega
    rw [show m.Exprs.length - k = 0 by omega] at hr
    unfold exprsL at hr
    rw [← hr]; rfl
theorem ik_eq (a b : Int) (x : Bool) : (bif a == b then !x else false) = (decide (a = b) && !x) := by rw [ieq, bif_and]
theorem frameBad_eq (m : D.Model) (k : Nat) : frameBad m k = (bif bif bif bif !(frameP (m.Procs.getD k default)) then true else !(graphP (m.Procs.getD k default)) then true else decide ((m.Procs.getD k default).Provided < (-1 : Int)) then true else decide ((m.Procs.getD k default).Provided ≥ (m.Exprs.length : Int)) then true else bif (k : Int) == m.Claim then !(claimedP (m.Procs.getD k default)) else false) := by
  unfold frameBad
  simp only [ik_eq, bif_or, Bool.or_assoc]
theorem many_succ {m : D.Model} {k : Nat} (hk : k < m.Procs.length) : manyP m (k + 1) = manyP m k + (m.Procs.getD k default).Active := by
  unfold manyP
  rw [take_push (d := default) hk, List.map_append, List.sum_append]
  simp
theorem tables_ready {m : D.Model} (hw : wf_Model m) (h : ¬ 0 < (tablesP m).1) : Ready m := by
  refine ⟨hw, exprs_ok ?_⟩
  have hx : -1 ≤ exprsP m := by
    unfold exprsP
    have : ∀ (g i : Nat) (had : List Bool), -1 ≤ exprsL m g i had := by
      intro g
      induction g with
      | zero => intro i had; unfold exprsL; omega
      | succ g ih =>
        intro i had
        unfold exprsL
        cases exprP m i with
        | false => simp only [cond_false]; omega
        | true =>
          simp only [cond_true]
          split
          · exact ih _ _
          · omega
    exact this _ _ _
  refine Classical.byContradiction fun hn => h ?_
  unfold tablesP
  generalize (decide (128 < m.Globals.length) || !decide (m.Init.length = m.Globals.length)) = b1
  generalize decide (0 ≤ typesP m.Globals m.Init) = b2
  generalize (decide (32 < m.Shapes.length) || decide (32 < m.Chans.length)) = b3
  generalize decide (0 ≤ shapesP m) = b4
  generalize decide (0 ≤ chansP m) = b5
  generalize (decide (m.Procs.length < 1) || (decide (16 < m.Procs.length) || (decide (m.Claim < -1) || (decide ((m.Procs.length : Int) ≤ m.Claim) || decide (4096 < m.Exprs.length))))) = b6
  rw [show decide (0 ≤ exprsP m) = true by simp; omega]
  cases b1 <;> cases b2 <;> cases b3 <;> cases b4 <;> cases b5 <;> cases b6 <;> simp
theorem check_spec {m : D.Model} (hw : wf_Model m) : VSpec Tryz.prog 70 [] [.agg (enc_Model m)] [] (.tup [intV (checkP m).1, intV (checkP m).2.1, intV (checkP m).2.2]) := by
  have hP := hw.Procs.1
  refine vspec_raw tb_ok mixed Tryz.func70 (by kernel_rfl) rfl (check_raw _ _ _ m) ⟨tablesP m, tables_spec hw, ?_⟩
  generalize hR : checkP m = R
  unfold checkP at hR
  refine ⟨fun h => leaf3 (by rw [show decide (0 < (tablesP m).1) = true from h, cond_true] at hR; exact hR), fun h => ?_⟩
  have hready := tables_ready hw (of_decide_eq_false h)
  rw [show decide (0 < (tablesP m).1) = false from h, cond_false] at hR
  refine loop_idx tb_ok mixed m.Procs.length (fun k => stCheck1 m (manyP m k) k) (fun k => (∀ i, i < k → (!frameBad m i) = true) ∧ 0 ≤ manyP m k ∧ manyP m k ≤ 16 * k) (by kernel_rfl) (by kernel_rfl) ⟨fun i hi => by omega, by simp [manyP], by simp [manyP]⟩ ?_
  intro k hk ⟨hI, hm0, hm1⟩ J next
  refine Asks.raw (check1_raw _ _ _ m (manyP m k) k J) ⟨fun hlt => ?_, fun hge => ?_⟩
  · have hlt' : k < m.Procs.length := by have := lt_of hlt; omega
    have hto : (k : Int).toNat = k := by omega
    rw [hto]
    have hwp := hw.Procs.2 _ (getD_mem (d := default) hlt')
    refine ⟨⟨by omega, by omega⟩, frameP (m.Procs.getD k default), frame_spec hwp, graphP (m.Procs.getD k default), fun _ => graph_spec hwp, claimedP (m.Procs.getD k default), fun _ => claimed_spec hwp, ?_⟩
    rw [← frameBad_eq]
    refine ⟨fun hy => leaf3 ?_, fun hy => ?_⟩
    · have e : framesP m = k := badI_some (f := fun i => !frameBad m i) hI hlt' (by rw [hy]; rfl)
      rw [e, show decide ((0 : Int) ≤ (k : Int)) = true by simp, cond_true] at hR
      exact hR
    · have hfr : frameP (m.Procs.getD k default) = true := by
        rw [frameBad_eq] at hy
        cases hq : frameP (m.Procs.getD k default) with
        | true => rfl
        | false => rw [hq] at hy; simp at hy
      have hac : 0 ≤ (m.Procs.getD k default).Active ∧ (m.Procs.getD k default).Active ≤ 16 := by
        unfold frameP at hfr
        simp only [Bool.and_eq_true, decide_eq_true_eq] at hfr
        omega
      have hms := many_succ hlt'
      refine next _ hlt' ⟨fun i hi => ?_, by omega, by omega⟩ (Up.of ?_)
      · rcases Nat.lt_succ_iff_lt_or_eq.1 hi with h | rfl
        · exact hI i h
        · rw [hy]; rfl
      · rw [hms, wrap_succ (by omega), wrap_id (n := manyP m k + _) (by omega) (by omega)]; rfl
  · have hge' : k = m.Procs.length := by have := ge_of hge; omega
    subst hge'
    have e : framesP m = -1 := badI_none (f := fun i => !frameBad m i) fun i hi => hI i (by omega)
    rw [e, show decide ((0 : Int) ≤ -1) = false from rfl, cond_false] at hR
    refine ⟨fun h2 => leaf3 (by rw [show decide (16 < manyP m m.Procs.length) = true from h2, cond_true] at hR; exact hR), fun h2 => ?_⟩
    rw [show decide (16 < manyP m m.Procs.length) = false from h2, cond_false] at hR
    have hpv : ∀ i, i < m.Procs.length → (m.Procs.getD i default).Provided < m.Exprs.length := fun i hi => by
      have := hI i hi
      rw [frameBad_eq] at this
      simp only [bif_or, Bool.not_eq_true', Bool.or_eq_false_iff, decide_eq_false_iff_not] at this
      omega
    clear hI next
    refine loop_idx tb_ok mixed m.Procs.length (fun k => stCheck2 m k) (fun k => ∀ i : Nat, i < k → procAllP m i = true) (by kernel_rfl) (by kernel_rfl) (fun i hi => by omega) ?_
    intro k hk hI J next
    refine Asks.raw (check2_raw _ _ _ m k J) ⟨fun hlt => ?_, fun hge => leaf3 ?_⟩
    · have hlt' : k < m.Procs.length := by have := lt_of hlt; omega
      refine ⟨procAllP m k, proc_spec hready (by omega) (by omega) (hpv _ (by omega)), fun hy => leaf3 ?_, fun hy => next _ hlt' (fun i hi => ?_) (Up.of ?_)⟩
      · have e : procsP m = k := badI_some (f := fun i : Nat => procAllP m i) hI hlt' (by simpa using hy)
        rw [e, show decide ((0 : Int) ≤ (k : Int)) = true by simp, cond_true] at hR
        exact hR
      · rcases Nat.lt_succ_iff_lt_or_eq.1 hi with h | rfl
        · exact hI i h
        · simpa using hy
      · rw [wrap_succ (by omega)]; rfl
    · have hge' : m.Procs.length ≤ k := by have := ge_of hge; omega
      have e : procsP m = -1 := badI_none (f := fun i : Nat => procAllP m i) fun i hi => hI i (by omega)
      rw [e, show decide ((0 : Int) ≤ -1) = false from rfl, cond_false] at hR
      exact hR
end Go.Proofs.YtiaebjpcgjkhoaaGreatDoor
namespace Go.Proofs.YtiaebjpcgjkhoaaGreatDoor
open Go.RowKit
def encSt (fz : Bool) (x : D.State) : List VV := [encL_Int true x.Globals, encL_Chan fz x.Chans, encL_Process fz x.Procs, intV x.Last, intV x.Alone, intV x.Claim]
def typedP (t : List D.Type) (l : List Int) : Bool := decide (t.length = l.length) && allI l.length fun i => fitsP (t.getD i default) (l.getD i 0)
def shAt (m : D.Model) (k : Int) : D.Shape := m.Shapes.getD k.toNat default
def prAt (m : D.Model) (k : Int) : D.Proc := m.Procs.getD k.toNat default
def chanP (m : D.Model) (c : D.Chan) : Bool := inP m.Shapes.length c.Shape && decide ((c.Queue.length : Int) ≤ (shAt m c.Shape).Room) && allI c.Queue.length fun i => typedP (shAt m c.Shape).Fields (c.Queue.getD i [])
def processP (m : D.Model) (p : D.Process) : Bool := procP m p.Type_ && inP (prAt m p.Type_).Locs.length p.Loc && decide (p.Prio = (prAt m p.Type_).Prio) && typedP (prAt m p.Type_).Frame p.Frame
def headP (m : D.Model) (s : D.State) : Bool := typedP m.Globals s.Globals && decide (s.Chans.length ≤ 32) && decide (s.Procs.length ≤ 16) && decide (0 ≤ s.Last) && decide (s.Last < 16) && decide (-1 ≤ s.Alone) && decide (s.Alone < s.Procs.length)
def claimAt (m : D.Model) (s : D.State) : Bool := bif decide (m.Claim < 0) then decide (s.Claim = -1) else inP (prAt m m.Claim).Locs.length s.Claim
def stFits (m : D.Model) (s : D.State) : Bool := headP m s && (allI s.Chans.length fun i => chanP m (s.Chans.getD i default)) && (allI s.Procs.length fun i => processP m (s.Procs.getD i default)) && claimAt m s
def mayP (m : D.Model) : Bool := decide ((checkP m).1 = 0)
def stCheck (m : D.Model) (s : D.State) : Int := bif mayP m then (bif stFits m s then 0 else 41) else 40
structure Lim (m : D.Model) : Prop where
  room : ∀ k : Int, 0 ≤ k → k < m.Shapes.length → (shAt m k).Room ≤ 16
  locs : ∀ k : Int, 0 ≤ k → k < m.Procs.length → (prAt m k).Locs.length ≤ 256
  one : 1 ≤ m.Procs.length
  clp : m.Claim < m.Procs.length
theorem ok_tables {m : D.Model} (h : mayP m = true) : tablesP m = (0, 0) ∧ framesP m = -1 ∧ procsP m = -1 := by
  unfold mayP checkP at h
  have h1 : ∀ n (f : Nat → Bool), -1 ≤ badI n f := fun n f => badI_ge
  have hf := h1 m.Procs.length fun i => !frameBad m i
  have hp := h1 m.Procs.length fun i : Nat => procAllP m i
  cases b1 : decide (0 < (tablesP m).1) with
  | true => rw [b1, cond_true] at h; simp at h
  | false =>
    rw [b1, cond_false] at h
    cases b2 : decide (0 ≤ framesP m) with
    | true => rw [b2, cond_true] at h; simp at h
    | false =>
      rw [b2, cond_false] at h
      cases b3 : decide (16 < manyP m m.Procs.length) with
      | true => rw [b3, cond_true] at h; simp at h
      | false =>
        rw [b3, cond_false] at h
        cases b4 : decide (0 ≤ procsP m) with
        | true => rw [b4, cond_true] at h; simp at h
        | false =>
          have := of_decide_eq_false b2
          have := of_decide_eq_false b4
          refine ⟨?_, by show badI _ _ = -1; unfold framesP at *; omega, by show badI _ _ = -1; unfold procsP at *; omega⟩
          have b1 := of_decide_eq_false b1
          unfold tablesP at b1 ⊢
          generalize (decide (128 < m.Globals.length) || !decide (m.Init.length = m.Globals.length)) = c1 at b1 ⊢
          generalize decide (0 ≤ typesP m.Globals m.Init) = c2 at b1 ⊢
          generalize (decide (32 < m.Shapes.length) || decide (32 < m.Chans.length)) = c3 at b1 ⊢
          generalize decide (0 ≤ shapesP m) = c4 at b1 ⊢
          generalize decide (0 ≤ chansP m) = c5 at b1 ⊢
          generalize (decide (m.Procs.length < 1) || (decide (16 < m.Procs.length) || (decide (m.Claim < -1) || (decide ((m.Procs.length : Int) ≤ m.Claim) || decide (4096 < m.Exprs.length))))) = c6 at b1 ⊢
          generalize decide (0 ≤ exprsP m) = c7 at b1 ⊢
          cases c1 <;> cases c2 <;> cases c3 <;> cases c4 <;> cases c5 <;> cases c6 <;> cases c7 <;> simp at b1 ⊢
structure TabOk (m : D.Model) : Prop where
  globals : m.Globals.length ≤ 128
  init : m.Init.length = m.Globals.length
  types : typesP m.Globals m.Init < 0
  shapes : m.Shapes.length ≤ 32
  chans : m.Chans.length ≤ 32
  shape : ∀ i, i < m.Shapes.length → shapeP (m.Shapes.getD i default) = true
  chan : ∀ i, i < m.Chans.length → inP m.Shapes.length (m.Chans.getD i 0) = true
  procs : 1 ≤ m.Procs.length ∧ m.Procs.length ≤ 16
  claim : -1 ≤ m.Claim ∧ m.Claim < m.Procs.length
  exprs : m.Exprs.length ≤ 4096
theorem tab_ok {m : D.Model} (h : tablesP m = (0, 0)) : TabOk m := by
  unfold tablesP at h
  cases c1 : (decide (128 < m.Globals.length) || !decide (m.Init.length = m.Globals.length)) with
  | true => rw [c1, cond_true] at h; simp at h
  | false =>
  cases c2 : decide (0 ≤ typesP m.Globals m.Init) with
  | true => rw [c1, c2, cond_false, cond_true] at h; simp at h
  | false =>
  cases c3 : (decide (32 < m.Shapes.length) || decide (32 < m.Chans.length)) with
  | true => rw [c1, c2, c3, cond_false, cond_false, cond_true] at h; simp at h
  | false =>
  cases c4 : decide (0 ≤ shapesP m) with
  | true => rw [c1, c2, c3, c4, cond_false, cond_false, cond_false, cond_true] at h; simp at h
  | false =>
  cases c5 : decide (0 ≤ chansP m) with
  | true => rw [c1, c2, c3, c4, c5, cond_false, cond_false, cond_false, cond_false, cond_true] at h; simp at h
  | false =>
  cases c6 : (decide (m.Procs.length < 1) || (decide (16 < m.Procs.length) || (decide (m.Claim < -1) || (decide ((m.Procs.length : Int) ≤ m.Claim) || decide (4096 < m.Exprs.length))))) with
  | true => rw [c1, c2, c3, c4, c5, c6, cond_false, cond_false, cond_false, cond_false, cond_false, cond_true] at h; simp at h
  | false =>
  simp only [Bool.or_eq_false_iff, decide_eq_false_iff_not, Bool.not_eq_false', decide_eq_true_eq] at c1 c2 c3 c4 c5 c6
  exact ⟨by omega, c1.2, by omega, by omega, by omega, badI_neg (f := fun i => shapeP (m.Shapes.getD i default)) (by unfold shapesP at c4; omega), badI_neg (f := fun i => inP m.Shapes.length (m.Chans.getD i 0)) (by unfold chansP at c5; omega), by omega, by omega, by omega⟩
theorem frame_all {m : D.Model} (h : framesP m = -1) : ∀ i, i < m.Procs.length → frameP (m.Procs.getD i default) = true ∧ graphP (m.Procs.getD i default) = true := fun i hi => by
  have := badI_neg (f := fun i => !frameBad m i) (by unfold framesP at h; omega) i hi
  unfold frameBad at this
  simp only [Bool.not_eq_true', Bool.or_eq_false_iff, Bool.not_eq_false'] at this
  exact ⟨this.1, this.2.1⟩
theorem lim_of {m : D.Model} (h : mayP m = true) : Lim m := by
  obtain ⟨h1, h2, _⟩ := ok_tables h
  have ht := tab_ok h1
  refine ⟨fun k h0 hk => ?_, fun k h0 hk => ?_, ht.procs.1, ht.claim.2⟩
  · have := ht.shape k.toNat (by omega)
    unfold shapeP at this
    simp only [Bool.and_eq_true, decide_eq_true_eq] at this
    exact this.1.1.1.2
  · have := (frame_all h2 k.toNat (by omega)).2
    unfold graphP at this
    simp only [Bool.and_eq_true, decide_eq_true_eq] at this
    exact this.1.1.1.2
structure Fit (s : D.State) : Prop where
  g : s.Globals.length ≤ 128
  c : s.Chans.length ≤ 32
  q : ∀ c ∈ s.Chans, c.Queue.length ≤ 16 ∧ ∀ x ∈ c.Queue, x.length ≤ 8
  p : s.Procs.length ≤ 16
  f : ∀ p ∈ s.Procs, p.Frame.length ≤ 128
theorem typed_len {t : List D.Type} {l : List Int} (h : typedP t l = true) : l.length = t.length := by
  unfold typedP at h
  simp only [Bool.and_eq_true, decide_eq_true_eq] at h
  exact h.1.symm
theorem fit_of {m : D.Model} {s : D.State} (hmay : mayP m = true) (h : stFits m s = true) : Fit s := by
  have hm := lim_of hmay
  obtain ⟨ht1, ht2, _⟩ := ok_tables hmay
  have ht := tab_ok ht1
  unfold stFits at h
  simp only [Bool.and_eq_true] at h
  obtain ⟨⟨⟨h1, h2⟩, h3⟩, h4⟩ := h
  unfold headP at h1
  simp only [Bool.and_eq_true, decide_eq_true_eq] at h1
  obtain ⟨⟨⟨⟨⟨⟨g1, g2⟩, g3⟩, g4⟩, g5⟩, g6⟩, g7⟩ := h1
  refine ⟨?_, g2, fun c hc => ?_, g3, fun p hp => ?_⟩
  · rw [typed_len g1]; exact ht.globals
  · have h := (allL_iff (d := default) (f := fun c => chanP m c)).1 h2 c hc
    unfold chanP at h
    simp only [Bool.and_eq_true, decide_eq_true_eq] at h
    have hi := inP_iff.1 h.1.1
    have hr := hm.room _ hi.1 hi.2
    refine ⟨by omega, fun x hx => ?_⟩
    have hq := (allL_iff (d := []) (f := fun x => typedP (shAt m c.Shape).Fields x)).1 h.2 x hx
    rw [typed_len hq]
    have := ht.shape c.Shape.toNat (by omega)
    unfold shapeP at this
    simp only [Bool.and_eq_true, decide_eq_true_eq] at this
    exact this.1.2
  · have h := (allL_iff (d := default) (f := fun c => processP m c)).1 h3 p hp
    unfold processP procP at h
    simp only [Bool.and_eq_true, decide_eq_true_eq] at h
    rw [typed_len h.2]
    have := (frame_all ht2 p.Type_.toNat (by omega)).1
    unfold frameP at this
    simp only [Bool.and_eq_true, decide_eq_true_eq] at this
    exact this.1.1.1.1.1.1.1.1
end Go.Proofs.YtiaebjpcgjkhoaaGreatDoor
namespace Go.Proofs.YtiaebjpcgjkhoaaGreatDoor
open Go.RowKit
def shCk (f : FuncId) : Shp := bif Nat.beq f 25 then shpI else shGd f
end Go.Proofs.YtiaebjpcgjkhoaaGreatDoor
namespace Go.Proofs.YtiaebjpcgjkhoaaGreatDoor
open Go.RowKit
def ann_typed : Ann := { keep := fun
  | [0, 1, 0, 1, 1] => [0, 12, 13, 14]
  | _ => [] }
def ann_channel : Ann := { keep := fun
  | [0, 1, 0, 1, 1] => [2, 3, 32, 33, 34]
  | _ => [] }
def ann_stfits : Ann := { keep := fun
  | [0, 1, 0, 1, 1] => [2, 3, 51, 52, 53]
  | [0, 1, 0, 1, 1, 1] => [2, 3, 63, 64, 65]
  | _ => [] }
def stTyped (t : List D.Type) (l : List Int) (k : Int) : St := mkSt [(0, encL_Type true t), (12, encL_Int true l), (13, intV l.length), (14, intV k)] []
def stChannel (m : D.Model) (c : D.Chan) (k : Int) : St := mkSt [(2, .bp 0 0), (3, .bp 1 0), (32, encL_Ints true c.Queue), (33, intV c.Queue.length), (34, intV k)] [.box (enc_Model m), .box (enc_Chan c)]
def stFits1 (m : D.Model) (s : D.State) (k : Int) : St := mkSt [(2, .bp 0 0), (3, .bp 1 0), (51, encL_Chan false s.Chans), (52, intV s.Chans.length), (53, intV k)] [.box (enc_Model m), .box (encSt false s)]
def stFits2 (m : D.Model) (s : D.State) (k : Int) : St := mkSt [(2, .bp 0 0), (3, .bp 1 0), (63, encL_Process false s.Procs), (64, intV s.Procs.length), (65, intV k)] [.box (enc_Model m), .box (encSt false s)]
end Go.Proofs.YtiaebjpcgjkhoaaGreatDoor
namespace Go.Proofs.YtiaebjpcgjkhoaaGreatDoor
open Go.RowKit
set_option maxRecDepth 100000
theorem typed_raw (b : Bool) (t : List D.Type) (l : List Int) : (fnCtx Tryz.prog tb shCk ann_typed true Tryz.f71 [] (boolV b)).goal (St.init [] [encL_Type true t, encL_Int true l]) =
    ((((↑t.length : Int) != (↑l.length : Int)) = true → leO [] [] ∧ (boolV false).le (boolV b)) ∧ (((↑t.length : Int) != (↑l.length : Int)) = false → SatC (fnCtx Tryz.prog tb shCk ann_typed true Tryz.f71 [] (boolV b)) [1, 1, 0, 1, 0] (mkSt [(0, VV.sl true t.length 2 fun (i : Nat) => enc_Type (t.getD i default)), (12, VV.sl true l.length 1 fun (i : Nat) => [intV (l.getD i (0 : Int))]), (13, intV (↑l.length : Int)), (14, intV (0 : Int))] []))) := by kernel_rfl
theorem channel_raw (b : Bool) (m : D.Model) (c : D.Chan) : (fnCtx Tryz.prog tb shCk ann_channel true Tryz.f72 [] (boolV b)).goal (St.init [] [.agg (enc_Model m), .agg (enc_Chan c)]) =
    (((true && (bif decide (c.Shape < (0 : Int)) then true else decide (c.Shape ≥ (↑m.Shapes.length : Int))) == false) = true → (0 : Int) ≤ c.Shape ∧ c.Shape < (↑m.Shapes.length : Int)) ∧ ((bif bif decide (c.Shape < (0 : Int)) then true else decide (c.Shape ≥ (↑m.Shapes.length : Int)) then true else decide ((↑c.Queue.length : Int) > (m.Shapes.getD c.Shape.toNat default).Room)) = true → leO [] [] ∧ (boolV false).le (boolV b)) ∧ ((bif bif decide (c.Shape < (0 : Int)) then true else decide (c.Shape ≥ (↑m.Shapes.length : Int)) then true else decide ((↑c.Queue.length : Int) > (m.Shapes.getD c.Shape.toNat default).Room)) = false → SatC (fnCtx Tryz.prog tb shCk ann_channel true Tryz.f72 [] (boolV b)) [1, 1, 0, 1, 0] (mkSt [(2, VV.bp 0 0), (3, VV.bp 1 0), (32, VV.sl true c.Queue.length 1 fun (i : Nat) => [encL_Int true (c.Queue.getD i [])]), (33, intV (↑c.Queue.length : Int)), (34, intV (0 : Int))] [Ob.box [VV.sl true m.Globals.length 2 fun (i : Nat) => enc_Type (m.Globals.getD i default), VV.sl true m.Init.length 1 fun (i : Nat) => [intV (m.Init.getD i (0 : Int))], VV.sl true m.Shapes.length 2 fun (i : Nat) => enc_Shape (m.Shapes.getD i default), VV.sl true m.Chans.length 1 fun (i : Nat) => [intV (m.Chans.getD i (0 : Int))], VV.sl true m.Procs.length 10 fun (i : Nat) => enc_Proc (m.Procs.getD i default), intV m.Claim, VV.sl true m.Exprs.length 12 fun (i : Nat) => enc_Expr (m.Exprs.getD i default)], Ob.box [intV c.Shape, VV.sl true c.Queue.length 1 fun (i : Nat) => [encL_Int true (c.Queue.getD i [])]]]))) := by kernel_rfl
theorem process_raw (b : Bool) (m : D.Model) (p : D.Process) : (fnCtx Tryz.prog tb shCk annNo true Tryz.f73 [] (boolV b)).goal (St.init [] [.agg (enc_Model m), .agg (enc_Process p)]) =
    (((bif bif decide (p.Type_ < (0 : Int)) then true else decide (p.Type_ ≥ (↑m.Procs.length : Int)) then true else p.Type_ == m.Claim) = true → leO [] [] ∧ (boolV false).le (boolV b)) ∧ ((bif bif decide (p.Type_ < (0 : Int)) then true else decide (p.Type_ ≥ (↑m.Procs.length : Int)) then true else p.Type_ == m.Claim) = false → ((0 : Int) ≤ p.Type_ ∧ p.Type_ < (↑m.Procs.length : Int)) ∧ ∃ (y : Bool), ((true && (bif bif decide (p.Loc ≥ (0 : Int)) then decide (p.Loc < (↑(m.Procs.getD p.Type_.toNat default).Locs.length : Int)) else false then p.Prio == (m.Procs.getD p.Type_.toNat default).Prio else false) == true) = true → VSpec Tryz.prog 71 [] [VV.sl true (m.Procs.getD p.Type_.toNat default).Frame.length 2 fun (i : Nat) => enc_Type ((m.Procs.getD p.Type_.toNat default).Frame.getD i default), VV.sl true p.Frame.length 1 fun (i : Nat) => [intV (p.Frame.getD i (0 : Int))]] [] (boolV y)) ∧ leO [] [] ∧ (boolV (bif bif bif decide (p.Loc ≥ (0 : Int)) then decide (p.Loc < (↑(m.Procs.getD p.Type_.toNat default).Locs.length : Int)) else false then p.Prio == (m.Procs.getD p.Type_.toNat default).Prio else false then y else false)).le (boolV b))) := by kernel_rfl
theorem stfits_raw (b : Bool) (m : D.Model) (s : D.State) : (fnCtx Tryz.prog tb shCk ann_stfits true Tryz.f47 [] (boolV b)).goal (St.init [] [.agg (enc_Model m), .agg (encSt false s)]) =
    (∃ (y : Bool), VSpec Tryz.prog 71 [] [VV.sl true m.Globals.length 2 fun (i : Nat) => enc_Type (m.Globals.getD i default), VV.sl true s.Globals.length 1 fun (i : Nat) => [intV (s.Globals.getD i (0 : Int))]] [] (boolV y) ∧ ((bif bif bif bif bif bif !y then true else decide ((↑s.Chans.length : Int) > (32 : Int)) then true else decide ((↑s.Procs.length : Int) > (16 : Int)) then true else decide (s.Last < (0 : Int)) then true else decide (s.Last ≥ (16 : Int)) then true else decide (s.Alone < (-1 : Int)) then true else decide (s.Alone ≥ (↑s.Procs.length : Int))) = true → leO [] [] ∧ (boolV false).le (boolV b)) ∧ ((bif bif bif bif bif bif !y then true else decide ((↑s.Chans.length : Int) > (32 : Int)) then true else decide ((↑s.Procs.length : Int) > (16 : Int)) then true else decide (s.Last < (0 : Int)) then true else decide (s.Last ≥ (16 : Int)) then true else decide (s.Alone < (-1 : Int)) then true else decide (s.Alone ≥ (↑s.Procs.length : Int))) = false → SatC (fnCtx Tryz.prog tb shCk ann_stfits true Tryz.f47 [] (boolV b)) [1, 1, 0, 1, 0] (mkSt [(2, VV.bp 0 0), (3, VV.bp 1 0), (51, VV.sl false s.Chans.length 2 fun (i : Nat) => enc_Chan (s.Chans.getD i default)), (52, intV (↑s.Chans.length : Int)), (53, intV (0 : Int))] [Ob.box [VV.sl true m.Globals.length 2 fun (i : Nat) => enc_Type (m.Globals.getD i default), VV.sl true m.Init.length 1 fun (i : Nat) => [intV (m.Init.getD i (0 : Int))], VV.sl true m.Shapes.length 2 fun (i : Nat) => enc_Shape (m.Shapes.getD i default), VV.sl true m.Chans.length 1 fun (i : Nat) => [intV (m.Chans.getD i (0 : Int))], VV.sl true m.Procs.length 10 fun (i : Nat) => enc_Proc (m.Procs.getD i default), intV m.Claim, VV.sl true m.Exprs.length 12 fun (i : Nat) => enc_Expr (m.Exprs.getD i default)], Ob.box [VV.sl true s.Globals.length 1 fun (i : Nat) => [intV (s.Globals.getD i (0 : Int))], VV.sl false s.Chans.length 2 fun (i : Nat) => enc_Chan (s.Chans.getD i default), VV.sl false s.Procs.length 4 fun (i : Nat) => enc_Process (s.Procs.getD i default), intV s.Last, intV s.Alone, intV s.Claim]]))) := by kernel_rfl
theorem may_raw (b : Bool) (m : D.Model) : (fnCtx Tryz.prog tb shCk annNo true Tryz.f46 [] (boolV b)).goal (St.init [] [.agg (enc_Model m)]) =
    (∃ (y : Int × Int × Int), VSpec Tryz.prog 70 [] [VV.agg [VV.sl true m.Globals.length 2 fun (i : Nat) => enc_Type (m.Globals.getD i default), VV.sl true m.Init.length 1 fun (i : Nat) => [intV (m.Init.getD i (0 : Int))], VV.sl true m.Shapes.length 2 fun (i : Nat) => enc_Shape (m.Shapes.getD i default), VV.sl true m.Chans.length 1 fun (i : Nat) => [intV (m.Chans.getD i (0 : Int))], VV.sl true m.Procs.length 10 fun (i : Nat) => enc_Proc (m.Procs.getD i default), intV m.Claim, VV.sl true m.Exprs.length 12 fun (i : Nat) => enc_Expr (m.Exprs.getD i default)]] [] (VV.tup [intV y.fst, intV y.snd.fst, intV y.snd.snd]) ∧ leO [] [] ∧ (boolV (y.fst == 0)).le (boolV b)) := by kernel_rfl
theorem stcheck_raw (r : Int) (m : D.Model) (s : D.State) : (fnCtx Tryz.prog tb shCk annNo true Tryz.f25 [] (intV r)).goal (St.init [] [.agg (enc_Model m), .agg (enc_State s)]) =
    (∃ (y : Bool), VSpec Tryz.prog 46 [] [VV.agg [VV.sl true m.Globals.length 2 fun (i : Nat) => enc_Type (m.Globals.getD i default), VV.sl true m.Init.length 1 fun (i : Nat) => [intV (m.Init.getD i (0 : Int))], VV.sl true m.Shapes.length 2 fun (i : Nat) => enc_Shape (m.Shapes.getD i default), VV.sl true m.Chans.length 1 fun (i : Nat) => [intV (m.Chans.getD i (0 : Int))], VV.sl true m.Procs.length 10 fun (i : Nat) => enc_Proc (m.Procs.getD i default), intV m.Claim, VV.sl true m.Exprs.length 12 fun (i : Nat) => enc_Expr (m.Exprs.getD i default)]] [] (boolV y) ∧ ((!y) = true → leO [] [] ∧ (intV (40 : Int)).le (intV r)) ∧ ((!y) = false → ∃ (y : Bool), VSpec Tryz.prog 47 [] [VV.agg [VV.sl true m.Globals.length 2 fun (i : Nat) => enc_Type (m.Globals.getD i default), VV.sl true m.Init.length 1 fun (i : Nat) => [intV (m.Init.getD i (0 : Int))], VV.sl true m.Shapes.length 2 fun (i : Nat) => enc_Shape (m.Shapes.getD i default), VV.sl true m.Chans.length 1 fun (i : Nat) => [intV (m.Chans.getD i (0 : Int))], VV.sl true m.Procs.length 10 fun (i : Nat) => enc_Proc (m.Procs.getD i default), intV m.Claim, VV.sl true m.Exprs.length 12 fun (i : Nat) => enc_Expr (m.Exprs.getD i default)], VV.agg [VV.sl true s.Globals.length 1 fun (i : Nat) => [intV (s.Globals.getD i (0 : Int))], VV.sl true s.Chans.length 2 fun (i : Nat) => enc_Chan (s.Chans.getD i default), VV.sl true s.Procs.length 4 fun (i : Nat) => enc_Process (s.Procs.getD i default), intV s.Last, intV s.Alone, intV s.Claim]] [] (boolV y) ∧ ((!y) = true → leO [] [] ∧ (intV (41 : Int)).le (intV r)) ∧ ((!y) = false → leO [] [] ∧ (intV (0 : Int)).le (intV r)))) := by kernel_rfl
theorem typed1_raw (b : Bool) (t : List D.Type) (l : List Int) (k : Int) (J : St → Prop) : ((fnCtx Tryz.prog tb shCk ann_typed true Tryz.f71 [] (boolV b)).loop [1, 1, 0, 1, 0] J).goal (stTyped t l k) =
    ((decide (k < (↑l.length : Int)) = true → ((0 : Int) ≤ k ∧ k < (↑l.length : Int)) ∧ ((0 : Int) ≤ k ∧ k < (↑t.length : Int)) ∧ ∃ (y : Bool), VSpec Tryz.prog 107 [] [VV.agg [intV (t.getD k.toNat default).Bits, boolV (t.getD k.toNat default).Signed], intV (l.getD k.toNat (0 : Int))] [] (boolV y) ∧ ((!y) = true → leO [] [] ∧ (boolV false).le (boolV b)) ∧ ((!y) = false → J (mkSt [(0, VV.sl true t.length 2 fun (i : Nat) => enc_Type (t.getD i default)), (12, VV.sl true l.length 1 fun (i : Nat) => [intV (l.getD i (0 : Int))]), (13, intV (↑l.length : Int)), (14, intV (IntKind.i64.wrap (k + (1 : Int))))] []))) ∧ (decide (k < (↑l.length : Int)) = false → leO [] [] ∧ (boolV true).le (boolV b))) := by kernel_rfl
theorem channel1_raw (b : Bool) (m : D.Model) (c : D.Chan) (k : Int) (J : St → Prop) : ((fnCtx Tryz.prog tb shCk ann_channel true Tryz.f72 [] (boolV b)).loop [1, 1, 0, 1, 0] J).goal (stChannel m c k) =
    ((decide (k < (↑c.Queue.length : Int)) = true → ((0 : Int) ≤ k ∧ k < (↑c.Queue.length : Int)) ∧ ((0 : Int) ≤ c.Shape ∧ c.Shape < (↑m.Shapes.length : Int)) ∧ ∃ (y : Bool), VSpec Tryz.prog 71 [] [VV.sl true (m.Shapes.getD c.Shape.toNat default).Fields.length 2 fun (i : Nat) => enc_Type ((m.Shapes.getD c.Shape.toNat default).Fields.getD i default), VV.sl true (c.Queue.getD k.toNat []).length 1 fun (i : Nat) => [intV ((c.Queue.getD k.toNat []).getD i (0 : Int))]] [] (boolV y) ∧ ((!y) = true → leO [] [] ∧ (boolV false).le (boolV b)) ∧ ((!y) = false → J (mkSt [(2, VV.bp 0 0), (3, VV.bp 1 0), (32, VV.sl true c.Queue.length 1 fun (i : Nat) => [encL_Int true (c.Queue.getD i [])]), (33, intV (↑c.Queue.length : Int)), (34, intV (IntKind.i64.wrap (k + (1 : Int))))] [Ob.box [VV.sl true m.Globals.length 2 fun (i : Nat) => enc_Type (m.Globals.getD i default), VV.sl true m.Init.length 1 fun (i : Nat) => [intV (m.Init.getD i (0 : Int))], VV.sl true m.Shapes.length 2 fun (i : Nat) => enc_Shape (m.Shapes.getD i default), VV.sl true m.Chans.length 1 fun (i : Nat) => [intV (m.Chans.getD i (0 : Int))], VV.sl true m.Procs.length 10 fun (i : Nat) => enc_Proc (m.Procs.getD i default), intV m.Claim, VV.sl true m.Exprs.length 12 fun (i : Nat) => enc_Expr (m.Exprs.getD i default)], Ob.box [intV c.Shape, VV.sl true c.Queue.length 1 fun (i : Nat) => [encL_Int true (c.Queue.getD i [])]]]))) ∧ (decide (k < (↑c.Queue.length : Int)) = false → leO [] [] ∧ (boolV true).le (boolV b))) := by kernel_rfl
theorem stfits1_raw (b : Bool) (m : D.Model) (s : D.State) (k : Int) (J : St → Prop) : ((fnCtx Tryz.prog tb shCk ann_stfits true Tryz.f47 [] (boolV b)).loop [1, 1, 0, 1, 0] J).goal (stFits1 m s k) =
    ((decide (k < (↑s.Chans.length : Int)) = true → ((0 : Int) ≤ k ∧ k < (↑s.Chans.length : Int)) ∧ ∃ (y : Bool), VSpec Tryz.prog 72 [] [VV.agg [VV.sl true m.Globals.length 2 fun (i : Nat) => enc_Type (m.Globals.getD i default), VV.sl true m.Init.length 1 fun (i : Nat) => [intV (m.Init.getD i (0 : Int))], VV.sl true m.Shapes.length 2 fun (i : Nat) => enc_Shape (m.Shapes.getD i default), VV.sl true m.Chans.length 1 fun (i : Nat) => [intV (m.Chans.getD i (0 : Int))], VV.sl true m.Procs.length 10 fun (i : Nat) => enc_Proc (m.Procs.getD i default), intV m.Claim, VV.sl true m.Exprs.length 12 fun (i : Nat) => enc_Expr (m.Exprs.getD i default)], VV.agg [intV (s.Chans.getD k.toNat default).Shape, VV.sl true (s.Chans.getD k.toNat default).Queue.length 1 fun (i : Nat) => [encL_Int true ((s.Chans.getD k.toNat default).Queue.getD i [])]]] [] (boolV y) ∧ ((!y) = true → leO [] [] ∧ (boolV false).le (boolV b)) ∧ ((!y) = false → J (mkSt [(2, VV.bp 0 0), (3, VV.bp 1 0), (51, VV.sl false s.Chans.length 2 fun (i : Nat) => enc_Chan (s.Chans.getD i default)), (52, intV (↑s.Chans.length : Int)), (53, intV (IntKind.i64.wrap (k + (1 : Int))))] [Ob.box [VV.sl true m.Globals.length 2 fun (i : Nat) => enc_Type (m.Globals.getD i default), VV.sl true m.Init.length 1 fun (i : Nat) => [intV (m.Init.getD i (0 : Int))], VV.sl true m.Shapes.length 2 fun (i : Nat) => enc_Shape (m.Shapes.getD i default), VV.sl true m.Chans.length 1 fun (i : Nat) => [intV (m.Chans.getD i (0 : Int))], VV.sl true m.Procs.length 10 fun (i : Nat) => enc_Proc (m.Procs.getD i default), intV m.Claim, VV.sl true m.Exprs.length 12 fun (i : Nat) => enc_Expr (m.Exprs.getD i default)], Ob.box [VV.sl true s.Globals.length 1 fun (i : Nat) => [intV (s.Globals.getD i (0 : Int))], VV.sl false s.Chans.length 2 fun (i : Nat) => enc_Chan (s.Chans.getD i default), VV.sl false s.Procs.length 4 fun (i : Nat) => enc_Process (s.Procs.getD i default), intV s.Last, intV s.Alone, intV s.Claim]]))) ∧ (decide (k < (↑s.Chans.length : Int)) = false → SatC (fnCtx Tryz.prog tb shCk ann_stfits true Tryz.f47 [] (boolV b)) [1, 1, 1, 0, 1, 0] (mkSt [(2, VV.bp 0 0), (3, VV.bp 1 0), (63, VV.sl false s.Procs.length 4 fun (i : Nat) => enc_Process (s.Procs.getD i default)), (64, intV (↑s.Procs.length : Int)), (65, intV (0 : Int))] [Ob.box [VV.sl true m.Globals.length 2 fun (i : Nat) => enc_Type (m.Globals.getD i default), VV.sl true m.Init.length 1 fun (i : Nat) => [intV (m.Init.getD i (0 : Int))], VV.sl true m.Shapes.length 2 fun (i : Nat) => enc_Shape (m.Shapes.getD i default), VV.sl true m.Chans.length 1 fun (i : Nat) => [intV (m.Chans.getD i (0 : Int))], VV.sl true m.Procs.length 10 fun (i : Nat) => enc_Proc (m.Procs.getD i default), intV m.Claim, VV.sl true m.Exprs.length 12 fun (i : Nat) => enc_Expr (m.Exprs.getD i default)], Ob.box [VV.sl true s.Globals.length 1 fun (i : Nat) => [intV (s.Globals.getD i (0 : Int))], VV.sl false s.Chans.length 2 fun (i : Nat) => enc_Chan (s.Chans.getD i default), VV.sl false s.Procs.length 4 fun (i : Nat) => enc_Process (s.Procs.getD i default), intV s.Last, intV s.Alone, intV s.Claim]]))) := by kernel_rfl
theorem stfits2_raw (b : Bool) (m : D.Model) (s : D.State) (k : Int) (J : St → Prop) : ((fnCtx Tryz.prog tb shCk ann_stfits true Tryz.f47 [] (boolV b)).loop [1, 1, 1, 0, 1, 0] J).goal (stFits2 m s k) =
    ((decide (k < (↑s.Procs.length : Int)) = true → ((0 : Int) ≤ k ∧ k < (↑s.Procs.length : Int)) ∧ ∃ (y : Bool), VSpec Tryz.prog 73 [] [VV.agg [VV.sl true m.Globals.length 2 fun (i : Nat) => enc_Type (m.Globals.getD i default), VV.sl true m.Init.length 1 fun (i : Nat) => [intV (m.Init.getD i (0 : Int))], VV.sl true m.Shapes.length 2 fun (i : Nat) => enc_Shape (m.Shapes.getD i default), VV.sl true m.Chans.length 1 fun (i : Nat) => [intV (m.Chans.getD i (0 : Int))], VV.sl true m.Procs.length 10 fun (i : Nat) => enc_Proc (m.Procs.getD i default), intV m.Claim, VV.sl true m.Exprs.length 12 fun (i : Nat) => enc_Expr (m.Exprs.getD i default)], VV.agg [intV (s.Procs.getD k.toNat default).Type_, intV (s.Procs.getD k.toNat default).Loc, intV (s.Procs.getD k.toNat default).Prio, VV.sl true (s.Procs.getD k.toNat default).Frame.length 1 fun (i : Nat) => [intV ((s.Procs.getD k.toNat default).Frame.getD i (0 : Int))]]] [] (boolV y) ∧ ((!y) = true → leO [] [] ∧ (boolV false).le (boolV b)) ∧ ((!y) = false → J (mkSt [(2, VV.bp 0 0), (3, VV.bp 1 0), (63, VV.sl false s.Procs.length 4 fun (i : Nat) => enc_Process (s.Procs.getD i default)), (64, intV (↑s.Procs.length : Int)), (65, intV (IntKind.i64.wrap (k + (1 : Int))))] [Ob.box [VV.sl true m.Globals.length 2 fun (i : Nat) => enc_Type (m.Globals.getD i default), VV.sl true m.Init.length 1 fun (i : Nat) => [intV (m.Init.getD i (0 : Int))], VV.sl true m.Shapes.length 2 fun (i : Nat) => enc_Shape (m.Shapes.getD i default), VV.sl true m.Chans.length 1 fun (i : Nat) => [intV (m.Chans.getD i (0 : Int))], VV.sl true m.Procs.length 10 fun (i : Nat) => enc_Proc (m.Procs.getD i default), intV m.Claim, VV.sl true m.Exprs.length 12 fun (i : Nat) => enc_Expr (m.Exprs.getD i default)], Ob.box [VV.sl true s.Globals.length 1 fun (i : Nat) => [intV (s.Globals.getD i (0 : Int))], VV.sl false s.Chans.length 2 fun (i : Nat) => enc_Chan (s.Chans.getD i default), VV.sl false s.Procs.length 4 fun (i : Nat) => enc_Process (s.Procs.getD i default), intV s.Last, intV s.Alone, intV s.Claim]]))) ∧ (decide (k < (↑s.Procs.length : Int)) = false → (decide (m.Claim < (0 : Int)) = true → leO [] [] ∧ (boolV (s.Claim == (-1 : Int))).le (boolV b)) ∧ (decide (m.Claim < (0 : Int)) = false → ((true && decide (s.Claim ≥ (0 : Int)) == true) = true → (0 : Int) ≤ m.Claim ∧ m.Claim < (↑m.Procs.length : Int)) ∧ leO [] [] ∧ (boolV (bif decide (s.Claim ≥ (0 : Int)) then decide (s.Claim < (↑(m.Procs.getD m.Claim.toNat default).Locs.length : Int)) else false)).le (boolV b)))) := by kernel_rfl
end Go.Proofs.YtiaebjpcgjkhoaaGreatDoor
namespace Go.Proofs.YtiaebjpcgjkhoaaGreatDoor
open Go.RowKit
theorem leS_agg {xs ys : List VV} (hl : ys.length = xs.length) (h : ∀ (j : Nat) x y, xs[j]? = some x → ys[j]? = some y → leS x y) : leS (.agg xs) (.agg ys) := by
  intro w E m v hE hv
  obtain ⟨vs, rfl, h1, h2⟩ := hv.agg_inv
  refine .agg (h1.trans hl.symm) fun j y hy => ?_
  have hj : j < xs.length := by rw [← hl]; exact (List.getElem?_eq_some_iff.1 hy).1
  exact h j _ y (List.getElem?_eq_getElem hj) hy w E m _ hE (h2 j _ (List.getElem?_eq_getElem hj))
theorem succ_of {k : Nat} {P : Nat → Prop} (hI : ∀ i, i < k → P i) (h : P k) : ∀ i, i < k + 1 → P i := fun i hi => by
  rcases Nat.lt_succ_iff_lt_or_eq.1 hi with h' | rfl
  · exact hI i h'
  · exact h
def Len (n : Nat) : Prop := n ≤ 1099511627776
theorem typed_spec {t : List D.Type} {l : List Int} (hl : Len l.length) : VSpec Tryz.prog 71 [] [encL_Type true t, encL_Int true l] [] (boolV (typedP t l)) := by
  unfold Len at hl
  refine vspec_raw tb_ok mixed Tryz.func71 (by kernel_rfl) rfl (typed_raw _ t l) ⟨fun h => leafB ?_, fun h => ?_⟩
  · unfold typedP
    have : decide (t.length = l.length) = false := by simp at h; simp; omega
    rw [this, Bool.false_and]
  · have hlen : t.length = l.length := by simp at h; omega
    have e : typedP t l = allI l.length fun i => fitsP (t.getD i default) (l.getD i 0) := by unfold typedP; rw [show decide (t.length = l.length) = true by simpa using hlen, Bool.true_and]
    rw [e]
    refine loop_idx tb_ok mixed l.length (fun k => stTyped t l k) (fun k => ∀ i, i < k → fitsP (t.getD i default) (l.getD i 0) = true) (by kernel_rfl) (by kernel_rfl) (fun i hi => by omega) ?_
    intro k hk hI J next
    refine Asks.raw (typed1_raw _ t l k J) ⟨fun hlt => ?_, fun hge => leafB ?_⟩
    · have hlt' : k < l.length := by have := lt_of hlt; omega
      refine ⟨⟨by omega, by omega⟩, ⟨by omega, by omega⟩, fitsP (t.getD k default) (l.getD k 0), fits_spec _ _, fun hy => leafB ?_, fun hy => next _ hlt' (succ_of hI (by simpa using hy)) (Up.of ?_)⟩
      · exact (allI_no (f := fun i => fitsP (t.getD i default) (l.getD i 0)) hlt' (by simpa using hy)).symm
      · rw [wrap_succ (by omega)]; rfl
    · have hge' : l.length ≤ k := by have := ge_of hge; omega
      exact (allI_iff.2 fun i hi => hI i (by omega)).symm
structure SmallC (c : D.Chan) : Prop where
  q : Len c.Queue.length
  m : ∀ x ∈ c.Queue, Len x.length
theorem channel_spec {m : D.Model} {c : D.Chan} (hc : SmallC c) : VSpec Tryz.prog 72 [] [.agg (enc_Model m), .agg (enc_Chan c)] [] (boolV (chanP m c)) := by
  have hq := hc.q
  unfold Len at hq
  refine vspec_raw tb_ok mixed Tryz.func72 (by kernel_rfl) rfl (channel_raw _ m c) ⟨fun h => ?_, fun h => leafB ?_, fun h => ?_⟩
  · simp at h; omega
  · symm; rw [Bool.eq_false_iff]; intro hcc
    unfold chanP at hcc
    simp only [Bool.and_eq_true, decide_eq_true_eq] at hcc
    have := inP_iff.1 hcc.1.1
    have hr : (shAt m c.Shape).Room = (m.Shapes.getD c.Shape.toNat default).Room := rfl
    rw [hr] at hcc
    generalize (m.Shapes.getD c.Shape.toNat default).Room = rm at h hcc
    simp at h; omega
  · have hs : 0 ≤ c.Shape ∧ c.Shape < m.Shapes.length ∧ (c.Queue.length : Int) ≤ (shAt m c.Shape).Room := by
      have hr : (shAt m c.Shape).Room = (m.Shapes.getD c.Shape.toNat default).Room := rfl
      rw [hr]
      generalize (m.Shapes.getD c.Shape.toNat default).Room = rm at h ⊢
      simp at h; omega
    have e : chanP m c = allI c.Queue.length fun i => typedP (shAt m c.Shape).Fields (c.Queue.getD i []) := by
      unfold chanP
      rw [inP_iff.2 ⟨hs.1, hs.2.1⟩, show decide ((c.Queue.length : Int) ≤ (shAt m c.Shape).Room) = true by simpa using hs.2.2]; rfl
    rw [e]
    refine loop_idx tb_ok mixed c.Queue.length (fun k => stChannel m c k) (fun k => ∀ i, i < k → typedP (shAt m c.Shape).Fields (c.Queue.getD i []) = true) (by kernel_rfl) (by kernel_rfl) (fun i hi => by omega) ?_
    intro k hk hI J next
    refine Asks.raw (channel1_raw _ m c k J) ⟨fun hlt => ?_, fun hge => leafB ?_⟩
    · have hlt' : k < c.Queue.length := by have := lt_of hlt; omega
      refine ⟨⟨by omega, by omega⟩, ⟨hs.1, hs.2.1⟩, typedP (shAt m c.Shape).Fields (c.Queue.getD k []), typed_spec (hc.m _ (getD_mem hlt')), fun hy => leafB ?_, fun hy => next _ hlt' (succ_of hI (by simpa using hy)) (Up.of ?_)⟩
      · exact (allI_no (f := fun i => typedP (shAt m c.Shape).Fields (c.Queue.getD i [])) hlt' (by simpa using hy)).symm
      · rw [wrap_succ (by omega)]; rfl
    · have hge' : c.Queue.length ≤ k := by have := ge_of hge; omega
      exact (allI_iff.2 fun i hi => hI i (by omega)).symm
theorem process_spec {m : D.Model} {p : D.Process} (hp : Len p.Frame.length) : VSpec Tryz.prog 73 [] [.agg (enc_Model m), .agg (enc_Process p)] [] (boolV (processP m p)) := by
  have hpr : (prAt m p.Type_) = m.Procs.getD p.Type_.toNat default := rfl
  refine vspec_raw tb_ok mixed Tryz.func73 (by kernel_rfl) rfl (process_raw _ m p) ⟨fun h => leafB ?_, fun h => ⟨?_, typedP (prAt m p.Type_).Frame p.Frame, fun _ => typed_spec hp, leafB ?_⟩⟩
  · unfold processP procP
    have : (decide (0 ≤ p.Type_) && decide (p.Type_ < m.Procs.length) && decide (p.Type_ ≠ m.Claim)) = false := by
      rw [Bool.eq_false_iff]; intro hc; simp at hc h; omega
    rw [this]; rfl
  · simp at h; omega
  · unfold processP procP inP
    have : (decide (0 ≤ p.Type_) && decide (p.Type_ < m.Procs.length) && decide (p.Type_ ≠ m.Claim)) = true := by simp at h ⊢; omega
    rw [this, Bool.true_and, ← hpr]
    simp only [ieq, bif_and, ge_iff_le]
structure SmallS' (s : D.State) : Prop where
  g : Len s.Globals.length
  c : Len s.Chans.length
  p : Len s.Procs.length
  cs : ∀ c ∈ s.Chans, SmallC c
  ps : ∀ p ∈ s.Procs, Len p.Frame.length
theorem stfits_spec' {m : D.Model} {s : D.State} (hs : SmallS' s) (hcl : m.Claim < m.Procs.length) : VSpec Tryz.prog 47 [] [.agg (enc_Model m), .agg (encSt false s)] [] (boolV (stFits m s)) := by
  have hc := hs.c
  have hp := hs.p
  unfold Len at hc hp
  have ht : (bif bif bif bif bif bif !(typedP m.Globals s.Globals) then true else decide ((s.Chans.length : Int) > 32) then true else decide ((s.Procs.length : Int) > 16) then true else decide (s.Last < 0) then true else decide (s.Last ≥ 16) then true else decide (s.Alone < (-1 : Int)) then true else decide (s.Alone ≥ (s.Procs.length : Int))) = !(headP m s) := by
    unfold headP
    cases typedP m.Globals s.Globals
    · rfl
    · rw [Bool.eq_iff_iff]; simp; omega
  refine vspec_raw tb_ok mixed Tryz.func47 (by kernel_rfl) rfl (stfits_raw _ m s) ⟨typedP m.Globals s.Globals, typed_spec hs.g, ?_⟩
  rw [ht]
  have e0 : stFits m s = (headP m s && (allI s.Chans.length fun i => chanP m (s.Chans.getD i default)) && (allI s.Procs.length fun i => processP m (s.Procs.getD i default)) && claimAt m s) := rfl
  generalize stFits m s = b at e0 ⊢
  refine ⟨fun h => leafB ?_, fun h => ?_⟩
  · rw [show headP m s = false by simpa using h] at e0; rw [e0]; rfl
  rw [show headP m s = true by simpa using h, Bool.true_and] at e0
  refine loop_idx tb_ok mixed s.Chans.length (fun k => stFits1 m s k) (fun k => ∀ i, i < k → chanP m (s.Chans.getD i default) = true) (by kernel_rfl) (by kernel_rfl) (fun i hi => by omega) ?_
  intro k hk hI J next
  refine Asks.raw (stfits1_raw _ m s k J) ⟨fun hlt => ?_, fun hge => ?_⟩
  · have hlt' : k < s.Chans.length := by have := lt_of hlt; omega
    refine ⟨⟨by omega, by omega⟩, chanP m (s.Chans.getD k default), channel_spec (hs.cs _ (getD_mem hlt')), fun hy => leafB ?_, fun hy => next _ hlt' (succ_of hI (by simpa using hy)) (Up.of ?_)⟩
    · rw [allI_no (f := fun i => chanP m (s.Chans.getD i default)) hlt' (by simpa using hy)] at e0
      rw [e0]; rfl
    · rw [wrap_succ (by omega)]; rfl
  have hge' : s.Chans.length ≤ k := by have := ge_of hge; omega
  rw [(allI_iff (n := s.Chans.length) (f := fun i => chanP m (s.Chans.getD i default))).2 fun i hi => hI i (by omega), Bool.true_and] at e0
  clear hI next
  refine loop_idx tb_ok mixed s.Procs.length (fun k => stFits2 m s k) (fun k => ∀ i, i < k → processP m (s.Procs.getD i default) = true) (by kernel_rfl) (by kernel_rfl) (fun i hi => by omega) ?_
  intro k hk hI J next
  refine Asks.raw (stfits2_raw _ m s k J) ⟨fun hlt => ?_, fun hge => ?_⟩
  · have hlt' : k < s.Procs.length := by have := lt_of hlt; omega
    refine ⟨⟨by omega, by omega⟩, processP m (s.Procs.getD k default), process_spec (hs.ps _ (getD_mem hlt')), fun hy => leafB ?_, fun hy => next _ hlt' (succ_of hI (by simpa using hy)) (Up.of ?_)⟩
    · rw [allI_no (f := fun i => processP m (s.Procs.getD i default)) hlt' (by simpa using hy)] at e0
      rw [e0]; rfl
    · rw [wrap_succ (by omega)]; rfl
  have hge' : s.Procs.length ≤ k := by have := ge_of hge; omega
  rw [(allI_iff (n := s.Procs.length) (f := fun i => processP m (s.Procs.getD i default))).2 fun i hi => hI i (by omega), Bool.true_and] at e0
  unfold claimAt at e0
  refine ⟨fun h2 => leafB ?_, fun h2 => ⟨fun _ => ⟨?_, hcl⟩, leafB ?_⟩⟩
  · rw [h2, cond_true] at e0; rw [e0, ieq]
  · have := of_decide_eq_false h2; omega
  · rw [h2, cond_false] at e0
    rw [e0, bif_and]; rfl
theorem stfits_spec {m : D.Model} {s : D.State} (hs : SmallS' s) (hcl : m.Claim < m.Procs.length) : VSpec Tryz.prog 47 [] [.agg (enc_Model m), .agg (enc_State s)] [] (boolV (stFits m s)) := by
  refine (stfits_spec' hs hcl).frz rfl fun j x y hx hy => ?_
  match j, hx, hy with
  | 0, hx, hy => simp only [List.getElem?_cons_zero, Option.some.injEq] at hx hy; subst hx hy; exact leS_refl _
  | 1, hx, hy =>
    simp only [List.getElem?_cons_succ, List.getElem?_cons_zero, Option.some.injEq] at hx hy
    subst hx hy
    refine leS_agg rfl fun j x y hx hy => ?_
    match j, hx, hy with
    | 0, hx, hy => simp only [enc_State, encSt, List.getElem?_cons_zero, Option.some.injEq] at hx hy; subst hx hy; exact leS_refl _
    | 1, hx, hy => simp only [enc_State, encSt, List.getElem?_cons_succ, List.getElem?_cons_zero, Option.some.injEq] at hx hy; subst hx hy; exact leS_sl
    | 2, hx, hy => simp only [enc_State, encSt, List.getElem?_cons_succ, List.getElem?_cons_zero, Option.some.injEq] at hx hy; subst hx hy; exact leS_sl
    | 3, hx, hy => simp only [enc_State, encSt, List.getElem?_cons_succ, List.getElem?_cons_zero, Option.some.injEq] at hx hy; subst hx hy; exact leS_refl _
    | 4, hx, hy => simp only [enc_State, encSt, List.getElem?_cons_succ, List.getElem?_cons_zero, Option.some.injEq] at hx hy; subst hx hy; exact leS_refl _
    | 5, hx, hy => simp only [enc_State, encSt, List.getElem?_cons_succ, List.getElem?_cons_zero, Option.some.injEq] at hx hy; subst hx hy; exact leS_refl _
    | j + 6, hx, hy => simp [enc_State] at hx
  | j + 2, hx, hy => simp at hx
theorem may_spec {m : D.Model} (hw : wf_Model m) : VSpec Tryz.prog 46 [] [.agg (enc_Model m)] [] (boolV (mayP m)) :=
  vspec_raw tb_ok mixed Tryz.func46 (by kernel_rfl) rfl (may_raw _ m) ⟨checkP m, check_spec hw, leafB (ieq _ _)⟩
theorem stcheck_spec {m : D.Model} {s : D.State} (hw : wf_Model m) (hs : SmallS' s) (hcl : mayP m = true → m.Claim < m.Procs.length) : VSpec Tryz.prog 25 [] [.agg (enc_Model m), .agg (enc_State s)] [] (intV (stCheck m s)) := by
  refine vspec_raw tb_ok mixed Tryz.func25 (by kernel_rfl) rfl (stcheck_raw _ m s) ⟨mayP m, may_spec hw, fun h => leafI ?_, fun h => ⟨stFits m s, stfits_spec hs (hcl (by simpa using h)), fun h2 => leafI ?_, fun h2 => leafI ?_⟩⟩
  · unfold stCheck; rw [show mayP m = false by simpa using h]; rfl
  · unfold stCheck; rw [show mayP m = true by simpa using h, show stFits m s = false by simpa using h2]; rfl
  · unfold stCheck; rw [show mayP m = true by simpa using h, show stFits m s = true by simpa using h2]; rfl
theorem Fit.small {s : D.State} (h : Fit s) : SmallS' s := by
  have hg := h.g
  have hc := h.c
  have hp := h.p
  refine ⟨by unfold Len; omega, by unfold Len; omega, by unfold Len; omega, fun c hc => ⟨by have := (h.q c hc).1; unfold Len; omega, fun x hx => by have := (h.q c hc).2 x hx; unfold Len; omega⟩, fun p hp => by have := h.f p hp; unfold Len; omega⟩
theorem small_of {s : D.State} (h : wf_State s) : SmallS' s := by
  have hg := h.Globals.1
  have hc := h.Chans.1
  have hp := h.Procs.1
  refine ⟨by unfold Len; omega, by unfold Len; omega, by unfold Len; omega, fun c hc => ⟨by have := (h.Chans.2 c hc).Queue.1; unfold Len; omega, fun x hx => by have := ((h.Chans.2 c hc).Queue.2 x hx).1; unfold Len; omega⟩, fun p hp => by have := (h.Procs.2 p hp).Frame.1; unfold Len; omega⟩
theorem check_zero {m : D.Model} {s : D.State} (h : stCheck m s = 0) : mayP m = true ∧ stFits m s = true := by
  unfold stCheck at h
  cases h1 : mayP m <;> cases h2 : stFits m s <;> simp [h1, h2] at h ⊢
end Go.Proofs.YtiaebjpcgjkhoaaGreatDoor
namespace Go.Proofs.YtiaebjpcgjkhoaaGreatDoor
open Go.RowKit
structure Touch (w w' : World) (F : Nat → Prop) : Prop where
  os : w'.os = w.os
  tape : w'.tape = w.tape
  output : w'.output = w.output
  size : w.heap.size ≤ w'.heap.size
  block : ∀ k, k < w.heap.size → ¬ F k → w'.heap[k]? = w.heap[k]?
theorem Touch.refl (w : World) (F : Nat → Prop) : Touch w w F := ⟨rfl, rfl, rfl, Nat.le_refl _, fun _ _ _ => rfl⟩
theorem Touch.drew {w w' : World} {F : Nat → Prop} (h : Touch w w' F) : Touch w w'.drew F := ⟨h.os, h.tape, h.output, h.size, h.block⟩
theorem Touch.alloc {w w' : World} {F : Nat → Prop} (h : Touch w w' F) (o : Obj) : Touch w (w'.alloc o) F :=
  ⟨h.os, h.tape, h.output, Nat.le_trans h.size (by simp), fun k hk hn => (Below.heap_alloc w' o k (Nat.lt_of_lt_of_le hk h.size)).trans (h.block k hk hn)⟩
theorem Touch.setCell {w w' : World} {F : Nat → Prop} (h : Touch w w' F) {p : Addr} (hp : F p.block ∨ w.heap.size ≤ p.block) (u : Value) : Touch w (w'.setCell p u) F :=
  ⟨h.os, h.tape, h.output, by simpa [World.setCell] using h.size, fun k hk hn =>
    (Below.heap_setCell w' p u k (by rintro rfl; rcases hp with hp | hp; exact hn hp; omega)).trans (h.block k hk hn)⟩
theorem Touch.grown {w w' w'' : World} {F : Nat → Prop} {row : Option Nat} (h : Touch w w' F) (hg : w'.grownBy w'' row) (hr : ∀ k, row = some k → F k ∨ w.heap.size ≤ k) : Touch w w'' F :=
  ⟨hg.os.trans h.os, hg.tape.trans h.tape, hg.output.trans h.output, Nat.le_trans h.size hg.size, fun k hk hn =>
    (hg.block k (Nat.lt_of_lt_of_le hk h.size) (fun e => by rcases hr k e.symm with h1 | h1; exact hn h1; omega)).trans (h.block k hk hn)⟩
theorem Touch.trans {a b c : World} {F G : Nat → Prop} (h : Touch a b F) (k : Touch b c G) (hG : ∀ i, G i → F i ∨ a.heap.size ≤ i) : Touch a c F :=
  ⟨k.os.trans h.os, k.tape.trans h.tape, k.output.trans h.output, Nat.le_trans h.size k.size, fun i hi hn =>
    (k.block i (Nat.lt_of_lt_of_le hi h.size) (fun hg => by rcases hG i hg with h1 | h1; exact hn h1; omega)).trans (h.block i hi hn)⟩
theorem Touch.below {w w' : World} {F : Nat → Prop} {B : Nat} (h : Touch w w' F) (hB : B ≤ w.heap.size) (hF : ∀ k, F k → B ≤ k) : Below B w w' :=
  ⟨h.os, h.tape, h.output, h.size, fun k hk => h.block k (Nat.lt_of_lt_of_le hk hB) (fun hf => by have := hF k hf; omega)⟩
theorem Touch.of_below {w w' : World} {F : Nat → Prop} (h : Below w.heap.size w w') : Touch w w' F :=
  ⟨h.os, h.tape, h.output, h.size, fun k hk _ => h.block k hk⟩
theorem Touch.mono {w w' : World} {F G : Nat → Prop} (h : Touch w w' F) (hFG : ∀ k, F k → G k ∨ w.heap.size ≤ k) : Touch w w' G :=
  ⟨h.os, h.tape, h.output, h.size, fun k hk hn => h.block k hk (fun hf => by rcases hFG k hf with h1 | h1; exact hn h1; omega)⟩
theorem ownsRow_same {w w' : World} {base : Nat} {e : TypeId} {size : Nat} {v : Value} {n : Nat} {xs : List Value} (h : w.ownsRow base e size v n xs)
    (hs : ∀ k, v.ownBlock = some k → w'.heap[k]? = w.heap[k]?) : w'.ownsRow base e size v n xs := by
  refine ⟨h.1, ?_⟩
  rcases h.2 with hn | ⟨g, cap, cur, rfl, hb, hg, rest⟩
  · exact .inl hn
  · exact .inr ⟨g, cap, cur, rfl, hb, by rw [hs g rfl]; exact hg, rest⟩
theorem ownsRow_blk {w : World} {base : Nat} {e : TypeId} {size : Nat} {v : Value} {n : Nat} {xs : List Value} (h : w.ownsRow base e size v n xs) {k : Nat} (hk : v.ownBlock = some k) : ∃ cur, w.heap[k]? = some (.cells cur e (0, 0)) := by
  rcases h.2 with ⟨rfl, _⟩ | ⟨g, cap, cur, rfl, hb, hg, rest⟩
  · simp [Value.ownBlock] at hk
  · simp [Value.ownBlock] at hk; subst hk; exact ⟨cur, hg⟩
theorem blk_lt {w : World} {b : Nat} {o : Obj} (h : w.heap[b]? = some o) : b < w.heap.size := lt_of_block h
theorem blk_ne {w : World} {a b : Nat} {c d : Array Value} {s t : TypeId} {f g : Nat × Nat} (ha : w.heap[a]? = some (.cells c s f)) (hb : w.heap[b]? = some (.cells d t g)) (hst : s ≠ t) : a ≠ b := by
  rintro rfl; rw [ha] at hb; simp at hb; exact hst hb.2.1
end Go.Proofs.YtiaebjpcgjkhoaaGreatDoor
namespace Go.Proofs.YtiaebjpcgjkhoaaGreatDoor
open Go.RowKit
theorem info_parts' {P : Program} {t : TypeId} {z : Value} {s b : Nat} (h : (P.info? t).map (fun i => (i.zero, i.size, i.bytes)) = some (some z, s, b)) : ∃ i, P.info? t = some i ∧ i.zero = some z ∧ i.size = s ∧ i.bytes = b := by
  cases hi : P.info? t with
  | none => rw [hi] at h; cases h
  | some i => rw [hi] at h; simp only [Option.map_some, Option.some.injEq, Prod.mk.injEq] at h; exact ⟨i, rfl, h⟩
theorem info_i64 : (Tryz.prog.info? 2).map (fun i => (i.zero, i.size, i.bytes)) = some (some (.int .i64 0), 1, 8) := by kernel_rfl
theorem own_one {w : World} {n0 : Nat} {e : TypeId} {v : Value} {n : Nat} {xs : List Value} (h : w.ownsRow n0 e 1 v n xs) :
    ∃ ao cap, v = .slice ao n cap ∧ n ≤ cap ∧ cap ≤ maxLen ∧ (0 < n → ∃ g, ao = some ⟨g, 0, none⟩ ∧ n0 ≤ g ∧ g < w.heap.size ∧ ∀ j, j < n → w.cell? ⟨g, j, none⟩ = xs[j]?) := by
  rcases h.2 with ⟨rfl, rfl⟩ | ⟨g, cap, cur, rfl, hb, hg, h1, h2, _⟩
  · exact ⟨none, 0, rfl, Nat.le_refl _, Nat.zero_le _, fun h => by omega⟩
  · exact ⟨_, cap, rfl, h1, h2, fun _ => ⟨g, rfl, hb, blk_lt hg, fun j hj => h.cellAt j (by omega)⟩⟩
theorem v_of_row {w : World} {E : Prot} {m : Option Phi} {n0 : Nat} {v : Value} {xs : List Int} (h : w.ownsRow n0 2 1 v xs.length (xs.map (Value.int .i64))) (hA : ∀ k, E.fz k → k < n0) : V w E m (encL_Int true xs) v := by
  obtain ⟨ao, cap, rfl, h1, h2, h3⟩ := own_one h
  refine V.sl_mk h1 h2 fun hp => ?_
  obtain ⟨g, rfl, hg, hlt, hc⟩ := h3 hp
  refine ⟨g, 0, rfl, hlt, fun hk => by have := hA g hk; omega, fun i _ => rfl, fun i _ => .int .i64 (xs.getD i 0), fun i j y hi hy => ?_, fun i j y hi hy => ?_⟩
  · match j, hy with
    | 0, _ =>
      have := hc i hi
      simp only [Nat.zero_add, Nat.mul_one, Nat.add_zero]
      rw [this]; simp [List.getD, hi]
    | j + 1, hy => simp at hy
  · match j, hy with
    | 0, hy => simp only [List.getElem?_cons_zero, Option.some.injEq] at hy; subst hy; exact .sc
    | j + 1, hy => simp at hy
set_option maxHeartbeats 1000000 in
theorem clone_calls {w : World} {ao : Option Addr} {cap : Nat} {xs : List Int} (h1 : xs.length ≤ cap) (h2 : cap ≤ maxLen) (hr : xs.length * 8 ≤ 140737488355328) (h3 : 0 < xs.length → ∃ a, ao = some a ∧ ∀ i, i < xs.length → w.cell? (a.add i) = some (.int .i64 (xs.getD i 0))) :
    Calls Tryz.prog 34 #[.slice ao xs.length cap] w fun e w' => ∃ v', e = .returned v' ∧ w'.ownsRow w.heap.size 2 1 v' xs.length (xs.map (Value.int .i64)) ∧ Below w.heap.size w w' := by
  have q22 : ∀ (w : World) (a : Option Addr) (n c n' c' : Nat), (binOp .eql 23 (.slice a n c) (.slice none n' c')).run Tryz.prog w = .ok (.bool a.isNone) w := fun w a n c n' c' => Lib.run_eql_slice_nil w _ _ a n c n' c' Tryz.underlying23
  obtain ⟨ki, khi, khz0, khz1, khz2⟩ := info_parts' info_i64
  cases ao with
  | none =>
    have h0 : xs = [] := by
      apply List.eq_nil_of_length_eq_zero
      apply Classical.byContradiction
      intro hp
      obtain ⟨_, e, _⟩ := h3 (by omega)
      cases e
    subst h0
    clear h3
    go_enter Tryz.func34, Tryz.ntmps34
    go_wp2
    go_ret
    exact ⟨_, rfl, World.ownsRow_nil _ _ _ _, Below.refl _ _⟩
  | some a =>
    have hn : ∀ (j : Nat) (u : Value), (xs.map (Value.int .i64))[j]? = some u → w.cell? (a.add j) = some u := by
      intro j u hj
      have hjl : j < xs.length := by have := (List.getElem?_eq_some_iff.1 hj).1; simpa using this
      obtain ⟨a', e, hc⟩ := h3 (by omega)
      simp only [Option.some.injEq] at e
      subst e
      rw [hc j hjl, ← hj]; simp [List.getD, hjl]
    have HN := Lib.hid hn
    clear h3 hn
    have hlen := h2
    unfold maxLen at hlen
    go_enter Tryz.func34, Tryz.ntmps34
    go_wp2_with (at_builtin; refine wpList_append_own _ rfl _ _ 23 rfl w.heap.size 2 ki (.int .i64 0) 1 8 Tryz.underlying23 khi khz0 khz1 khz2 rfl (by decide) _ _ _ rfl (World.ownsRow_made w #[] 0 (Nat.le_refl _) (Nat.zero_le _) (by simp)) a xs.length cap (xs.map (Value.int .i64)) rfl ?qc1 ?qc2 ?qc3 ?qc4 ?qc5 ?qc6 ?_)
    case qc1 => simp
    case qc2 => intro j u hj; have := HN.out j u hj; exact Lib.cell?_alloc_some _ this
    case qc3 => intro u hu; simp at hu; obtain ⟨x, _, rfl⟩ := hu; rfl
    case qc4 => unfold maxLen; omega
    case qc5 => omega
    case qc6 => simp
    intro v' w1 hown hgrow _
    go_wp2
    go_ret
    exact ⟨v', rfl, by simpa using hown, ((Below.refl _ w).alloc (Nat.le_refl _) _).grown hgrow (by simp) (by intro k hk; simp [Value.ownBlock] at hk; omega)⟩
theorem clone_spec {xs : List Int} (hr : xs.length * 8 ≤ 140737488355328) : VSpec Tryz.prog 34 [] [encL_Int true xs] [] (encL_Int true xs) := by
  refine VSpec.hand ⟨_, Tryz.func34, rfl, by kernel_rfl⟩ fun w E vs hA hL _ _ hs => ?_
  obtain ⟨u1, us1, rfl, v1, hs⟩ := hs.cons_inv
  obtain rfl := hs.nil_inv
  obtain ⟨ao, cap, rfl, h1, h2, h3⟩ := V.sl_inv v1
  refine (clone_calls h1 h2 hr fun hp => ?_).mono ?_
  · obtain ⟨b, off, rfl, _, _, _, u, hc, hv⟩ := h3 hp
    refine ⟨_, rfl, fun i hi => ?_⟩
    have c1 := hc i 0 _ hi rfl
    have c2 := (hv i 0 _ hi rfl).sc_inv
    rw [Addr.add_lit]
    rw [c2] at c1
    simpa using c1
  · rintro e w' ⟨v', rfl, ho, hb⟩
    exact ⟨v', rfl, v_of_row ho hA, hb⟩
end Go.Proofs.YtiaebjpcgjkhoaaGreatDoor
namespace Go.Proofs.YtiaebjpcgjkhoaaGreatDoor
open Go.RowKit
def shEx (f : FuncId) : Shp :=
  bif Nat.beq f 51 || Nat.beq f 147 || Nat.beq f 100 || Nat.beq f 91 then shpI
  else bif Nat.beq f 39 || Nat.beq f 92 || Nat.beq f 84 || Nat.beq f 116 || Nat.beq f 118 || Nat.beq f 82 || Nat.beq f 83 || Nat.beq f 86 || Nat.beq f 81 || Nat.beq f 117 || Nat.beq f 87 || Nat.beq f 52 || Nat.beq f 120 || Nat.beq f 121 then shpII
  else bif Nat.beq f 80 then shpIII
  else bif Nat.beq f 34 || Nat.beq f 35 then shpL else shCk f
end Go.Proofs.YtiaebjpcgjkhoaaGreatDoor
namespace Go.Proofs.YtiaebjpcgjkhoaaGreatDoor
open Go.RowKit
def ann_slot : Ann := { keep := fun
  | [0, 1, 0, 1, 1, 1, 1, 1, 1] => [0, 8, 10, 46, 47, 48]
  | _ => [] }
def ann_poll : Ann := { keep := fun
  | [0, 1, 0, 1, 1, 1, 1, 1, 1] => [0, 3, 8, 9, 51, 52, 53]
  | _ => [] }
def ann_progress : Ann := { keep := fun
  | [0, 1, 0, 1] => [0, 9, 10, 11]
  | _ => [] }
def ann_index : Ann := { keep := fun
  | [0, 1, 0, 1] => [0, 1, 7, 8]
  | _ => [] }
def ann_find : Ann := { keep := fun
  | [0, 1, 0, 1] => [1, 2, 3, 12, 13, 14]
  | _ => [] }
def ann_mtch : Ann := { keep := fun
  | [0, 1, 0, 1, 1] => [0, 1, 21, 22, 23]
  | _ => [] }
def stSlot (e : D.Env) (ds : List D.Dim) (who at' k : Int) : St := mkSt [(0, .tp (enc_Env e)), (8, intV who), (10, intV at'), (46, encL_Dim true ds), (47, intV ds.length), (48, intV k)] []
def stPoll (e : D.Env) (x : D.Expr) (c : D.Chan) (l : List Int) (k : Int) : St := mkSt [(0, .tp (enc_Env e)), (3, .bp 0 0), (8, .bp 1 0), (9, .ow 2 0 l.length), (51, encL_Int true x.Args), (52, intV x.Args.length), (53, intV k)] [.box (enc_Expr x), .box (enc_Chan c), .arr true 0 l.length 1 (rowsIn l)]
def stProg (e : D.Env) (k : Int) : St := mkSt [(0, .tp (enc_Env e)), (9, encL_Process true e.S.Procs), (10, intV e.S.Procs.length), (11, intV k)] []
def stIdx (l : List Int) (v k : Int) : St := mkSt [(0, encL_Int true l), (1, intV v), (7, intV l.length), (8, intV k)] []
def stFind (c : D.Chan) (l mt : List Int) (any : Bool) (k : Int) : St := mkSt [(1, encL_Int false l), (2, encL_Int true mt), (3, boolV any), (12, encL_Ints true c.Queue), (13, intV c.Queue.length), (14, intV k)] []
def stMtch (x l mt : List Int) (k : Int) : St := mkSt [(0, encL_Int true x), (1, encL_Int false l), (21, encL_Int true mt), (22, intV mt.length), (23, intV k)] []
end Go.Proofs.YtiaebjpcgjkhoaaGreatDoor
