/-
  Layer 11 on trees: which temporaries are kept at the head of each loop (written by heads.py), the states there.
-/
import Derived.Test.YtdjjlkekbphbaaaDoorGdS
namespace Go.Proofs.YtdjjlkekbphbaaaDoor
open Go.RowKit
def ann_reach : Ann := { keep := fun
  | [0, 1, 0, 1, 1, 1] => [3, 24, 25, 26]
  | _ => [] }
def ann_types : Ann := { keep := fun
  | [0, 1, 0, 1] => [0, 1, 7, 8]
  | _ => [] }
def ann_shape : Ann := { keep := fun
  | [0, 1, 0, 1, 1] => [26, 27, 28]
  | _ => [] }
def ann_below : Ann := { keep := fun
  | [0, 1, 0, 1] => [0, 7, 8, 9]
  | _ => [] }
def ann_belowt : Ann := { keep := fun
  | [0, 1, 0, 1] => [0, 7, 8, 9]
  | _ => [] }
def ann_vari : Ann := { keep := fun
  | [0, 1, 0, 1, 1, 1] => [1, 58, 59, 60]
  | _ => [] }
def ann_matched : Ann := { keep := fun
  | [0, 1, 0, 1, 1] => [0, 2, 32, 33, 34]
  | _ => [] }
def ann_expr : Ann := { keep := fun
  | [0, 1, 0, 1, 1, 1] => [0, 1, 5, 30, 31]
  | _ => [] }
def ann_graph : Ann := { keep := fun
  | [0, 1, 0, 1, 1, 1, 1] => [1, 3, 4, 43, 44, 45]
  | [0, 1, 1, 1, 0, 0, 1, 1, 0, 0, 1, 0, 1, 1, 1, 1] => [1, 3, 4, 43, 44, 45, 79, 80, 81]
  | [0, 1, 1, 1, 1, 1, 0, 0, 1, 1, 0, 0, 1, 1, 1, 0, 0, 1, 1, 0, 0, 1, 0, 1, 1, 1, 1] => [1, 3, 4, 43, 44, 45, 79, 80, 81, 99, 100, 101]
  | _ => [] }
def ann_claimed : Ann := { keep := fun
  | [0, 1, 0, 1, 1] => [25, 26, 27]
  | _ => [] }
def ann_taken : Ann := { keep := fun
  | [0, 1, 0, 1, 1] => [0, 3, 21, 22, 23]
  | _ => [] }
def ann_uses : Ann := { keep := fun
  | [1] => [0, 1, 2, 3, 9, 10, 11]
  | _ => [] }
def ann_proc : Ann := { keep := fun
  | [0, 1, 0, 1, 1] => [0, 1, 5, 21, 22, 23]
  | [0, 1, 1, 0, 0, 1, 1, 0, 0, 1, 0, 1, 1] => [0, 1, 5, 21, 22, 23, 28, 29, 30]
  | [0, 1, 1, 0, 0, 1, 1, 0, 0, 1, 1, 0, 0, 1, 1, 0, 0, 1, 0, 1, 1] => [0, 1, 5, 21, 22, 23, 28, 29, 30, 34, 35, 36]
  | _ => [] }
def ann_tables : Ann := { keep := fun
  | [0, 1, 0, 1, 1, 1, 1, 1] => [0, 4, 50, 51, 52]
  | [0, 1, 0, 1, 1, 1, 1, 1, 1] => [0, 4, 63, 64, 65]
  | [0, 1, 0, 1, 1, 1, 1, 1, 1, 1, 1, 1] => [0, 4, 10, 116, 117]
  | [0, 1, 1, 1, 0, 0, 1, 1, 0, 0, 1, 0, 1, 1, 1, 1, 1, 1, 1, 1, 1] => [0, 4, 10, 11, 116, 117, 130, 131, 132]
  | _ => [] }
def ann_held : Ann := { keep := fun
  | [0, 1, 1, 0, 1, 0, 1, 1, 1] => [3, 45, 46, 47]
  | _ => [] }
def ann_check : Ann := { keep := fun
  | [0, 1, 0, 1, 1, 1, 1] => [1, 5, 8, 25, 26, 27]
  | [0, 1, 0, 1, 1, 1, 1, 1, 1] => [5, 74, 75]
  | _ => [] }
/-! ### The states at the heads of loops -/
def rowsBo (l : List Bool) : Nat → List VV := fun i => [boolV (l.getD i false)]
def rowsIn (l : List Int) : Nat → List VV := fun i => [intV (l.getD i 0)]
def stReach (n : Int) (v : D.Var) (k : Int) : St := mkSt [(3, intV n), (24, encL_Dim true v.Dims), (25, intV v.Dims.length), (26, intV k)] []
def stTypes (t : List D.Type) (init : List Int) (k : Int) : St := mkSt [(0, encL_Type true t), (1, encL_Int true init), (7, intV t.length), (8, intV k)] []
def stShape (s : D.Shape) (k : Int) : St := mkSt [(26, encL_Type true s.Fields), (27, intV s.Fields.length), (28, intV k)] []
def stBelow (a : Int) (l : List Int) (k : Int) : St := mkSt [(0, intV a), (7, encL_Int false l), (8, intV l.length), (9, intV k)] []
def stBelowt (a : Int) (l : List Int) (k : Int) : St := mkSt [(0, intV a), (7, encL_Int true l), (8, intV l.length), (9, intV k)] []
def stVari (a : Int) (v : D.Var) (k : Int) : St := mkSt [(1, intV a), (58, encL_Dim true v.Dims), (59, intV v.Dims.length), (60, intV k)] []
def stMatched (m : D.Model) (args mt : List Int) (k : Int) : St := mkSt [(0, tpM m), (2, encL_Int true args), (32, encL_Int true mt), (33, intV mt.length), (34, intV k)] []
def stExpr (m : D.Model) (a : Int) (x : D.Expr) (k : Int) : St := mkSt [(0, tpM m), (1, intV a), (5, .bp 0 0), (30, .agg [intV x.A, intV x.B, intV x.C]), (31, intV k)] [.box (enc_Expr x)]
def stGraph1 (p : D.Proc) (many k : Int) : St := mkSt [(1, .bp 0 0), (3, intV p.Locs.length), (4, intV many), (43, encL_Loc true p.Locs), (44, intV p.Locs.length), (45, intV k)] [.box (enc_Proc p)]
def stGraph2 (p : D.Proc) (many k : Int) (ws : List (List D.Trans)) (j : Int) : St := mkSt [(1, .bp 0 0), (3, intV p.Locs.length), (4, intV many), (43, encL_Loc true p.Locs), (44, intV p.Locs.length), (45, intV k), (79, encL_Transs true ws), (80, intV ws.length), (81, intV j)] [.box (enc_Proc p)]
def stGraph3 (p : D.Proc) (many k : Int) (ws : List (List D.Trans)) (j : Int) (w : List D.Trans) (h : Int) : St := mkSt [(1, .bp 0 0), (3, intV p.Locs.length), (4, intV many), (43, encL_Loc true p.Locs), (44, intV p.Locs.length), (45, intV k), (79, encL_Transs true ws), (80, intV ws.length), (81, intV j), (99, encL_Trans true w), (100, intV w.length), (101, intV h)] [.box (enc_Proc p)]
def stClaimed (p : D.Proc) (k : Int) : St := mkSt [(25, encL_Loc true p.Locs), (26, intV p.Locs.length), (27, intV k)] []
def stTaken (m : D.Model) (s : D.Stmt) (k : Int) : St := mkSt [(0, tpM m), (3, .bp 0 0), (21, encL_Int true s.Match), (22, intV s.Match.length), (23, intV k)] [.box (enc_Stmt s)]
def stUses (m : D.Model) (i : Int) (list : List Int) (run : Int) (seen : List Bool) (todo : List Int) (k : Int) : St := mkSt [(0, tpM m), (1, intV i), (2, encL_Int false list), (3, intV run), (9, .ow 0 0 seen.length), (10, .ow 1 0 todo.length), (11, intV k)] [.arr true 0 seen.length 1 (rowsBo seen), .arr true 0 todo.length 1 (rowsIn todo)]
def stUses0 (m : D.Model) (i : Int) (list : List Int) (run : Int) : St := mkSt [(0, tpM m), (1, intV i), (2, encL_Int false list), (3, intV run), (9, .dead), (10, .dead), (11, .dead)] []
def stProc1 (m : D.Model) (i : Int) (p : D.Proc) (k : Int) : St := mkSt [(0, tpM m), (1, intV i), (5, .bp 0 0), (21, encL_Loc true p.Locs), (22, intV p.Locs.length), (23, intV k)] [.box (enc_Proc p)]
def stProc2 (m : D.Model) (i : Int) (p : D.Proc) (k : Int) (ws : List (List D.Trans)) (j : Int) : St := mkSt [(0, tpM m), (1, intV i), (5, .bp 0 0), (21, encL_Loc true p.Locs), (22, intV p.Locs.length), (23, intV k), (28, encL_Transs true ws), (29, intV ws.length), (30, intV j)] [.box (enc_Proc p)]
def stProc3 (m : D.Model) (i : Int) (p : D.Proc) (k : Int) (ws : List (List D.Trans)) (j : Int) (w : List D.Trans) (h : Int) : St := mkSt [(0, tpM m), (1, intV i), (5, .bp 0 0), (21, encL_Loc true p.Locs), (22, intV p.Locs.length), (23, intV k), (28, encL_Transs true ws), (29, intV ws.length), (30, intV j), (34, encL_Trans true w), (35, intV w.length), (36, intV h)] [.box (enc_Proc p)]
def stTab1 (m : D.Model) (k : Int) : St := mkSt [(0, tpM m), (4, .bp 0 0), (50, encL_Shape true m.Shapes), (51, intV m.Shapes.length), (52, intV k)] [.box (enc_Model m)]
def stTab2 (m : D.Model) (k : Int) : St := mkSt [(0, tpM m), (4, .bp 0 0), (63, encL_Int true m.Chans), (64, intV m.Chans.length), (65, intV k)] [.box (enc_Model m)]
def stTab3 (m : D.Model) (had : List Bool) (k : Int) : St := mkSt [(0, tpM m), (4, .bp 0 0), (10, .ow 1 0 had.length), (116, intV m.Exprs.length), (117, intV k)] [.box (enc_Model m), .arr true 0 had.length 1 (rowsBo had)]
def stTab4 (m : D.Model) (had : List Bool) (k : Int) (l : List Int) (j : Int) : St := mkSt [(0, tpM m), (4, .bp 0 0), (10, .ow 1 0 had.length), (11, intV k), (116, intV m.Exprs.length), (117, intV k), (130, encL_Int true l), (131, intV l.length), (132, intV j)] [.box (enc_Model m), .arr true 0 had.length 1 (rowsBo had)]
def stHeld (x : D.Expr) (l : List Int) (k : Int) : St := mkSt [(3, .ow 0 0 l.length), (45, encL_Dim true x.V.Dims), (46, intV x.V.Dims.length), (47, intV k)] [.arr true 0 l.length 1 (rowsIn l)]
def stCheck1 (m : D.Model) (many k : Int) : St := mkSt [(1, .bp 0 0), (5, .bp 1 0), (8, intV many), (25, encL_Proc true m.Procs), (26, intV m.Procs.length), (27, intV k)] [.box (enc_Model m), .box (enc_Model m)]
def stCheck2 (m : D.Model) (k : Int) : St := mkSt [(5, .bp 0 0), (74, intV m.Procs.length), (75, intV k)] [.box (enc_Model m)]
end Go.Proofs.YtdjjlkekbphbaaaDoor
