/-
  Layer 12 on trees: the first state, and are two the same: the heads of loops (written by heads.py), the states there.
-/
import Derived.Test.YtdjjlkekbphbaaaDoorStA
namespace Go.Proofs.YtdjjlkekbphbaaaDoor
open Go.RowKit
def ann_first : Ann := { keep := fun
  | [0, 1, 0, 1, 1, 1] => [1, 2, 4, 18, 19, 20]
  | [0, 1, 0, 1, 1, 1, 1] => [1, 2, 4, 33, 34, 35]
  | [0, 1, 1, 0, 0, 1, 1, 0, 0, 1, 0, 1, 1, 1, 1] => [1, 2, 4, 7, 8, 33, 34, 35, 41, 42]
  | _ => [] }
def ann_begin : Ann := { keep := fun
  | [0, 1, 0, 1, 1, 1] => [6, 7, 8, 25, 26, 27]
  | _ => [] }
def ann_eqc : Ann := { keep := fun
  | [0, 1, 0, 1, 1] => [1, 2, 15, 16, 17]
  | _ => [] }
def ann_eqm : Ann := { keep := fun
  | [0, 1, 0, 1, 1] => [1, 2, 15, 16, 17]
  | _ => [] }
def ann_eqp : Ann := { keep := fun
  | [0, 1, 0, 1, 1] => [1, 2, 15, 16, 17]
  | _ => [] }
def ann_equalm : Ann := { keep := fun
  | [0, 1, 0, 1, 1] => [0, 1, 12, 13]
  | _ => [] }
def ann_equali : Ann := { keep := fun
  | [0, 1, 0, 1, 1] => [0, 1, 12, 13]
  | _ => [] }
/-! ### The states at the heads of loops -/
def stFir1 (m : D.Model) (k : Int) : St := mkSt [(1, .bp 0 0), (2, .bp 1 0), (4, .bp 2 0), (18, encL_Int true m.Chans), (19, intV m.Chans.length), (20, intV k)] [.box (enc_Model m), boxZ, .box [encL_Int true m.Init, .nl, .nl, intV 0, intV (-1), intV (-1)]]
def stEqC (x y : List D.Chan) (k : Int) : St := mkSt [(1, encL_Chan true y), (2, .fn (.func 49) []), (15, encL_Chan true x), (16, intV x.length), (17, intV k)] []
def stEqM (x y : List (List Int)) (k : Int) : St := mkSt [(1, encL_Ints true y), (2, .fn (.func 51) []), (15, encL_Ints true x), (16, intV x.length), (17, intV k)] []
def stEqP (x y : List D.Process) (k : Int) : St := mkSt [(1, encL_Process true y), (2, .fn (.func 54) []), (15, encL_Process true x), (16, intV x.length), (17, intV k)] []
def stEqI (x y : List Int) (k : Int) : St := mkSt [(0, encL_Int true x), (1, encL_Int true y), (12, intV x.length), (13, intV k)] []
def bxFir (g : List Int) (n : Nat) : Ob := .box [encL_Int true g, .nl, .ow 3 0 n, intV 0, intV (-1), intV (-1)]
def stFir2 (m : D.Model) (g : List Int) (ps : List D.Process) (k : Int) : St := mkSt [(1, .bp 0 0), (2, .bp 1 0), (4, .bp 2 0), (33, encL_Proc true m.Procs), (34, intV m.Procs.length), (35, intV k)] [.box (enc_Model m), boxZ, bxFir g ps.length, .arr true 0 ps.length 4 (rowsPr ps)]
def stFir3 (m : D.Model) (g : List Int) (ps : List D.Process) (k : Int) (p : D.Proc) (many j : Int) : St := mkSt [(1, .bp 0 0), (2, .bp 1 0), (4, .bp 2 0), (7, intV k), (8, .bp 4 0), (33, encL_Proc true m.Procs), (34, intV m.Procs.length), (35, intV k), (41, intV many), (42, intV j)] [.box (enc_Model m), boxZ, bxFir g ps.length, .arr true 0 ps.length 4 (rowsPr ps), .box (enc_Proc p)]
def stBeg (m : D.Model) (typ : Int) (p : D.Proc) (g l : List Int) (k : Int) : St := mkSt [(6, .bp 0 0), (7, .bp 1 0), (8, .bp 2 0), (25, encL_Int false l), (26, intV l.length), (27, intV k)] [.box [intV 0, intV 0, intV 0, .nl], .box (enc_Proc p), .box [intV typ, intV p.Start, intV p.Prio, encL_Int true g]]
end Go.Proofs.YtdjjlkekbphbaaaDoor
