/-
  Layer 12 on trees: which temporaries are kept at the head of each loop (written by heads.py), the states there.
-/
import Derived.Test.YtdjjlkekbphbaaaDoorStS
import Derived.Test.YtdjjlkekbphbaaaDoorStP
namespace Go.Proofs.YtdjjlkekbphbaaaDoor
open Go.RowKit
def ann_typed : Ann := { keep := fun
  | [0, 1, 0, 1, 1] => [0, 12, 13, 14]
  | _ => [] }
def ann_channel : Ann := { keep := fun
  | [0, 1, 0, 1, 1] => [2, 3, 32, 33, 34]
  | _ => [] }
def ann_stfits : Ann := { keep := fun
  | [0, 1, 0, 1, 1] => [2, 3, 51, 52, 53]
  | [0, 1, 0, 1, 1, 1] => [2, 3, 63, 64, 65]
  | _ => [] }
def ann_numbers : Ann := { keep := fun
  | [1] => [0, 4, 5, 6]
  | _ => [] }
def ann_decode : Ann := { keep := fun
  | [0, 1, 0, 1, 1, 1, 1, 1] => [2, 4, 8, 9, 34, 35]
  | [0, 1, 0, 1, 1, 0, 0, 1, 1, 0, 0, 1, 0, 1, 1, 1, 1, 1] => [2, 4, 8, 9, 10, 34, 35, 45, 46]
  | [0, 1, 0, 1, 1, 1, 1, 1, 1] => [2, 4, 8, 9, 77, 78]
  | _ => [] }
def ann_numbs : Ann := { keep := fun
  | [0, 1, 0, 1, 1] => [0, 1, 5]
  | _ => [] }
def ann_samechan : Ann := { keep := fun
  | [0, 1, 0, 1, 1] => [2, 3, 5]
  | _ => [] }
def ann_rsame : Ann := { keep := fun
  | [0, 1, 0, 1, 1, 1] => [2, 3, 6]
  | [0, 1, 0, 1, 1, 1, 1] => [2, 3, 7]
  | _ => [] }
/-! ### The states at the heads of loops -/
def rowsCh (l : List D.Chan) : Nat → List VV := fun i => enc_Chan (l.getD i default)
def rowsPr (l : List D.Process) : Nat → List VV := fun i => enc_Process (l.getD i default)
def rowsQu (l : List (List Int)) : Nat → List VV := fun i => [encL_Int true (l.getD i [])]
def stTyped (t : List D.Type) (l : List Int) (k : Int) : St := mkSt [(0, encL_Type true t), (12, encL_Int true l), (13, intV l.length), (14, intV k)] []
def stChannel (m : D.Model) (c : D.Chan) (k : Int) : St := mkSt [(2, .bp 0 0), (3, .bp 1 0), (32, encL_Ints true c.Queue), (33, intV c.Queue.length), (34, intV k)] [.box (enc_Model m), .box (enc_Chan c)]
def stFits1 (m : D.Model) (s : D.State) (k : Int) : St := mkSt [(2, .bp 0 0), (3, .bp 1 0), (51, encL_Chan false s.Chans), (52, intV s.Chans.length), (53, intV k)] [.box (enc_Model m), .box (encSt false s)]
def stFits2 (m : D.Model) (s : D.State) (k : Int) : St := mkSt [(2, .bp 0 0), (3, .bp 1 0), (63, encL_Process false s.Procs), (64, intV s.Procs.length), (65, intV k)] [.box (enc_Model m), .box (encSt false s)]
def stNumb0 (t : ByteArray) : St := mkSt [(0, strV t), (4, .dead), (5, .dead), (6, .dead)] []
def stNumb (t : ByteArray) (out : List Int) (fr k : Int) : St := mkSt [(0, strV t), (4, .ow 0 0 out.length), (5, intV fr), (6, intV k)] [.arr true 0 out.length 1 (rowsIn out)]
def stNumbs (x y : List Int) (k : Int) : St := mkSt [(0, encL_Int true x), (1, encL_Int true y), (5, intV k)] []
def stSameC (x y : D.Chan) (k : Int) : St := mkSt [(2, .bp 0 0), (3, .bp 1 0), (5, intV k)] [.box (enc_Chan x), .box (enc_Chan y)]
def stSame1 (x y : D.State) (k : Int) : St := mkSt [(2, .bp 0 0), (3, .bp 1 0), (6, intV k)] [.box (enc_State x), .box (enc_State y)]
def stSame2 (x y : D.State) (k : Int) : St := mkSt [(2, .bp 0 0), (3, .bp 1 0), (7, intV k)] [.box (enc_State x), .box (enc_State y)]
def boxZ : Ob := .box [.nl, .nl, .nl, intV 0, intV 0, intV 0]
def stDec1 (m : D.Model) (r : Rdr) (g : List Int) (cs : List D.Chan) (many k : Int) : St := mkSt [(2, .bp 0 0), (4, .bp 1 0), (8, .bp 2 0), (9, .bp 3 0), (34, intV many), (35, intV k)]
  [.box (enc_Model m), boxZ, obR r, .box [encL_Int true g, .ow 4 0 cs.length, .nl, intV 0, intV 0, intV 0], .arr true 0 cs.length 2 (rowsCh cs)]
def stDec2 (m : D.Model) (r : Rdr) (g : List Int) (cs : List D.Chan) (many k : Int) (sh : Int) (q : List (List Int)) (n j : Int) : St := mkSt [(2, .bp 0 0), (4, .bp 1 0), (8, .bp 2 0), (9, .bp 3 0), (10, .bp 5 0), (34, intV many), (35, intV k), (45, intV n), (46, intV j)]
  [.box (enc_Model m), boxZ, obR r, .box [encL_Int true g, .ow 4 0 cs.length, .nl, intV 0, intV 0, intV 0], .arr true 0 cs.length 2 (rowsCh cs), .box [intV sh, .ow 6 0 q.length], .arr true 0 q.length 1 (rowsQu q)]
def stDec3 (m : D.Model) (r : Rdr) (g : List Int) (cs : List D.Chan) (ps : List D.Process) (many k : Int) : St := mkSt [(2, .bp 0 0), (4, .bp 1 0), (8, .bp 2 0), (9, .bp 3 0), (77, intV many), (78, intV k)]
  [.box (enc_Model m), boxZ, obR r, .box [encL_Int true g, .ow 4 0 cs.length, .ow 5 0 ps.length, intV 0, intV 0, intV 0], .arr true 0 cs.length 2 (rowsCh cs), .arr true 0 ps.length 4 (rowsPr ps)]
end Go.Proofs.YtdjjlkekbphbaaaDoor
