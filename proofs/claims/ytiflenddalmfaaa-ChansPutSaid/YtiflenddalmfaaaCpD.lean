/-
  ChansPut on trees: shapes, places, states.
-/
import Derived.Test.YtiflenddalmfaaaVjChans
namespace Go.Proofs.Ytiflenddalmfaaa
open Go.RowKit
def intV (n : Int) : VV := .sc (.int .i64 n)
def boolV (b : Bool) : VV := .sc (.bool b)
def shpB : Shp := { α := Bool, enc := fun b => ([], boolV b) }
def shpI : Shp := { α := Int, enc := fun b => ([], intV b) }
def rowsQ (q : List (List Int)) : Nat → List VV := fun i => [encM true (q.getD i [])]
def rowsM (m : List Int) : Nat → List VV := fun i => [intV (m.getD i 0)]
def noRows : Nat → List VV := fun _ => []
def encSt (fz : Bool) (sh : Int) (q : List (List Int)) : VV := .agg [.sl true 0 1 noRows, .sl fz 1 2 fun _ => [intV sh, encQ q], .sl true 0 1 noRows, intV 0, intV 0, intV 0]
def shpSt : Shp := { α := Int × List (List Int), enc := fun y => ([], encSt true y.1 y.2) }
def shCp (f : FuncId) : Shp := bif Nat.beq f 14 then shpSt else bif Nat.beq f 22 then shpI else shpB
def annPut : Ann := { keep := fun p => bif p.length.blt 9 then [2, 3, 4, 5, 8, 10, 11] else [3, 5, 8, 10, 13, 14, 15] }
def annCopy : Ann := { keep := fun
  | [0, 1, 0, 1, 1, 1] => [1, 2, 3, 4]
  | [0, 1, 0, 1, 1, 1, 1] => [1, 2, 3, 8]
  | _ => [1, 2, 3, 4, 5, 6] }
def annNo : Ann := { keep := fun _ => [] }
def stP1 (room sh : Int) (fs : List D.Type) (q : List (List Int)) (m : List Int) (sorted : Bool) (x : List Int) (i : Int) : St :=
  mkSt [(2, encM true m), (3, boolV sorted), (4, .bp 0 0), (5, .bp 1 0), (8, .bp 2 0), (10, .ow 3 0 x.length), (11, intV i)] [.box [intV room, encTs fs], .box [intV sh, encQ q], .box [intV 0, .nl], .arr true 0 x.length 1 (rowsM x)]
def stP2a (sh : Int) (q : List (List Int)) (sorted : Bool) (x : List Int) : St :=
  mkSt [(3, boolV sorted), (5, .bp 0 0), (8, .bp 1 0), (10, encM true x), (13, .bp 3 0), (14, boolV false), (15, intV 0)] [.box [intV sh, encQ q], .box [intV 0, .nl], .gone 1, .box [intV sh, .ow 4 0 0], .arr true 0 0 1 (rowsQ [])]
def stP2 (sh : Int) (q : List (List Int)) (sorted : Bool) (x : List Int) (o : List (List Int)) (done : Bool) (i : Int) : St :=
  mkSt [(3, boolV sorted), (5, .bp 0 0), (8, .bp 1 0), (10, encM true x), (13, .bp 2 0), (14, boolV done), (15, intV i)] [.box [intV sh, encQ q], .box [intV 0, .nl], .box [intV sh, .ow 3 0 o.length], .arr true 0 o.length 1 (rowsQ o)]
def boxS (sh : Int) (q : List (List Int)) : Ob := .box [.nl, .sl false 1 2 fun _ => [intV sh, encQ q], .nl, intV 0, intV 0, intV 0]
def boxZ : Ob := .box [.nl, .nl, .nl, intV 0, intV 0, intV 0]
def rowsC (sh : Int) (q : List (List Int)) : Nat → List VV := fun _ => [intV sh, encQ q]
def stC1 (sh : Int) (q : List (List Int)) (n : Nat) (i : Int) : St :=
  mkSt [(1, .bp 0 0), (2, .bp 1 0), (3, .bp 2 0), (4, intV i)] [boxS sh q, boxZ, .box [.ow 3 0 0, .ow 4 0 n, .nl, intV 0, intV 0, intV 0], .arr true 0 0 1 noRows, .arr true 0 n 2 (rowsC sh q)]
def stC3 (sh : Int) (q : List (List Int)) : St :=
  mkSt [(1, .bp 0 0), (2, .bp 1 0), (3, .bp 2 0), (8, intV 0)] [boxS sh q, boxZ, .box [.ow 3 0 0, .ow 4 0 1, .nl, intV 0, intV 0, intV 0], .arr true 0 0 1 noRows, .arr true 0 1 2 (rowsC sh q)]
def stC2 (sh : Int) (q o : List (List Int)) (k : Int) : St :=
  mkSt [(1, .bp 0 0), (2, .bp 1 0), (3, .bp 2 0), (4, intV 0), (5, .bp 5 0), (6, intV k)] [boxS sh q, boxZ, .box [.ow 3 0 0, .ow 4 0 0, .nl, intV 0, intV 0, intV 0], .arr true 0 0 1 noRows, .arr true 0 0 2 (rowsC sh q), .box [intV sh, .ow 6 0 o.length], .arr true 0 o.length 1 (rowsQ o)]
end Go.Proofs.Ytiflenddalmfaaa
