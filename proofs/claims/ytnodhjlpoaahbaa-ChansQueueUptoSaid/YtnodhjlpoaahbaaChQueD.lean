/-
  ChansQueue on trees: shapes, places, states.
-/
import Derived.Test.YtnodhjlpoaahbaaVjChans
namespace Go.Proofs.Ytnodhjlpoaahbaa
open Go.RowKit
def shpB : Shp := { α := Bool, enc := fun b => ([], .sc (.bool b)) }
def shpPut : Shp := { α := Int × List (List Int) × Int, enc := fun y => ([], .tup [encChan y.1 y.2.1, .sc (.int .i64 y.2.2)]) }
def shpTake : Shp := { α := Int × List (List Int) × List Int × Int, enc := fun y => ([], .tup [encChan y.1 y.2.1, encM true y.2.2.1, .sc (.int .i64 y.2.2.2)]) }
def shQue (f : FuncId) : Shp := bif Nat.beq f 22 then shpPut else bif Nat.beq f 28 then shpTake else shpB
def annQue : Ann := { keep := fun
  | [0, 1, 0, 1, 1, 1, 1] => [1, 2, 5, 6, 7, 8]
  | _ => [5, 6, 7, 11] }
def rowsQ (q : List (List Int)) : Nat → List VV := fun i => [encM true (q.getD i [])]
def stQue1 (room : Int) (fs : List D.Type) (l : List (List Int)) (y : Bool) (sh : Int) (q : List (List Int)) (i : Int) : St :=
  mkSt [(1, encQ l), (2, .bp 0 0), (5, .sc (.bool y)), (6, .bp 1 0), (7, .ow 2 0 q.length), (8, .sc (.int .i64 i))] [.box [.sc (.int .i64 room), encTs fs], .box [.sc (.int .i64 sh), encQ q], .arr true 0 q.length 1 (rowsQ q)]
def stQue2 (y : Bool) (sh : Int) (r q : List (List Int)) (i : Int) : St :=
  mkSt [(5, .sc (.bool y)), (6, .bp 0 0), (7, .ow 1 0 q.length), (11, .sc (.int .i64 i))] [.box [.sc (.int .i64 sh), encQ r], .arr true 0 q.length 1 (rowsQ q)]
end Go.Proofs.Ytnodhjlpoaahbaa
