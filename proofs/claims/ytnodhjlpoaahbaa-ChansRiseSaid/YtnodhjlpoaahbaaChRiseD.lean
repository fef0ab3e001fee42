/-
  ChansRise on trees: shapes, places, states.
-/
import Derived.Test.YtnodhjlpoaahbaaViChans
import Derived.Test.YtnodhjlpoaahbaaChRisePlain
namespace Go.Proofs.Ytnodhjlpoaahbaa
open Go.RowKit
def shpB : Shp := ⟨Bool, fun b => .sc (.bool b)⟩
def shpPut : Shp := ⟨Int × List (List Int) × Int, fun y => .tup [encChan y.1 y.2.1, .sc (.int .i64 y.2.2)]⟩
def shRise (f : FuncId) : Shp := bif Nat.beq f 22 then shpPut else shpB
def annRise : Ann
  | [0, 1, 0, 1, 1, 1, 1] => [1, 2, 5, 6, 7, 8]
  | [0, 1, 0, 1, 1, 1, 1, 1] => [2, 5, 6, 7, 11]
  | _ => [5, 6, 7, 14]
def stRise (room : Int) (fs : List D.Type) (sa sb : Int) (qa qb : List (List Int)) (_y : Bool) (l : List (Nat × VV)) : St :=
  mkSt l [[.sc (.int .i64 room), encTs fs], [.sc (.int .i64 sa), encQ qa], [.sc (.int .i64 sb), encQ qb]] 3
end Go.Proofs.Ytnodhjlpoaahbaa
