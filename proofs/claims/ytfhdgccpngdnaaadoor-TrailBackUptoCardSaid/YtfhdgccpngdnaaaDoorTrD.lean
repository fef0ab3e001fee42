/-
  What searches come to, as text: the data as trees; shapes, places, states.
-/
import Derived.Test.YtfhdgccpngdnaaaDoorTrLib
import Derived.Test.YtfhdgccpngdnaaaDoorDataTrail
namespace Go.Proofs.YtfhdgccpngdnaaaDoor
open Go.RowKit
instance : Inhabited D.Move := ⟨⟨0, 0, 0, 0, 0, 0, 0⟩⟩
def boolV (b : Bool) : VV := .sc (.bool b)
def encI (fz : Bool) (l : List Int) : VV := .sl fz l.length 1 fun i => [intV (l.getD i 0)]
def encMv (v : D.Move) : List VV := [intV v.Pid, intV v.Esc, intV v.Way, intV v.With, intV v.WithEsc, intV v.WithWay, intV v.Claim]
def encTr (l : List D.Move) : VV := .sl true l.length 7 fun i => encMv (l.getD i default)
def encFd (f : D.Found) : List VV := [intV f.Kind, intV f.What, intV f.Err, intV f.At, encTr f.Trail, intV f.Cycle, intV f.States, intV f.Steps]
def shpS : Shp := { α := ByteArray, enc := fun b => ([], strV b) }
def shpB : Shp := { α := Bool, enc := fun b => ([], boolV b) }
def shpI : Shp := { α := Int, enc := fun b => ([], intV b) }
def shpP : Shp := { α := Int × Bool, enc := fun b => ([], .tup [intV b.1, .er b.2]) }
def shpL : Shp := { α := List ByteArray, enc := fun l => ([], .sl true l.length 1 (rowsS l)) }
def shpN : Shp := { α := List Int × Bool, enc := fun b => ([], .tup [encI true b.1, boolV b.2]) }
def shpV : Shp := { α := Int × Bool, enc := fun b => ([], .tup [intV b.1, boolV b.2]) }
def shpT : Shp := { α := ByteArray × Int, enc := fun b => ([], .tup [strV b.1, intV b.2]) }
def shpF : Shp := { α := D.Found × Int × Int, enc := fun b => ([], .tup [.agg (encFd b.1), intV b.2.1, intV b.2.2]) }
def shTr (f : FuncId) : Shp :=
  bif Nat.beq f 24 then shpP else bif Nat.beq f 23 then shpL else bif Nat.beq f 15 then shpI
  else bif Nat.beq f 16 || Nat.beq f 17 then shpN else bif Nat.beq f 26 then shpV
  else bif Nat.beq f 6 || Nat.beq f 7 then shpT else bif Nat.beq f 8 || Nat.beq f 9 then shpF
  else bif Nat.beq f 18 || Nat.beq f 10 || Nat.beq f 5 then shpB else shpS
def nlB : ByteArray := ⟨#[10]⟩
/-- A word, and numbers behind it. -/
def lineW (word : ByteArray) (l : List Int) : ByteArray := l.foldl (fun w n => w ++ (spB ++ itoaB n)) word
def lineB (word : ByteArray) (l : List Int) : ByteArray := lineW word l ++ nlB
def annLine : Ann := { keep := fun _ => [0, 7, 8, 9] }
def stLine (w : ByteArray) (l : List Int) (k : Int) : St := mkSt [(0, strV w), (7, encI false l), (8, intV l.length), (9, intV k)] []
def annLine23 : Ann := { keep := fun _ => [0, 1, 5] }
def stLine23 (w : ByteArray) (l : List Int) (k : Int) : St := mkSt [(0, strV w), (1, encI false l), (5, intV k)] []
def annDec : Ann := { keep := fun _ => [0, 3, 4] }
def stDec (m : Int) (s : ByteArray) (b : Bool) : St := mkSt [(0, intV m), (3, strV s), (4, boolV b)] []
def annNums : Ann := { keep := fun _ => [9, 29, 30, 31] }
def rowsI (l : List Int) : Nat → List VV := fun i => [intV (l.getD i 0)]
def stNums (out : List Int) (l : List ByteArray) (k : Int) : St := mkSt [(9, .ow 0 0 out.length), (29, .sl true l.length 1 (rowsS l)), (30, intV l.length), (31, intV k)] [.arr true 0 out.length 1 (rowsI out)]
def annNum : Ann := { keep := fun _ => [0, 4, 5, 6] }
def stNum (t : ByteArray) (n k i : Int) : St := mkSt [(0, strV t), (4, intV n), (5, intV k), (6, intV i)] []
def annN23 : Ann := { keep := fun
  | [0, 1, 0, 1, 1, 1] => [0, 1, 2, 8, 9, 10]
  | _ => [8, 11, 12] }
def stN23a (t word : ByteArray) (many : Int) (l : List ByteArray) (fr i : Int) : St := mkSt [(0, strV t), (1, strV word), (2, intV many), (8, .ow 0 0 l.length), (9, intV fr), (10, intV i)] [.arr true 0 l.length 1 (rowsS l)]
def stN23b (l : List ByteArray) (out : List Int) (i : Int) : St := mkSt [(8, .ow 0 0 l.length), (11, .ow 1 0 out.length), (12, intV i)] [.arr true 0 l.length 1 (rowsS l), .arr true 0 out.length 1 (rowsI out)]
def annSm : Ann := { keep := fun _ => [0, 1, 5] }
def stSm (x y : List D.Move) (i : Int) : St := mkSt [(0, encTr x), (1, encTr y), (5, intV i)] []
def annPr23 : Ann := { keep := fun _ => [1, 4, 5] }
def stPr23 (f : D.Found) (s : ByteArray) (i : Int) : St := mkSt [(1, .bp 0 0), (4, strV s), (5, intV i)] [.box (encFd f)]
def annPa : Ann := { keep := fun _ => [0, 2, 5, 6, 7, 8] }
def rowsMv (l : List D.Move) : Nat → List VV := fun i => encMv (l.getD i default)
def boxPa (f : D.Found) : Ob := .box [intV f.Kind, intV f.What, intV f.Err, intV f.At, .ow 2 0 f.Trail.length, intV f.Cycle, intV f.States, intV f.Steps]
def zeroFd : D.Found := ⟨0, 0, 0, 0, [], 0, 0, 0⟩
def encFdN (f : D.Found) : List VV := [intV f.Kind, intV f.What, intV f.Err, intV f.At, .nl, intV f.Cycle, intV f.States, intV f.Steps]
def stPa (s : ByteArray) (f : D.Found) (at' : Int) (first due : Bool) : St := mkSt [(0, strV s), (2, .bp 0 0), (5, .bp 1 0), (6, intV at'), (7, boolV first), (8, boolV due)] [.box (encFdN zeroFd), boxPa f, .arr true 0 f.Trail.length 7 (rowsMv f.Trail)]
def annPa23 : Ann := { keep := fun _ => [0, 2, 5, 6, 7, 8, 9] }
def stPa23 (s : ByteArray) (f : D.Found) (lines : Int) (due : Bool) (fr i : Int) : St := mkSt [(0, strV s), (2, .bp 0 0), (5, .bp 1 0), (6, intV lines), (7, boolV due), (8, intV fr), (9, intV i)] [.box (encFdN zeroFd), boxPa f, .arr true 0 f.Trail.length 7 (rowsMv f.Trail)]
end Go.Proofs.YtfhdgccpngdnaaaDoor
