/-
  Layer 12 on trees: what each function hands back.
-/
import Derived.Test.YtdjjlkekbphbaaaDoorGdW6
namespace Go.Proofs.YtdjjlkekbphbaaaDoor
open Go.RowKit
/-- A state, whose lists may be another's. -/
def encSt (fz : Bool) (x : D.State) : List VV := [encL_Int true x.Globals, encL_Chan fz x.Chans, encL_Process fz x.Procs, intV x.Last, intV x.Alone, intV x.Claim]
def shpS : Shp := { α := ByteArray, enc := fun b => ([], strV b) }
def shpSI : Shp := { α := ByteArray × Int, enc := fun y => ([], .tup [strV y.1, intV y.2]) }
def shpLB : Shp := { α := List Int × Bool, enc := fun y => ([], .tup [encL_Int true y.1, boolV y.2]) }
def shpStI : Shp := { α := D.State × Int, enc := fun y => ([], .tup [.agg (enc_State y.1), intV y.2]) }
def shpM : Shp := { α := D.Model, enc := fun y => ([], .agg (enc_Model y)) }
def shpPE : Shp := { α := Int × Bool, enc := fun y => ([], .tup [intV y.1, .er y.2]) }
def shpPr : Shp := { α := D.Process, enc := fun y => ([], .agg (enc_Process y)) }
/-- A reader: its numbers, whether there were too few. -/
def obR (y : List Int × Bool) : Ob := .box [encL_Int true y.1, boolV y.2]
def shpRL : Shp := { α := (List Int × Bool) × List Int, enc := fun y => ([obR y.1], encL_Int true y.2), lend := true }
def shpRI : Shp := { α := (List Int × Bool) × Int, enc := fun y => ([obR y.1], intV y.2), lend := true }
def shSt (f : FuncId) : Shp :=
  bif Nat.beq f 19 || Nat.beq f 34 then shpI
  else bif Nat.beq f 20 || Nat.beq f 42 then shpS else bif Nat.beq f 7 then shpSI
  else bif Nat.beq f 22 then shpLB else bif Nat.beq f 8 || Nat.beq f 16 then shpStI
  else bif Nat.beq f 46 then shpL else bif Nat.beq f 17 then shpM else bif Nat.beq f 58 then shpPE
  else bif Nat.beq f 23 then shpRL else bif Nat.beq f 24 then shpRI else bif Nat.beq f 47 then shpPr else shGd f
def annR : Ann := { keep := fun _ => [], base := 1 }
end Go.Proofs.YtdjjlkekbphbaaaDoor
