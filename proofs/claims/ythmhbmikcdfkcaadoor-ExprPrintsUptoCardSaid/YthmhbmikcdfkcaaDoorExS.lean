/-
  Layer 14 on trees: what each function hands back.
-/
import Derived.Test.YthmhbmikcdfkcaaDoorGpE
import Derived.Test.YthmhbmikcdfkcaaDoorStClone
namespace Go.Proofs.YthmhbmikcdfkcaaDoor
open Go.RowKit
def shpS : Shp := { α := ByteArray, enc := fun b => ([], strV b) }
def shEx (f : FuncId) : Shp :=
  bif Nat.beq f 24 || Nat.beq f 69 || Nat.beq f 54 || Nat.beq f 28 then shpI
  else bif Nat.beq f 8 || Nat.beq f 12 || Nat.beq f 39 || Nat.beq f 43 || Nat.beq f 29 || Nat.beq f 37 || Nat.beq f 38 || Nat.beq f 41 || Nat.beq f 36 || Nat.beq f 53 || Nat.beq f 42 || Nat.beq f 25 || Nat.beq f 56 || Nat.beq f 57 then shpII
  else bif Nat.beq f 9 || Nat.beq f 26 then shpIII
  else bif Nat.beq f 44 || Nat.beq f 45 then shpL else shCk f
end Go.Proofs.YthmhbmikcdfkcaaDoor
