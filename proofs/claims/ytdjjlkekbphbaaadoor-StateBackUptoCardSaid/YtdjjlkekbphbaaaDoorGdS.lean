/-
  Layer 11 on trees: what each function hands back.
-/
import Derived.Test.YtdjjlkekbphbaaaDoorGdQ
import Derived.Test.YtdjjlkekbphbaaaDoorVjIdx
import Derived.Test.YtdjjlkekbphbaaaDoorVjTab
namespace Go.Proofs.YtdjjlkekbphbaaaDoor
open Go.RowKit
def shpI : Shp := { α := Int, enc := fun b => ([], intV b) }
def shpB : Shp := { α := Bool, enc := fun b => ([], boolV b) }
def shpL : Shp := { α := List Int, enc := fun l => ([], encL_Int true l) }
def shpW : Shp := { α := List (List D.Trans), enc := fun l => ([], encL_Transs true l) }
def shpII : Shp := { α := Int × Int, enc := fun y => ([], .tup [intV y.1, intV y.2]) }
def shpIII : Shp := { α := Int × Int × Int, enc := fun y => ([], .tup [intV y.1, intV y.2.1, intV y.2.2]) }
def shGd (f : FuncId) : Shp :=
  bif Nat.beq f 90 || Nat.beq f 96 || Nat.beq f 118 || Nat.beq f 125 then shpI
  else bif Nat.beq f 99 then shpL else bif Nat.beq f 100 then shpW else bif Nat.beq f 77 then shpII else bif Nat.beq f 57 then shpIII else shpB
/-- The checker: a pointer to a model. -/
def tpM (m : D.Model) : VV := .tp (enc_Model m)
def annNo : Ann := { keep := fun _ => [] }
end Go.Proofs.YtdjjlkekbphbaaaDoor
