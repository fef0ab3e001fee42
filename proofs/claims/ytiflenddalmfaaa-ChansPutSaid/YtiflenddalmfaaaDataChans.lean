/-
  The plain data of the program's types, their bundles and how an argument of each is opened. Written by genpkg.py off the translation's types.
-/
import Derived.Test.YtiflenddalmfaaaIs
namespace Go.Proofs.Ytiflenddalmfaaa
open Go.RowKit
/-- api.Type -/
@[ext] structure D.Type where
  Bits : Int
  Signed : Bool
deriving DecidableEq
def p_Type : Pkg D.Type := Pkg.via (fun x : D.Type => (x.Bits, x.Signed, ())) (Pkg.cons 1 (Pkg.int .i64) (Pkg.cons 1 Pkg.bool Pkg.unit))
theorem stays_Type : Pkg.Stays p_Type := Pkg.stays_via (Pkg.stays_cons (Pkg.stays_int .i64) (Pkg.stays_cons Pkg.stays_bool Pkg.stays_unit))
set_option maxRecDepth 100000 in
theorem opens_Type {H : Type} {enc : TypeId × Value → H} {w : World} : Pkg.Opens enc Try.prog w 42 p_Type := by
  refine Pkg.opens_struct (N := 2) (g := fun (y : Int × Bool × Unit) => (⟨y.1, y.2.1⟩ : D.Type)) Try.underlying42 rfl (by kernel_rfl) (fun _ => rfl) ?_
  refine Pkg.opensF_cons rfl (by kernel_rfl) (by decide) (Pkg.opens_int Try.underlying3) ?_
  refine Pkg.opensF_cons rfl (by kernel_rfl) (by decide) (Pkg.opens_bool Try.underlying4) ?_
  exact Pkg.opensF_nil
/-- api.Shape -/
@[ext] structure D.Shape where
  Room : Int
  Fields : (List D.Type)
deriving DecidableEq
def p_Shape : Pkg D.Shape := Pkg.via (fun x : D.Shape => (x.Room, x.Fields, ())) (Pkg.cons 1 (Pkg.int .i64) (Pkg.cons 1 (Pkg.slice 2 16 p_Type) Pkg.unit))
theorem stays_Shape : Pkg.Stays p_Shape := Pkg.stays_via (Pkg.stays_cons (Pkg.stays_int .i64) (Pkg.stays_cons (Pkg.stays_slice stays_Type) Pkg.stays_unit))
set_option maxRecDepth 100000 in
theorem opens_Shape {H : Type} {enc : TypeId × Value → H} {w : World} : Pkg.Opens enc Try.prog w 24 p_Shape := by
  refine Pkg.opens_struct (N := 2) (g := fun (y : Int × (List D.Type) × Unit) => (⟨y.1, y.2.1⟩ : D.Shape)) Try.underlying24 rfl (by kernel_rfl) (fun _ => rfl) ?_
  refine Pkg.opensF_cons rfl (by kernel_rfl) (by decide) (Pkg.opens_int Try.underlying3) ?_
  refine Pkg.opensF_cons rfl (by kernel_rfl) (by decide) (Pkg.opens_slice (size := 2) (bytes := 16) Try.underlying22 (by kernel_rfl) (by kernel_rfl) (by decide) opens_Type) ?_
  exact Pkg.opensF_nil
/-- api.Chan -/
@[ext] structure D.Chan where
  Shape : Int
  Queue : (List (List Int))
deriving DecidableEq
def p_Chan : Pkg D.Chan := Pkg.via (fun x : D.Chan => (x.Shape, x.Queue, ())) (Pkg.cons 1 (Pkg.int .i64) (Pkg.cons 1 (Pkg.slice 1 24 (Pkg.slice 1 8 (Pkg.int .i64))) Pkg.unit))
theorem stays_Chan : Pkg.Stays p_Chan := Pkg.stays_via (Pkg.stays_cons (Pkg.stays_int .i64) (Pkg.stays_cons (Pkg.stays_slice (Pkg.stays_slice (Pkg.stays_int .i64))) Pkg.stays_unit))
set_option maxRecDepth 100000 in
theorem opens_Chan {H : Type} {enc : TypeId × Value → H} {w : World} : Pkg.Opens enc Try.prog w 27 p_Chan := by
  refine Pkg.opens_struct (N := 2) (g := fun (y : Int × (List (List Int)) × Unit) => (⟨y.1, y.2.1⟩ : D.Chan)) Try.underlying27 rfl (by kernel_rfl) (fun _ => rfl) ?_
  refine Pkg.opensF_cons rfl (by kernel_rfl) (by decide) (Pkg.opens_int Try.underlying3) ?_
  refine Pkg.opensF_cons rfl (by kernel_rfl) (by decide) (Pkg.opens_slice (size := 1) (bytes := 24) Try.underlying25 (by kernel_rfl) (by kernel_rfl) (by decide) (Pkg.opens_slice (size := 1) (bytes := 8) Try.underlying29 (by kernel_rfl) (by kernel_rfl) (by decide) (Pkg.opens_int Try.underlying2))) ?_
  exact Pkg.opensF_nil
/-- api.Process -/
@[ext] structure D.Process where
  Type_ : Int
  Loc : Int
  Prio : Int
  Frame : (List Int)
deriving DecidableEq
def p_Process : Pkg D.Process := Pkg.via (fun x : D.Process => (x.Type_, x.Loc, x.Prio, x.Frame, ())) (Pkg.cons 1 (Pkg.int .i64) (Pkg.cons 1 (Pkg.int .i64) (Pkg.cons 1 (Pkg.int .i64) (Pkg.cons 1 (Pkg.slice 1 8 (Pkg.int .i64)) Pkg.unit))))
theorem stays_Process : Pkg.Stays p_Process := Pkg.stays_via (Pkg.stays_cons (Pkg.stays_int .i64) (Pkg.stays_cons (Pkg.stays_int .i64) (Pkg.stays_cons (Pkg.stays_int .i64) (Pkg.stays_cons (Pkg.stays_slice (Pkg.stays_int .i64)) Pkg.stays_unit))))
set_option maxRecDepth 100000 in
theorem opens_Process {H : Type} {enc : TypeId × Value → H} {w : World} : Pkg.Opens enc Try.prog w 61 p_Process := by
  refine Pkg.opens_struct (N := 4) (g := fun (y : Int × Int × Int × (List Int) × Unit) => (⟨y.1, y.2.1, y.2.2.1, y.2.2.2.1⟩ : D.Process)) Try.underlying61 rfl (by kernel_rfl) (fun _ => rfl) ?_
  refine Pkg.opensF_cons rfl (by kernel_rfl) (by decide) (Pkg.opens_int Try.underlying3) ?_
  refine Pkg.opensF_cons rfl (by kernel_rfl) (by decide) (Pkg.opens_int Try.underlying3) ?_
  refine Pkg.opensF_cons rfl (by kernel_rfl) (by decide) (Pkg.opens_int Try.underlying3) ?_
  refine Pkg.opensF_cons rfl (by kernel_rfl) (by decide) (Pkg.opens_slice (size := 1) (bytes := 8) Try.underlying28 (by kernel_rfl) (by kernel_rfl) (by decide) (Pkg.opens_int Try.underlying2)) ?_
  exact Pkg.opensF_nil
/-- api.State -/
@[ext] structure D.State where
  Globals : (List Int)
  Chans : (List D.Chan)
  Procs : (List D.Process)
  Last : Int
  Alone : Int
  Claim : Int
deriving DecidableEq
def p_State : Pkg D.State := Pkg.via (fun x : D.State => (x.Globals, x.Chans, x.Procs, x.Last, x.Alone, x.Claim, ())) (Pkg.cons 1 (Pkg.slice 1 8 (Pkg.int .i64)) (Pkg.cons 1 (Pkg.slice 2 32 p_Chan) (Pkg.cons 1 (Pkg.slice 4 48 p_Process) (Pkg.cons 1 (Pkg.int .i64) (Pkg.cons 1 (Pkg.int .i64) (Pkg.cons 1 (Pkg.int .i64) Pkg.unit))))))
theorem stays_State : Pkg.Stays p_State := Pkg.stays_via (Pkg.stays_cons (Pkg.stays_slice (Pkg.stays_int .i64)) (Pkg.stays_cons (Pkg.stays_slice stays_Chan) (Pkg.stays_cons (Pkg.stays_slice stays_Process) (Pkg.stays_cons (Pkg.stays_int .i64) (Pkg.stays_cons (Pkg.stays_int .i64) (Pkg.stays_cons (Pkg.stays_int .i64) Pkg.stays_unit))))))
set_option maxRecDepth 100000 in
theorem opens_State {H : Type} {enc : TypeId × Value → H} {w : World} : Pkg.Opens enc Try.prog w 50 p_State := by
  refine Pkg.opens_struct (N := 6) (g := fun (y : (List Int) × (List D.Chan) × (List D.Process) × Int × Int × Int × Unit) => (⟨y.1, y.2.1, y.2.2.1, y.2.2.2.1, y.2.2.2.2.1, y.2.2.2.2.2.1⟩ : D.State)) Try.underlying50 rfl (by kernel_rfl) (fun _ => rfl) ?_
  refine Pkg.opensF_cons rfl (by kernel_rfl) (by decide) (Pkg.opens_slice (size := 1) (bytes := 8) Try.underlying28 (by kernel_rfl) (by kernel_rfl) (by decide) (Pkg.opens_int Try.underlying2)) ?_
  refine Pkg.opensF_cons rfl (by kernel_rfl) (by decide) (Pkg.opens_slice (size := 2) (bytes := 32) Try.underlying47 (by kernel_rfl) (by kernel_rfl) (by decide) opens_Chan) ?_
  refine Pkg.opensF_cons rfl (by kernel_rfl) (by decide) (Pkg.opens_slice (size := 4) (bytes := 48) Try.underlying48 (by kernel_rfl) (by kernel_rfl) (by decide) opens_Process) ?_
  refine Pkg.opensF_cons rfl (by kernel_rfl) (by decide) (Pkg.opens_int Try.underlying3) ?_
  refine Pkg.opensF_cons rfl (by kernel_rfl) (by decide) (Pkg.opens_int Try.underlying3) ?_
  refine Pkg.opensF_cons rfl (by kernel_rfl) (by decide) (Pkg.opens_int Try.underlying3) ?_
  exact Pkg.opensF_nil
end Go.Proofs.Ytiflenddalmfaaa
