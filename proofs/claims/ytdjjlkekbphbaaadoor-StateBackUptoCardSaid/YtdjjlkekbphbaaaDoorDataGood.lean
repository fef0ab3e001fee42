/-
  The plain data of the program's types, their bundles and how an argument of each is opened. Written by genpkg.py off the translation's types.
-/
import Derived.Test.YtdjjlkekbphbaaaDoorIs
namespace Go.Proofs.YtdjjlkekbphbaaaDoor
open Go.RowKit
/-- api.Type -/
@[ext] structure D.Type where
  Bits : Int
  Signed : Bool
deriving DecidableEq
def p_Type : Pkg D.Type := Pkg.via (fun x : D.Type => (x.Bits, x.Signed, ())) (Pkg.cons 1 (Pkg.int .i64) (Pkg.cons 1 Pkg.bool Pkg.unit))
theorem stays_Type : Pkg.Stays p_Type := Pkg.stays_via (Pkg.stays_cons (Pkg.stays_int .i64) (Pkg.stays_cons Pkg.stays_bool Pkg.stays_unit))
set_option maxRecDepth 100000 in
theorem opens_Type {H : Type} {enc : TypeId × Value → H} {w : World} : Pkg.Opens enc Tryd.prog w 86 p_Type := by
  refine Pkg.opens_struct (N := 2) (g := fun (y : Int × Bool × Unit) => (⟨y.1, y.2.1⟩ : D.Type)) Tryd.underlying86 rfl (by kernel_rfl) (fun _ => rfl) ?_
  refine Pkg.opensF_cons rfl (by kernel_rfl) (by decide) (Pkg.opens_int Tryd.underlying3) ?_
  refine Pkg.opensF_cons rfl (by kernel_rfl) (by decide) (Pkg.opens_bool Tryd.underlying4) ?_
  exact Pkg.opensF_nil
/-- api.Shape -/
@[ext] structure D.Shape where
  Room : Int
  Fields : (List D.Type)
deriving DecidableEq
def p_Shape : Pkg D.Shape := Pkg.via (fun x : D.Shape => (x.Room, x.Fields, ())) (Pkg.cons 1 (Pkg.int .i64) (Pkg.cons 1 (Pkg.slice 2 16 p_Type) Pkg.unit))
theorem stays_Shape : Pkg.Stays p_Shape := Pkg.stays_via (Pkg.stays_cons (Pkg.stays_int .i64) (Pkg.stays_cons (Pkg.stays_slice stays_Type) Pkg.stays_unit))
set_option maxRecDepth 100000 in
theorem opens_Shape {H : Type} {enc : TypeId × Value → H} {w : World} : Pkg.Opens enc Tryd.prog w 78 p_Shape := by
  refine Pkg.opens_struct (N := 2) (g := fun (y : Int × (List D.Type) × Unit) => (⟨y.1, y.2.1⟩ : D.Shape)) Tryd.underlying78 rfl (by kernel_rfl) (fun _ => rfl) ?_
  refine Pkg.opensF_cons rfl (by kernel_rfl) (by decide) (Pkg.opens_int Tryd.underlying3) ?_
  refine Pkg.opensF_cons rfl (by kernel_rfl) (by decide) (Pkg.opens_slice (size := 2) (bytes := 16) Tryd.underlying22 (by kernel_rfl) (by kernel_rfl) (by decide) opens_Type) ?_
  exact Pkg.opensF_nil
/-- api.Stmt -/
@[ext] structure D.Stmt where
  Kind : Int
  A : Int
  B : Int
  N : Int
  Args : (List Int)
  Match : (List Int)
  Text : ByteArray
deriving DecidableEq
def p_Stmt : Pkg D.Stmt := Pkg.via (fun x : D.Stmt => (x.Kind, x.A, x.B, x.N, x.Args, x.Match, x.Text, ())) (Pkg.cons 1 (Pkg.int .i64) (Pkg.cons 1 (Pkg.int .i64) (Pkg.cons 1 (Pkg.int .i64) (Pkg.cons 1 (Pkg.int .i64) (Pkg.cons 1 (Pkg.slice 1 8 (Pkg.int .i64)) (Pkg.cons 1 (Pkg.slice 1 8 (Pkg.int .i64)) (Pkg.cons 1 Pkg.str Pkg.unit)))))))
theorem stays_Stmt : Pkg.Stays p_Stmt := Pkg.stays_via (Pkg.stays_cons (Pkg.stays_int .i64) (Pkg.stays_cons (Pkg.stays_int .i64) (Pkg.stays_cons (Pkg.stays_int .i64) (Pkg.stays_cons (Pkg.stays_int .i64) (Pkg.stays_cons (Pkg.stays_slice (Pkg.stays_int .i64)) (Pkg.stays_cons (Pkg.stays_slice (Pkg.stays_int .i64)) (Pkg.stays_cons Pkg.stays_str Pkg.stays_unit)))))))
set_option maxRecDepth 100000 in
theorem opens_Stmt {H : Type} {enc : TypeId × Value → H} {w : World} : Pkg.Opens enc Tryd.prog w 172 p_Stmt := by
  refine Pkg.opens_struct (N := 7) (g := fun (y : Int × Int × Int × Int × (List Int) × (List Int) × ByteArray × Unit) => (⟨y.1, y.2.1, y.2.2.1, y.2.2.2.1, y.2.2.2.2.1, y.2.2.2.2.2.1, y.2.2.2.2.2.2.1⟩ : D.Stmt)) Tryd.underlying172 rfl (by kernel_rfl) (fun _ => rfl) ?_
  refine Pkg.opensF_cons rfl (by kernel_rfl) (by decide) (Pkg.opens_int Tryd.underlying3) ?_
  refine Pkg.opensF_cons rfl (by kernel_rfl) (by decide) (Pkg.opens_int Tryd.underlying3) ?_
  refine Pkg.opensF_cons rfl (by kernel_rfl) (by decide) (Pkg.opens_int Tryd.underlying3) ?_
  refine Pkg.opensF_cons rfl (by kernel_rfl) (by decide) (Pkg.opens_int Tryd.underlying3) ?_
  refine Pkg.opensF_cons rfl (by kernel_rfl) (by decide) (Pkg.opens_slice (size := 1) (bytes := 8) Tryd.underlying25 (by kernel_rfl) (by kernel_rfl) (by decide) (Pkg.opens_int Tryd.underlying3)) ?_
  refine Pkg.opensF_cons rfl (by kernel_rfl) (by decide) (Pkg.opens_slice (size := 1) (bytes := 8) Tryd.underlying25 (by kernel_rfl) (by kernel_rfl) (by decide) (Pkg.opens_int Tryd.underlying3)) ?_
  refine Pkg.opensF_cons rfl (by kernel_rfl) (by decide) (Pkg.opens_str Tryd.underlying9) ?_
  exact Pkg.opensF_nil
/-- api.Trans -/
@[ext] structure D.Trans where
  S : D.Stmt
  To : Int
  Line : Int
deriving DecidableEq
def p_Trans : Pkg D.Trans := Pkg.via (fun x : D.Trans => (x.S, x.To, x.Line, ())) (Pkg.cons 7 p_Stmt (Pkg.cons 1 (Pkg.int .i64) (Pkg.cons 1 (Pkg.int .i64) Pkg.unit)))
theorem stays_Trans : Pkg.Stays p_Trans := Pkg.stays_via (Pkg.stays_cons stays_Stmt (Pkg.stays_cons (Pkg.stays_int .i64) (Pkg.stays_cons (Pkg.stays_int .i64) Pkg.stays_unit)))
set_option maxRecDepth 100000 in
theorem opens_Trans {H : Type} {enc : TypeId × Value → H} {w : World} : Pkg.Opens enc Tryd.prog w 174 p_Trans := by
  refine Pkg.opens_struct (N := 9) (g := fun (y : D.Stmt × Int × Int × Unit) => (⟨y.1, y.2.1, y.2.2.1⟩ : D.Trans)) Tryd.underlying174 rfl (by kernel_rfl) (fun _ => rfl) ?_
  refine Pkg.opensF_cons rfl (by kernel_rfl) (by decide) opens_Stmt ?_
  refine Pkg.opensF_cons rfl (by kernel_rfl) (by decide) (Pkg.opens_int Tryd.underlying3) ?_
  refine Pkg.opensF_cons rfl (by kernel_rfl) (by decide) (Pkg.opens_int Tryd.underlying3) ?_
  exact Pkg.opensF_nil
/-- api.Loc -/
@[ext] structure D.Loc where
  Out : (List D.Trans)
  Esc : (List (List D.Trans))
  Atomic : Bool
  Dstep : Bool
  End : Bool
  Accept : Bool
  Progress : Bool
deriving DecidableEq
def p_Loc : Pkg D.Loc := Pkg.via (fun x : D.Loc => (x.Out, x.Esc, x.Atomic, x.Dstep, x.End, x.Accept, x.Progress, ())) (Pkg.cons 1 (Pkg.slice 9 112 p_Trans) (Pkg.cons 1 (Pkg.slice 1 24 (Pkg.slice 9 112 p_Trans)) (Pkg.cons 1 Pkg.bool (Pkg.cons 1 Pkg.bool (Pkg.cons 1 Pkg.bool (Pkg.cons 1 Pkg.bool (Pkg.cons 1 Pkg.bool Pkg.unit)))))))
theorem stays_Loc : Pkg.Stays p_Loc := Pkg.stays_via (Pkg.stays_cons (Pkg.stays_slice stays_Trans) (Pkg.stays_cons (Pkg.stays_slice (Pkg.stays_slice stays_Trans)) (Pkg.stays_cons Pkg.stays_bool (Pkg.stays_cons Pkg.stays_bool (Pkg.stays_cons Pkg.stays_bool (Pkg.stays_cons Pkg.stays_bool (Pkg.stays_cons Pkg.stays_bool Pkg.stays_unit)))))))
set_option maxRecDepth 100000 in
theorem opens_Loc {H : Type} {enc : TypeId × Value → H} {w : World} : Pkg.Opens enc Tryd.prog w 90 p_Loc := by
  refine Pkg.opens_struct (N := 7) (g := fun (y : (List D.Trans) × (List (List D.Trans)) × Bool × Bool × Bool × Bool × Bool × Unit) => (⟨y.1, y.2.1, y.2.2.1, y.2.2.2.1, y.2.2.2.2.1, y.2.2.2.2.2.1, y.2.2.2.2.2.2.1⟩ : D.Loc)) Tryd.underlying90 rfl (by kernel_rfl) (fun _ => rfl) ?_
  refine Pkg.opensF_cons rfl (by kernel_rfl) (by decide) (Pkg.opens_slice (size := 9) (bytes := 112) Tryd.underlying87 (by kernel_rfl) (by kernel_rfl) (by decide) opens_Trans) ?_
  refine Pkg.opensF_cons rfl (by kernel_rfl) (by decide) (Pkg.opens_slice (size := 1) (bytes := 24) Tryd.underlying88 (by kernel_rfl) (by kernel_rfl) (by decide) (Pkg.opens_slice (size := 9) (bytes := 112) Tryd.underlying87 (by kernel_rfl) (by kernel_rfl) (by decide) opens_Trans)) ?_
  refine Pkg.opensF_cons rfl (by kernel_rfl) (by decide) (Pkg.opens_bool Tryd.underlying4) ?_
  refine Pkg.opensF_cons rfl (by kernel_rfl) (by decide) (Pkg.opens_bool Tryd.underlying4) ?_
  refine Pkg.opensF_cons rfl (by kernel_rfl) (by decide) (Pkg.opens_bool Tryd.underlying4) ?_
  refine Pkg.opensF_cons rfl (by kernel_rfl) (by decide) (Pkg.opens_bool Tryd.underlying4) ?_
  refine Pkg.opensF_cons rfl (by kernel_rfl) (by decide) (Pkg.opens_bool Tryd.underlying4) ?_
  exact Pkg.opensF_nil
/-- api.Proc -/
@[ext] structure D.Proc where
  Name : ByteArray
  Params : Int
  Frame : (List D.Type)
  Init : (List Int)
  Locs : (List D.Loc)
  Start : Int
  Final : Int
  Active : Int
  Prio : Int
  Provided : Int
deriving DecidableEq
def p_Proc : Pkg D.Proc := Pkg.via (fun x : D.Proc => (x.Name, x.Params, x.Frame, x.Init, x.Locs, x.Start, x.Final, x.Active, x.Prio, x.Provided, ())) (Pkg.cons 1 Pkg.str (Pkg.cons 1 (Pkg.int .i64) (Pkg.cons 1 (Pkg.slice 2 16 p_Type) (Pkg.cons 1 (Pkg.slice 1 8 (Pkg.int .i64)) (Pkg.cons 1 (Pkg.slice 7 56 p_Loc) (Pkg.cons 1 (Pkg.int .i64) (Pkg.cons 1 (Pkg.int .i64) (Pkg.cons 1 (Pkg.int .i64) (Pkg.cons 1 (Pkg.int .i64) (Pkg.cons 1 (Pkg.int .i64) Pkg.unit))))))))))
theorem stays_Proc : Pkg.Stays p_Proc := Pkg.stays_via (Pkg.stays_cons Pkg.stays_str (Pkg.stays_cons (Pkg.stays_int .i64) (Pkg.stays_cons (Pkg.stays_slice stays_Type) (Pkg.stays_cons (Pkg.stays_slice (Pkg.stays_int .i64)) (Pkg.stays_cons (Pkg.stays_slice stays_Loc) (Pkg.stays_cons (Pkg.stays_int .i64) (Pkg.stays_cons (Pkg.stays_int .i64) (Pkg.stays_cons (Pkg.stays_int .i64) (Pkg.stays_cons (Pkg.stays_int .i64) (Pkg.stays_cons (Pkg.stays_int .i64) Pkg.stays_unit))))))))))
set_option maxRecDepth 100000 in
theorem opens_Proc {H : Type} {enc : TypeId × Value → H} {w : World} : Pkg.Opens enc Tryd.prog w 81 p_Proc := by
  refine Pkg.opens_struct (N := 10) (g := fun (y : ByteArray × Int × (List D.Type) × (List Int) × (List D.Loc) × Int × Int × Int × Int × Int × Unit) => (⟨y.1, y.2.1, y.2.2.1, y.2.2.2.1, y.2.2.2.2.1, y.2.2.2.2.2.1, y.2.2.2.2.2.2.1, y.2.2.2.2.2.2.2.1, y.2.2.2.2.2.2.2.2.1, y.2.2.2.2.2.2.2.2.2.1⟩ : D.Proc)) Tryd.underlying81 rfl (by kernel_rfl) (fun _ => rfl) ?_
  refine Pkg.opensF_cons rfl (by kernel_rfl) (by decide) (Pkg.opens_str Tryd.underlying9) ?_
  refine Pkg.opensF_cons rfl (by kernel_rfl) (by decide) (Pkg.opens_int Tryd.underlying3) ?_
  refine Pkg.opensF_cons rfl (by kernel_rfl) (by decide) (Pkg.opens_slice (size := 2) (bytes := 16) Tryd.underlying22 (by kernel_rfl) (by kernel_rfl) (by decide) opens_Type) ?_
  refine Pkg.opensF_cons rfl (by kernel_rfl) (by decide) (Pkg.opens_slice (size := 1) (bytes := 8) Tryd.underlying23 (by kernel_rfl) (by kernel_rfl) (by decide) (Pkg.opens_int Tryd.underlying2)) ?_
  refine Pkg.opensF_cons rfl (by kernel_rfl) (by decide) (Pkg.opens_slice (size := 7) (bytes := 56) Tryd.underlying79 (by kernel_rfl) (by kernel_rfl) (by decide) opens_Loc) ?_
  refine Pkg.opensF_cons rfl (by kernel_rfl) (by decide) (Pkg.opens_int Tryd.underlying3) ?_
  refine Pkg.opensF_cons rfl (by kernel_rfl) (by decide) (Pkg.opens_int Tryd.underlying3) ?_
  refine Pkg.opensF_cons rfl (by kernel_rfl) (by decide) (Pkg.opens_int Tryd.underlying3) ?_
  refine Pkg.opensF_cons rfl (by kernel_rfl) (by decide) (Pkg.opens_int Tryd.underlying3) ?_
  refine Pkg.opensF_cons rfl (by kernel_rfl) (by decide) (Pkg.opens_int Tryd.underlying3) ?_
  exact Pkg.opensF_nil
/-- api.Dim -/
@[ext] structure D.Dim where
  I : Int
  Len : Int
  Stride : Int
deriving DecidableEq
def p_Dim : Pkg D.Dim := Pkg.via (fun x : D.Dim => (x.I, x.Len, x.Stride, ())) (Pkg.cons 1 (Pkg.int .i64) (Pkg.cons 1 (Pkg.int .i64) (Pkg.cons 1 (Pkg.int .i64) Pkg.unit)))
theorem stays_Dim : Pkg.Stays p_Dim := Pkg.stays_via (Pkg.stays_cons (Pkg.stays_int .i64) (Pkg.stays_cons (Pkg.stays_int .i64) (Pkg.stays_cons (Pkg.stays_int .i64) Pkg.stays_unit)))
set_option maxRecDepth 100000 in
theorem opens_Dim {H : Type} {enc : TypeId × Value → H} {w : World} : Pkg.Opens enc Tryd.prog w 93 p_Dim := by
  refine Pkg.opens_struct (N := 3) (g := fun (y : Int × Int × Int × Unit) => (⟨y.1, y.2.1, y.2.2.1⟩ : D.Dim)) Tryd.underlying93 rfl (by kernel_rfl) (fun _ => rfl) ?_
  refine Pkg.opensF_cons rfl (by kernel_rfl) (by decide) (Pkg.opens_int Tryd.underlying3) ?_
  refine Pkg.opensF_cons rfl (by kernel_rfl) (by decide) (Pkg.opens_int Tryd.underlying3) ?_
  refine Pkg.opensF_cons rfl (by kernel_rfl) (by decide) (Pkg.opens_int Tryd.underlying3) ?_
  exact Pkg.opensF_nil
/-- api.Var -/
@[ext] structure D.Var where
  Scope : Int
  Slot : Int
  Who : Int
  Type_ : Int
  Dims : (List D.Dim)
deriving DecidableEq
def p_Var : Pkg D.Var := Pkg.via (fun x : D.Var => (x.Scope, x.Slot, x.Who, x.Type_, x.Dims, ())) (Pkg.cons 1 (Pkg.int .i64) (Pkg.cons 1 (Pkg.int .i64) (Pkg.cons 1 (Pkg.int .i64) (Pkg.cons 1 (Pkg.int .i64) (Pkg.cons 1 (Pkg.slice 3 24 p_Dim) Pkg.unit)))))
theorem stays_Var : Pkg.Stays p_Var := Pkg.stays_via (Pkg.stays_cons (Pkg.stays_int .i64) (Pkg.stays_cons (Pkg.stays_int .i64) (Pkg.stays_cons (Pkg.stays_int .i64) (Pkg.stays_cons (Pkg.stays_int .i64) (Pkg.stays_cons (Pkg.stays_slice stays_Dim) Pkg.stays_unit)))))
set_option maxRecDepth 100000 in
theorem opens_Var {H : Type} {enc : TypeId × Value → H} {w : World} : Pkg.Opens enc Tryd.prog w 51 p_Var := by
  refine Pkg.opens_struct (N := 5) (g := fun (y : Int × Int × Int × Int × (List D.Dim) × Unit) => (⟨y.1, y.2.1, y.2.2.1, y.2.2.2.1, y.2.2.2.2.1⟩ : D.Var)) Tryd.underlying51 rfl (by kernel_rfl) (fun _ => rfl) ?_
  refine Pkg.opensF_cons rfl (by kernel_rfl) (by decide) (Pkg.opens_int Tryd.underlying3) ?_
  refine Pkg.opensF_cons rfl (by kernel_rfl) (by decide) (Pkg.opens_int Tryd.underlying3) ?_
  refine Pkg.opensF_cons rfl (by kernel_rfl) (by decide) (Pkg.opens_int Tryd.underlying3) ?_
  refine Pkg.opensF_cons rfl (by kernel_rfl) (by decide) (Pkg.opens_int Tryd.underlying3) ?_
  refine Pkg.opensF_cons rfl (by kernel_rfl) (by decide) (Pkg.opens_slice (size := 3) (bytes := 24) Tryd.underlying49 (by kernel_rfl) (by kernel_rfl) (by decide) opens_Dim) ?_
  exact Pkg.opensF_nil
/-- api.Expr -/
@[ext] structure D.Expr where
  Op : Int
  N : Int
  A : Int
  B : Int
  C : Int
  V : D.Var
  Args : (List Int)
  Match : (List Int)
deriving DecidableEq
def p_Expr : Pkg D.Expr := Pkg.via (fun x : D.Expr => (x.Op, x.N, x.A, x.B, x.C, x.V, x.Args, x.Match, ())) (Pkg.cons 1 (Pkg.int .i64) (Pkg.cons 1 (Pkg.int .i64) (Pkg.cons 1 (Pkg.int .i64) (Pkg.cons 1 (Pkg.int .i64) (Pkg.cons 1 (Pkg.int .i64) (Pkg.cons 5 p_Var (Pkg.cons 1 (Pkg.slice 1 8 (Pkg.int .i64)) (Pkg.cons 1 (Pkg.slice 1 8 (Pkg.int .i64)) Pkg.unit))))))))
theorem stays_Expr : Pkg.Stays p_Expr := Pkg.stays_via (Pkg.stays_cons (Pkg.stays_int .i64) (Pkg.stays_cons (Pkg.stays_int .i64) (Pkg.stays_cons (Pkg.stays_int .i64) (Pkg.stays_cons (Pkg.stays_int .i64) (Pkg.stays_cons (Pkg.stays_int .i64) (Pkg.stays_cons stays_Var (Pkg.stays_cons (Pkg.stays_slice (Pkg.stays_int .i64)) (Pkg.stays_cons (Pkg.stays_slice (Pkg.stays_int .i64)) Pkg.stays_unit))))))))
set_option maxRecDepth 100000 in
theorem opens_Expr {H : Type} {enc : TypeId × Value → H} {w : World} : Pkg.Opens enc Tryd.prog w 53 p_Expr := by
  refine Pkg.opens_struct (N := 12) (g := fun (y : Int × Int × Int × Int × Int × D.Var × (List Int) × (List Int) × Unit) => (⟨y.1, y.2.1, y.2.2.1, y.2.2.2.1, y.2.2.2.2.1, y.2.2.2.2.2.1, y.2.2.2.2.2.2.1, y.2.2.2.2.2.2.2.1⟩ : D.Expr)) Tryd.underlying53 rfl (by kernel_rfl) (fun _ => rfl) ?_
  refine Pkg.opensF_cons rfl (by kernel_rfl) (by decide) (Pkg.opens_int Tryd.underlying3) ?_
  refine Pkg.opensF_cons rfl (by kernel_rfl) (by decide) (Pkg.opens_int Tryd.underlying2) ?_
  refine Pkg.opensF_cons rfl (by kernel_rfl) (by decide) (Pkg.opens_int Tryd.underlying3) ?_
  refine Pkg.opensF_cons rfl (by kernel_rfl) (by decide) (Pkg.opens_int Tryd.underlying3) ?_
  refine Pkg.opensF_cons rfl (by kernel_rfl) (by decide) (Pkg.opens_int Tryd.underlying3) ?_
  refine Pkg.opensF_cons rfl (by kernel_rfl) (by decide) opens_Var ?_
  refine Pkg.opensF_cons rfl (by kernel_rfl) (by decide) (Pkg.opens_slice (size := 1) (bytes := 8) Tryd.underlying25 (by kernel_rfl) (by kernel_rfl) (by decide) (Pkg.opens_int Tryd.underlying3)) ?_
  refine Pkg.opensF_cons rfl (by kernel_rfl) (by decide) (Pkg.opens_slice (size := 1) (bytes := 8) Tryd.underlying25 (by kernel_rfl) (by kernel_rfl) (by decide) (Pkg.opens_int Tryd.underlying3)) ?_
  exact Pkg.opensF_nil
/-- api.Model -/
@[ext] structure D.Model where
  Globals : (List D.Type)
  Init : (List Int)
  Shapes : (List D.Shape)
  Chans : (List Int)
  Procs : (List D.Proc)
  Claim : Int
  Exprs : (List D.Expr)
deriving DecidableEq
def p_Model : Pkg D.Model := Pkg.via (fun x : D.Model => (x.Globals, x.Init, x.Shapes, x.Chans, x.Procs, x.Claim, x.Exprs, ())) (Pkg.cons 1 (Pkg.slice 2 16 p_Type) (Pkg.cons 1 (Pkg.slice 1 8 (Pkg.int .i64)) (Pkg.cons 1 (Pkg.slice 2 32 p_Shape) (Pkg.cons 1 (Pkg.slice 1 8 (Pkg.int .i64)) (Pkg.cons 1 (Pkg.slice 10 136 p_Proc) (Pkg.cons 1 (Pkg.int .i64) (Pkg.cons 1 (Pkg.slice 12 144 p_Expr) Pkg.unit)))))))
theorem stays_Model : Pkg.Stays p_Model := Pkg.stays_via (Pkg.stays_cons (Pkg.stays_slice stays_Type) (Pkg.stays_cons (Pkg.stays_slice (Pkg.stays_int .i64)) (Pkg.stays_cons (Pkg.stays_slice stays_Shape) (Pkg.stays_cons (Pkg.stays_slice (Pkg.stays_int .i64)) (Pkg.stays_cons (Pkg.stays_slice stays_Proc) (Pkg.stays_cons (Pkg.stays_int .i64) (Pkg.stays_cons (Pkg.stays_slice stays_Expr) Pkg.stays_unit)))))))
set_option maxRecDepth 100000 in
theorem opens_Model {H : Type} {enc : TypeId × Value → H} {w : World} : Pkg.Opens enc Tryd.prog w 29 p_Model := by
  refine Pkg.opens_struct (N := 7) (g := fun (y : (List D.Type) × (List Int) × (List D.Shape) × (List Int) × (List D.Proc) × Int × (List D.Expr) × Unit) => (⟨y.1, y.2.1, y.2.2.1, y.2.2.2.1, y.2.2.2.2.1, y.2.2.2.2.2.1, y.2.2.2.2.2.2.1⟩ : D.Model)) Tryd.underlying29 rfl (by kernel_rfl) (fun _ => rfl) ?_
  refine Pkg.opensF_cons rfl (by kernel_rfl) (by decide) (Pkg.opens_slice (size := 2) (bytes := 16) Tryd.underlying22 (by kernel_rfl) (by kernel_rfl) (by decide) opens_Type) ?_
  refine Pkg.opensF_cons rfl (by kernel_rfl) (by decide) (Pkg.opens_slice (size := 1) (bytes := 8) Tryd.underlying23 (by kernel_rfl) (by kernel_rfl) (by decide) (Pkg.opens_int Tryd.underlying2)) ?_
  refine Pkg.opensF_cons rfl (by kernel_rfl) (by decide) (Pkg.opens_slice (size := 2) (bytes := 32) Tryd.underlying24 (by kernel_rfl) (by kernel_rfl) (by decide) opens_Shape) ?_
  refine Pkg.opensF_cons rfl (by kernel_rfl) (by decide) (Pkg.opens_slice (size := 1) (bytes := 8) Tryd.underlying25 (by kernel_rfl) (by kernel_rfl) (by decide) (Pkg.opens_int Tryd.underlying3)) ?_
  refine Pkg.opensF_cons rfl (by kernel_rfl) (by decide) (Pkg.opens_slice (size := 10) (bytes := 136) Tryd.underlying26 (by kernel_rfl) (by kernel_rfl) (by decide) opens_Proc) ?_
  refine Pkg.opensF_cons rfl (by kernel_rfl) (by decide) (Pkg.opens_int Tryd.underlying3) ?_
  refine Pkg.opensF_cons rfl (by kernel_rfl) (by decide) (Pkg.opens_slice (size := 12) (bytes := 144) Tryd.underlying27 (by kernel_rfl) (by kernel_rfl) (by decide) opens_Expr) ?_
  exact Pkg.opensF_nil
/-- api.Chan -/
@[ext] structure D.Chan where
  Shape : Int
  Queue : (List (List Int))
deriving DecidableEq
def p_Chan : Pkg D.Chan := Pkg.via (fun x : D.Chan => (x.Shape, x.Queue, ())) (Pkg.cons 1 (Pkg.int .i64) (Pkg.cons 1 (Pkg.slice 1 24 (Pkg.slice 1 8 (Pkg.int .i64))) Pkg.unit))
theorem stays_Chan : Pkg.Stays p_Chan := Pkg.stays_via (Pkg.stays_cons (Pkg.stays_int .i64) (Pkg.stays_cons (Pkg.stays_slice (Pkg.stays_slice (Pkg.stays_int .i64))) Pkg.stays_unit))
set_option maxRecDepth 100000 in
theorem opens_Chan {H : Type} {enc : TypeId × Value → H} {w : World} : Pkg.Opens enc Tryd.prog w 76 p_Chan := by
  refine Pkg.opens_struct (N := 2) (g := fun (y : Int × (List (List Int)) × Unit) => (⟨y.1, y.2.1⟩ : D.Chan)) Tryd.underlying76 rfl (by kernel_rfl) (fun _ => rfl) ?_
  refine Pkg.opensF_cons rfl (by kernel_rfl) (by decide) (Pkg.opens_int Tryd.underlying3) ?_
  refine Pkg.opensF_cons rfl (by kernel_rfl) (by decide) (Pkg.opens_slice (size := 1) (bytes := 24) Tryd.underlying74 (by kernel_rfl) (by kernel_rfl) (by decide) (Pkg.opens_slice (size := 1) (bytes := 8) Tryd.underlying124 (by kernel_rfl) (by kernel_rfl) (by decide) (Pkg.opens_int Tryd.underlying2))) ?_
  exact Pkg.opensF_nil
/-- api.Process -/
@[ext] structure D.Process where
  Type_ : Int
  Loc : Int
  Prio : Int
  Frame : (List Int)
deriving DecidableEq
def p_Process : Pkg D.Process := Pkg.via (fun x : D.Process => (x.Type_, x.Loc, x.Prio, x.Frame, ())) (Pkg.cons 1 (Pkg.int .i64) (Pkg.cons 1 (Pkg.int .i64) (Pkg.cons 1 (Pkg.int .i64) (Pkg.cons 1 (Pkg.slice 1 8 (Pkg.int .i64)) Pkg.unit))))
theorem stays_Process : Pkg.Stays p_Process := Pkg.stays_via (Pkg.stays_cons (Pkg.stays_int .i64) (Pkg.stays_cons (Pkg.stays_int .i64) (Pkg.stays_cons (Pkg.stays_int .i64) (Pkg.stays_cons (Pkg.stays_slice (Pkg.stays_int .i64)) Pkg.stays_unit))))
set_option maxRecDepth 100000 in
theorem opens_Process {H : Type} {enc : TypeId × Value → H} {w : World} : Pkg.Opens enc Tryd.prog w 58 p_Process := by
  refine Pkg.opens_struct (N := 4) (g := fun (y : Int × Int × Int × (List Int) × Unit) => (⟨y.1, y.2.1, y.2.2.1, y.2.2.2.1⟩ : D.Process)) Tryd.underlying58 rfl (by kernel_rfl) (fun _ => rfl) ?_
  refine Pkg.opensF_cons rfl (by kernel_rfl) (by decide) (Pkg.opens_int Tryd.underlying3) ?_
  refine Pkg.opensF_cons rfl (by kernel_rfl) (by decide) (Pkg.opens_int Tryd.underlying3) ?_
  refine Pkg.opensF_cons rfl (by kernel_rfl) (by decide) (Pkg.opens_int Tryd.underlying3) ?_
  refine Pkg.opensF_cons rfl (by kernel_rfl) (by decide) (Pkg.opens_slice (size := 1) (bytes := 8) Tryd.underlying23 (by kernel_rfl) (by kernel_rfl) (by decide) (Pkg.opens_int Tryd.underlying2)) ?_
  exact Pkg.opensF_nil
/-- api.State -/
@[ext] structure D.State where
  Globals : (List Int)
  Chans : (List D.Chan)
  Procs : (List D.Process)
  Last : Int
  Alone : Int
  Claim : Int
deriving DecidableEq
def p_State : Pkg D.State := Pkg.via (fun x : D.State => (x.Globals, x.Chans, x.Procs, x.Last, x.Alone, x.Claim, ())) (Pkg.cons 1 (Pkg.slice 1 8 (Pkg.int .i64)) (Pkg.cons 1 (Pkg.slice 2 32 p_Chan) (Pkg.cons 1 (Pkg.slice 4 48 p_Process) (Pkg.cons 1 (Pkg.int .i64) (Pkg.cons 1 (Pkg.int .i64) (Pkg.cons 1 (Pkg.int .i64) Pkg.unit))))))
theorem stays_State : Pkg.Stays p_State := Pkg.stays_via (Pkg.stays_cons (Pkg.stays_slice (Pkg.stays_int .i64)) (Pkg.stays_cons (Pkg.stays_slice stays_Chan) (Pkg.stays_cons (Pkg.stays_slice stays_Process) (Pkg.stays_cons (Pkg.stays_int .i64) (Pkg.stays_cons (Pkg.stays_int .i64) (Pkg.stays_cons (Pkg.stays_int .i64) Pkg.stays_unit))))))
set_option maxRecDepth 100000 in
theorem opens_State {H : Type} {enc : TypeId × Value → H} {w : World} : Pkg.Opens enc Tryd.prog w 33 p_State := by
  refine Pkg.opens_struct (N := 6) (g := fun (y : (List Int) × (List D.Chan) × (List D.Process) × Int × Int × Int × Unit) => (⟨y.1, y.2.1, y.2.2.1, y.2.2.2.1, y.2.2.2.2.1, y.2.2.2.2.2.1⟩ : D.State)) Tryd.underlying33 rfl (by kernel_rfl) (fun _ => rfl) ?_
  refine Pkg.opensF_cons rfl (by kernel_rfl) (by decide) (Pkg.opens_slice (size := 1) (bytes := 8) Tryd.underlying23 (by kernel_rfl) (by kernel_rfl) (by decide) (Pkg.opens_int Tryd.underlying2)) ?_
  refine Pkg.opensF_cons rfl (by kernel_rfl) (by decide) (Pkg.opens_slice (size := 2) (bytes := 32) Tryd.underlying30 (by kernel_rfl) (by kernel_rfl) (by decide) opens_Chan) ?_
  refine Pkg.opensF_cons rfl (by kernel_rfl) (by decide) (Pkg.opens_slice (size := 4) (bytes := 48) Tryd.underlying31 (by kernel_rfl) (by kernel_rfl) (by decide) opens_Process) ?_
  refine Pkg.opensF_cons rfl (by kernel_rfl) (by decide) (Pkg.opens_int Tryd.underlying3) ?_
  refine Pkg.opensF_cons rfl (by kernel_rfl) (by decide) (Pkg.opens_int Tryd.underlying3) ?_
  refine Pkg.opensF_cons rfl (by kernel_rfl) (by decide) (Pkg.opens_int Tryd.underlying3) ?_
  exact Pkg.opensF_nil
/-- api.Env -/
@[ext] structure D.Env where
  M : D.Model
  S : D.State
  Pid : Int
  Timeout : Bool
  Able : (List Bool)
deriving DecidableEq
def p_Env : Pkg D.Env := Pkg.via (fun x : D.Env => (x.M, x.S, x.Pid, x.Timeout, x.Able, ())) (Pkg.cons 7 p_Model (Pkg.cons 6 p_State (Pkg.cons 1 (Pkg.int .i64) (Pkg.cons 1 Pkg.bool (Pkg.cons 1 (Pkg.slice 1 1 Pkg.bool) Pkg.unit)))))
theorem stays_Env : Pkg.Stays p_Env := Pkg.stays_via (Pkg.stays_cons stays_Model (Pkg.stays_cons stays_State (Pkg.stays_cons (Pkg.stays_int .i64) (Pkg.stays_cons Pkg.stays_bool (Pkg.stays_cons (Pkg.stays_slice Pkg.stays_bool) Pkg.stays_unit)))))
set_option maxRecDepth 100000 in
theorem opens_Env {H : Type} {enc : TypeId × Value → H} {w : World} : Pkg.Opens enc Tryd.prog w 46 p_Env := by
  refine Pkg.opens_struct (N := 16) (g := fun (y : D.Model × D.State × Int × Bool × (List Bool) × Unit) => (⟨y.1, y.2.1, y.2.2.1, y.2.2.2.1, y.2.2.2.2.1⟩ : D.Env)) Tryd.underlying46 rfl (by kernel_rfl) (fun _ => rfl) ?_
  refine Pkg.opensF_cons rfl (by kernel_rfl) (by decide) opens_Model ?_
  refine Pkg.opensF_cons rfl (by kernel_rfl) (by decide) opens_State ?_
  refine Pkg.opensF_cons rfl (by kernel_rfl) (by decide) (Pkg.opens_int Tryd.underlying3) ?_
  refine Pkg.opensF_cons rfl (by kernel_rfl) (by decide) (Pkg.opens_bool Tryd.underlying4) ?_
  refine Pkg.opensF_cons rfl (by kernel_rfl) (by decide) (Pkg.opens_slice (size := 1) (bytes := 1) Tryd.underlying44 (by kernel_rfl) (by kernel_rfl) (by decide) (Pkg.opens_bool Tryd.underlying4)) ?_
  exact Pkg.opensF_nil
/-- spinneretlaw12.StateBackIn -/
@[ext] structure D.spinneretlaw12_StateBackIn where
  M : D.Model
  S : D.State
  T : D.State
  Text : ByteArray
deriving DecidableEq
def p_spinneretlaw12_StateBackIn : Pkg D.spinneretlaw12_StateBackIn := Pkg.via (fun x : D.spinneretlaw12_StateBackIn => (x.M, x.S, x.T, x.Text, ())) (Pkg.cons 7 p_Model (Pkg.cons 6 p_State (Pkg.cons 6 p_State (Pkg.cons 1 Pkg.str Pkg.unit))))
theorem stays_spinneretlaw12_StateBackIn : Pkg.Stays p_spinneretlaw12_StateBackIn := Pkg.stays_via (Pkg.stays_cons stays_Model (Pkg.stays_cons stays_State (Pkg.stays_cons stays_State (Pkg.stays_cons Pkg.stays_str Pkg.stays_unit))))
set_option maxRecDepth 100000 in
theorem opens_spinneretlaw12_StateBackIn {H : Type} {enc : TypeId × Value → H} {w : World} : Pkg.Opens enc Tryd.prog w 35 p_spinneretlaw12_StateBackIn := by
  refine Pkg.opens_struct (N := 20) (g := fun (y : D.Model × D.State × D.State × ByteArray × Unit) => (⟨y.1, y.2.1, y.2.2.1, y.2.2.2.1⟩ : D.spinneretlaw12_StateBackIn)) Tryd.underlying35 rfl (by kernel_rfl) (fun _ => rfl) ?_
  refine Pkg.opensF_cons rfl (by kernel_rfl) (by decide) opens_Model ?_
  refine Pkg.opensF_cons rfl (by kernel_rfl) (by decide) opens_State ?_
  refine Pkg.opensF_cons rfl (by kernel_rfl) (by decide) opens_State ?_
  refine Pkg.opensF_cons rfl (by kernel_rfl) (by decide) (Pkg.opens_str Tryd.underlying9) ?_
  exact Pkg.opensF_nil
end Go.Proofs.YtdjjlkekbphbaaaDoor
