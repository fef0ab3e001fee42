/-
  The plain data of the program's types as trees. Written by genenc.py off the translation's types.
-/
import Derived.Test.YtdjjlkekbphbaaaDoorDataGood
import Derived.Test.YtdjjlkekbphbaaaDoorEnc
namespace Go.Proofs.YtdjjlkekbphbaaaDoor
open Go.RowKit
instance : Inhabited D.Type := ⟨⟨0, false⟩⟩
def enc_Type (x : D.Type) : List VV := [intV x.Bits, boolV x.Signed]
structure wf_Type (x : D.Type) : Prop where
  Bits : Ev.wInt .i64 x.Bits
  Signed : True
theorem ev_Type : Ev p_Type enc_Type wf_Type := (Ev.via (fun x : D.Type => (x.Bits, x.Signed, ())) (Ev.cons (Ev.int .i64) (Ev.cons Ev.bool Ev.unit))).imp (fun _ => rfl) fun _ ⟨h0, h1, _⟩ => ⟨h0, h1⟩
def encL_Type (fz : Bool) (l : List D.Type) : VV := .sl fz l.length 2 fun i => enc_Type (l.getD i default)
def wfL_Type (l : List D.Type) : Prop := l.length ≤ 1048576 ∧ ∀ y ∈ l, wf_Type y
theorem evL_Type : Ev (Pkg.slice 2 16 p_Type) (fun l => [encL_Type true l]) wfL_Type := Ev.slice default ev_Type (fun _ => rfl) (fun _ => Nat.succ_le_succ (Nat.zero_le _))
instance : Inhabited D.Shape := ⟨⟨0, []⟩⟩
def enc_Shape (x : D.Shape) : List VV := [intV x.Room, encL_Type true x.Fields]
structure wf_Shape (x : D.Shape) : Prop where
  Room : Ev.wInt .i64 x.Room
  Fields : wfL_Type x.Fields
theorem ev_Shape : Ev p_Shape enc_Shape wf_Shape := (Ev.via (fun x : D.Shape => (x.Room, x.Fields, ())) (Ev.cons (Ev.int .i64) (Ev.cons evL_Type Ev.unit))).imp (fun _ => rfl) fun _ ⟨h0, h1, _⟩ => ⟨h0, h1⟩
def encL_Int (fz : Bool) (l : List Int) : VV := .sl fz l.length 1 fun i => [intV (l.getD i 0)]
def wfL_Int (l : List Int) : Prop := l.length ≤ 1048576 ∧ ∀ y ∈ l, Ev.wInt .i64 y
theorem evL_Int : Ev (Pkg.slice 1 8 (Pkg.int .i64)) (fun l => [encL_Int true l]) wfL_Int := Ev.slice 0 (Ev.int .i64) (fun _ => rfl) (fun _ => Nat.le_refl _)
instance : Inhabited D.Stmt := ⟨⟨0, 0, 0, 0, [], [], ⟨#[]⟩⟩⟩
def enc_Stmt (x : D.Stmt) : List VV := [intV x.Kind, intV x.A, intV x.B, intV x.N, encL_Int true x.Args, encL_Int true x.Match, strV x.Text]
structure wf_Stmt (x : D.Stmt) : Prop where
  Kind : Ev.wInt .i64 x.Kind
  A : Ev.wInt .i64 x.A
  B : Ev.wInt .i64 x.B
  N : Ev.wInt .i64 x.N
  Args : wfL_Int x.Args
  Match : wfL_Int x.Match
  Text : (x.Text).size ≤ 1048576
theorem ev_Stmt : Ev p_Stmt enc_Stmt wf_Stmt := (Ev.via (fun x : D.Stmt => (x.Kind, x.A, x.B, x.N, x.Args, x.Match, x.Text, ())) (Ev.cons (Ev.int .i64) (Ev.cons (Ev.int .i64) (Ev.cons (Ev.int .i64) (Ev.cons (Ev.int .i64) (Ev.cons evL_Int (Ev.cons evL_Int (Ev.cons Ev.str Ev.unit)))))))).imp (fun _ => rfl) fun _ ⟨h0, h1, h2, h3, h4, h5, h6, _⟩ => ⟨h0, h1, h2, h3, h4, h5, h6⟩
instance : Inhabited D.Trans := ⟨⟨default, 0, 0⟩⟩
def enc_Trans (x : D.Trans) : List VV := [intV x.S.Kind, intV x.S.A, intV x.S.B, intV x.S.N, encL_Int true x.S.Args, encL_Int true x.S.Match, strV x.S.Text, intV x.To, intV x.Line]
structure wf_Trans (x : D.Trans) : Prop where
  S : wf_Stmt x.S
  To : Ev.wInt .i64 x.To
  Line : Ev.wInt .i64 x.Line
theorem ev_Trans : Ev p_Trans enc_Trans wf_Trans := (Ev.via (fun x : D.Trans => (x.S, x.To, x.Line, ())) (Ev.cons ev_Stmt (Ev.cons (Ev.int .i64) (Ev.cons (Ev.int .i64) Ev.unit)))).imp (fun _ => rfl) fun _ ⟨h0, h1, h2, _⟩ => ⟨h0, h1, h2⟩
def encL_Trans (fz : Bool) (l : List D.Trans) : VV := .sl fz l.length 9 fun i => enc_Trans (l.getD i default)
def wfL_Trans (l : List D.Trans) : Prop := l.length ≤ 1048576 ∧ ∀ y ∈ l, wf_Trans y
theorem evL_Trans : Ev (Pkg.slice 9 112 p_Trans) (fun l => [encL_Trans true l]) wfL_Trans := Ev.slice default ev_Trans (fun _ => rfl) (fun _ => Nat.succ_le_succ (Nat.zero_le _))
def encL_Transs (fz : Bool) (l : List (List D.Trans)) : VV := .sl fz l.length 1 fun i => [encL_Trans true (l.getD i [])]
def wfL_Transs (l : List (List D.Trans)) : Prop := l.length ≤ 1048576 ∧ ∀ y ∈ l, wfL_Trans y
theorem evL_Transs : Ev (Pkg.slice 1 24 (Pkg.slice 9 112 p_Trans)) (fun l => [encL_Transs true l]) wfL_Transs := Ev.slice [] evL_Trans (fun _ => rfl) (fun _ => Ev.one_sum _)
instance : Inhabited D.Loc := ⟨⟨[], [], false, false, false, false, false⟩⟩
def enc_Loc (x : D.Loc) : List VV := [encL_Trans true x.Out, encL_Transs true x.Esc, boolV x.Atomic, boolV x.Dstep, boolV x.End, boolV x.Accept, boolV x.Progress]
structure wf_Loc (x : D.Loc) : Prop where
  Out : wfL_Trans x.Out
  Esc : wfL_Transs x.Esc
  Atomic : True
  Dstep : True
  End : True
  Accept : True
  Progress : True
theorem ev_Loc : Ev p_Loc enc_Loc wf_Loc := (Ev.via (fun x : D.Loc => (x.Out, x.Esc, x.Atomic, x.Dstep, x.End, x.Accept, x.Progress, ())) (Ev.cons evL_Trans (Ev.cons evL_Transs (Ev.cons Ev.bool (Ev.cons Ev.bool (Ev.cons Ev.bool (Ev.cons Ev.bool (Ev.cons Ev.bool Ev.unit)))))))).imp (fun _ => rfl) fun _ ⟨h0, h1, h2, h3, h4, h5, h6, _⟩ => ⟨h0, h1, h2, h3, h4, h5, h6⟩
def encL_Loc (fz : Bool) (l : List D.Loc) : VV := .sl fz l.length 7 fun i => enc_Loc (l.getD i default)
def wfL_Loc (l : List D.Loc) : Prop := l.length ≤ 1048576 ∧ ∀ y ∈ l, wf_Loc y
theorem evL_Loc : Ev (Pkg.slice 7 56 p_Loc) (fun l => [encL_Loc true l]) wfL_Loc := Ev.slice default ev_Loc (fun _ => rfl) (fun _ => Nat.succ_le_succ (Nat.zero_le _))
instance : Inhabited D.Proc := ⟨⟨⟨#[]⟩, 0, [], [], [], 0, 0, 0, 0, 0⟩⟩
def enc_Proc (x : D.Proc) : List VV := [strV x.Name, intV x.Params, encL_Type true x.Frame, encL_Int true x.Init, encL_Loc true x.Locs, intV x.Start, intV x.Final, intV x.Active, intV x.Prio, intV x.Provided]
structure wf_Proc (x : D.Proc) : Prop where
  Name : (x.Name).size ≤ 1048576
  Params : Ev.wInt .i64 x.Params
  Frame : wfL_Type x.Frame
  Init : wfL_Int x.Init
  Locs : wfL_Loc x.Locs
  Start : Ev.wInt .i64 x.Start
  Final : Ev.wInt .i64 x.Final
  Active : Ev.wInt .i64 x.Active
  Prio : Ev.wInt .i64 x.Prio
  Provided : Ev.wInt .i64 x.Provided
theorem ev_Proc : Ev p_Proc enc_Proc wf_Proc := (Ev.via (fun x : D.Proc => (x.Name, x.Params, x.Frame, x.Init, x.Locs, x.Start, x.Final, x.Active, x.Prio, x.Provided, ())) (Ev.cons Ev.str (Ev.cons (Ev.int .i64) (Ev.cons evL_Type (Ev.cons evL_Int (Ev.cons evL_Loc (Ev.cons (Ev.int .i64) (Ev.cons (Ev.int .i64) (Ev.cons (Ev.int .i64) (Ev.cons (Ev.int .i64) (Ev.cons (Ev.int .i64) Ev.unit))))))))))).imp (fun _ => rfl) fun _ ⟨h0, h1, h2, h3, h4, h5, h6, h7, h8, h9, _⟩ => ⟨h0, h1, h2, h3, h4, h5, h6, h7, h8, h9⟩
instance : Inhabited D.Dim := ⟨⟨0, 0, 0⟩⟩
def enc_Dim (x : D.Dim) : List VV := [intV x.I, intV x.Len, intV x.Stride]
structure wf_Dim (x : D.Dim) : Prop where
  I : Ev.wInt .i64 x.I
  Len : Ev.wInt .i64 x.Len
  Stride : Ev.wInt .i64 x.Stride
theorem ev_Dim : Ev p_Dim enc_Dim wf_Dim := (Ev.via (fun x : D.Dim => (x.I, x.Len, x.Stride, ())) (Ev.cons (Ev.int .i64) (Ev.cons (Ev.int .i64) (Ev.cons (Ev.int .i64) Ev.unit)))).imp (fun _ => rfl) fun _ ⟨h0, h1, h2, _⟩ => ⟨h0, h1, h2⟩
def encL_Dim (fz : Bool) (l : List D.Dim) : VV := .sl fz l.length 3 fun i => enc_Dim (l.getD i default)
def wfL_Dim (l : List D.Dim) : Prop := l.length ≤ 1048576 ∧ ∀ y ∈ l, wf_Dim y
theorem evL_Dim : Ev (Pkg.slice 3 24 p_Dim) (fun l => [encL_Dim true l]) wfL_Dim := Ev.slice default ev_Dim (fun _ => rfl) (fun _ => Nat.succ_le_succ (Nat.zero_le _))
instance : Inhabited D.Var := ⟨⟨0, 0, 0, 0, []⟩⟩
def enc_Var (x : D.Var) : List VV := [intV x.Scope, intV x.Slot, intV x.Who, intV x.Type_, encL_Dim true x.Dims]
structure wf_Var (x : D.Var) : Prop where
  Scope : Ev.wInt .i64 x.Scope
  Slot : Ev.wInt .i64 x.Slot
  Who : Ev.wInt .i64 x.Who
  Type_ : Ev.wInt .i64 x.Type_
  Dims : wfL_Dim x.Dims
theorem ev_Var : Ev p_Var enc_Var wf_Var := (Ev.via (fun x : D.Var => (x.Scope, x.Slot, x.Who, x.Type_, x.Dims, ())) (Ev.cons (Ev.int .i64) (Ev.cons (Ev.int .i64) (Ev.cons (Ev.int .i64) (Ev.cons (Ev.int .i64) (Ev.cons evL_Dim Ev.unit)))))).imp (fun _ => rfl) fun _ ⟨h0, h1, h2, h3, h4, _⟩ => ⟨h0, h1, h2, h3, h4⟩
instance : Inhabited D.Expr := ⟨⟨0, 0, 0, 0, 0, default, [], []⟩⟩
def enc_Expr (x : D.Expr) : List VV := [intV x.Op, intV x.N, intV x.A, intV x.B, intV x.C, intV x.V.Scope, intV x.V.Slot, intV x.V.Who, intV x.V.Type_, encL_Dim true x.V.Dims, encL_Int true x.Args, encL_Int true x.Match]
structure wf_Expr (x : D.Expr) : Prop where
  Op : Ev.wInt .i64 x.Op
  N : Ev.wInt .i64 x.N
  A : Ev.wInt .i64 x.A
  B : Ev.wInt .i64 x.B
  C : Ev.wInt .i64 x.C
  V : wf_Var x.V
  Args : wfL_Int x.Args
  Match : wfL_Int x.Match
theorem ev_Expr : Ev p_Expr enc_Expr wf_Expr := (Ev.via (fun x : D.Expr => (x.Op, x.N, x.A, x.B, x.C, x.V, x.Args, x.Match, ())) (Ev.cons (Ev.int .i64) (Ev.cons (Ev.int .i64) (Ev.cons (Ev.int .i64) (Ev.cons (Ev.int .i64) (Ev.cons (Ev.int .i64) (Ev.cons ev_Var (Ev.cons evL_Int (Ev.cons evL_Int Ev.unit))))))))).imp (fun _ => rfl) fun _ ⟨h0, h1, h2, h3, h4, h5, h6, h7, _⟩ => ⟨h0, h1, h2, h3, h4, h5, h6, h7⟩
def encL_Shape (fz : Bool) (l : List D.Shape) : VV := .sl fz l.length 2 fun i => enc_Shape (l.getD i default)
def wfL_Shape (l : List D.Shape) : Prop := l.length ≤ 1048576 ∧ ∀ y ∈ l, wf_Shape y
theorem evL_Shape : Ev (Pkg.slice 2 32 p_Shape) (fun l => [encL_Shape true l]) wfL_Shape := Ev.slice default ev_Shape (fun _ => rfl) (fun _ => Nat.succ_le_succ (Nat.zero_le _))
def encL_Proc (fz : Bool) (l : List D.Proc) : VV := .sl fz l.length 10 fun i => enc_Proc (l.getD i default)
def wfL_Proc (l : List D.Proc) : Prop := l.length ≤ 1048576 ∧ ∀ y ∈ l, wf_Proc y
theorem evL_Proc : Ev (Pkg.slice 10 136 p_Proc) (fun l => [encL_Proc true l]) wfL_Proc := Ev.slice default ev_Proc (fun _ => rfl) (fun _ => Nat.succ_le_succ (Nat.zero_le _))
def encL_Expr (fz : Bool) (l : List D.Expr) : VV := .sl fz l.length 12 fun i => enc_Expr (l.getD i default)
def wfL_Expr (l : List D.Expr) : Prop := l.length ≤ 1048576 ∧ ∀ y ∈ l, wf_Expr y
theorem evL_Expr : Ev (Pkg.slice 12 144 p_Expr) (fun l => [encL_Expr true l]) wfL_Expr := Ev.slice default ev_Expr (fun _ => rfl) (fun _ => Nat.succ_le_succ (Nat.zero_le _))
instance : Inhabited D.Model := ⟨⟨[], [], [], [], [], 0, []⟩⟩
def enc_Model (x : D.Model) : List VV := [encL_Type true x.Globals, encL_Int true x.Init, encL_Shape true x.Shapes, encL_Int true x.Chans, encL_Proc true x.Procs, intV x.Claim, encL_Expr true x.Exprs]
structure wf_Model (x : D.Model) : Prop where
  Globals : wfL_Type x.Globals
  Init : wfL_Int x.Init
  Shapes : wfL_Shape x.Shapes
  Chans : wfL_Int x.Chans
  Procs : wfL_Proc x.Procs
  Claim : Ev.wInt .i64 x.Claim
  Exprs : wfL_Expr x.Exprs
theorem ev_Model : Ev p_Model enc_Model wf_Model := (Ev.via (fun x : D.Model => (x.Globals, x.Init, x.Shapes, x.Chans, x.Procs, x.Claim, x.Exprs, ())) (Ev.cons evL_Type (Ev.cons evL_Int (Ev.cons evL_Shape (Ev.cons evL_Int (Ev.cons evL_Proc (Ev.cons (Ev.int .i64) (Ev.cons evL_Expr Ev.unit)))))))).imp (fun _ => rfl) fun _ ⟨h0, h1, h2, h3, h4, h5, h6, _⟩ => ⟨h0, h1, h2, h3, h4, h5, h6⟩
def encL_Ints (fz : Bool) (l : List (List Int)) : VV := .sl fz l.length 1 fun i => [encL_Int true (l.getD i [])]
def wfL_Ints (l : List (List Int)) : Prop := l.length ≤ 1048576 ∧ ∀ y ∈ l, wfL_Int y
theorem evL_Ints : Ev (Pkg.slice 1 24 (Pkg.slice 1 8 (Pkg.int .i64))) (fun l => [encL_Ints true l]) wfL_Ints := Ev.slice [] evL_Int (fun _ => rfl) (fun _ => Ev.one_sum _)
instance : Inhabited D.Chan := ⟨⟨0, []⟩⟩
def enc_Chan (x : D.Chan) : List VV := [intV x.Shape, encL_Ints true x.Queue]
structure wf_Chan (x : D.Chan) : Prop where
  Shape : Ev.wInt .i64 x.Shape
  Queue : wfL_Ints x.Queue
theorem ev_Chan : Ev p_Chan enc_Chan wf_Chan := (Ev.via (fun x : D.Chan => (x.Shape, x.Queue, ())) (Ev.cons (Ev.int .i64) (Ev.cons evL_Ints Ev.unit))).imp (fun _ => rfl) fun _ ⟨h0, h1, _⟩ => ⟨h0, h1⟩
instance : Inhabited D.Process := ⟨⟨0, 0, 0, []⟩⟩
def enc_Process (x : D.Process) : List VV := [intV x.Type_, intV x.Loc, intV x.Prio, encL_Int true x.Frame]
structure wf_Process (x : D.Process) : Prop where
  Type_ : Ev.wInt .i64 x.Type_
  Loc : Ev.wInt .i64 x.Loc
  Prio : Ev.wInt .i64 x.Prio
  Frame : wfL_Int x.Frame
theorem ev_Process : Ev p_Process enc_Process wf_Process := (Ev.via (fun x : D.Process => (x.Type_, x.Loc, x.Prio, x.Frame, ())) (Ev.cons (Ev.int .i64) (Ev.cons (Ev.int .i64) (Ev.cons (Ev.int .i64) (Ev.cons evL_Int Ev.unit))))).imp (fun _ => rfl) fun _ ⟨h0, h1, h2, h3, _⟩ => ⟨h0, h1, h2, h3⟩
def encL_Chan (fz : Bool) (l : List D.Chan) : VV := .sl fz l.length 2 fun i => enc_Chan (l.getD i default)
def wfL_Chan (l : List D.Chan) : Prop := l.length ≤ 1048576 ∧ ∀ y ∈ l, wf_Chan y
theorem evL_Chan : Ev (Pkg.slice 2 32 p_Chan) (fun l => [encL_Chan true l]) wfL_Chan := Ev.slice default ev_Chan (fun _ => rfl) (fun _ => Nat.succ_le_succ (Nat.zero_le _))
def encL_Process (fz : Bool) (l : List D.Process) : VV := .sl fz l.length 4 fun i => enc_Process (l.getD i default)
def wfL_Process (l : List D.Process) : Prop := l.length ≤ 1048576 ∧ ∀ y ∈ l, wf_Process y
theorem evL_Process : Ev (Pkg.slice 4 48 p_Process) (fun l => [encL_Process true l]) wfL_Process := Ev.slice default ev_Process (fun _ => rfl) (fun _ => Nat.succ_le_succ (Nat.zero_le _))
instance : Inhabited D.State := ⟨⟨[], [], [], 0, 0, 0⟩⟩
def enc_State (x : D.State) : List VV := [encL_Int true x.Globals, encL_Chan true x.Chans, encL_Process true x.Procs, intV x.Last, intV x.Alone, intV x.Claim]
structure wf_State (x : D.State) : Prop where
  Globals : wfL_Int x.Globals
  Chans : wfL_Chan x.Chans
  Procs : wfL_Process x.Procs
  Last : Ev.wInt .i64 x.Last
  Alone : Ev.wInt .i64 x.Alone
  Claim : Ev.wInt .i64 x.Claim
theorem ev_State : Ev p_State enc_State wf_State := (Ev.via (fun x : D.State => (x.Globals, x.Chans, x.Procs, x.Last, x.Alone, x.Claim, ())) (Ev.cons evL_Int (Ev.cons evL_Chan (Ev.cons evL_Process (Ev.cons (Ev.int .i64) (Ev.cons (Ev.int .i64) (Ev.cons (Ev.int .i64) Ev.unit))))))).imp (fun _ => rfl) fun _ ⟨h0, h1, h2, h3, h4, h5, _⟩ => ⟨h0, h1, h2, h3, h4, h5⟩
def encL_Bool (fz : Bool) (l : List Bool) : VV := .sl fz l.length 1 fun i => [boolV (l.getD i false)]
def wfL_Bool (l : List Bool) : Prop := l.length ≤ 1048576 ∧ ∀ y ∈ l, True
theorem evL_Bool : Ev (Pkg.slice 1 1 Pkg.bool) (fun l => [encL_Bool true l]) wfL_Bool := Ev.slice false Ev.bool (fun _ => rfl) (fun _ => Nat.le_refl _)
instance : Inhabited D.Env := ⟨⟨default, default, 0, false, []⟩⟩
def enc_Env (x : D.Env) : List VV := [encL_Type true x.M.Globals, encL_Int true x.M.Init, encL_Shape true x.M.Shapes, encL_Int true x.M.Chans, encL_Proc true x.M.Procs, intV x.M.Claim, encL_Expr true x.M.Exprs, encL_Int true x.S.Globals, encL_Chan true x.S.Chans, encL_Process true x.S.Procs, intV x.S.Last, intV x.S.Alone, intV x.S.Claim, intV x.Pid, boolV x.Timeout, encL_Bool true x.Able]
structure wf_Env (x : D.Env) : Prop where
  M : wf_Model x.M
  S : wf_State x.S
  Pid : Ev.wInt .i64 x.Pid
  Timeout : True
  Able : wfL_Bool x.Able
theorem ev_Env : Ev p_Env enc_Env wf_Env := (Ev.via (fun x : D.Env => (x.M, x.S, x.Pid, x.Timeout, x.Able, ())) (Ev.cons ev_Model (Ev.cons ev_State (Ev.cons (Ev.int .i64) (Ev.cons Ev.bool (Ev.cons evL_Bool Ev.unit)))))).imp (fun _ => rfl) fun _ ⟨h0, h1, h2, h3, h4, _⟩ => ⟨h0, h1, h2, h3, h4⟩
instance : Inhabited D.spinneretlaw12_StateBackIn := ⟨⟨default, default, default, ⟨#[]⟩⟩⟩
def enc_spinneretlaw12_StateBackIn (x : D.spinneretlaw12_StateBackIn) : List VV := [encL_Type true x.M.Globals, encL_Int true x.M.Init, encL_Shape true x.M.Shapes, encL_Int true x.M.Chans, encL_Proc true x.M.Procs, intV x.M.Claim, encL_Expr true x.M.Exprs, encL_Int true x.S.Globals, encL_Chan true x.S.Chans, encL_Process true x.S.Procs, intV x.S.Last, intV x.S.Alone, intV x.S.Claim, encL_Int true x.T.Globals, encL_Chan true x.T.Chans, encL_Process true x.T.Procs, intV x.T.Last, intV x.T.Alone, intV x.T.Claim, strV x.Text]
structure wf_spinneretlaw12_StateBackIn (x : D.spinneretlaw12_StateBackIn) : Prop where
  M : wf_Model x.M
  S : wf_State x.S
  T : wf_State x.T
  Text : (x.Text).size ≤ 1048576
theorem ev_spinneretlaw12_StateBackIn : Ev p_spinneretlaw12_StateBackIn enc_spinneretlaw12_StateBackIn wf_spinneretlaw12_StateBackIn := (Ev.via (fun x : D.spinneretlaw12_StateBackIn => (x.M, x.S, x.T, x.Text, ())) (Ev.cons ev_Model (Ev.cons ev_State (Ev.cons ev_State (Ev.cons Ev.str Ev.unit))))).imp (fun _ => rfl) fun _ ⟨h0, h1, h2, h3, _⟩ => ⟨h0, h1, h2, h3⟩
end Go.Proofs.YtdjjlkekbphbaaaDoor
