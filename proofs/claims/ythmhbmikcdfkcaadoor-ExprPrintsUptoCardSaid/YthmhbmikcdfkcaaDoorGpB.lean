/-
  Texts, joined: Enc, EncGood, GoodP, GdQ, VjIdx.
-/
import Derived.Test.YthmhbmikcdfkcaaDoorGpA
import Derived.Test.YthmhbmikcdfkcaaDoorVjB
import Derived.Test.YthmhbmikcdfkcaaDoorVjA
import Derived.IntWalk
/-
  Plain data as trees: how each kind of data is told, and that memory which says the data says the tree.
-/
namespace Go.Proofs.YthmhbmikcdfkcaaDoor
open Go.RowKit

def intV (n : Int) : VV := .sc (.int .i64 n)
def boolV (b : Bool) : VV := .sc (.bool b)
def strV (s : ByteArray) : VV := .sc (.string s)
/-- Memory that says the data (Is) says the trees; and all numbers of it are ones of their kinds. -/
structure Ev {α : Type} (p : Pkg α) (enc : α → List VV) (wf : α → Prop) : Prop where
  ok : ∀ {w : World} {E : Prot} {m : Option Phi} {cs : List Value} {x : α}, (∀ k, ¬ E.fz k) → p.mu x ≤ 1048576 → Is p w cs x → cs.length = (enc x).length ∧ (∀ (j : Nat) (y : VV), (enc x)[j]? = some y → V w E m y (cs.getD j undef)) ∧ wf x
namespace Ev
def wInt (k : IntKind) (n : Int) : Prop := (Lit.int k n).wf = true
theorem imp {α : Type} {p : Pkg α} {e e' : α → List VV} {wf wf' : α → Prop} (h : Ev p e wf) (he : ∀ x, e x = e' x) (hw : ∀ x, wf x → wf' x) : Ev p e' wf' := ⟨fun {w E m cs x} hE hm k => by
  obtain ⟨h1, h2, h3⟩ := h.ok (E := E) (m := m) hE hm k
  rw [← he x]
  exact ⟨h1, h2, hw x h3⟩⟩
theorem int (k : IntKind) : Ev (Pkg.int k) (fun n => [.sc (.int k n)]) (wInt k) := ⟨fun {w E m cs x} _ _ h => by
  obtain ⟨rfl, hw⟩ := is_int.1 h
  refine ⟨rfl, fun j y hy => ?_, hw⟩
  match j, hy with
  | 0, hy => simp only [List.getElem?_cons_zero, Option.some.injEq] at hy; subst hy; exact .sc
  | j + 1, hy => simp at hy⟩
theorem bool : Ev Pkg.bool (fun b => [.sc (.bool b)]) (fun _ => True) := ⟨fun {w E m cs x} _ _ h => by
  obtain rfl := is_bool.1 h
  refine ⟨rfl, fun j y hy => ?_, trivial⟩
  match j, hy with
  | 0, hy => simp only [List.getElem?_cons_zero, Option.some.injEq] at hy; subst hy; exact .sc
  | j + 1, hy => simp at hy⟩
theorem str : Ev Pkg.str (fun b => [.sc (.string b)]) (fun b => b.size ≤ 1048576) := ⟨fun {w E m cs x} _ hm h => by
  obtain ⟨rfl, hs⟩ := is_str.1 h
  have hm' : x.size + 1 ≤ 1048576 := hm
  refine ⟨rfl, fun j y hy => ?_, by omega⟩
  match j, hy with
  | 0, hy => simp only [List.getElem?_cons_zero, Option.some.injEq] at hy; subst hy; exact .sc
  | j + 1, hy => simp at hy⟩
theorem unit : Ev Pkg.unit (fun _ => []) (fun _ => True) := ⟨fun {w E m cs x} _ _ h => by
  obtain rfl := is_unit.1 h
  exact ⟨rfl, fun j y hy => by simp at hy, trivial⟩⟩
theorem cons {α β : Type} {p : Pkg α} {q : Pkg β} {e1 : α → List VV} {e2 : β → List VV} {w1 : α → Prop} {w2 : β → Prop} {n : Nat} (h1 : Ev p e1 w1) (h2 : Ev q e2 w2) : Ev (Pkg.cons n p q) (fun y => e1 y.1 ++ e2 y.2) (fun y => w1 y.1 ∧ w2 y.2) := ⟨fun {w E m cs x} hE hm h => by
  obtain ⟨a, b, rfl, ha, k1, k2⟩ := is_cons.1 h
  have hm' : p.mu x.1 + q.mu x.2 ≤ 1048576 := hm
  obtain ⟨l1, v1, f1⟩ := h1.ok (E := E) (m := m) hE (by omega) k1
  obtain ⟨l2, v2, f2⟩ := h2.ok (E := E) (m := m) hE (by omega) k2
  refine ⟨by simp [l1, l2], fun j y hy => ?_, f1, f2⟩
  by_cases hj : j < (e1 x.1).length
  · rw [List.getElem?_append_left hj] at hy
    have := v1 j y hy
    rw [List.getD_eq_getElem?_getD, List.getElem?_append_left (by omega), ← List.getD_eq_getElem?_getD]
    exact this
  · rw [List.getElem?_append_right (by omega)] at hy
    have := v2 _ y hy
    rw [List.getD_eq_getElem?_getD, List.getElem?_append_right (by omega), l1, ← List.getD_eq_getElem?_getD]
    exact this⟩
theorem via {α β : Type} {p : Pkg α} {e : α → List VV} {wf : α → Prop} (f : β → α) (h : Ev p e wf) : Ev (Pkg.via f p) (fun y => e (f y)) (fun y => wf (f y)) := ⟨fun {w E m cs x} hE hm k => h.ok hE (by have hm' : p.mu (f x) + 1 ≤ 1048576 := hm; omega) (is_via.1 k)⟩
theorem mem_sum {α : Type} {μ : α → Nat} : ∀ {l : List α} {y : α}, y ∈ l → μ y ≤ Rd.sum μ l
  | x :: l, y, h => by
    rcases List.mem_cons.1 h with rfl | h
    · simp only [Rd.sum]; omega
    · have := mem_sum (μ := μ) h; simp only [Rd.sum]; omega
  | [], _, h => by cases h
theorem len_sum {α : Type} {μ : α → Nat} (h1 : ∀ x, 1 ≤ μ x) : ∀ (l : List α), l.length ≤ Rd.sum μ l
  | [] => by simp
  | x :: l => by have := len_sum h1 l; have := h1 x; simp only [Rd.sum, List.length_cons]; omega
theorem one_sum {α : Type} {μ : α → Nat} : ∀ (l : List α), 1 ≤ Rd.sum μ l
  | [] => by simp [Rd.sum]
  | x :: l => by have := one_sum (μ := μ) l; simp only [Rd.sum]; omega
theorem slice {α : Type} {p : Pkg α} {e : α → List VV} {wf : α → Prop} {size bytes : Nat} (d : α) (h : Ev p e wf) (hl : ∀ x, (e x).length = size) (hp : ∀ x, 1 ≤ p.mu x) : Ev (Pkg.slice size bytes p) (fun l => [.sl true l.length size fun i => e (l.getD i d)]) (fun l => l.length ≤ 1048576 ∧ ∀ y ∈ l, wf y) := ⟨fun {w E m cs x} hE hmu k => by
  have hmu' : Rd.sum p.mu x ≤ 1048576 := hmu
  have hmem : ∀ y ∈ x, p.mu y ≤ 1048576 := fun y hy => Nat.le_trans (mem_sum hy) hmu'
  obtain ⟨v, rfl⟩ : ∃ v, cs = [v] := by
    obtain ⟨ao, cap, e', _⟩ := k
    exact ⟨_, e'⟩
  obtain ⟨ao, cap, rfl, k1, k2, k3⟩ := is_slice k
  refine ⟨rfl, fun j y hy => ?_, Nat.le_trans (len_sum hp x) hmu', fun y hy => ?_⟩
  · match j, hy with
    | 0, hy =>
      simp only [List.getElem?_cons_zero, Option.some.injEq] at hy
      subst hy
      refine V.sl_mk k1 k2 fun hp => ?_
      obtain ⟨b, off, rfl, hb, hel⟩ := k3 hp
      have hat : ∀ i, i < x.length → ∃ es : List Value, es.length = size ∧ (∀ k, k < size → w.cell? ⟨b, off + i * size + k, none⟩ = es[k]?) ∧ Is p w es (x.getD i d) := fun i hi => hel i (x.getD i d) (by simp [List.getD, hi])
      refine ⟨b, off, rfl, hb, hE b, fun i _ => hl _, fun i j => (w.cell? ⟨b, off + i * size + j, none⟩).getD undef, fun i j y hi hy => ?_, fun i j y hi hy => ?_⟩
      · obtain ⟨es, h4, h5, h6⟩ := hat i hi
        have hj : j < size := by rw [← hl (x.getD i d)]; exact (List.getElem?_eq_some_iff.1 hy).1
        show w.cell? ⟨b, off + i * size + j, none⟩ = some ((w.cell? ⟨b, off + i * size + j, none⟩).getD undef)
        have h7 : w.cell? ⟨b, off + i * size + j, none⟩ = some (es[j]'(by omega)) := by rw [h5 j hj, List.getElem?_eq_getElem (by omega)]
        rw [h7]; rfl
      · obtain ⟨es, h4, h5, h6⟩ := hat i hi
        have hj : j < size := by rw [← hl (x.getD i d)]; exact (List.getElem?_eq_some_iff.1 hy).1
        have hi' : x.getD i d ∈ x := by simp [List.getD, hi]
        have := (h.ok (E := E.at true) (m := none) (fun k => hE k) (hmem _ hi') h6).2.1 j y hy
        rw [List.getD_eq_getElem?_getD, ← h5 j hj] at this
        exact this
    | j + 1, hy => simp at hy
  · have hm := hmem y hy
    obtain ⟨i, hi, rfl⟩ := List.mem_iff_getElem.1 hy
    obtain ⟨b, off, e', hb, hel⟩ := k3 (by omega)
    obtain ⟨es, _, _, hx⟩ := hel i x[i] (List.getElem?_eq_getElem hi)
    exact (h.ok (E := E) (m := m) hE hm hx).2.2⟩
/-- A struct's value. -/
theorem agg {α : Type} {p : Pkg α} {e : α → List VV} {wf : α → Prop} (h : Ev p e wf) {w : World} {E : Prot} {m : Option Phi} {cs : Array Value} {x : α} (hE : ∀ k, ¬ E.fz k) (hm : p.mu x ≤ 1048576) (k : Is p w cs.toList x) : V w E m (.agg (e x)) (.agg cs) ∧ wf x := by
  obtain ⟨h1, h2, h3⟩ := h.ok (E := E) (m := m) hE hm k
  refine ⟨.agg (by simpa using h1) fun j y hy => ?_, h3⟩
  have := h2 j y hy
  simpa [Array.getD_eq_getD_getElem?, List.getD_eq_getElem?_getD] using this
/-- A value of one cell. -/
theorem one {α : Type} {p : Pkg α} {e : α → VV} {wf : α → Prop} (h : Ev p (fun x => [e x]) wf) {w : World} {E : Prot} {m : Option Phi} {v : Value} {x : α} (hE : ∀ k, ¬ E.fz k) (hm : p.mu x ≤ 1048576) (k : Is p w [v] x) : V w E m (e x) v ∧ wf x := by
  obtain ⟨h1, h2, h3⟩ := h.ok (E := E) (m := m) hE hm k
  exact ⟨h2 0 (e x) rfl, h3⟩
end Ev
end Go.Proofs.YthmhbmikcdfkcaaDoor
/-
  The plain data of the program's types as trees. Written by genenc.py off the translation's types.
-/
namespace Go.Proofs.YthmhbmikcdfkcaaDoor
open Go.RowKit
instance : Inhabited D.Type := ⟨⟨0, false⟩⟩
def enc_Type (x : D.Type) : List VV := [intV x.Bits, boolV x.Signed]
structure wf_Type (x : D.Type) : Prop where
  Bits : Ev.wInt .i64 x.Bits
  Signed : True
theorem ev_Type : Ev p_Type enc_Type wf_Type := (Ev.via (fun x : D.Type => (x.Bits, x.Signed, ())) (Ev.cons (Ev.int .i64) (Ev.cons Ev.bool Ev.unit))).imp (fun _ => rfl) fun _ ⟨h0, h1, _⟩ => ⟨h0, h1⟩
def encL_Type (fz : Bool) (l : List D.Type) : VV := .sl fz l.length 2 fun i => enc_Type (l.getD i default)
def wfL_Type (l : List D.Type) : Prop := l.length ≤ 1048576 ∧ ∀ y ∈ l, wf_Type y
theorem evL_Type : Ev (Pkg.slice 2 16 p_Type) (fun l => [encL_Type true l]) wfL_Type := Ev.slice default ev_Type (fun _ => rfl) (fun _ => Nat.succ_le_succ (Nat.zero_le _))
instance : Inhabited D.Shape := ⟨⟨0, []⟩⟩
def enc_Shape (x : D.Shape) : List VV := [intV x.Room, encL_Type true x.Fields]
structure wf_Shape (x : D.Shape) : Prop where
  Room : Ev.wInt .i64 x.Room
  Fields : wfL_Type x.Fields
theorem ev_Shape : Ev p_Shape enc_Shape wf_Shape := (Ev.via (fun x : D.Shape => (x.Room, x.Fields, ())) (Ev.cons (Ev.int .i64) (Ev.cons evL_Type Ev.unit))).imp (fun _ => rfl) fun _ ⟨h0, h1, _⟩ => ⟨h0, h1⟩
def encL_Int (fz : Bool) (l : List Int) : VV := .sl fz l.length 1 fun i => [intV (l.getD i 0)]
def wfL_Int (l : List Int) : Prop := l.length ≤ 1048576 ∧ ∀ y ∈ l, Ev.wInt .i64 y
theorem evL_Int : Ev (Pkg.slice 1 8 (Pkg.int .i64)) (fun l => [encL_Int true l]) wfL_Int := Ev.slice 0 (Ev.int .i64) (fun _ => rfl) (fun _ => Nat.le_refl _)
instance : Inhabited D.Stmt := ⟨⟨0, 0, 0, 0, [], [], ⟨#[]⟩⟩⟩
def enc_Stmt (x : D.Stmt) : List VV := [intV x.Kind, intV x.A, intV x.B, intV x.N, encL_Int true x.Args, encL_Int true x.Match, strV x.Text]
structure wf_Stmt (x : D.Stmt) : Prop where
  Kind : Ev.wInt .i64 x.Kind
  A : Ev.wInt .i64 x.A
  B : Ev.wInt .i64 x.B
  N : Ev.wInt .i64 x.N
  Args : wfL_Int x.Args
  Match : wfL_Int x.Match
  Text : (x.Text).size ≤ 1048576
theorem ev_Stmt : Ev p_Stmt enc_Stmt wf_Stmt := (Ev.via (fun x : D.Stmt => (x.Kind, x.A, x.B, x.N, x.Args, x.Match, x.Text, ())) (Ev.cons (Ev.int .i64) (Ev.cons (Ev.int .i64) (Ev.cons (Ev.int .i64) (Ev.cons (Ev.int .i64) (Ev.cons evL_Int (Ev.cons evL_Int (Ev.cons Ev.str Ev.unit)))))))).imp (fun _ => rfl) fun _ ⟨h0, h1, h2, h3, h4, h5, h6, _⟩ => ⟨h0, h1, h2, h3, h4, h5, h6⟩
instance : Inhabited D.Trans := ⟨⟨default, 0, 0⟩⟩
def enc_Trans (x : D.Trans) : List VV := [intV x.S.Kind, intV x.S.A, intV x.S.B, intV x.S.N, encL_Int true x.S.Args, encL_Int true x.S.Match, strV x.S.Text, intV x.To, intV x.Line]
structure wf_Trans (x : D.Trans) : Prop where
  S : wf_Stmt x.S
  To : Ev.wInt .i64 x.To
  Line : Ev.wInt .i64 x.Line
theorem ev_Trans : Ev p_Trans enc_Trans wf_Trans := (Ev.via (fun x : D.Trans => (x.S, x.To, x.Line, ())) (Ev.cons ev_Stmt (Ev.cons (Ev.int .i64) (Ev.cons (Ev.int .i64) Ev.unit)))).imp (fun _ => rfl) fun _ ⟨h0, h1, h2, _⟩ => ⟨h0, h1, h2⟩
def encL_Trans (fz : Bool) (l : List D.Trans) : VV := .sl fz l.length 9 fun i => enc_Trans (l.getD i default)
def wfL_Trans (l : List D.Trans) : Prop := l.length ≤ 1048576 ∧ ∀ y ∈ l, wf_Trans y
theorem evL_Trans : Ev (Pkg.slice 9 112 p_Trans) (fun l => [encL_Trans true l]) wfL_Trans := Ev.slice default ev_Trans (fun _ => rfl) (fun _ => Nat.succ_le_succ (Nat.zero_le _))
def encL_Transs (fz : Bool) (l : List (List D.Trans)) : VV := .sl fz l.length 1 fun i => [encL_Trans true (l.getD i [])]
def wfL_Transs (l : List (List D.Trans)) : Prop := l.length ≤ 1048576 ∧ ∀ y ∈ l, wfL_Trans y
theorem evL_Transs : Ev (Pkg.slice 1 24 (Pkg.slice 9 112 p_Trans)) (fun l => [encL_Transs true l]) wfL_Transs := Ev.slice [] evL_Trans (fun _ => rfl) (fun _ => Ev.one_sum _)
instance : Inhabited D.Loc := ⟨⟨[], [], false, false, false, false, false⟩⟩
def enc_Loc (x : D.Loc) : List VV := [encL_Trans true x.Out, encL_Transs true x.Esc, boolV x.Atomic, boolV x.Dstep, boolV x.End, boolV x.Accept, boolV x.Progress]
structure wf_Loc (x : D.Loc) : Prop where
  Out : wfL_Trans x.Out
  Esc : wfL_Transs x.Esc
  Atomic : True
  Dstep : True
  End : True
  Accept : True
  Progress : True
theorem ev_Loc : Ev p_Loc enc_Loc wf_Loc := (Ev.via (fun x : D.Loc => (x.Out, x.Esc, x.Atomic, x.Dstep, x.End, x.Accept, x.Progress, ())) (Ev.cons evL_Trans (Ev.cons evL_Transs (Ev.cons Ev.bool (Ev.cons Ev.bool (Ev.cons Ev.bool (Ev.cons Ev.bool (Ev.cons Ev.bool Ev.unit)))))))).imp (fun _ => rfl) fun _ ⟨h0, h1, h2, h3, h4, h5, h6, _⟩ => ⟨h0, h1, h2, h3, h4, h5, h6⟩
def encL_Loc (fz : Bool) (l : List D.Loc) : VV := .sl fz l.length 7 fun i => enc_Loc (l.getD i default)
def wfL_Loc (l : List D.Loc) : Prop := l.length ≤ 1048576 ∧ ∀ y ∈ l, wf_Loc y
theorem evL_Loc : Ev (Pkg.slice 7 56 p_Loc) (fun l => [encL_Loc true l]) wfL_Loc := Ev.slice default ev_Loc (fun _ => rfl) (fun _ => Nat.succ_le_succ (Nat.zero_le _))
instance : Inhabited D.Proc := ⟨⟨⟨#[]⟩, 0, [], [], [], 0, 0, 0, 0, 0⟩⟩
def enc_Proc (x : D.Proc) : List VV := [strV x.Name, intV x.Params, encL_Type true x.Frame, encL_Int true x.Init, encL_Loc true x.Locs, intV x.Start, intV x.Final, intV x.Active, intV x.Prio, intV x.Provided]
structure wf_Proc (x : D.Proc) : Prop where
  Name : (x.Name).size ≤ 1048576
  Params : Ev.wInt .i64 x.Params
  Frame : wfL_Type x.Frame
  Init : wfL_Int x.Init
  Locs : wfL_Loc x.Locs
  Start : Ev.wInt .i64 x.Start
  Final : Ev.wInt .i64 x.Final
  Active : Ev.wInt .i64 x.Active
  Prio : Ev.wInt .i64 x.Prio
  Provided : Ev.wInt .i64 x.Provided
theorem ev_Proc : Ev p_Proc enc_Proc wf_Proc := (Ev.via (fun x : D.Proc => (x.Name, x.Params, x.Frame, x.Init, x.Locs, x.Start, x.Final, x.Active, x.Prio, x.Provided, ())) (Ev.cons Ev.str (Ev.cons (Ev.int .i64) (Ev.cons evL_Type (Ev.cons evL_Int (Ev.cons evL_Loc (Ev.cons (Ev.int .i64) (Ev.cons (Ev.int .i64) (Ev.cons (Ev.int .i64) (Ev.cons (Ev.int .i64) (Ev.cons (Ev.int .i64) Ev.unit))))))))))).imp (fun _ => rfl) fun _ ⟨h0, h1, h2, h3, h4, h5, h6, h7, h8, h9, _⟩ => ⟨h0, h1, h2, h3, h4, h5, h6, h7, h8, h9⟩
instance : Inhabited D.Dim := ⟨⟨0, 0, 0⟩⟩
def enc_Dim (x : D.Dim) : List VV := [intV x.I, intV x.Len, intV x.Stride]
structure wf_Dim (x : D.Dim) : Prop where
  I : Ev.wInt .i64 x.I
  Len : Ev.wInt .i64 x.Len
  Stride : Ev.wInt .i64 x.Stride
theorem ev_Dim : Ev p_Dim enc_Dim wf_Dim := (Ev.via (fun x : D.Dim => (x.I, x.Len, x.Stride, ())) (Ev.cons (Ev.int .i64) (Ev.cons (Ev.int .i64) (Ev.cons (Ev.int .i64) Ev.unit)))).imp (fun _ => rfl) fun _ ⟨h0, h1, h2, _⟩ => ⟨h0, h1, h2⟩
def encL_Dim (fz : Bool) (l : List D.Dim) : VV := .sl fz l.length 3 fun i => enc_Dim (l.getD i default)
def wfL_Dim (l : List D.Dim) : Prop := l.length ≤ 1048576 ∧ ∀ y ∈ l, wf_Dim y
theorem evL_Dim : Ev (Pkg.slice 3 24 p_Dim) (fun l => [encL_Dim true l]) wfL_Dim := Ev.slice default ev_Dim (fun _ => rfl) (fun _ => Nat.succ_le_succ (Nat.zero_le _))
instance : Inhabited D.Var := ⟨⟨0, 0, 0, 0, []⟩⟩
def enc_Var (x : D.Var) : List VV := [intV x.Scope, intV x.Slot, intV x.Who, intV x.Type_, encL_Dim true x.Dims]
structure wf_Var (x : D.Var) : Prop where
  Scope : Ev.wInt .i64 x.Scope
  Slot : Ev.wInt .i64 x.Slot
  Who : Ev.wInt .i64 x.Who
  Type_ : Ev.wInt .i64 x.Type_
  Dims : wfL_Dim x.Dims
theorem ev_Var : Ev p_Var enc_Var wf_Var := (Ev.via (fun x : D.Var => (x.Scope, x.Slot, x.Who, x.Type_, x.Dims, ())) (Ev.cons (Ev.int .i64) (Ev.cons (Ev.int .i64) (Ev.cons (Ev.int .i64) (Ev.cons (Ev.int .i64) (Ev.cons evL_Dim Ev.unit)))))).imp (fun _ => rfl) fun _ ⟨h0, h1, h2, h3, h4, _⟩ => ⟨h0, h1, h2, h3, h4⟩
instance : Inhabited D.Expr := ⟨⟨0, 0, 0, 0, 0, default, [], []⟩⟩
def enc_Expr (x : D.Expr) : List VV := [intV x.Op, intV x.N, intV x.A, intV x.B, intV x.C, intV x.V.Scope, intV x.V.Slot, intV x.V.Who, intV x.V.Type_, encL_Dim true x.V.Dims, encL_Int true x.Args, encL_Int true x.Match]
structure wf_Expr (x : D.Expr) : Prop where
  Op : Ev.wInt .i64 x.Op
  N : Ev.wInt .i64 x.N
  A : Ev.wInt .i64 x.A
  B : Ev.wInt .i64 x.B
  C : Ev.wInt .i64 x.C
  V : wf_Var x.V
  Args : wfL_Int x.Args
  Match : wfL_Int x.Match
theorem ev_Expr : Ev p_Expr enc_Expr wf_Expr := (Ev.via (fun x : D.Expr => (x.Op, x.N, x.A, x.B, x.C, x.V, x.Args, x.Match, ())) (Ev.cons (Ev.int .i64) (Ev.cons (Ev.int .i64) (Ev.cons (Ev.int .i64) (Ev.cons (Ev.int .i64) (Ev.cons (Ev.int .i64) (Ev.cons ev_Var (Ev.cons evL_Int (Ev.cons evL_Int Ev.unit))))))))).imp (fun _ => rfl) fun _ ⟨h0, h1, h2, h3, h4, h5, h6, h7, _⟩ => ⟨h0, h1, h2, h3, h4, h5, h6, h7⟩
def encL_Shape (fz : Bool) (l : List D.Shape) : VV := .sl fz l.length 2 fun i => enc_Shape (l.getD i default)
def wfL_Shape (l : List D.Shape) : Prop := l.length ≤ 1048576 ∧ ∀ y ∈ l, wf_Shape y
theorem evL_Shape : Ev (Pkg.slice 2 32 p_Shape) (fun l => [encL_Shape true l]) wfL_Shape := Ev.slice default ev_Shape (fun _ => rfl) (fun _ => Nat.succ_le_succ (Nat.zero_le _))
def encL_Proc (fz : Bool) (l : List D.Proc) : VV := .sl fz l.length 10 fun i => enc_Proc (l.getD i default)
def wfL_Proc (l : List D.Proc) : Prop := l.length ≤ 1048576 ∧ ∀ y ∈ l, wf_Proc y
theorem evL_Proc : Ev (Pkg.slice 10 136 p_Proc) (fun l => [encL_Proc true l]) wfL_Proc := Ev.slice default ev_Proc (fun _ => rfl) (fun _ => Nat.succ_le_succ (Nat.zero_le _))
def encL_Expr (fz : Bool) (l : List D.Expr) : VV := .sl fz l.length 12 fun i => enc_Expr (l.getD i default)
def wfL_Expr (l : List D.Expr) : Prop := l.length ≤ 1048576 ∧ ∀ y ∈ l, wf_Expr y
theorem evL_Expr : Ev (Pkg.slice 12 144 p_Expr) (fun l => [encL_Expr true l]) wfL_Expr := Ev.slice default ev_Expr (fun _ => rfl) (fun _ => Nat.succ_le_succ (Nat.zero_le _))
instance : Inhabited D.Model := ⟨⟨[], [], [], [], [], 0, []⟩⟩
def enc_Model (x : D.Model) : List VV := [encL_Type true x.Globals, encL_Int true x.Init, encL_Shape true x.Shapes, encL_Int true x.Chans, encL_Proc true x.Procs, intV x.Claim, encL_Expr true x.Exprs]
structure wf_Model (x : D.Model) : Prop where
  Globals : wfL_Type x.Globals
  Init : wfL_Int x.Init
  Shapes : wfL_Shape x.Shapes
  Chans : wfL_Int x.Chans
  Procs : wfL_Proc x.Procs
  Claim : Ev.wInt .i64 x.Claim
  Exprs : wfL_Expr x.Exprs
theorem ev_Model : Ev p_Model enc_Model wf_Model := (Ev.via (fun x : D.Model => (x.Globals, x.Init, x.Shapes, x.Chans, x.Procs, x.Claim, x.Exprs, ())) (Ev.cons evL_Type (Ev.cons evL_Int (Ev.cons evL_Shape (Ev.cons evL_Int (Ev.cons evL_Proc (Ev.cons (Ev.int .i64) (Ev.cons evL_Expr Ev.unit)))))))).imp (fun _ => rfl) fun _ ⟨h0, h1, h2, h3, h4, h5, h6, _⟩ => ⟨h0, h1, h2, h3, h4, h5, h6⟩
def encL_Ints (fz : Bool) (l : List (List Int)) : VV := .sl fz l.length 1 fun i => [encL_Int true (l.getD i [])]
def wfL_Ints (l : List (List Int)) : Prop := l.length ≤ 1048576 ∧ ∀ y ∈ l, wfL_Int y
theorem evL_Ints : Ev (Pkg.slice 1 24 (Pkg.slice 1 8 (Pkg.int .i64))) (fun l => [encL_Ints true l]) wfL_Ints := Ev.slice [] evL_Int (fun _ => rfl) (fun _ => Ev.one_sum _)
instance : Inhabited D.Chan := ⟨⟨0, []⟩⟩
def enc_Chan (x : D.Chan) : List VV := [intV x.Shape, encL_Ints true x.Queue]
structure wf_Chan (x : D.Chan) : Prop where
  Shape : Ev.wInt .i64 x.Shape
  Queue : wfL_Ints x.Queue
theorem ev_Chan : Ev p_Chan enc_Chan wf_Chan := (Ev.via (fun x : D.Chan => (x.Shape, x.Queue, ())) (Ev.cons (Ev.int .i64) (Ev.cons evL_Ints Ev.unit))).imp (fun _ => rfl) fun _ ⟨h0, h1, _⟩ => ⟨h0, h1⟩
instance : Inhabited D.Process := ⟨⟨0, 0, 0, []⟩⟩
def enc_Process (x : D.Process) : List VV := [intV x.Type_, intV x.Loc, intV x.Prio, encL_Int true x.Frame]
structure wf_Process (x : D.Process) : Prop where
  Type_ : Ev.wInt .i64 x.Type_
  Loc : Ev.wInt .i64 x.Loc
  Prio : Ev.wInt .i64 x.Prio
  Frame : wfL_Int x.Frame
theorem ev_Process : Ev p_Process enc_Process wf_Process := (Ev.via (fun x : D.Process => (x.Type_, x.Loc, x.Prio, x.Frame, ())) (Ev.cons (Ev.int .i64) (Ev.cons (Ev.int .i64) (Ev.cons (Ev.int .i64) (Ev.cons evL_Int Ev.unit))))).imp (fun _ => rfl) fun _ ⟨h0, h1, h2, h3, _⟩ => ⟨h0, h1, h2, h3⟩
def encL_Chan (fz : Bool) (l : List D.Chan) : VV := .sl fz l.length 2 fun i => enc_Chan (l.getD i default)
def wfL_Chan (l : List D.Chan) : Prop := l.length ≤ 1048576 ∧ ∀ y ∈ l, wf_Chan y
theorem evL_Chan : Ev (Pkg.slice 2 32 p_Chan) (fun l => [encL_Chan true l]) wfL_Chan := Ev.slice default ev_Chan (fun _ => rfl) (fun _ => Nat.succ_le_succ (Nat.zero_le _))
def encL_Process (fz : Bool) (l : List D.Process) : VV := .sl fz l.length 4 fun i => enc_Process (l.getD i default)
def wfL_Process (l : List D.Process) : Prop := l.length ≤ 1048576 ∧ ∀ y ∈ l, wf_Process y
theorem evL_Process : Ev (Pkg.slice 4 48 p_Process) (fun l => [encL_Process true l]) wfL_Process := Ev.slice default ev_Process (fun _ => rfl) (fun _ => Nat.succ_le_succ (Nat.zero_le _))
instance : Inhabited D.State := ⟨⟨[], [], [], 0, 0, 0⟩⟩
def enc_State (x : D.State) : List VV := [encL_Int true x.Globals, encL_Chan true x.Chans, encL_Process true x.Procs, intV x.Last, intV x.Alone, intV x.Claim]
structure wf_State (x : D.State) : Prop where
  Globals : wfL_Int x.Globals
  Chans : wfL_Chan x.Chans
  Procs : wfL_Process x.Procs
  Last : Ev.wInt .i64 x.Last
  Alone : Ev.wInt .i64 x.Alone
  Claim : Ev.wInt .i64 x.Claim
theorem ev_State : Ev p_State enc_State wf_State := (Ev.via (fun x : D.State => (x.Globals, x.Chans, x.Procs, x.Last, x.Alone, x.Claim, ())) (Ev.cons evL_Int (Ev.cons evL_Chan (Ev.cons evL_Process (Ev.cons (Ev.int .i64) (Ev.cons (Ev.int .i64) (Ev.cons (Ev.int .i64) Ev.unit))))))).imp (fun _ => rfl) fun _ ⟨h0, h1, h2, h3, h4, h5, _⟩ => ⟨h0, h1, h2, h3, h4, h5⟩
def encL_Bool (fz : Bool) (l : List Bool) : VV := .sl fz l.length 1 fun i => [boolV (l.getD i false)]
def wfL_Bool (l : List Bool) : Prop := l.length ≤ 1048576 ∧ ∀ y ∈ l, True
theorem evL_Bool : Ev (Pkg.slice 1 1 Pkg.bool) (fun l => [encL_Bool true l]) wfL_Bool := Ev.slice false Ev.bool (fun _ => rfl) (fun _ => Nat.le_refl _)
instance : Inhabited D.Env := ⟨⟨default, default, 0, false, []⟩⟩
def enc_Env (x : D.Env) : List VV := [encL_Type true x.M.Globals, encL_Int true x.M.Init, encL_Shape true x.M.Shapes, encL_Int true x.M.Chans, encL_Proc true x.M.Procs, intV x.M.Claim, encL_Expr true x.M.Exprs, encL_Int true x.S.Globals, encL_Chan true x.S.Chans, encL_Process true x.S.Procs, intV x.S.Last, intV x.S.Alone, intV x.S.Claim, intV x.Pid, boolV x.Timeout, encL_Bool true x.Able]
structure wf_Env (x : D.Env) : Prop where
  M : wf_Model x.M
  S : wf_State x.S
  Pid : Ev.wInt .i64 x.Pid
  Timeout : True
  Able : wfL_Bool x.Able
theorem ev_Env : Ev p_Env enc_Env wf_Env := (Ev.via (fun x : D.Env => (x.M, x.S, x.Pid, x.Timeout, x.Able, ())) (Ev.cons ev_Model (Ev.cons ev_State (Ev.cons (Ev.int .i64) (Ev.cons Ev.bool (Ev.cons evL_Bool Ev.unit)))))).imp (fun _ => rfl) fun _ ⟨h0, h1, h2, h3, h4, _⟩ => ⟨h0, h1, h2, h3, h4⟩
end Go.Proofs.YthmhbmikcdfkcaaDoor
/-
  Layer 11 in plain terms: which models may be run, as the program's package good says.
-/
namespace Go.Proofs.YthmhbmikcdfkcaaDoor
open Go.RowKit

/-! ### All below a number -/
/-- All numbers below n are such. -/
def allI (n : Nat) (f : Nat → Bool) : Bool := (List.range n).all f
/-- The first one below n that is not such; -1: all are. -/
def badI (n : Nat) (f : Nat → Bool) : Int :=
  match (List.range n).find? fun i => !f i with
  | some i => (i : Int)
  | none => -1
theorem allI_iff {n : Nat} {f : Nat → Bool} : allI n f = true ↔ ∀ i, i < n → f i = true := by simp [allI]
theorem allI_no {n k : Nat} {f : Nat → Bool} (hk : k < n) (h : f k = false) : allI n f = false := by
  cases ha : allI n f with
  | false => rfl
  | true => have := allI_iff.1 ha k hk; rw [h] at this; cases this
theorem badI_none {n : Nat} {f : Nat → Bool} (h : ∀ i, i < n → f i = true) : badI n f = -1 := by
  unfold badI
  split
  · rename_i i hi
    have h1 := List.find?_some hi
    have h2 := List.mem_of_find?_eq_some hi
    rw [h i (List.mem_range.1 h2)] at h1; cases h1
  · rfl
theorem badI_some {n k : Nat} {f : Nat → Bool} (h : ∀ i, i < k → f i = true) (hk : k < n) (hf : f k = false) : badI n f = k := by
  unfold badI
  split
  · rename_i i hi
    rw [List.find?_range_eq_some] at hi
    obtain ⟨h1, h2, h3⟩ := hi
    by_cases hik : i < k
    · rw [h i hik] at h1; cases h1
    · by_cases hki : k < i
      · have := h3 k hki; rw [hf] at this; cases this
      · congr 1; omega
  · rename_i hi
    rw [List.find?_eq_none] at hi
    have := hi k (List.mem_range.2 hk)
    rw [hf] at this; simp at this
theorem badI_cases {n : Nat} {f : Nat → Bool} : (badI n f = -1 ∧ ∀ i, i < n → f i = true) ∨ (∃ k, k < n ∧ badI n f = (k : Int) ∧ f k = false) := by
  unfold badI
  split
  · rename_i i hi
    refine .inr ⟨i, List.mem_range.1 (List.mem_of_find?_eq_some hi), rfl, ?_⟩
    simpa using List.find?_some hi
  · rename_i hi
    rw [List.find?_eq_none] at hi
    exact .inl ⟨rfl, fun i h => by simpa using hi i (List.mem_range.2 h)⟩

/-! ### Types, shapes -/
def typP (t : D.Type) : Bool := decide (1 ≤ t.Bits) && (decide (t.Bits ≤ 32) && (!t.Signed || (decide (t.Bits = 16) || decide (t.Bits = 32))))
def fitsP (t : D.Type) (v : Int) : Bool :=
  typP t && bif t.Signed then decide (-(2 ^ (t.Bits - 1).toNat) ≤ v) && decide (v < 2 ^ (t.Bits - 1).toNat) else decide (0 ≤ v) && decide (v < 2 ^ t.Bits.toNat)
def dimBad (d : D.Dim) : Bool := decide (d.Len < 1) || (decide (1073741824 < d.Len - 1) || (decide (d.Stride < 0) || decide (1073741824 < d.Stride)))
def reachL : Int → List D.Dim → Int
  | n, [] => n
  | n, d :: l => bif dimBad d then 0 else reachL (n + (d.Len - 1) * d.Stride) l
def reachP (v : D.Var) : Int := bif decide (v.Slot < 0) || (decide (1073741824 < v.Slot) || decide (4 < v.Dims.length)) then 0 else reachL (v.Slot + 1) v.Dims
def typesP (t : List D.Type) (init : List Int) : Int := badI t.length fun i => fitsP (t.getD i default) (init.getD i 0)
def shapeP (s : D.Shape) : Bool := decide (0 ≤ s.Room) && decide (s.Room ≤ 16) && decide (1 ≤ s.Fields.length) && decide (s.Fields.length ≤ 8) && allI s.Fields.length fun i => typP (s.Fields.getD i default)

/-! ### Expressions -/
def procP (m : D.Model) (n : Int) : Bool := decide (0 ≤ n) && decide (n < m.Procs.length) && decide (n ≠ m.Claim)
def inP (at' x : Int) : Bool := decide (0 ≤ x) && decide (x < at')
def belowP (at' : Int) (l : List Int) : Bool := allI l.length fun i => inP at' (l.getD i 0)
def dimP (at' : Int) (d : D.Dim) : Bool := inP at' d.I && decide (1 ≤ d.Len) && decide (d.Len ≤ 128) && decide (0 ≤ d.Stride) && decide (d.Stride ≤ 128)
def variableP (m : D.Model) (at' : Int) (v : D.Var) : Bool :=
  decide (0 ≤ v.Scope) && decide (v.Scope ≤ 2) && decide (0 ≤ v.Slot) && decide (v.Slot ≤ 128) && decide (v.Dims.length ≤ 4) &&
  (bif decide (v.Scope = 2) then inP at' v.Who && procP m v.Type_ else decide (v.Who = -1) && decide (v.Type_ = -1)) && allI v.Dims.length fun i => dimP at' (v.Dims.getD i default)
def partsP (op : Int) : Nat := if op = 1 ∨ op = 2 ∨ op = 31 ∨ op = 32 ∨ op = 33 ∨ op = 34 ∨ op = 35 ∨ op = 39 then 0 else if op = 24 then 3 else if 6 ≤ op ∧ op ≤ 23 then 2 else 1
def exAt (m : D.Model) (k : Int) : D.Expr := m.Exprs.getD k.toNat default
def matchP (m : D.Model) (a k : Int) : Bool := decide (-1 ≤ k) && decide (k ≤ 1) && !(decide (k = 0) && decide ((exAt m a).Op ≠ 2))
def matchedP (m : D.Model) (at' : Int) (args mt : List Int) : Bool :=
  decide (1 ≤ args.length) && decide (args.length ≤ 8) && decide (mt.length = args.length) && belowP at' args && allI mt.length fun i => matchP m (args.getD i 0) (mt.getD i 0)
def locsOf (m : D.Model) (n : Int) : List D.Loc := (m.Procs.getD n.toNat default).Locs
def placesP (m : D.Model) (x : D.Expr) : Bool := decide (0 ≤ x.N) && decide (x.N < 1073741824) && procP m x.N && decide (1 ≤ x.Args.length) && belowP (locsOf m x.N).length x.Args
def partP (at' : Int) (op : Int) (i : Nat) (p : Int) : Bool := bif decide (i < partsP op) then inP at' p else decide (p = -1)
def exprP (m : D.Model) (at' : Int) : Bool :=
  let x := exAt m at'
  decide (1 ≤ x.Op) && decide (x.Op ≤ 39) && (partP at' x.Op 0 x.A && partP at' x.Op 1 x.B && partP at' x.Op 2 x.C) &&
  (if x.Op = 1 then fitsP ⟨32, true⟩ x.N else if x.Op = 2 then variableP m at' x.V else if x.Op = 30 then matchedP m at' x.Args x.Match && (decide (x.N = 0) || decide (x.N = 1))
   else if x.Op = 38 then placesP m x else if x.Op = 39 then decide (0 ≤ x.N) && decide (x.N < 1073741824) && procP m x.N && decide ((x.Args.length : Int) = (m.Procs.getD x.N.toNat default).Params) && belowP at' x.Args else true)
def heldP (x : D.Expr) : List Int :=
  [x.A, x.B, x.C].take (partsP x.Op) ++ ((if x.Op = 30 ∨ x.Op = 39 then x.Args else []) ++ (if x.Op = 2 then (if x.V.Scope = 2 then [x.V.Who] else []) ++ x.V.Dims.map D.Dim.I else []))

/-! ### Places -/
def waysP (l : D.Loc) : List (List D.Trans) := l.Out :: l.Esc
def frameP (p : D.Proc) : Bool :=
  decide (p.Frame.length ≤ 128) && decide (p.Init.length = p.Frame.length) && decide (typesP p.Frame p.Init < 0) && decide (0 ≤ p.Params) && decide (p.Params ≤ p.Frame.length) && decide (0 ≤ p.Active) && decide (p.Active ≤ 16) && decide (1 ≤ p.Prio) && decide (p.Prio ≤ 255)
/-- One place's ways: how many there are then; none: no. -/
def waysOk (n : Nat) (many : Nat) (k : Nat) : List (List D.Trans) → Option Nat
  | [] => some many
  | w :: r => bif decide (0 < k) && decide (w.length = 0) then none else bif decide (1024 < many + w.length) then none
      else bif allI w.length (fun i => inP n (w.getD i default).To) then waysOk n (many + w.length) (k + 1) r else none
def locBad (final : Int) (i : Nat) (l : D.Loc) : Bool := decide (8 < l.Esc.length) || (l.Dstep && l.Atomic) || (decide ((i : Int) = final) && decide (0 < l.Out.length + l.Esc.length))
def locsOk (n : Nat) (final : Int) (many : Nat) (i : Nat) : List D.Loc → Bool
  | [] => true
  | l :: r => bif locBad final i l then false else match waysOk n many 0 (waysP l) with
    | some many' => locsOk n final many' (i + 1) r
    | none => false
def graphP (p : D.Proc) : Bool :=
  decide (1 ≤ p.Locs.length) && decide (p.Locs.length ≤ 256) && inP p.Locs.length p.Start && inP p.Locs.length p.Final && locsOk p.Locs.length p.Final 0 0 p.Locs
def plainLoc (l : D.Loc) : Bool := decide (l.Esc.length = 0) && !l.Atomic && !l.Dstep
def claimedP (p : D.Proc) : Bool :=
  decide (p.Frame.length = 0) && decide (p.Params ≤ 0) && decide (p.Active ≤ 0) && decide (p.Provided = -1) && allI p.Locs.length fun i => plainLoc (p.Locs.getD i default)

/-! ### Statements -/
def emptyP (s : D.Stmt) (args n text : Bool) : Bool := (!args || decide (s.Args.length + s.Match.length = 0)) && (!n || decide (s.N = 0)) && (!text || decide (s.Text.size = 0))
def placeP (m : D.Model) (a : Int) : Bool := inP m.Exprs.length a
def targetP (m : D.Model) (a : Int) : Bool := placeP m a && decide ((exAt m a).Op = 2) && decide ((exAt m a).V.Scope ≠ 2)
def takenP (m : D.Model) (s : D.Stmt) : Bool := matchedP m m.Exprs.length s.Args s.Match && allI s.Match.length fun i => !decide (s.Match.getD i 0 = 0) || targetP m (s.Args.getD i 0)
def statementP (m : D.Model) (s : D.Stmt) : Bool :=
  if s.Kind = 1 ∨ s.Kind = 3 then placeP m s.A && decide (s.B = -1) && emptyP s true true true
  else if s.Kind = 2 then targetP m s.A && placeP m s.B && emptyP s true true true
  else if s.Kind = 4 then decide (s.A = -1) && decide (s.B = -1) && belowP m.Exprs.length s.Args && decide (s.Match.length = 0) && decide (s.Text.size ≤ 256) && decide (s.N = 0)
  else if s.Kind = 5 then placeP m s.A && decide (s.B = -1) && decide (1 ≤ s.Args.length) && decide (s.Args.length ≤ 8) && belowP m.Exprs.length s.Args && decide (s.Match.length = 0) && (decide (s.N = 0) || decide (s.N = 1)) && decide (s.Text.size = 0)
  else if s.Kind = 6 then placeP m s.A && decide (s.B = -1) && takenP m s && decide (0 ≤ s.N) && decide (s.N ≤ 3) && decide (s.Text.size = 0)
  else if s.Kind = 7 ∨ s.Kind = 8 then decide (s.A = -1) && decide (s.B = -1) && emptyP s true true true
  else if s.Kind = 9 then targetP m s.A && decide (s.B = -1) && decide (0 ≤ s.N) && decide (s.N < m.Shapes.length) && emptyP s true false true
  else false

/-! ### What is used -/
def slotsP (m : D.Model) (i : Int) (v : D.Var) : Int :=
  if v.Scope = 0 then m.Globals.length else if v.Scope = 1 then (m.Procs.getD i.toNat default).Frame.length else (m.Procs.getD v.Type_.toNat default).Frame.length
/-- What may not be used. -/
def useBad (m : D.Model) (i run k : Int) : Bool :=
  let x := exAt m k
  (decide (x.Op = 39) && decide (k ≠ run)) || (decide (i = m.Claim) && (decide (x.Op = 31) || (decide (x.Op = 39) || (decide (x.Op = 2) && decide (x.V.Scope = 1))))) || (decide (x.Op = 2) && decide (slotsP m i x.V < reachP x.V))
/-- Through the list of what is to be looked at. -/
def usesL (m : D.Model) (i run : Int) : Nat → List Bool → List Int → Bool
  | _, _, [] => true
  | 0, _, _ => true
  | g + 1, seen, k :: r => bif seen.getD k.toNat false then usesL m i run g seen r else bif useBad m i run k then false else usesL m i run g (seen.set k.toNat true) (r ++ heldP (exAt m k))
/-- How much is still to be looked at. -/
def load (m : D.Model) (seen : List Bool) : Nat := ((List.range m.Exprs.length).map fun k => bif seen.getD k false then 0 else (heldP (m.Exprs.getD k default)).length).sum
def noneSeen (m : D.Model) : List Bool := List.replicate m.Exprs.length false
def usesP (m : D.Model) (i : Int) (list : List Int) (run : Int) : Bool := usesL m i run (list.length + load m (noneSeen m) + 1) (noneSeen m) list
def wayP (m : D.Model) (i : Int) (s : D.Stmt) : Bool :=
  statementP m s && !(decide (i = m.Claim) && (decide (s.Kind ≠ 1) && (decide (s.Kind ≠ 3) && (decide (s.Kind ≠ 7) && decide (s.Kind ≠ 8))))) &&
  usesP m i (s.Args ++ ((if 0 ≤ s.A then [s.A] else []) ++ (if 0 ≤ s.B then [s.B] else []))) (if s.Kind = 1 then s.A else if s.Kind = 2 then s.B else -1)
def transP (m : D.Model) (i : Int) (w : List D.Trans) : Bool := allI w.length fun k => wayP m i (w.getD k default).S
def locP (m : D.Model) (i : Int) (l : D.Loc) : Bool := allI (waysP l).length fun k => transP m i ((waysP l).getD k [])
def procAllP (m : D.Model) (i : Int) : Bool :=
  let p := m.Procs.getD i.toNat default
  (allI p.Locs.length fun k => locP m i (p.Locs.getD k default)) && (decide (p.Provided < 0) || usesP m i [p.Provided] (-1))

/-! ### All of a model -/
/-- The parts of one expression, among those that are had; none: one was had. -/
def hadL : List Bool → List Int → Option (List Bool)
  | had, [] => some had
  | had, p :: r => bif had.getD p.toNat false then none else hadL (had.set p.toNat true) r
def exprsL (m : D.Model) : Nat → Nat → List Bool → Int
  | 0, _, _ => -1
  | g + 1, i, had => bif exprP m i then (match hadL had (heldP (m.Exprs.getD i default)) with
    | some had' => exprsL m g (i + 1) had'
    | none => i) else i
def shapesP (m : D.Model) : Int := badI m.Shapes.length fun i => shapeP (m.Shapes.getD i default)
def chansP (m : D.Model) : Int := badI m.Chans.length fun i => inP m.Shapes.length (m.Chans.getD i 0)
def exprsP (m : D.Model) : Int := exprsL m m.Exprs.length 0 (noneSeen m)
def tablesP (m : D.Model) : Int × Int :=
  bif decide (128 < m.Globals.length) || !decide (m.Init.length = m.Globals.length) then (1, -1)
  else bif decide (0 ≤ typesP m.Globals m.Init) then (1, typesP m.Globals m.Init)
  else bif decide (32 < m.Shapes.length) || decide (32 < m.Chans.length) then (2, -1)
  else bif decide (0 ≤ shapesP m) then (2, shapesP m)
  else bif decide (0 ≤ chansP m) then (2, chansP m)
  else bif decide (m.Procs.length < 1) || (decide (16 < m.Procs.length) || (decide (m.Claim < -1) || (decide ((m.Procs.length : Int) ≤ m.Claim) || decide (4096 < m.Exprs.length)))) then (3, -1)
  else bif decide (0 ≤ exprsP m) then (3, exprsP m) else (0, 0)
def frameBad (m : D.Model) (i : Nat) : Bool :=
  let p := m.Procs.getD i default
  !frameP p || (!graphP p || (decide (p.Provided < -1) || (decide ((m.Exprs.length : Int) ≤ p.Provided) || (decide ((i : Int) = m.Claim) && !claimedP p))))
def framesP (m : D.Model) : Int := badI m.Procs.length fun i => !frameBad m i
def manyP (m : D.Model) (k : Nat) : Int := ((m.Procs.take k).map D.Proc.Active).sum
def procsP (m : D.Model) : Int := badI m.Procs.length fun i => procAllP m i
def checkP (m : D.Model) : Int × Int × Int :=
  bif decide (0 < (tablesP m).1) then (40, tablesP m) else bif decide (0 ≤ framesP m) then (40, 4, framesP m) else bif decide (16 < manyP m m.Procs.length) then (40, 5, -1)
  else bif decide (0 ≤ procsP m) then (40, 6, procsP m) else (0, 0, 0)
end Go.Proofs.YthmhbmikcdfkcaaDoor
/-
  Layer 11 in plain terms: what follows of what was looked at; how much is still to be looked at.
-/
namespace Go.Proofs.YthmhbmikcdfkcaaDoor
open Go.RowKit

theorem inP_iff {a x : Int} : inP a x = true ↔ 0 ≤ x ∧ x < a := by simp [inP]
theorem getD_in {α : Type} {l : List α} {i : Nat} {d : α} (h : i < l.length) : l.getD i d ∈ l := by simp [List.getD, h]
theorem allL_iff {α : Type} {l : List α} {d : α} {f : α → Bool} : allI l.length (fun i => f (l.getD i d)) = true ↔ ∀ x ∈ l, f x = true := by
  rw [allI_iff]
  refine ⟨fun h x hx => ?_, fun h i hi => h _ (getD_in hi)⟩
  obtain ⟨i, hi, rfl⟩ := List.mem_iff_getElem.1 hx
  have := h i hi
  simpa [List.getD, hi] using this
theorem belowP_iff {a : Int} {l : List Int} : belowP a l = true ↔ ∀ x ∈ l, 0 ≤ x ∧ x < a := by
  unfold belowP
  rw [allL_iff (f := fun x => inP a x)]
  exact ⟨fun h x hx => inP_iff.1 (h x hx), fun h x hx => inP_iff.2 (h x hx)⟩
theorem parts_le (op : Int) : partsP op ≤ 3 := by unfold partsP; split <;> (try split) <;> (try split) <;> omega
theorem held_in {m : D.Model} {i : Int} (h : exprP m i = true) : ∀ p ∈ heldP (exAt m i), 0 ≤ p ∧ p < i := by
  unfold exprP at h
  simp only [Bool.and_eq_true] at h
  obtain ⟨⟨⟨_, _⟩, ⟨hA, hB⟩, hC⟩, hO⟩ := h
  generalize exAt m i = x at *
  intro p hp
  unfold heldP at hp
  simp only [List.mem_append] at hp
  rcases hp with hp | hp | hp
  · have h3 := parts_le x.Op
    unfold partP at hA hB hC
    rcases (show partsP x.Op = 0 ∨ partsP x.Op = 1 ∨ partsP x.Op = 2 ∨ partsP x.Op = 3 by omega) with e | e | e | e <;> rw [e] at hp hA hB hC <;> simp [inP] at hp hA hB hC
    · subst hp; omega
    · rcases hp with rfl | rfl <;> omega
    · rcases hp with rfl | rfl | rfl <;> omega
  · split at hp
    · rename_i h30
      rcases h30 with h30 | h39
      · rw [if_neg (by omega), if_neg (by omega), if_pos h30] at hO
        simp only [Bool.and_eq_true, matchedP] at hO
        exact belowP_iff.1 hO.1.1.2 p hp
      · rw [if_neg (by omega), if_neg (by omega), if_neg (by omega), if_neg (by omega), if_pos h39] at hO
        simp only [Bool.and_eq_true] at hO
        exact belowP_iff.1 hO.2 p hp
    · cases hp
  · split at hp
    · rename_i h2
      rw [if_neg (by omega), if_pos h2] at hO
      simp only [Bool.and_eq_true, variableP] at hO
      obtain ⟨⟨_, hW⟩, hD⟩ := hO
      simp only [List.mem_append] at hp
      rcases hp with hp | hp
      · split at hp
        · rename_i hs
          simp only [List.mem_singleton] at hp
          subst hp
          simp only [hs, decide_true, cond_true, Bool.and_eq_true] at hW
          exact inP_iff.1 hW.1
        · cases hp
      · obtain ⟨d, hd, rfl⟩ := List.mem_map.1 hp
        have := (allL_iff (f := fun d => dimP i d)).1 hD d hd
        simp only [dimP, Bool.and_eq_true] at this
        exact inP_iff.1 this.1.1.1.1
    · cases hp

/-! ### How much is still to be looked at -/
theorem load_sum {m : D.Model} {seen : List Bool} {k : Nat} (hk : seen.getD k false = false) (hs : k < seen.length) : ∀ (l : List Nat), l.Nodup →
    (l.map fun j => bif seen.getD j false then 0 else (heldP (m.Exprs.getD j default)).length).sum = (l.map fun j => bif (seen.set k true).getD j false then 0 else (heldP (m.Exprs.getD j default)).length).sum + (if k ∈ l then (heldP (m.Exprs.getD k default)).length else 0)
  | [], _ => rfl
  | j :: l, hn => by
    have ih := load_sum (m := m) hk hs l (List.nodup_cons.1 hn).2
    have hj := (List.nodup_cons.1 hn).1
    simp only [List.map_cons, List.sum_cons, ih]
    by_cases hjk : k = j
    · subst hjk
      have h1 : (seen.set k true).getD k false = true := by simp [List.getD, hs]
      rw [h1, hk, if_neg hj, if_pos (List.mem_cons_self ..)]
      simp only [cond_true, cond_false]; omega
    · have h1 : (seen.set k true).getD j false = seen.getD j false := by simp [List.getD, List.getElem?_set, hjk]
      have h2 : (k ∈ j :: l) = (k ∈ l) := by simp [hjk]
      rw [h1]
      simp only [h2]; omega
theorem load_set {m : D.Model} {seen : List Bool} {k : Nat} (hk : seen.getD k false = false) (hs : k < seen.length) (hm : seen.length = m.Exprs.length) : load m seen = load m (seen.set k true) + (heldP (m.Exprs.getD k default)).length := by
  unfold load
  rw [load_sum hk hs _ List.nodup_range, if_pos (List.mem_range.2 (by omega))]
theorem held_len {x : D.Expr} (h1 : x.Args.length ≤ 1048576) (h2 : x.V.Dims.length ≤ 1048576) : (heldP x).length ≤ 2097156 := by
  unfold heldP
  simp only [List.length_append, List.length_take, List.length_cons, List.length_nil]
  split <;> split <;> (try split) <;> simp <;> omega
theorem load_le {m : D.Model} (h : ∀ x ∈ m.Exprs, x.Args.length ≤ 1048576 ∧ x.V.Dims.length ≤ 1048576) (seen : List Bool) : load m seen ≤ m.Exprs.length * 2097156 := by
  unfold load
  have : ∀ (l : List Nat), (∀ j ∈ l, j < m.Exprs.length) → (l.map fun k => bif seen.getD k false then 0 else (heldP (m.Exprs.getD k default)).length).sum ≤ l.length * 2097156 := by
    intro l
    induction l with
    | nil => intro _; simp
    | cons j l ih =>
      intro hl
      have h1 := ih fun i hi => hl i (List.mem_cons_of_mem _ hi)
      have h2 := h _ (getD_in (d := default) (hl j (List.mem_cons_self ..)))
      have h3 := held_len h2.1 h2.2
      simp only [List.map_cons, List.sum_cons, List.length_cons]
      cases seen.getD j false <;> simp only [cond_true, cond_false] <;> omega
  have h1 := this (List.range m.Exprs.length) fun j hj => List.mem_range.1 hj
  simpa using h1
end Go.Proofs.YthmhbmikcdfkcaaDoor
/-
  A loop that counts: what holds at each round.
-/
namespace Go.Proofs.YthmhbmikcdfkcaaDoor
open Go.RowKit

theorem wrap_id {n : Int} (h1 : -9223372036854775808 ≤ n) (h2 : n ≤ 9223372036854775807) : IntKind.i64.wrap n = n := IntWalk.i64_in n ⟨h1, h2⟩
theorem wrap_succ {k : Nat} (h : k ≤ 4611686018427387904) : IntKind.i64.wrap ((k : Int) + 1) = ((k + 1 : Nat) : Int) := by rw [wrap_id (by omega) (by omega)]; omega
theorem getD_mem {α : Type} {l : List α} {i : Nat} {d : α} (h : i < l.length) : l.getD i d ∈ l := by simp [List.getD, h]
/-- A loop that counts to n; I: what holds at the head. -/
theorem loop_idx {c : Ctx} (hT : TOk c.P c.T) (hmx : c.P.follows .mixedOrders = true) {rel : List Nat} (n : Nat) (S : Nat → St) (I : Nat → Prop) (hl : c.sub rel = .loop (subC (rel ++ [0]) c.code)) (hB : regsB c.N (subC (rel ++ [0]) c.code) = true) (h0 : I 0)
    (round : ∀ k, k ≤ n → I k → ∀ J : St → Prop, (∀ st', k < n → I (k + 1) → Up (fun s => s = S (k + 1)) st' → J st') → Asks ((c.loop rel J).goal (S k))) : SatC c rel (S 0) := by
  refine loop_raw hT hmx (fun g st => ∃ k, k ≤ n ∧ g = n - k ∧ I k ∧ st = S k) hl hB ⟨n, Up.of ⟨0, Nat.zero_le _, rfl, h0, rfl⟩⟩ ?_
  rintro g st ⟨k, hk, rfl, hI, rfl⟩
  refine round k hk hI _ fun st' hlt hI' hup => ⟨n - (k + 1), by omega, ?_⟩
  obtain ⟨s', hc, hs⟩ := hup
  exact ⟨s', hc, k + 1, hlt, rfl, hI', hs⟩
end Go.Proofs.YthmhbmikcdfkcaaDoor
