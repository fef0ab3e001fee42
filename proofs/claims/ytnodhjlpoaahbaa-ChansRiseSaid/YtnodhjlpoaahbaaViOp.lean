/-
  The operations on trees: what each yields, what must hold for it.
-/
import Derived.Test.YtnodhjlpoaahbaaViVal
import Derived.Laws.CopyRow
import Derived.Laws.Entries
import Derived.Deep.MidRow
namespace Go.Proofs.Ytnodhjlpoaahbaa
open Go.RowKit

/-! ### The table of types -/
inductive TK where
  | int (k : IntKind) | bool | str | sl (e : TypeId) | agg (fs : List (Nat × TypeId)) | arr (n : Nat) (e : TypeId) | fn | ptr | other
structure TE where
  k : TK
  sz : Nat
  zero : List VV
instance : Inhabited TE := ⟨.other, 0, []⟩

/-- A constant, as a tree: a nil slice is an empty one. -/
def litVV : Value → VV
  | .slice none 0 0 => .sl 0 0 fun _ => []
  | v => .sc v
def litC : Value → VV
  | .slice none 0 0 => .sl 0 0 fun _ => []
  | .agg cs => .agg (cs.toList.map litVV)
  | v => .sc v
theorem V.litVV {w : World} {A : Nat → Prop} {m : Option Phi} (v : Value) : V w A m (litVV v) v := by
  unfold Go.Proofs.Ytnodhjlpoaahbaa.litVV
  split
  · exact .nil (by decide)
  · exact .sc
theorem V.litC {w : World} {A : Nat → Prop} {m : Option Phi} (v : Value) : V w A m (litC v) v := by
  unfold Go.Proofs.Ytnodhjlpoaahbaa.litC
  split
  · exact .nil (by decide)
  · refine .agg (by simp) fun j x hx => ?_
    rename_i cs
    rw [List.getElem?_map] at hx
    obtain ⟨y, hy, rfl⟩ := Option.map_eq_some_iff.1 hx
    obtain ⟨hj, rfl⟩ := Array.getElem?_eq_some_iff.1 (by simpa using hy : cs[j]? = some y)
    have : cs.getD j undef = cs[j] := by simp [Array.getD, hj]
    rw [this]; exact V.litVV _
  · exact .sc

def kindOf : TypeDesc → TK
  | .int k => .int k
  | .bool => .bool
  | .string => .str
  | .slice e => .sl e
  | .struct fs => .agg (fs.toList.map fun f => (f.offset, f.type))
  | .array n e => .arr n e
  | .func .. => .fn
  | .pointer _ => .ptr
  | _ => .other
/-- The table's row, off the program. -/
def tabOf (P : Program) (t : TypeId) : TE :=
  match P.underlying t, P.info? t with
  | some d, some i =>
    match i.zero with
    | some z => ⟨kindOf d, i.size, z.cells.toList.map litVV⟩
    | none => ⟨.other, 0, []⟩
  | _, _ => ⟨.other, 0, []⟩
structure TOk (P : Program) (T : TypeId → TE) : Prop where
  h : ∀ t, T t = tabOf P t ∨ (T t).k = .other

theorem TOk.row {P : Program} {T : TypeId → TE} (hT : TOk P T) {t : TypeId} {k : TK} (hk : (T t).k = k) (hne : k ≠ .other) :
    ∃ d i z, P.underlying t = some d ∧ P.info? t = some i ∧ i.zero = some z ∧ kindOf d = k ∧ (T t).sz = i.size ∧ (T t).zero = z.cells.toList.map litVV := by
  rcases hT.h t with h | h
  · unfold tabOf at h
    split at h
    · rename_i d i hd hi
      split at h
      · rename_i z hz
        exact ⟨d, i, z, hd, hi, hz, by rw [← hk, h], by rw [h], by rw [h]⟩
      · rw [h] at hk; exact absurd hk.symm hne
    · rw [h] at hk; exact absurd hk.symm hne
  · exact absurd (hk.symm.trans h) hne
section
variable {P : Program} {T : TypeId → TE} {t : TypeId}
theorem TOk.int (hT : TOk P T) {k : IntKind} (h : (T t).k = .int k) : P.underlying t = some (.int k) := by
  obtain ⟨d, i, z, hd, _, _, hk, _⟩ := hT.row h (by simp)
  cases d <;> simp [kindOf] at hk
  rw [hd, hk]
theorem TOk.bool (hT : TOk P T) (h : (T t).k = .bool) : P.underlying t = some .bool := by
  obtain ⟨d, i, z, hd, _, _, hk, _⟩ := hT.row h (by simp)
  cases d <;> simp [kindOf] at hk
  exact hd
theorem TOk.str (hT : TOk P T) (h : (T t).k = .str) : P.underlying t = some .string := by
  obtain ⟨d, i, z, hd, _, _, hk, _⟩ := hT.row h (by simp)
  cases d <;> simp [kindOf] at hk
  exact hd
theorem TOk.sl (hT : TOk P T) {e : TypeId} (h : (T t).k = .sl e) : P.underlying t = some (.slice e) := by
  obtain ⟨d, i, z, hd, _, _, hk, _⟩ := hT.row h (by simp)
  cases d <;> simp [kindOf] at hk
  rw [hd, hk]
theorem TOk.arr (hT : TOk P T) {n : Nat} {e : TypeId} (h : (T t).k = .arr n e) : P.underlying t = some (.array n e) := by
  obtain ⟨d, i, z, hd, _, _, hk, _⟩ := hT.row h (by simp)
  cases d <;> simp [kindOf] at hk
  rw [hd, hk.1, hk.2]
theorem TOk.agg (hT : TOk P T) {fs : List (Nat × TypeId)} (h : (T t).k = .agg fs) : ∃ F, P.underlying t = some (.struct F) ∧ fs = F.toList.map fun f => (f.offset, f.type) := by
  obtain ⟨d, i, z, hd, _, _, hk, _⟩ := hT.row h (by simp)
  cases d <;> simp [kindOf] at hk
  exact ⟨_, hd, hk.symm⟩
theorem TOk.size (hT : TOk P T) (h : (T t).k ≠ .other) : ∃ i z, P.info? t = some i ∧ (T t).sz = i.size ∧ i.zero = some z ∧ (T t).zero = z.cells.toList.map litVV := by
  obtain ⟨d, i, z, _, hi, hz, _, hs, hzz⟩ := hT.row rfl h
  exact ⟨i, z, hi, hs, hz, hzz⟩
theorem TOk.und (hT : TOk P T) (h : (T t).k ≠ .other) : ∃ d, P.underlying t = some d ∧ kindOf d = (T t).k := by
  obtain ⟨d, i, z, hd, _, _, hk, _⟩ := hT.row rfl h
  exact ⟨d, hd, hk⟩
end

/-! ### The state -/
structure St where
  t : Nat → VV
  H : Nat → List VV
  nx : Nat
def St.put (st : St) (d : Option Nat) (x : VV) : St :=
  match d with
  | some d => { st with t := fun i => bif Nat.beq i d then x else st.t i }
  | none => st
def St.val (st : St) : Operand → VV
  | .tmp t => st.t t
  | .const v => litC v
  | .func f => .fn (.func f) []
  | .global _ => .dead

/-- What an operation comes to: its value; the cells of a box that it makes; the cells that it stores, where; what must hold. -/
structure Res where
  val : VV
  new : Option (List VV) := none
  put : Option (Nat × Nat × List VV) := none
  chk : List Prop := []
def Res.ok (x : VV) : Res := { val := x }
def Res.bad : Res := { val := .dead, chk := [False] }
/-- No box is made, none is stored into. -/
def Res.q (r : Res) : Res := { val := r.val, chk := r.chk }

def VV.cells : VV → List VV
  | .agg cs => cs
  | x => [x]
/-- Of one cell. -/
def VV.one : VV → Bool
  | .sc v => v.oneCell'
  | .sl .. | .tp _ | .bp .. | .fn .. => true
  | _ => false

def TK.isBool : TK → Bool
  | .bool => true
  | _ => false
def vbits (op : BinOp) (k : IntKind) (x y : Int) : Option Int :=
  match op with
  | .and => some (k.wrap (BitVec.ofInt k.bits x &&& BitVec.ofInt k.bits y).toNat)
  | .or => some (k.wrap (BitVec.ofInt k.bits x ||| BitVec.ofInt k.bits y).toNat)
  | .xor => some (k.wrap (BitVec.ofInt k.bits x ^^^ BitVec.ofInt k.bits y).toNat)
  | .andNot => some (k.wrap (BitVec.ofInt k.bits x &&& ~~~BitVec.ofInt k.bits y).toNat)
  | _ => none
def vint (op : BinOp) (k : IntKind) (x y : Int) : Res :=
  match op with
  | .add => .ok (.sc (.int k (k.wrap (x + y))))
  | .sub => .ok (.sc (.int k (k.wrap (x - y))))
  | .mul => .ok (.sc (.int k (k.wrap (x * y))))
  | .quo => { val := .sc (.int k (k.wrap (x.tdiv y))), chk := [y ≠ 0] }
  | .rem => { val := .sc (.int k (x.tmod y)), chk := [y ≠ 0] }
  | .eql => .ok (.sc (.bool (x == y)))
  | .neq => .ok (.sc (.bool (x != y)))
  | .lss => .ok (.sc (.bool (decide (x < y))))
  | .leq => .ok (.sc (.bool (decide (x ≤ y))))
  | .gtr => .ok (.sc (.bool (decide (x > y))))
  | .geq => .ok (.sc (.bool (decide (x ≥ y))))
  | op => match vbits op k x y with
    | some n => .ok (.sc (.int k n))
    | none => .bad
def vshift (op : BinOp) (k : IntKind) (x y : Int) : Res :=
  match op with
  | .shl => { val := .sc (.int k (k.wrap (x * 2 ^ (min y.toNat k.bits)))), chk := [0 ≤ y] }
  | .shr => { val := .sc (.int k (x.fdiv (2 ^ (min y.toNat k.bits)))), chk := [0 ≤ y] }
  | _ => .bad
def vstr (op : BinOp) (x y : ByteArray) : Res :=
  match op with
  | .add => { val := .sc (.string (x ++ y)), chk := [((x.size + y.size : Nat) : Int) ≤ 9223372036854775807] }
  | .eql => .ok (.sc (.bool (x.toList == y.toList)))
  | .neq => .ok (.sc (.bool (!(x.toList == y.toList))))
  | .lss => .ok (.sc (.bool (Op.bytesLess x.toList y.toList)))
  | _ => .bad
def isShift : BinOp → Bool
  | .shl | .shr => true
  | _ => false
def vbin (T : TypeId → TE) (op : BinOp) (t : TypeId) (x y : VV) : Res :=
  match x, y with
  | .sc (.int k a), .sc (.int k' b) => bif isShift op then vshift op k a b else (if k = k' then vint op k a b else .bad)
  | .sc (.string a), .sc (.string b) => vstr op a b
  | .sc (.bool a), .sc (.bool b) =>
    bif (T t).k.isBool then
      match op with
      | .eql => .ok (.sc (.bool (a == b)))
      | .neq => .ok (.sc (.bool (!(a == b))))
      | _ => .bad
    else .bad
  | _, _ => .bad
def vun (op : UnOp) (x : VV) : Res :=
  match op, x with
  | .neg, .sc (.int k n) => .ok (.sc (.int k (k.wrap (0 - n))))
  | .not, .sc (.bool b) => .ok (.sc (.bool (!b)))
  | _, _ => .bad
def vpick (c a b : VV) : Res :=
  match c, a, b with
  | .sc (.bool c), .sc (.bool a), .sc (.bool b) => .ok (.sc (.bool (bif c then a else b)))
  | _, _, _ => .bad

def TK.row : TK → Bool
  | .agg _ | .arr .. => true
  | _ => false
def TK.known : TK → Bool
  | .other => false
  | _ => true
/-- Cells, loaded as a value of a type. -/
def vtake (T : TypeId → TE) (t : TypeId) (cs : List VV) : Res :=
  bif (T t).k.known then
    bif (T t).k.row then (bif Nat.ble (T t).sz cs.length then .ok (.agg (cs.take (T t).sz)) else .bad)
    else match cs with
      | x :: _ => .ok x
      | [] => .bad
  else .bad
def vload (T : TypeId → TE) (st : St) (t : TypeId) : VV → Res
  | .bp id off => bif Nat.blt id st.nx then vtake T t ((st.H id).drop off) else .bad
  | .tp cs => vtake T t cs
  | _ => .bad
def vfieldAt (T : TypeId → TE) (s : TypeId) (f : Nat) (x : VV) : Res :=
  match (T s).k with
  | .agg fs =>
    match fs[f]? with
    | some (o, t) =>
      bif (T t).k.known && !(Nat.beq (T t).sz 0) then
        match x with
        | .bp id off => .ok (.bp id (off + o))
        | .tp cs => .ok (.tp (cs.drop o))
        | _ => .bad
      else .bad
    | none => .bad
  | _ => .bad
/-- A part of a struct that is a value. -/
def vpart (T : TypeId → TE) (t : TypeId) (cs : List VV) (o : Nat) : Res := vtake T t (cs.drop o)
def vfield (T : TypeId → TE) (s : TypeId) (f : Nat) (x : VV) : Res :=
  match (T s).k, x with
  | .agg fs, .agg cs =>
    match fs[f]? with
    | some (o, t) => vpart T t cs o
    | none => .bad
  | _, _ => .bad
def vindexAt (T : TypeId → TE) (t : TypeId) (x i : VV) : Res :=
  match (T t).k, x, i with
  | .sl e, .sl n sz f, .sc (.int _ i) => bif (T e).k.known && Nat.beq (T e).sz sz then { val := .tp (f i.toNat), chk := [0 ≤ i ∧ i < n] } else .bad
  | .arr n e, .bp id off, .sc (.int _ i) => bif (T e).k.known then { val := .bp id (off + i.toNat * (T e).sz), chk := [0 ≤ i ∧ i < n] } else .bad
  | .arr n e, .tp cs, .sc (.int _ i) => bif (T e).k.known then { val := .tp (cs.drop (i.toNat * (T e).sz)), chk := [0 ≤ i ∧ i < n] } else .bad
  | _, _, _ => .bad
def vindex (T : TypeId → TE) (t : TypeId) (x i : VV) : Res :=
  match (T t).k, x, i with
  | .arr n e, .agg cs, .sc (.int _ i) =>
    let r := vpart T e cs (i.toNat * (T e).sz)
    { r with chk := (0 ≤ i ∧ i < n) :: r.chk }
  | .str, .sc (.string s), .sc (.int _ i) => { val := .sc (.int .u8 ((s[i.toNat]?).getD 0).toNat), chk := [0 ≤ i ∧ i < s.size] }
  | _, _, _ => .bad
def vextract (x : VV) (i : Nat) : Res :=
  match x with
  | .tup cs => match cs[i]? with
    | some y => .ok y
    | none => .bad
  | _ => .bad
/-- Parts, laid into cells. -/
def vset (cells : List VV) (off : Nat) : List VV → List VV
  | [] => cells
  | c :: cs => vset (cells.set off c) (off + 1) cs
def vfill (place : Nat → Option (Nat × Nat)) (cells : List VV) : List (Nat × VV) → Option (List VV)
  | [] => some cells
  | (i, v) :: rest =>
    match place i with
    | none => none
    | some (off, size) => bif Nat.beq v.cells.length size && Nat.ble (off + v.cells.length) cells.length then vfill place (vset cells off v.cells) rest else none
def vfix : VV → Bool
  | .dead | .tup _ => false
  | .sc (.agg _) => false
  | _ => true
def vbuild (T : TypeId → TE) (t : TypeId) (parts : List (Nat × VV)) : Res :=
  bif parts.all fun p => vfix p.2 then
    match (T t).k with
    | .agg fs =>
      bif fs.all fun f => (T f.2).k.known then
        match vfill (fun i => (fs[i]?).map fun f => (f.1, (T f.2).sz)) (T t).zero parts with
        | some cs => .ok (.agg cs)
        | none => .bad
      else .bad
    | .arr _ e =>
      bif (T e).k.known then
        match vfill (fun i => some (i * (T e).sz, (T e).sz)) (T t).zero parts with
        | some cs => .ok (.agg cs)
        | none => .bad
      else .bad
    | _ => .bad
  else .bad
def vzeros (zero : List VV) (n : Nat) : List VV := (List.range n).map fun i => zero.getD (i % zero.length) .dead
def vbuildSlice (T : TypeId → TE) (t : TypeId) (len : Nat) (parts : List (Nat × VV)) : Res :=
  match (T t).k with
  | .sl e =>
    bif (T e).k.known && Nat.ble (len * (T e).sz) 16777216 && (parts.all fun p => vfix p.2) && Nat.blt 0 (len * (T e).sz) && Nat.blt 0 (T e).zero.length then
      match vfill (fun i => some (i * (T e).sz, (T e).sz)) (vzeros (T e).zero (len * (T e).sz)) parts with
      | some cs => bif cs.all VV.lies then .ok (.sl len (T e).sz fun i => (cs.drop (i * (T e).sz)).take (T e).sz) else .bad
      | none => .bad
    else .bad
  | _ => .bad
def vlen (T : TypeId → TE) (t : TypeId) (x : VV) : Res :=
  match (T t).k, x with
  | .sl _, .sl n _ _ => .ok (.sc (.int .i64 n))
  | .str, .sc (.string s) => .ok (.sc (.int .i64 s.size))
  | .arr n _, _ => .ok (.sc (.int .i64 n))
  | _, _ => .bad
def vbound (d : Int) : Option VV → Option Int
  | none => some d
  | some (.sc (.int _ n)) => some n
  | _ => none
def vslice (T : TypeId → TE) (t : TypeId) (x : VV) (lo hi : Option VV) : Res :=
  match (T t).k, x with
  | .sl e, .sl n sz f =>
    match vbound 0 lo, vbound n hi with
    | some l, some h => bif (T e).k.known && Nat.beq (T e).sz sz then { val := .sl (h - l).toNat sz fun i => f (l.toNat + i), chk := [0 ≤ l ∧ l ≤ h ∧ h ≤ n] } else .bad
    | _, _ => .bad
  | .str, .sc (.string s) =>
    match vbound 0 lo, vbound s.size hi with
    | some l, some h => { val := .sc (.string (s.extract l.toNat h.toNat)), chk := [0 ≤ l ∧ l ≤ h ∧ h ≤ s.size] }
    | _, _ => .bad
  | _, _ => .bad
def vnil (x : VV) : Res :=
  match x with
  | .bp .. | .tp _ => .ok x
  | .fn (.func _) _ => .ok x
  | _ => .bad
def vconv (T : TypeId → TE) (src dst : TypeId) (x : VV) : Res :=
  match (T src).k, (T dst).k, x with
  | .int _, .int k, .sc (.int _ n) => .ok (.sc (.int k (k.wrap n)))
  | .str, .str, .sc (.string s) => .ok (.sc (.string s))
  | _, _, _ => .bad
def vstore (T : TypeId → TE) (st : St) (t : TypeId) (a x : VV) : Res :=
  match a with
  | .bp id off => bif Nat.blt id st.nx && (T t).k.known && Nat.beq x.cells.length (T t).sz && Nat.ble (off + x.cells.length) (st.H id).length && x.cells.all VV.one
      then { val := .dead, put := some (id, off, x.cells) } else .bad
  | _ => .bad

/-- What is handed to a callee: pointers into boxes as pointers to what is there. -/
def snap1 (st : St) : VV → Option VV
  | .bp id off => bif Nat.blt id st.nx && ((st.H id).drop off).all VV.lies then some (.tp ((st.H id).drop off)) else none
  | .agg cs => bif cs.all VV.lies then some (.agg cs) else none
  | .tup _ => none
  | .fn g cs => bif cs.all VV.lies then some (.fn g cs) else none
  | x => some x
def snapL (f : VV → Option VV) : List VV → Option (List VV)
  | [] => some []
  | x :: xs => match f x, snapL f xs with
    | some y, some ys => some (y :: ys)
    | _, _ => none
def snap (st : St) : VV → Option VV
  | .fn g cs => (snapL (snap1 st) cs).map (.fn g)
  | x => snap1 st x

/-- What callees come to. -/
abbrev Orc := FuncId → List VV → VV × List Prop
def vcall (O : Orc) (st : St) (f : VV) (args : List VV) : Res :=
  match f with
  | .fn (.func g) caps =>
    match snapL (snap st) (args ++ caps) with
    | some xs => { val := (O g xs).1, chk := (O g xs).2 }
    | none => .bad
  | _ => .bad

def vlens (T : TypeId → TE) : List VV → List TypeId → Res
  | [x], [t] => vlen T t x
  | _, _ => .bad
def vop (T : TypeId → TE) (O : Orc) (st : St) : Op → Res
  | .move x | .assign x => .ok (st.val x)
  | .pick c a b => (vpick (st.val c) (st.val a) (st.val b)).q
  | .binOp op t x y _ => (vbin T op t (st.val x) (st.val y)).q
  | .unOp op _ x => (vun op (st.val x)).q
  | .load t a => (vload T st t (st.val a)).q
  | .store t a x => vstore T st t (st.val a) (st.val x)
  | .fieldAddr s x f => (vfieldAt T s f (st.val x)).q
  | .field s x f => (vfield T s f (st.val x)).q
  | .indexAddr t x i => (vindexAt T t (st.val x) (st.val i)).q
  | .index t x i => (vindex T t (st.val x) (st.val i)).q
  | .extract x i => (vextract (st.val x) i).q
  | .build t parts => (vbuild T t (parts.toList.map fun p => (p.1, st.val p.2))).q
  | .buildSlice t n parts => (vbuildSlice T t n (parts.toList.map fun p => (p.1, st.val p.2))).q
  | .alloc e => bif (T e).k.known then { val := .bp st.nx 0, new := some (T e).zero } else .bad
  | .box _ x => bif vfix (st.val x) then { val := .bp st.nx 0, new := some (st.val x).cells } else .bad
  | .slice t x lo hi none => (vslice T t (st.val x) (lo.map st.val) (hi.map st.val)).q
  | .nilCheck x => (vnil (st.val x)).q
  | .makeFunc f first caps => (bif first.isEmpty then .ok (.fn f (caps.toList.map st.val)) else .bad : Res).q
  | .convert s d x => (vconv T s d (st.val x)).q
  | .call c =>
    match c.callee with
    | .value f => (vcall O st (st.val f) (c.args.toList.map st.val)).q
    | .builtin .len => (vlens T (c.args.toList.map st.val) c.argTypes.toList).q
    | _ => .bad
  | _ => .bad
end Go.Proofs.Ytnodhjlpoaahbaa
