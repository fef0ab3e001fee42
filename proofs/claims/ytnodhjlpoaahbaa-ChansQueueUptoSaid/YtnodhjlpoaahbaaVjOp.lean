/-
  The operations on trees, with arrays of the run's own: what each yields, makes, writes; what must hold for it.
-/
import Derived.Test.YtnodhjlpoaahbaaVjVal
import Derived.Laws.CopyRow
import Derived.Laws.Entries
import Derived.Deep.MidRow
namespace Go.Proofs.Ytnodhjlpoaahbaa
open Go.RowKit

/-! ### The table of types -/
inductive TK where
  | int (k : IntKind) | bool | str | sl (e : TypeId) | agg (fs : List (Nat × TypeId)) | arr (n : Nat) (e : TypeId) | fn | ptr | other
structure TE where
  k : TK
  sz : Nat
  bytes : Nat
  zero : List VV
instance : Inhabited TE := ⟨.other, 0, 0, []⟩

/-- A constant, as a tree: a nil slice is an empty one. -/
def litVV : Value → VV
  | .slice none 0 0 => .nl
  | v => .sc v
def litC : Value → VV
  | .slice none 0 0 => .nl
  | .agg cs => .agg (cs.toList.map litVV)
  | v => .sc v
theorem V.litVV {w : World} {E : Prot} {m : Option Phi} (v : Value) : V w E m (litVV v) v := by
  unfold Go.Proofs.Ytnodhjlpoaahbaa.litVV
  split
  · exact .nl
  · exact .sc
theorem V.litC {w : World} {E : Prot} {m : Option Phi} (v : Value) : V w E m (litC v) v := by
  unfold Go.Proofs.Ytnodhjlpoaahbaa.litC
  split
  · exact .nl
  · refine .agg (by simp) fun j x hx => ?_
    rename_i cs
    rw [List.getElem?_map] at hx
    obtain ⟨y, hy, rfl⟩ := Option.map_eq_some_iff.1 hx
    obtain ⟨hj, rfl⟩ := Array.getElem?_eq_some_iff.1 (by simpa using hy : cs[j]? = some y)
    have : cs.getD j undef = cs[j] := by simp [Array.getD, hj]
    rw [this]; exact V.litVV _
  · exact .sc

def kindOf : TypeDesc → TK
  | .int k => .int k
  | .bool => .bool
  | .string => .str
  | .slice e => .sl e
  | .struct fs => .agg (fs.toList.map fun f => (f.offset, f.type))
  | .array n e => .arr n e
  | .func .. => .fn
  | .pointer _ => .ptr
  | _ => .other
/-- The table's row, off the program. -/
def tabOf (P : Program) (t : TypeId) : TE :=
  match P.underlying t, P.info? t with
  | some d, some i =>
    match i.zero with
    | some z => ⟨kindOf d, i.size, i.bytes, z.cells.toList.map litVV⟩
    | none => ⟨.other, 0, 0, []⟩
  | _, _ => ⟨.other, 0, 0, []⟩
structure TOk (P : Program) (T : TypeId → TE) : Prop where
  h : ∀ t, T t = tabOf P t ∨ (T t).k = .other

theorem TOk.row {P : Program} {T : TypeId → TE} (hT : TOk P T) {t : TypeId} {k : TK} (hk : (T t).k = k) (hne : k ≠ .other) :
    ∃ d i z, P.underlying t = some d ∧ P.info? t = some i ∧ i.zero = some z ∧ kindOf d = k ∧ (T t).sz = i.size ∧ (T t).bytes = i.bytes ∧ (T t).zero = z.cells.toList.map litVV := by
  rcases hT.h t with h | h
  · unfold tabOf at h
    split at h
    · rename_i d i hd hi
      split at h
      · rename_i z hz
        exact ⟨d, i, z, hd, hi, hz, by rw [← hk, h], by rw [h], by rw [h], by rw [h]⟩
      · rw [h] at hk; exact absurd hk.symm hne
    · rw [h] at hk; exact absurd hk.symm hne
  · exact absurd (hk.symm.trans h) hne
section
variable {P : Program} {T : TypeId → TE} {t : TypeId}
theorem TOk.int (hT : TOk P T) {k : IntKind} (h : (T t).k = .int k) : P.underlying t = some (.int k) := by
  obtain ⟨d, i, z, hd, _, _, hk, _⟩ := hT.row h (by simp)
  cases d <;> simp [kindOf] at hk
  rw [hd, hk]
theorem TOk.bool (hT : TOk P T) (h : (T t).k = .bool) : P.underlying t = some .bool := by
  obtain ⟨d, i, z, hd, _, _, hk, _⟩ := hT.row h (by simp)
  cases d <;> simp [kindOf] at hk
  exact hd
theorem TOk.str (hT : TOk P T) (h : (T t).k = .str) : P.underlying t = some .string := by
  obtain ⟨d, i, z, hd, _, _, hk, _⟩ := hT.row h (by simp)
  cases d <;> simp [kindOf] at hk
  exact hd
theorem TOk.sl (hT : TOk P T) {e : TypeId} (h : (T t).k = .sl e) : P.underlying t = some (.slice e) := by
  obtain ⟨d, i, z, hd, _, _, hk, _⟩ := hT.row h (by simp)
  cases d <;> simp [kindOf] at hk
  rw [hd, hk]
theorem TOk.arr (hT : TOk P T) {n : Nat} {e : TypeId} (h : (T t).k = .arr n e) : P.underlying t = some (.array n e) := by
  obtain ⟨d, i, z, hd, _, _, hk, _⟩ := hT.row h (by simp)
  cases d <;> simp [kindOf] at hk
  rw [hd, hk.1, hk.2]
theorem TOk.agg (hT : TOk P T) {fs : List (Nat × TypeId)} (h : (T t).k = .agg fs) : ∃ F, P.underlying t = some (.struct F) ∧ fs = F.toList.map fun f => (f.offset, f.type) := by
  obtain ⟨d, i, z, hd, _, _, hk, _⟩ := hT.row h (by simp)
  cases d <;> simp [kindOf] at hk
  exact ⟨_, hd, hk.symm⟩
theorem TOk.size (hT : TOk P T) (h : (T t).k ≠ .other) : ∃ i z, P.info? t = some i ∧ (T t).sz = i.size ∧ i.zero = some z ∧ (T t).zero = z.cells.toList.map litVV := by
  obtain ⟨d, i, z, _, hi, hz, _, hs, _, hzz⟩ := hT.row rfl h
  exact ⟨i, z, hi, hs, hz, hzz⟩
theorem TOk.size' (hT : TOk P T) (h : (T t).k ≠ .other) : ∃ i z, P.info? t = some i ∧ (T t).sz = i.size ∧ (T t).bytes = i.bytes ∧ i.zero = some z ∧ (T t).zero = z.cells.toList.map litVV := by
  obtain ⟨d, i, z, _, hi, hz, _, hs, hb, hzz⟩ := hT.row rfl h
  exact ⟨i, z, hi, hs, hb, hz, hzz⟩
theorem TOk.und (hT : TOk P T) (h : (T t).k ≠ .other) : ∃ d, P.underlying t = some d ∧ kindOf d = (T t).k := by
  obtain ⟨d, i, z, hd, _, _, hk, _⟩ := hT.row rfl h
  exact ⟨d, hd, hk⟩
end

/-! ### The state -/
/-- An object of the run's own: a box's cells; an array (are its cells frozen and in memory? its generation, its length, a row's cells, the rows); one that has been handed away. -/
inductive Ob where
  | box (cs : List VV)
  | arr (fr : Bool) (gen n sz : Nat) (f : Nat → List VV)
  | gone (gen : Nat)
instance : Inhabited Ob := ⟨.gone 0⟩
structure St where
  t : Nat → VV
  H : Nat → Ob
  nx : Nat
def St.put (st : St) (d : Option Nat) (x : VV) : St :=
  match d with
  | some d => { st with t := fun i => bif Nat.beq i d then x else st.t i }
  | none => st
def St.val (st : St) : Operand → VV
  | .tmp t => st.t t
  | .const v => litC v
  | .func f => .fn (.func f) []
  | .global _ => .dead

/-- What an operation comes to: its value; the objects that it makes; what becomes of those that were; what must hold. -/
structure Res where
  val : VV
  new : List Ob := []
  put : Option (Nat → Ob) := none
  chk : List Prop := []
def Res.ok (x : VV) : Res := { val := x }
def Res.bad : Res := { val := .dead, chk := [False] }
/-- No box is made, none is stored into. -/
def Res.q (r : Res) : Res := { val := r.val, chk := r.chk }

def VV.cells : VV → List VV
  | .agg cs => cs
  | x => [x]
/-- Of one cell. -/
def VV.one : VV → Bool
  | .sc v => v.oneCell'
  | .nl | .sl .. | .tp _ | .bp .. | .ow .. | .ep .. | .fn .. => true
  | _ => false
/-- Frozen, in memory, of one cell. -/
def VV.mem1 (x : VV) : Bool := x.mem && x.one

def TK.isBool : TK → Bool
  | .bool => true
  | _ => false
def vbits (op : BinOp) (k : IntKind) (x y : Int) : Option Int :=
  match op with
  | .and => some (k.wrap (BitVec.ofInt k.bits x &&& BitVec.ofInt k.bits y).toNat)
  | .or => some (k.wrap (BitVec.ofInt k.bits x ||| BitVec.ofInt k.bits y).toNat)
  | .xor => some (k.wrap (BitVec.ofInt k.bits x ^^^ BitVec.ofInt k.bits y).toNat)
  | .andNot => some (k.wrap (BitVec.ofInt k.bits x &&& ~~~BitVec.ofInt k.bits y).toNat)
  | _ => none
def vint (op : BinOp) (k : IntKind) (x y : Int) : Res :=
  match op with
  | .add => .ok (.sc (.int k (k.wrap (x + y))))
  | .sub => .ok (.sc (.int k (k.wrap (x - y))))
  | .mul => .ok (.sc (.int k (k.wrap (x * y))))
  | .quo => { val := .sc (.int k (k.wrap (x.tdiv y))), chk := [y ≠ 0] }
  | .rem => { val := .sc (.int k (x.tmod y)), chk := [y ≠ 0] }
  | .eql => .ok (.sc (.bool (x == y)))
  | .neq => .ok (.sc (.bool (x != y)))
  | .lss => .ok (.sc (.bool (decide (x < y))))
  | .leq => .ok (.sc (.bool (decide (x ≤ y))))
  | .gtr => .ok (.sc (.bool (decide (x > y))))
  | .geq => .ok (.sc (.bool (decide (x ≥ y))))
  | op => match vbits op k x y with
    | some n => .ok (.sc (.int k n))
    | none => .bad
def vshift (op : BinOp) (k : IntKind) (x y : Int) : Res :=
  match op with
  | .shl => { val := .sc (.int k (k.wrap (x * 2 ^ (min y.toNat k.bits)))), chk := [0 ≤ y] }
  | .shr => { val := .sc (.int k (x.fdiv (2 ^ (min y.toNat k.bits)))), chk := [0 ≤ y] }
  | _ => .bad
def vstr (op : BinOp) (x y : ByteArray) : Res :=
  match op with
  | .add => { val := .sc (.string (x ++ y)), chk := [((x.size + y.size : Nat) : Int) ≤ 9223372036854775807] }
  | .eql => .ok (.sc (.bool (x.toList == y.toList)))
  | .neq => .ok (.sc (.bool (!(x.toList == y.toList))))
  | .lss => .ok (.sc (.bool (Op.bytesLess x.toList y.toList)))
  | _ => .bad
def isShift : BinOp → Bool
  | .shl | .shr => true
  | _ => false
def vbin (T : TypeId → TE) (op : BinOp) (t : TypeId) (x y : VV) : Res :=
  match x, y with
  | .sc (.int k a), .sc (.int k' b) => bif isShift op then vshift op k a b else (if k = k' then vint op k a b else .bad)
  | .sc (.string a), .sc (.string b) => vstr op a b
  | .sc (.bool a), .sc (.bool b) =>
    bif (T t).k.isBool then
      match op with
      | .eql => .ok (.sc (.bool (a == b)))
      | .neq => .ok (.sc (.bool (!(a == b))))
      | _ => .bad
    else .bad
  | _, _ => .bad
def vun (op : UnOp) (x : VV) : Res :=
  match op, x with
  | .neg, .sc (.int k n) => .ok (.sc (.int k (k.wrap (0 - n))))
  | .not, .sc (.bool b) => .ok (.sc (.bool (!b)))
  | _, _ => .bad
def vpick (c a b : VV) : Res :=
  match c, a, b with
  | .sc (.bool c), .sc (.bool a), .sc (.bool b) => .ok (.sc (.bool (bif c then a else b)))
  | _, _, _ => .bad

def TK.row : TK → Bool
  | .agg _ | .arr .. => true
  | _ => false
def TK.known : TK → Bool
  | .other => false
  | _ => true
/-- Cells, loaded as a value of a type. -/
def vtake (T : TypeId → TE) (t : TypeId) (cs : List VV) : Res :=
  bif (T t).k.known then
    bif (T t).k.row then (bif Nat.ble (T t).sz cs.length then .ok (.agg (cs.take (T t).sz)) else .bad)
    else match cs with
      | x :: _ => .ok x
      | [] => .bad
  else .bad
def vload (T : TypeId → TE) (st : St) (t : TypeId) : VV → Res
  | .bp id off => bif Nat.blt id st.nx then (match st.H id with
    | .box cs => vtake T t (cs.drop off)
    | _ => .bad) else .bad
  | .ep id gen sz i o => bif Nat.blt id st.nx then (match st.H id with
    | .arr _ g _ s f => bif Nat.beq gen g && Nat.beq s sz then vtake T t ((f i).drop o) else .bad
    | _ => .bad) else .bad
  | .tp cs => vtake T t cs
  | _ => .bad
def vfieldAt (T : TypeId → TE) (s : TypeId) (f : Nat) (x : VV) : Res :=
  match (T s).k with
  | .agg fs =>
    match fs[f]? with
    | some (o, t) =>
      bif (T t).k.known && !(Nat.beq (T t).sz 0) then
        match x with
        | .bp id off => .ok (.bp id (off + o))
        | .ep id gen sz i off => .ok (.ep id gen sz i (off + o))
        | .tp cs => .ok (.tp (cs.drop o))
        | _ => .bad
      else .bad
    | none => .bad
  | _ => .bad
/-- A part of a struct that is a value. -/
def vpart (T : TypeId → TE) (t : TypeId) (cs : List VV) (o : Nat) : Res := vtake T t (cs.drop o)
def vfield (T : TypeId → TE) (s : TypeId) (f : Nat) (x : VV) : Res :=
  match (T s).k, x with
  | .agg fs, .agg cs =>
    match fs[f]? with
    | some (o, t) => vpart T t cs o
    | none => .bad
  | _, _ => .bad
def vindexAt (T : TypeId → TE) (t : TypeId) (x i : VV) : Res :=
  match (T t).k, x, i with
  | .sl e, .sl _ n sz f, .sc (.int _ i) => bif (T e).k.known && Nat.beq (T e).sz sz then { val := .tp (f i.toNat), chk := [0 ≤ i ∧ i < n] } else .bad
  | .sl e, .ow id gen n, .sc (.int _ i) => bif (T e).k.known then { val := .ep id gen (T e).sz i.toNat 0, chk := [0 ≤ i ∧ i < n] } else .bad
  | .sl _, .nl, .sc (.int _ i) => { val := .dead, chk := [0 ≤ i ∧ i < 0] }
  | .arr n e, .bp id off, .sc (.int _ i) => bif (T e).k.known then { val := .bp id (off + i.toNat * (T e).sz), chk := [0 ≤ i ∧ i < n] } else .bad
  | .arr n e, .ep id gen sz k o, .sc (.int _ i) => bif (T e).k.known then { val := .ep id gen sz k (o + i.toNat * (T e).sz), chk := [0 ≤ i ∧ i < n] } else .bad
  | .arr n e, .tp cs, .sc (.int _ i) => bif (T e).k.known then { val := .tp (cs.drop (i.toNat * (T e).sz)), chk := [0 ≤ i ∧ i < n] } else .bad
  | _, _, _ => .bad
def vindex (T : TypeId → TE) (t : TypeId) (x i : VV) : Res :=
  match (T t).k, x, i with
  | .arr n e, .agg cs, .sc (.int _ i) =>
    let r := vpart T e cs (i.toNat * (T e).sz)
    { r with chk := (0 ≤ i ∧ i < n) :: r.chk }
  | .str, .sc (.string s), .sc (.int _ i) => { val := .sc (.int .u8 ((s[i.toNat]?).getD 0).toNat), chk := [0 ≤ i ∧ i < s.size] }
  | _, _, _ => .bad
def vextract (x : VV) (i : Nat) : Res :=
  match x with
  | .tup cs => match cs[i]? with
    | some y => .ok y
    | none => .bad
  | _ => .bad
/-- Parts, laid into cells. -/
def vset (cells : List VV) (off : Nat) : List VV → List VV
  | [] => cells
  | c :: cs => vset (cells.set off c) (off + 1) cs
def vfill (place : Nat → Option (Nat × Nat)) (cells : List VV) : List (Nat × VV) → Option (List VV)
  | [] => some cells
  | (i, v) :: rest =>
    match place i with
    | none => none
    | some (off, size) => bif Nat.beq v.cells.length size && Nat.ble (off + v.cells.length) cells.length then vfill place (vset cells off v.cells) rest else none
def vfix : VV → Bool
  | .dead | .tup _ => false
  | .sc (.agg _) => false
  | _ => true
def vbuild (T : TypeId → TE) (t : TypeId) (parts : List (Nat × VV)) : Res :=
  bif parts.all fun p => vfix p.2 then
    match (T t).k with
    | .agg fs =>
      bif fs.all fun f => (T f.2).k.known then
        match vfill (fun i => (fs[i]?).map fun f => (f.1, (T f.2).sz)) (T t).zero parts with
        | some cs => .ok (.agg cs)
        | none => .bad
      else .bad
    | .arr _ e =>
      bif (T e).k.known then
        match vfill (fun i => some (i * (T e).sz, (T e).sz)) (T t).zero parts with
        | some cs => .ok (.agg cs)
        | none => .bad
      else .bad
    | _ => .bad
  else .bad
def vzeros (zero : List VV) (n : Nat) : List VV := (List.range n).map fun i => zero.getD (i % zero.length) .dead
/-- A slice, written out: an array of the run's own. -/
def vbuildSlice (T : TypeId → TE) (st : St) (t : TypeId) (len : Nat) (parts : List (Nat × VV)) : Res :=
  match (T t).k with
  | .sl e =>
    bif (T e).k.known && Nat.ble (len * (T e).sz) 16777216 && (parts.all fun p => vfix p.2) && Nat.blt 0 (len * (T e).sz) && Nat.blt 0 (T e).zero.length then
      match vfill (fun i => some (i * (T e).sz, (T e).sz)) (vzeros (T e).zero (len * (T e).sz)) parts with
      | some cs => bif cs.all VV.one then { val := .ow st.nx 0 len, new := [.arr (cs.all VV.mem) 0 len (T e).sz fun i => (cs.drop (i * (T e).sz)).take (T e).sz] } else .bad
      | none => .bad
    else .bad
  | _ => .bad
/-- A slice of zeros. -/
def vmake (T : TypeId → TE) (st : St) (t : TypeId) (x y : VV) : Res :=
  match (T t).k, x, y with
  | .sl e, .sc (.int _ n), .sc (.int _ m) =>
    bif (T e).k.known && Nat.blt 0 (T e).bytes && Nat.beq (T e).zero.length (T e).sz && Nat.blt 0 (T e).sz && (T e).zero.all VV.mem1 then
      { val := .ow st.nx 0 n.toNat, new := [.arr true 0 n.toNat (T e).sz fun _ => (T e).zero], chk := [0 ≤ n ∧ n ≤ m ∧ m * ((T e).bytes : Int) ≤ 140737488355328] }
    else .bad
  | _, _, _ => .bad
def vlen (T : TypeId → TE) (t : TypeId) (x : VV) : Res :=
  match (T t).k, x with
  | .sl _, .sl _ n _ _ => .ok (.sc (.int .i64 n))
  | .sl _, .ow _ _ n => .ok (.sc (.int .i64 n))
  | .sl _, .nl => .ok (.sc (.int .i64 0))
  | .str, .sc (.string s) => .ok (.sc (.int .i64 s.size))
  | .arr n _, _ => .ok (.sc (.int .i64 n))
  | _, _ => .bad
def vbound (d : Int) : Option VV → Option Int
  | none => some d
  | some (.sc (.int _ n)) => some n
  | _ => none
def vslice (T : TypeId → TE) (t : TypeId) (x : VV) (lo hi : Option VV) : Res :=
  match (T t).k, x with
  | .sl e, .sl fz n sz f =>
    match vbound 0 lo, vbound n hi with
    | some l, some h => bif (T e).k.known && Nat.beq (T e).sz sz then { val := .sl fz (h - l).toNat sz fun i => f (l.toNat + i), chk := [0 ≤ l ∧ l ≤ h ∧ h ≤ n] } else .bad
    | _, _ => .bad
  | .sl e, .ow id gen n =>
    match vbound 0 lo, vbound n hi with
    | some (.ofNat 0), some h => bif (T e).k.known then { val := .ow id gen h.toNat, chk := [0 ≤ h ∧ h ≤ n] } else .bad
    | _, _ => .bad
  | .sl e, .nl =>
    match vbound 0 lo, vbound 0 hi with
    | some l, some h => bif (T e).k.known then { val := .nl, chk := [l = 0 ∧ h = 0] } else .bad
    | _, _ => .bad
  | .str, .sc (.string s) =>
    match vbound 0 lo, vbound s.size hi with
    | some l, some h => { val := .sc (.string (s.extract l.toNat h.toNat)), chk := [0 ≤ l ∧ l ≤ h ∧ h ≤ s.size] }
    | _, _ => .bad
  | _, _ => .bad
def vnil (x : VV) : Res :=
  match x with
  | .bp .. | .tp _ | .ep .. => .ok x
  | .fn (.func _) _ => .ok x
  | _ => .bad
def vconv (T : TypeId → TE) (src dst : TypeId) (x : VV) : Res :=
  match (T src).k, (T dst).k, x with
  | .int _, .int k, .sc (.int _ n) => .ok (.sc (.int k (k.wrap n)))
  | .str, .str, .sc (.string s) => .ok (.sc (.string s))
  | _, _, _ => .bad
/-! ### What is the run's own, handed away -/
def omapL {α β : Type} (f : α → Option β) : List α → Option (List β)
  | [] => some []
  | x :: xs => match f x, omapL f xs with
    | some y, some ys => some (y :: ys)
    | _, _ => none
/-- Frozen for good: arrays of the run's own become slices that nobody writes to; which ones. -/
def pubF (H : Nat → Ob) : Nat → VV → Option (VV × List Nat)
  | 0, _ => none
  | k + 1, x =>
    match x with
    | .ow id gen n =>
      match H id with
      | .arr true g _ sz f => bif Nat.beq gen g then some (.sl true n sz f, [id]) else none
      | .arr false g _ sz f => bif Nat.beq gen g then
          match omapL (fun i => omapL (pubF H k) (f i)) (List.range n) with
          | some rows => some (.sl true n sz (fun i => (rows.getD i []).map (·.1)), id :: rows.flatMap fun r => r.flatMap (·.2))
          | none => none
        else none
      | _ => none
    | .agg cs =>
      match omapL (pubF H k) cs with
      | some l => some (.agg (l.map (·.1)), l.flatMap (·.2))
      | none => none
    | .tup cs =>
      match omapL (pubF H k) cs with
      | some l => some (.tup (l.map (·.1)), l.flatMap (·.2))
      | none => none
    | .fn g cs =>
      match omapL (pubF H k) cs with
      | some l => some (.fn g (l.map (·.1)), l.flatMap (·.2))
      | none => none
    | x => bif x.mem then some (x, []) else none
def goneIds (ids : List Nat) (H : Nat → Ob) : Nat → Ob := fun k => bif ids.any (Nat.beq k) then
  (match H k with
  | .arr _ g _ _ _ => .gone (g + 1)
  | .gone g => .gone (g + 1)
  | .box cs => .box cs) else H k
def pubL (st : St) (xs : List VV) : Option (List VV × List Nat) :=
  match omapL (pubF st.H (st.nx + 2)) xs with
  | some l => some (l.map (·.1), l.flatMap (·.2))
  | none => none
def pubRows (st : St) (n : Nat) (f : Nat → List VV) : Option (List (List VV) × List Nat) :=
  match omapL (fun i => pubL st (f i)) (List.range n) with
  | some l => some (l.map (·.1), l.flatMap (·.2))
  | none => none
/-- Lent for as long as a callee runs. -/
def snapF (H : Nat → Ob) : Nat → VV → Option VV
  | 0, _ => none
  | k + 1, x =>
    match x with
    | .bp id off =>
      match H id with
      | .box cs => (omapL (snapF H k) (cs.drop off)).map .tp
      | _ => none
    | .ow id gen n =>
      match H id with
      | .arr true g _ sz f => bif Nat.beq gen g then some (.sl false n sz f) else some .dead
      | .arr false g _ sz f => bif Nat.beq gen g then
          (omapL (fun i => omapL (snapF H k) (f i)) (List.range n)).map fun rows => .sl false n sz fun i => rows.getD i []
        else some .dead
      | _ => some .dead
    | .ep id gen sz i o =>
      match H id with
      | .arr true g _ s f => bif Nat.beq gen g && Nat.beq s sz then some (.tp ((f i).drop o)) else some .dead
      | _ => none
    | .agg cs => (omapL (snapF H k) cs).map .agg
    | .fn g cs => (omapL (snapF H k) cs).map (.fn g)
    | .tup _ => none
    | x => some x

def vstore (T : TypeId → TE) (st : St) (t : TypeId) (a x : VV) : Res :=
  match a with
  | .bp id off => bif Nat.blt id st.nx && (T t).k.known && Nat.beq x.cells.length (T t).sz && x.cells.all VV.one then
      (match st.H id with
      | .box cs => bif Nat.ble (off + x.cells.length) cs.length then
          { val := .dead, put := some fun k => bif Nat.beq k id then .box (cs.take off ++ x.cells ++ cs.drop (off + x.cells.length)) else st.H k } else .bad
      | _ => .bad) else .bad
  | .ep id gen s i o => bif Nat.blt id st.nx && (T t).k.known && Nat.beq x.cells.length (T t).sz then
      (match st.H id with
      | .arr true g n s' f =>
        (match pubL st x.cells with
        | some (cs, ids) => bif Nat.beq gen g && Nat.beq s s' && Nat.ble (o + x.cells.length) s && Nat.beq cs.length x.cells.length && cs.all VV.mem1 && !(ids.any (Nat.beq id)) then
            { val := .dead, put := some fun k => bif Nat.beq k id then .arr true g n s (fun j => bif Nat.beq j i then (bif Nat.beq cs.length s then cs else (f i).take o ++ cs ++ (f i).drop (o + cs.length)) else f j) else goneIds ids st.H k } else .bad
        | none => .bad)
      | _ => .bad) else .bad
  | _ => .bad

/-- What is appended: how many rows, which, what must hold, which arrays it takes with it. -/
def vsrc (T : TypeId → TE) (st : St) (e : TypeId) : VV → Option (Nat × (Nat → List VV) × List Prop × List Nat)
  | .nl => some (0, fun _ => [], [], [])
  | .sl _ m s g => bif Nat.beq s (T e).sz then some (m, g, [∀ i, i < m → (g i).all VV.mem1 = true], []) else none
  | .ow id gen m => bif Nat.blt id st.nx then
      (match st.H id with
      | .arr true g _ s f => bif Nat.beq gen g && Nat.beq s (T e).sz then some (m, f, [], []) else none
      | .arr false g _ s f => bif Nat.beq gen g && Nat.beq s (T e).sz then
          (match pubRows st m f with
          | some (rows, ids) => bif rows.all fun r => r.all VV.mem1 then some (m, fun i => rows.getD i [], [], ids) else none
          | none => none) else none
      | _ => none) else none
  | _ => none
def vappend (T : TypeId → TE) (st : St) (t : TypeId) (x y : VV) : Res :=
  match (T t).k with
  | .sl e => bif (T e).k.known && Nat.blt 0 (T e).bytes && Nat.beq (T e).zero.length (T e).sz && Nat.blt 0 (T e).sz then
      (match vsrc T st e y with
      | some (m, g, ck, ids) =>
        (match x with
        | .nl => { val := .ow st.nx 1 m, new := [.arr true 1 m (T e).sz g], put := some (goneIds ids st.H), chk := (m * (T e).bytes ≤ 140737488355328) :: ck }
        | .ow id gen n => bif Nat.blt id st.nx && !(ids.any (Nat.beq id)) then
            (match st.H id with
            | .arr true g0 _ s f => bif Nat.beq gen g0 && Nat.beq s (T e).sz then
                { val := .ow id (gen + 1) (n + m), put := some fun k => bif Nat.beq k id then .arr true (gen + 1) (n + m) (T e).sz (fun i => bif Nat.blt i n then f i else g (i - n)) else goneIds ids st.H k, chk := ((n + m) * (T e).bytes ≤ 140737488355328) :: ck } else .bad
            | .arr false g0 _ s f => bif Nat.beq gen g0 && Nat.beq s (T e).sz then
                (match pubRows st n f with
                | some (rows, ids') => bif (rows.all fun r => r.all VV.mem1) && !(ids'.any (Nat.beq id)) then
                    { val := .ow id (gen + 1) (n + m), put := some fun k => bif Nat.beq k id then .arr true (gen + 1) (n + m) (T e).sz (fun i => bif Nat.blt i n then rows.getD i [] else g (i - n)) else goneIds (ids ++ ids') st.H k, chk := ((n + m) * (T e).bytes ≤ 140737488355328) :: ck } else .bad
                | none => .bad) else .bad
            | _ => .bad) else .bad
        | _ => .bad)
      | none => .bad) else .bad
  | _ => .bad

/-! ### Calls -/
def St.Hg (st : St) : Nat → Ob := fun id => bif Nat.blt id st.nx then st.H id else .gone 0
/-- References, renamed. (nb: what is lent is left out.) -/
def relF (nb : Bool) (ri : Nat → Option Nat) (rg : Nat → Nat → Option Nat) : Nat → VV → VV
  | 0, _ => .dead
  | k + 1, x =>
    match x with
    | .bp id off => match ri id with
      | some i => .bp i off
      | none => .dead
    | .ow id gen n => match ri id, rg id gen with
      | some i, some g => .ow i g n
      | _, _ => .dead
    | .ep id gen sz r o => match ri id, rg id gen with
      | some i, some g => .ep i g sz r o
      | _, _ => .dead
    | .agg cs => .agg (cs.map (relF nb ri rg k))
    | .tup cs => .tup (cs.map (relF nb ri rg k))
    | .fn g cs => .fn g (cs.map (relF nb ri rg k))
    | .sl false n sz f => bif nb then .dead else .sl false n sz f
    | .tp cs => bif nb then .dead else .tp cs
    | x => x
/-- Rows, written out. -/
def rowsF (l : List (List VV)) : Nat → List VV := fun i => l.getD i []
def relOb (nb : Bool) (ri : Nat → Option Nat) (rg : Nat → Nat → Option Nat) (og : Nat → Nat) : Ob → Ob
  | .box cs => .box (cs.map (relF nb ri rg 8))
  | .arr true gen n sz f => .arr true (og gen) n sz f
  | .arr false gen n sz f => .arr false (og gen) n sz (rowsF ((List.range n).map fun i => (f i).map (relF nb ri rg 8)))
  | .gone gen => .gone (og gen)
def Ob.gen : Ob → Nat
  | .arr _ g _ _ _ => g
  | .gone g => g
  | .box _ => 0
/-- The objects that a tree speaks of. -/
def refsF : Nat → VV → List Nat
  | 0, _ => []
  | k + 1, x =>
    match x with
    | .bp id _ => [id]
    | .ow id _ _ => [id]
    | .ep id _ _ _ _ => [id]
    | .agg cs | .tup cs => cs.flatMap (refsF k)
    | .fn _ cs => cs.flatMap (refsF k)
    | _ => []
def Ob.refs : Ob → List Nat
  | .box cs => cs.flatMap (refsF 8)
  | .arr false _ n _ f => (List.range n).flatMap fun i => (f i).flatMap (refsF 8)
  | _ => []
/-- All that can be come to. -/
def reachF (st : St) : Nat → List Nat → List Nat → List Nat
  | 0, _, acc => acc
  | _ + 1, [], acc => acc
  | k + 1, id :: todo, acc => bif acc.any (Nat.beq id) || !(Nat.blt id st.nx) then reachF st k todo acc else reachF st k ((st.H id).refs ++ todo) (acc ++ [id])
def idx : List Nat → Nat → Option Nat
  | [], _ => none
  | i :: is, id => bif Nat.beq i id then some 0 else (idx is id).map (· + 1)
/-- Each once, each one there. -/
def okIds (nx : Nat) : List Nat → Bool
  | [] => true
  | i :: is => Nat.blt i nx && !(is.any (Nat.beq i)) && okIds nx is
def inGen (st : St) (id gen : Nat) : Option Nat := bif Nat.beq gen (st.H id).gen then some 0 else none
/-- These objects, as if they were the only ones. -/
def lendV (st : St) (ids : List Nat) (x : VV) : VV := relF false (idx ids) (inGen st) 8 x
def lendOb (st : St) (ids : List Nat) (id : Nat) : Ob := relOb false (idx ids) (inGen st) (fun _ => 0) (st.H id)
def outId (st : St) (ids : List Nat) (j : Nat) : Nat :=
  match ids[j]? with
  | some id => id
  | none => st.nx + (j - ids.length)
def outG (st : St) (ids : List Nat) (j gen : Nat) : Nat :=
  match ids[j]? with
  | some id => (st.H id).gen + 1 + gen
  | none => gen
def backV (nb : Bool) (st : St) (ids : List Nat) (x : VV) : VV := relF nb (fun j => some (outId st ids j)) (fun j g => some (outG st ids j g)) 8 x
def backOb (nb : Bool) (st : St) (ids : List Nat) (j : Nat) (o : Ob) : Ob := relOb nb (fun j => some (outId st ids j)) (fun j g => some (outG st ids j g)) (outG st ids j) o

/-- What callees come to: whether what they are handed is lent to them to be written; objects that they hand back, a result. -/
structure Orc where
  lend : FuncId → Bool
  run : FuncId → List Ob → List VV → (List Ob × VV) × List Prop
/-- What is asked of a callee: which, what is lent, the objects, the arguments. -/
def vask (ld : FuncId → Bool) (st : St) (f : VV) (args : List VV) : Option (FuncId × List Nat × List Ob × List VV) :=
  match f with
  | .fn (.func g) caps =>
    bif ld g then
      let ids := reachF st 64 ((args ++ caps).flatMap (refsF 8)) []
      bif okIds st.nx ids then some (g, ids, ids.map (lendOb st ids), (args ++ caps).map (lendV st ids)) else none
    else
      match omapL (snapF st.Hg (st.nx + 4)) (args ++ caps) with
      | some xs => some (g, [], [], xs)
      | none => none
  | _ => none
def backL (nb : Bool) (st : St) (ids : List Nat) : Nat → List Ob → List Ob
  | _, [] => []
  | j, o :: os => backOb nb st ids j o :: backL nb st ids (j + 1) os
/-- What comes back. -/
def vback (st : St) (ld : Bool) (ids : List Nat) (os : List Ob) (r : VV) : Res :=
  bif Nat.ble ids.length os.length then
    { val := backV (!ld) st ids r, new := (backL (!ld) st ids 0 os).drop ids.length,
      put := bif ld then some (fun k => match idx ids k with
        | some j => (backL (!ld) st ids 0 os).getD j (.gone 0)
        | none => st.H k) else none }
  else .bad
def Res.also (r : Res) (ps : List Prop) : Res := { r with chk := r.chk ++ ps }
def vcall (O : Orc) (st : St) (f : VV) (args : List VV) : Res :=
  match vask O.lend st f args with
  | some q => (vback st (O.lend q.1) q.2.1 (O.run q.1 q.2.2.1 q.2.2.2).1.1 (O.run q.1 q.2.2.1 q.2.2.2).1.2).also (O.run q.1 q.2.2.1 q.2.2.2).2
  | none => .bad

def vlens (T : TypeId → TE) : List VV → List TypeId → Res
  | [x], [t] => vlen T t x
  | _, _ => .bad
def vapps (T : TypeId → TE) (st : St) : List VV → List TypeId → Res
  | [x, y], [t, t'] => bif Nat.beq t t' then vappend T st t x y else .bad
  | _, _ => .bad
def vmm (isMax : Bool) : List VV → Res
  | [.sc (.int k x), .sc (.int k' y)] => bif decide (k = k') then .ok (.sc (.int k (bif isMax then max x y else min x y))) else .bad
  | _ => .bad
def vop (T : TypeId → TE) (O : Orc) (st : St) : Op → Res
  | .move x | .assign x => .ok (st.val x)
  | .pick c a b => (vpick (st.val c) (st.val a) (st.val b)).q
  | .binOp op t x y _ => (vbin T op t (st.val x) (st.val y)).q
  | .unOp op _ x => (vun op (st.val x)).q
  | .load t a => (vload T st t (st.val a)).q
  | .store t a x => vstore T st t (st.val a) (st.val x)
  | .fieldAddr s x f => (vfieldAt T s f (st.val x)).q
  | .field s x f => (vfield T s f (st.val x)).q
  | .indexAddr t x i => (vindexAt T t (st.val x) (st.val i)).q
  | .index t x i => (vindex T t (st.val x) (st.val i)).q
  | .extract x i => (vextract (st.val x) i).q
  | .build t parts => (vbuild T t (parts.toList.map fun p => (p.1, st.val p.2))).q
  | .buildSlice t n parts => vbuildSlice T st t n (parts.toList.map fun p => (p.1, st.val p.2))
  | .makeSlice t n m => vmake T st t (st.val n) (st.val m)
  | .alloc e => bif (T e).k.known then { val := .bp st.nx 0, new := [.box (T e).zero] } else .bad
  | .box _ x => bif vfix (st.val x) then { val := .bp st.nx 0, new := [.box (st.val x).cells] } else .bad
  | .slice t x lo hi none => (vslice T t (st.val x) (lo.map st.val) (hi.map st.val)).q
  | .nilCheck x => (vnil (st.val x)).q
  | .makeFunc f first caps => (bif first.isEmpty then .ok (.fn f (caps.toList.map st.val)) else .bad : Res).q
  | .convert s d x => (vconv T s d (st.val x)).q
  | .call c =>
    match c.callee with
    | .value f => vcall O st (st.val f) (c.args.toList.map st.val)
    | .builtin .len => (vlens T (c.args.toList.map st.val) c.argTypes.toList).q
    | .builtin .append => vapps T st (c.args.toList.map st.val) c.argTypes.toList
    | .builtin .max => (vmm true (c.args.toList.map st.val)).q
    | .builtin .min => (vmm false (c.args.toList.map st.val)).q
    | _ => .bad
  | _ => .bad
end Go.Proofs.Ytnodhjlpoaahbaa
