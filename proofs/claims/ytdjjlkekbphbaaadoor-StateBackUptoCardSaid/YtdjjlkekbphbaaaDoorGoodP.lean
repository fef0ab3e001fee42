/-
  Layer 11 in plain terms: which models may be run, as the program's package good says.
-/
import Derived.Test.YtdjjlkekbphbaaaDoorEncGood
namespace Go.Proofs.YtdjjlkekbphbaaaDoor
open Go.RowKit

/-! ### All below a number -/
/-- All numbers below n are such. -/
def allI (n : Nat) (f : Nat → Bool) : Bool := (List.range n).all f
/-- The first one below n that is not such; -1: all are. -/
def badI (n : Nat) (f : Nat → Bool) : Int :=
  match (List.range n).find? fun i => !f i with
  | some i => (i : Int)
  | none => -1
theorem allI_iff {n : Nat} {f : Nat → Bool} : allI n f = true ↔ ∀ i, i < n → f i = true := by simp [allI]
theorem allI_no {n k : Nat} {f : Nat → Bool} (hk : k < n) (h : f k = false) : allI n f = false := by
  cases ha : allI n f with
  | false => rfl
  | true => have := allI_iff.1 ha k hk; rw [h] at this; cases this
theorem badI_none {n : Nat} {f : Nat → Bool} (h : ∀ i, i < n → f i = true) : badI n f = -1 := by
  unfold badI
  split
  · rename_i i hi
    have h1 := List.find?_some hi
    have h2 := List.mem_of_find?_eq_some hi
    rw [h i (List.mem_range.1 h2)] at h1; cases h1
  · rfl
theorem badI_some {n k : Nat} {f : Nat → Bool} (h : ∀ i, i < k → f i = true) (hk : k < n) (hf : f k = false) : badI n f = k := by
  unfold badI
  split
  · rename_i i hi
    rw [List.find?_range_eq_some] at hi
    obtain ⟨h1, h2, h3⟩ := hi
    by_cases hik : i < k
    · rw [h i hik] at h1; cases h1
    · by_cases hki : k < i
      · have := h3 k hki; rw [hf] at this; cases this
      · congr 1; omega
  · rename_i hi
    rw [List.find?_eq_none] at hi
    have := hi k (List.mem_range.2 hk)
    rw [hf] at this; simp at this
theorem badI_cases {n : Nat} {f : Nat → Bool} : (badI n f = -1 ∧ ∀ i, i < n → f i = true) ∨ (∃ k, k < n ∧ badI n f = (k : Int) ∧ f k = false) := by
  unfold badI
  split
  · rename_i i hi
    refine .inr ⟨i, List.mem_range.1 (List.mem_of_find?_eq_some hi), rfl, ?_⟩
    simpa using List.find?_some hi
  · rename_i hi
    rw [List.find?_eq_none] at hi
    exact .inl ⟨rfl, fun i h => by simpa using hi i (List.mem_range.2 h)⟩

/-! ### Types, shapes -/
def typP (t : D.Type) : Bool := decide (1 ≤ t.Bits) && (decide (t.Bits ≤ 32) && (!t.Signed || (decide (t.Bits = 16) || decide (t.Bits = 32))))
def fitsP (t : D.Type) (v : Int) : Bool :=
  typP t && bif t.Signed then decide (-(2 ^ (t.Bits - 1).toNat) ≤ v) && decide (v < 2 ^ (t.Bits - 1).toNat) else decide (0 ≤ v) && decide (v < 2 ^ t.Bits.toNat)
def dimBad (d : D.Dim) : Bool := decide (d.Len < 1) || (decide (1073741824 < d.Len - 1) || (decide (d.Stride < 0) || decide (1073741824 < d.Stride)))
def reachL : Int → List D.Dim → Int
  | n, [] => n
  | n, d :: l => bif dimBad d then 0 else reachL (n + (d.Len - 1) * d.Stride) l
def reachP (v : D.Var) : Int := bif decide (v.Slot < 0) || (decide (1073741824 < v.Slot) || decide (4 < v.Dims.length)) then 0 else reachL (v.Slot + 1) v.Dims
def typesP (t : List D.Type) (init : List Int) : Int := badI t.length fun i => fitsP (t.getD i default) (init.getD i 0)
def shapeP (s : D.Shape) : Bool := decide (0 ≤ s.Room) && decide (s.Room ≤ 16) && decide (1 ≤ s.Fields.length) && decide (s.Fields.length ≤ 8) && allI s.Fields.length fun i => typP (s.Fields.getD i default)

/-! ### Expressions -/
def procP (m : D.Model) (n : Int) : Bool := decide (0 ≤ n) && decide (n < m.Procs.length) && decide (n ≠ m.Claim)
def inP (at' x : Int) : Bool := decide (0 ≤ x) && decide (x < at')
def belowP (at' : Int) (l : List Int) : Bool := allI l.length fun i => inP at' (l.getD i 0)
def dimP (at' : Int) (d : D.Dim) : Bool := inP at' d.I && decide (1 ≤ d.Len) && decide (d.Len ≤ 128) && decide (0 ≤ d.Stride) && decide (d.Stride ≤ 128)
def variableP (m : D.Model) (at' : Int) (v : D.Var) : Bool :=
  decide (0 ≤ v.Scope) && decide (v.Scope ≤ 2) && decide (0 ≤ v.Slot) && decide (v.Slot ≤ 128) && decide (v.Dims.length ≤ 4) &&
  (bif decide (v.Scope = 2) then inP at' v.Who && procP m v.Type_ else decide (v.Who = -1) && decide (v.Type_ = -1)) && allI v.Dims.length fun i => dimP at' (v.Dims.getD i default)
def partsP (op : Int) : Nat := if op = 1 ∨ op = 2 ∨ op = 31 ∨ op = 32 ∨ op = 33 ∨ op = 34 ∨ op = 35 ∨ op = 39 then 0 else if op = 24 then 3 else if 6 ≤ op ∧ op ≤ 23 then 2 else 1
def exAt (m : D.Model) (k : Int) : D.Expr := m.Exprs.getD k.toNat default
def matchP (m : D.Model) (a k : Int) : Bool := decide (-1 ≤ k) && decide (k ≤ 1) && !(decide (k = 0) && decide ((exAt m a).Op ≠ 2))
def matchedP (m : D.Model) (at' : Int) (args mt : List Int) : Bool :=
  decide (1 ≤ args.length) && decide (args.length ≤ 8) && decide (mt.length = args.length) && belowP at' args && allI mt.length fun i => matchP m (args.getD i 0) (mt.getD i 0)
def locsOf (m : D.Model) (n : Int) : List D.Loc := (m.Procs.getD n.toNat default).Locs
def placesP (m : D.Model) (x : D.Expr) : Bool := decide (0 ≤ x.N) && decide (x.N < 1073741824) && procP m x.N && decide (1 ≤ x.Args.length) && belowP (locsOf m x.N).length x.Args
def partP (at' : Int) (op : Int) (i : Nat) (p : Int) : Bool := bif decide (i < partsP op) then inP at' p else decide (p = -1)
def exprP (m : D.Model) (at' : Int) : Bool :=
  let x := exAt m at'
  decide (1 ≤ x.Op) && decide (x.Op ≤ 39) && (partP at' x.Op 0 x.A && partP at' x.Op 1 x.B && partP at' x.Op 2 x.C) &&
  (if x.Op = 1 then fitsP ⟨32, true⟩ x.N else if x.Op = 2 then variableP m at' x.V else if x.Op = 30 then matchedP m at' x.Args x.Match && (decide (x.N = 0) || decide (x.N = 1))
   else if x.Op = 38 then placesP m x else if x.Op = 39 then decide (0 ≤ x.N) && decide (x.N < 1073741824) && procP m x.N && decide ((x.Args.length : Int) = (m.Procs.getD x.N.toNat default).Params) && belowP at' x.Args else true)
def heldP (x : D.Expr) : List Int :=
  [x.A, x.B, x.C].take (partsP x.Op) ++ ((if x.Op = 30 ∨ x.Op = 39 then x.Args else []) ++ (if x.Op = 2 then (if x.V.Scope = 2 then [x.V.Who] else []) ++ x.V.Dims.map D.Dim.I else []))

/-! ### Places -/
def waysP (l : D.Loc) : List (List D.Trans) := l.Out :: l.Esc
def frameP (p : D.Proc) : Bool :=
  decide (p.Frame.length ≤ 128) && decide (p.Init.length = p.Frame.length) && decide (typesP p.Frame p.Init < 0) && decide (0 ≤ p.Params) && decide (p.Params ≤ p.Frame.length) && decide (0 ≤ p.Active) && decide (p.Active ≤ 16) && decide (1 ≤ p.Prio) && decide (p.Prio ≤ 255)
/-- One place's ways: how many there are then; none: no. -/
def waysOk (n : Nat) (many : Nat) (k : Nat) : List (List D.Trans) → Option Nat
  | [] => some many
  | w :: r => bif decide (0 < k) && decide (w.length = 0) then none else bif decide (1024 < many + w.length) then none
      else bif allI w.length (fun i => inP n (w.getD i default).To) then waysOk n (many + w.length) (k + 1) r else none
def locBad (final : Int) (i : Nat) (l : D.Loc) : Bool := decide (8 < l.Esc.length) || (l.Dstep && l.Atomic) || (decide ((i : Int) = final) && decide (0 < l.Out.length + l.Esc.length))
def locsOk (n : Nat) (final : Int) (many : Nat) (i : Nat) : List D.Loc → Bool
  | [] => true
  | l :: r => bif locBad final i l then false else match waysOk n many 0 (waysP l) with
    | some many' => locsOk n final many' (i + 1) r
    | none => false
def graphP (p : D.Proc) : Bool :=
  decide (1 ≤ p.Locs.length) && decide (p.Locs.length ≤ 256) && inP p.Locs.length p.Start && inP p.Locs.length p.Final && locsOk p.Locs.length p.Final 0 0 p.Locs
def plainLoc (l : D.Loc) : Bool := decide (l.Esc.length = 0) && !l.Atomic && !l.Dstep
def claimedP (p : D.Proc) : Bool :=
  decide (p.Frame.length = 0) && decide (p.Params ≤ 0) && decide (p.Active ≤ 0) && decide (p.Provided = -1) && allI p.Locs.length fun i => plainLoc (p.Locs.getD i default)

/-! ### Statements -/
def emptyP (s : D.Stmt) (args n text : Bool) : Bool := (!args || decide (s.Args.length + s.Match.length = 0)) && (!n || decide (s.N = 0)) && (!text || decide (s.Text.size = 0))
def placeP (m : D.Model) (a : Int) : Bool := inP m.Exprs.length a
def targetP (m : D.Model) (a : Int) : Bool := placeP m a && decide ((exAt m a).Op = 2) && decide ((exAt m a).V.Scope ≠ 2)
def takenP (m : D.Model) (s : D.Stmt) : Bool := matchedP m m.Exprs.length s.Args s.Match && allI s.Match.length fun i => !decide (s.Match.getD i 0 = 0) || targetP m (s.Args.getD i 0)
def statementP (m : D.Model) (s : D.Stmt) : Bool :=
  if s.Kind = 1 ∨ s.Kind = 3 then placeP m s.A && decide (s.B = -1) && emptyP s true true true
  else if s.Kind = 2 then targetP m s.A && placeP m s.B && emptyP s true true true
  else if s.Kind = 4 then decide (s.A = -1) && decide (s.B = -1) && belowP m.Exprs.length s.Args && decide (s.Match.length = 0) && decide (s.Text.size ≤ 256) && decide (s.N = 0)
  else if s.Kind = 5 then placeP m s.A && decide (s.B = -1) && decide (1 ≤ s.Args.length) && decide (s.Args.length ≤ 8) && belowP m.Exprs.length s.Args && decide (s.Match.length = 0) && (decide (s.N = 0) || decide (s.N = 1)) && decide (s.Text.size = 0)
  else if s.Kind = 6 then placeP m s.A && decide (s.B = -1) && takenP m s && decide (0 ≤ s.N) && decide (s.N ≤ 3) && decide (s.Text.size = 0)
  else if s.Kind = 7 ∨ s.Kind = 8 then decide (s.A = -1) && decide (s.B = -1) && emptyP s true true true
  else if s.Kind = 9 then targetP m s.A && decide (s.B = -1) && decide (0 ≤ s.N) && decide (s.N < m.Shapes.length) && emptyP s true false true
  else false

/-! ### What is used -/
def slotsP (m : D.Model) (i : Int) (v : D.Var) : Int :=
  if v.Scope = 0 then m.Globals.length else if v.Scope = 1 then (m.Procs.getD i.toNat default).Frame.length else (m.Procs.getD v.Type_.toNat default).Frame.length
/-- What may not be used. -/
def useBad (m : D.Model) (i run k : Int) : Bool :=
  let x := exAt m k
  (decide (x.Op = 39) && decide (k ≠ run)) || (decide (i = m.Claim) && (decide (x.Op = 31) || (decide (x.Op = 39) || (decide (x.Op = 2) && decide (x.V.Scope = 1))))) || (decide (x.Op = 2) && decide (slotsP m i x.V < reachP x.V))
/-- Through the list of what is to be looked at. -/
def usesL (m : D.Model) (i run : Int) : Nat → List Bool → List Int → Bool
  | _, _, [] => true
  | 0, _, _ => true
  | g + 1, seen, k :: r => bif seen.getD k.toNat false then usesL m i run g seen r else bif useBad m i run k then false else usesL m i run g (seen.set k.toNat true) (r ++ heldP (exAt m k))
/-- How much is still to be looked at. -/
def load (m : D.Model) (seen : List Bool) : Nat := ((List.range m.Exprs.length).map fun k => bif seen.getD k false then 0 else (heldP (m.Exprs.getD k default)).length).sum
def noneSeen (m : D.Model) : List Bool := List.replicate m.Exprs.length false
def usesP (m : D.Model) (i : Int) (list : List Int) (run : Int) : Bool := usesL m i run (list.length + load m (noneSeen m) + 1) (noneSeen m) list
def wayP (m : D.Model) (i : Int) (s : D.Stmt) : Bool :=
  statementP m s && !(decide (i = m.Claim) && (decide (s.Kind ≠ 1) && (decide (s.Kind ≠ 3) && (decide (s.Kind ≠ 7) && decide (s.Kind ≠ 8))))) &&
  usesP m i (s.Args ++ ((if 0 ≤ s.A then [s.A] else []) ++ (if 0 ≤ s.B then [s.B] else []))) (if s.Kind = 1 then s.A else if s.Kind = 2 then s.B else -1)
def transP (m : D.Model) (i : Int) (w : List D.Trans) : Bool := allI w.length fun k => wayP m i (w.getD k default).S
def locP (m : D.Model) (i : Int) (l : D.Loc) : Bool := allI (waysP l).length fun k => transP m i ((waysP l).getD k [])
def procAllP (m : D.Model) (i : Int) : Bool :=
  let p := m.Procs.getD i.toNat default
  (allI p.Locs.length fun k => locP m i (p.Locs.getD k default)) && (decide (p.Provided < 0) || usesP m i [p.Provided] (-1))

/-! ### All of a model -/
/-- The parts of one expression, among those that are had; none: one was had. -/
def hadL : List Bool → List Int → Option (List Bool)
  | had, [] => some had
  | had, p :: r => bif had.getD p.toNat false then none else hadL (had.set p.toNat true) r
def exprsL (m : D.Model) : Nat → Nat → List Bool → Int
  | 0, _, _ => -1
  | g + 1, i, had => bif exprP m i then (match hadL had (heldP (m.Exprs.getD i default)) with
    | some had' => exprsL m g (i + 1) had'
    | none => i) else i
def shapesP (m : D.Model) : Int := badI m.Shapes.length fun i => shapeP (m.Shapes.getD i default)
def chansP (m : D.Model) : Int := badI m.Chans.length fun i => inP m.Shapes.length (m.Chans.getD i 0)
def exprsP (m : D.Model) : Int := exprsL m m.Exprs.length 0 (noneSeen m)
def tablesP (m : D.Model) : Int × Int :=
  bif decide (128 < m.Globals.length) || !decide (m.Init.length = m.Globals.length) then (1, -1)
  else bif decide (0 ≤ typesP m.Globals m.Init) then (1, typesP m.Globals m.Init)
  else bif decide (32 < m.Shapes.length) || decide (32 < m.Chans.length) then (2, -1)
  else bif decide (0 ≤ shapesP m) then (2, shapesP m)
  else bif decide (0 ≤ chansP m) then (2, chansP m)
  else bif decide (m.Procs.length < 1) || (decide (16 < m.Procs.length) || (decide (m.Claim < -1) || (decide ((m.Procs.length : Int) ≤ m.Claim) || decide (4096 < m.Exprs.length)))) then (3, -1)
  else bif decide (0 ≤ exprsP m) then (3, exprsP m) else (0, 0)
def frameBad (m : D.Model) (i : Nat) : Bool :=
  let p := m.Procs.getD i default
  !frameP p || (!graphP p || (decide (p.Provided < -1) || (decide ((m.Exprs.length : Int) ≤ p.Provided) || (decide ((i : Int) = m.Claim) && !claimedP p))))
def framesP (m : D.Model) : Int := badI m.Procs.length fun i => !frameBad m i
def manyP (m : D.Model) (k : Nat) : Int := ((m.Procs.take k).map D.Proc.Active).sum
def procsP (m : D.Model) : Int := badI m.Procs.length fun i => procAllP m i
def checkP (m : D.Model) : Int × Int × Int :=
  bif decide (0 < (tablesP m).1) then (40, tablesP m) else bif decide (0 ≤ framesP m) then (40, 4, framesP m) else bif decide (16 < manyP m m.Procs.length) then (40, 5, -1)
  else bif decide (0 ≤ procsP m) then (40, 6, procsP m) else (0, 0, 0)
end Go.Proofs.YtdjjlkekbphbaaaDoor
