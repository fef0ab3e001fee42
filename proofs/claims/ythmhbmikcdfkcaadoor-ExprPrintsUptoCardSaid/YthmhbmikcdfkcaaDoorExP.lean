/-
  Layer 14 in plain terms: what an expression is reckoned to; no program in this text.
-/
import Derived.Test.YthmhbmikcdfkcaaDoorGpE
import Derived.Test.YthmhbmikcdfkcaaDoorGpO
namespace Go.Proofs.YthmhbmikcdfkcaaDoor
open Go.RowKit

def truthP (b : Bool) : Int × Int := (bif b then 1 else 0, 0)
/-- What the parts are reckoned to. -/
abbrev Evl := Int → Int × Int
section
variable (e : D.Env) (ev : Evl)
def chanV (a : Int) : Int × Int :=
  bif decide ((ev a).2 ≠ 0) then (0, (ev a).2) else bif decide ((ev a).1 < 1) || decide ((e.S.Chans.length : Int) < (ev a).1) then (0, 49) else ((ev a).1, 0)
def chAt (n : Int) : D.Chan := e.S.Chans.getD (n - 1).toNat default
def askP (op room many : Int) : Int × Int :=
  if op = 25 then (many, 0) else if op = 26 then truthP (decide (room ≤ many)) else if op = 28 then truthP (decide (many < room)) else if op = 27 then truthP (decide (many = 0)) else truthP (decide (0 < many))
def asksV (x : D.Expr) : Int × Int :=
  bif decide ((chanV e ev x.A).2 ≠ 0) then (0, (chanV e ev x.A).2) else askP x.Op (shAt e.M (chAt e (chanV e ev x.A).1).Shape).Room (chAt e (chanV e ev x.A).1).Queue.length
/-- The first that is not 0 of some; 0: none. -/
def errI : Nat → (Nat → Int) → Int
  | 0, _ => 0
  | n + 1, f => bif decide (errI n f ≠ 0) then errI n f else f n
def wantV (a m : Int) : Int × Int := bif decide (m = 1) then ev a else (0, 0)
def wantsV (args mt : List Int) : List Int := (List.range args.length).map fun i => (wantV ev (args.getD i 0) (mt.getD i 0)).1
def wantsE (args mt : List Int) (n : Nat) : Int := errI n fun i => (wantV ev (args.getD i 0) (mt.getD i 0)).2
def matchesP (x l mt : List Int) : Bool := decide (mt.length ≤ x.length) && decide (mt.length ≤ l.length) && allI mt.length fun i => !(decide (mt.getD i 0 = 1) && decide (x.getD i 0 ≠ l.getD i 0))
def findG (l mt : List Int) (any : Bool) : Nat → List (List Int) → Int
  | _, [] => -1
  | k, x :: q => bif matchesP x l mt then (k : Int) else bif any then findG l mt any (k + 1) q else -1
def findP (c : D.Chan) (l mt : List Int) (any : Bool) : Int := findG l mt any 0 c.Queue
def pollV (x : D.Expr) : Int × Int :=
  bif decide ((chanV e ev x.A).2 ≠ 0) then (0, (chanV e ev x.A).2)
  else bif decide ((shAt e.M (chAt e (chanV e ev x.A).1).Shape).Fields.length ≠ x.Args.length) then (0, 49)
  else bif decide (wantsE ev x.Args x.Match x.Args.length ≠ 0) then (0, wantsE ev x.Args x.Match x.Args.length)
  else truthP (decide (0 ≤ findP (chAt e (chanV e ev x.A).1) (wantsV ev x.Args x.Match) x.Match (decide (x.N = 1))))
def psAt (n : Int) : D.Process := e.S.Procs.getD n.toNat default
def remoteV (x : D.Expr) : Int × Int :=
  bif decide ((ev x.A).2 ≠ 0) then (0, (ev x.A).2)
  else bif decide ((ev x.A).1 < 0) || (decide ((e.S.Procs.length : Int) ≤ (ev x.A).1) || (decide (x.Op = 38) && decide ((psAt e (ev x.A).1).Type_ ≠ x.N))) then (0, 52)
  else bif decide (x.Op = 37) then ((psAt e (ev x.A).1).Loc, 0) else truthP (decide ((psAt e (ev x.A).1).Loc ∈ x.Args))
def logicV (x : D.Expr) : Int × Int :=
  bif decide ((ev x.A).2 ≠ 0) then (0, (ev x.A).2)
  else bif decide (x.Op = 24) then (bif decide ((ev x.A).1 ≠ 0) then ev x.B else ev x.C)
  else bif (decide (x.Op = 22) && decide ((ev x.A).1 = 0)) || (decide (x.Op = 23) && decide ((ev x.A).1 ≠ 0)) then truthP (decide ((ev x.A).1 ≠ 0))
  else bif decide ((ev x.B).2 ≠ 0) then (0, (ev x.B).2) else truthP (decide ((ev x.B).1 ≠ 0))
def sumsV (x : D.Expr) : Int × Int :=
  bif decide ((ev x.A).2 ≠ 0) then (0, (ev x.A).2)
  else bif decide (x.Op = 3) || (decide (x.Op = 4) || decide (x.Op = 5)) then (oneV x.Op (ev x.A).1, oneE x.Op)
  else bif decide ((ev x.B).2 ≠ 0) then (0, (ev x.B).2) else (twoV x.Op (ev x.A).1 (ev x.B).1, twoE x.Op (ev x.B).1)
def holderV (v : D.Var) : Int × Int :=
  bif decide (v.Scope = 0) then (bif decide ((e.S.Globals.length : Int) < reachP v) then (0, 42) else (-1, 0))
  else bif decide (v.Scope = 1) then (bif decide (e.Pid < 0) || decide (((psAt e e.Pid).Frame.length : Int) < reachP v) then (0, 42) else (e.Pid, 0))
  else bif decide ((ev v.Who).2 ≠ 0) then (0, (ev v.Who).2)
  else bif decide ((ev v.Who).1 < 0) || (decide ((e.S.Procs.length : Int) ≤ (ev v.Who).1) || decide ((psAt e (ev v.Who).1).Type_ ≠ v.Type_)) then (0, 52)
  else bif decide (((psAt e (ev v.Who).1).Frame.length : Int) < reachP v) then (0, 42) else ((ev v.Who).1, 0)
def dimsV : Int → List D.Dim → Int × Int
  | n, [] => (n, 0)
  | n, d :: l => bif decide ((ev d.I).2 ≠ 0) then (0, (ev d.I).2) else bif decide ((ev d.I).1 < 0) || decide (d.Len ≤ (ev d.I).1) then (0, 47) else dimsV (n + (ev d.I).1 * d.Stride) l
def slotV (x : D.Expr) : Int × Int × Int :=
  bif decide (x.Op ≠ 2) then (0, 0, 42)
  else bif decide ((holderV e ev x.V).2 ≠ 0) then (0, 0, (holderV e ev x.V).2)
  else bif decide ((dimsV ev x.V.Slot x.V.Dims).2 ≠ 0) then (0, 0, (dimsV ev x.V.Slot x.V.Dims).2) else ((holderV e ev x.V).1, (dimsV ev x.V.Slot x.V.Dims).1, 0)
def readV (x : D.Expr) : Int × Int :=
  bif decide ((slotV e ev x).2.2 ≠ 0) then (0, (slotV e ev x).2.2)
  else bif decide ((slotV e ev x).1 < 0) then (e.S.Globals.getD (slotV e ev x).2.1.toNat 0, 0) else ((psAt e (slotV e ev x).1).Frame.getD (slotV e ev x).2.1.toNat 0, 0)
def progressP : Bool := !(allI e.S.Procs.length fun i => !((locsOf e.M (e.S.Procs.getD i default).Type_).getD (e.S.Procs.getD i default).Loc.toNat default).Progress)
def ableV (x : D.Expr) : Int × Int :=
  bif decide ((ev x.A).2 ≠ 0) then (0, (ev x.A).2)
  else truthP (decide (0 ≤ (ev x.A).1) && (decide ((ev x.A).1 < e.Able.length) && e.Able.getD (ev x.A).1.toNat false))
def evalV (x : D.Expr) : Int × Int :=
  if x.Op = 1 then (x.N, 0) else if x.Op = 2 then readV e ev x else if x.Op = 22 ∨ x.Op = 23 ∨ x.Op = 24 then logicV ev x
  else if x.Op = 25 ∨ x.Op = 26 ∨ x.Op = 27 ∨ x.Op = 28 ∨ x.Op = 29 then asksV e ev x else if x.Op = 30 then pollV e ev x
  else if x.Op = 31 then (e.Pid, 0) else if x.Op = 32 then (e.S.Last, 0) else if x.Op = 33 then (e.S.Procs.length, 0) else if x.Op = 34 then truthP (!progressP e)
  else if x.Op = 35 then truthP e.Timeout else if x.Op = 36 then ableV e ev x else if x.Op = 37 ∨ x.Op = 38 then remoteV e ev x else if x.Op = 39 then (0, 42) else sumsV ev x
end
/-- An expression is reckoned; n: at most so many parts within another. -/
def evalF (e : D.Env) : Nat → Evl
  | 0, _ => (0, 0)
  | n + 1, a => evalV e (evalF e n) (exAt e.M a)
/-- What an expression's parts are reckoned to. -/
def subP (e : D.Env) : Evl := evalF e (e.M.Exprs.length - 1)
def exCheck (e : D.Env) (x : Int) : Int :=
  bif decide (stCheck e.M e.S ≠ 0) then stCheck e.M e.S
  else bif decide (e.Pid < -1) || (decide ((e.S.Procs.length : Int) ≤ e.Pid) || (decide (x < 0) || decide ((e.M.Exprs.length : Int) ≤ x))) then 42 else 0
def evalP (e : D.Env) (x : Int) : Int × Int := bif decide (exCheck e x ≠ 0) then (0, exCheck e x) else evalV e (subP e) (exAt e.M x)
def slotP (e : D.Env) (x : Int) : Int × Int × Int := bif decide (exCheck e x ≠ 0) then (0, 0, exCheck e x) else slotV e (subP e) (exAt e.M x)
def echanP (e : D.Env) (x : Int) : Int × Int := bif decide (exCheck e x ≠ 0) then (0, exCheck e x) else chanV e (evalF e e.M.Exprs.length) x
/-- Where a number stands; -1: nowhere. -/
def idxP (v : Int) : Nat → List Int → Int
  | _, [] => -1
  | k, y :: l => bif decide (v = y) then (k : Int) else idxP v (k + 1) l
theorem idxP_cons {v y : Int} {k : Nat} {l : List Int} : idxP v k (y :: l) = bif decide (v = y) then (k : Int) else idxP v (k + 1) l := rfl
theorem idx_mem {v : Int} : ∀ {l : List Int} {k : Nat}, decide (v ∈ l) = decide (idxP v k l ≥ 0)
  | [], k => by simp [idxP]
  | y :: l, k => by
    unfold idxP
    by_cases h : v = y
    · simp [h]
    · have := idx_mem (v := v) (l := l) (k := k + 1)
      simp only [h, decide_false, cond_false, ← this]
      simp [h]
end Go.Proofs.YthmhbmikcdfkcaaDoor
