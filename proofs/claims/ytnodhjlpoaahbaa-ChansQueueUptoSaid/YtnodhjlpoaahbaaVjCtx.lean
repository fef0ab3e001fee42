/-
  Loops within loops within a function's text: where they stand, what is asked of them.
-/
import Derived.Test.YtnodhjlpoaahbaaVjFn
namespace Go.Proofs.Ytnodhjlpoaahbaa
open Go.RowKit

/-- A part of a text, its place, what follows. -/
structure Ctx where
  P : Program
  T : TypeId → TE
  Sh : Shs
  N : Nat
  L : Ann
  code : Code
  p0 : List Nat
  K0 : Exit → St → Prop
/-- What is asked of it. -/
def Ctx.goal (c : Ctx) (st : St) : Prop := xc c.P c.T c.Sh c.N c.L c.p0 c.code c.K0 st
def Ctx.sub (c : Ctx) (rel : List Nat) : Code := subC rel c.code
def Ctx.k (c : Ctx) (rel : List Nat) : Exit → St → Prop := kontC c.P c.T c.Sh c.N c.L rel c.p0 c.code c.K0
def Ctx.at (c : Ctx) (rel : List Nat) : List Nat := rel.reverse ++ c.p0
/-- A part that is reckoned apart. -/
def SatC (c : Ctx) (rel : List Nat) (st : St) : Prop := Sat c.P c.N c.L.base (c.at rel) (c.sub rel) (c.k rel) st
/-- A loop's round. -/
def Ctx.loop (c : Ctx) (rel : List Nat) (J : St → Prop) : Ctx :=
  { c with code := subC (rel ++ [0]) c.code, p0 := 0 :: c.at rel, K0 := loopK c.L.base (c.L.keep (c.at rel)) J (c.k rel) }
/-- A label's first coming, each later one. -/
def Ctx.first (c : Ctx) (rel : List Nat) (l : Nat) (J : St → Prop) : Ctx :=
  { c with code := subC (rel ++ [0]) c.code, p0 := 0 :: c.at rel, K0 := jumpK l c.L.base (c.L.keep (c.at rel)) J (c.k rel) }
def Ctx.pass (c : Ctx) (rel : List Nat) (l : Nat) (J : St → Prop) : Ctx :=
  { c with code := (findLabel (subC (rel ++ [0]) c.code) l).getD .skip, p0 := 1 :: c.at rel, K0 := jumpK l c.L.base (c.L.keep (c.at rel)) J (c.k rel) }
/-- A function's text. -/
def fnCtx (P : Program) (T : TypeId → TE) (Sh : Shs) (L : Ann) (pub : Bool) (fn : Func) (hs' : List Ob) (r : VV) : Ctx :=
  ⟨P, T, Sh, fn.ntmps, L, bodyOf fn, [], retK T pub L.base fn.results.toList hs' r⟩

/-- **A loop**: what holds at its head, what sinks. -/
theorem satC_loop {c : Ctx} (hT : TOk c.P c.T) (hmx : c.P.follows .mixedOrders = true) {rel : List Nat} {st : St} (J : Nat → St → Prop) (hl : c.sub rel = .loop (subC (rel ++ [0]) c.code)) (hB : regsB c.N (subC (rel ++ [0]) c.code) = true) (hJ : ∃ g, Up (J g) st)
    (round : ∀ g st, J g st → (c.loop rel fun st' => ∃ g', g' < g ∧ Up (J g') st').goal st) : SatC c rel st :=
  sat_loop (L := c.L) (p := c.at rel) (K := c.k rel) hT hmx _ c.Sh (c.L.keep (c.at rel)) J hl hB hJ round
/-- **A label that is jumped to.** -/
theorem satC_scope {c : Ctx} (hT : TOk c.P c.T) (hmx : c.P.follows .mixedOrders = true) {rel : List Nat} {st : St} (l : Nat) (J : Nat → St → Prop) (hl : c.sub rel = .scope (subC (rel ++ [0]) c.code)) (hf : (findLabel (subC (rel ++ [0]) c.code) l).isSome = true)
    (hB : regsB c.N (subC (rel ++ [0]) c.code) = true) (hB' : regsB c.N ((findLabel (subC (rel ++ [0]) c.code) l).getD .skip) = true)
    (first : (c.first rel l fun st' => ∃ g, Up (J g) st').goal st) (pass : ∀ g st, J g st → (c.pass rel l fun st' => ∃ g', g' < g ∧ Up (J g') st').goal st) : SatC c rel st := by
  obtain ⟨rest, hr⟩ := Option.isSome_iff_exists.1 hf
  have e : (findLabel (subC (rel ++ [0]) c.code) l).getD .skip = rest := by rw [hr]; rfl
  refine sat_scope (L := c.L) (p := c.at rel) (K := c.k rel) hT hmx _ rest c.Sh (c.L.keep (c.at rel)) l J hl hr hB (by rw [← e]; exact hB') first fun g st h => ?_
  rw [← e]
  exact pass g st h
/-- **A function.** -/
theorem vspec_ctx {P : Program} {T : TypeId → TE} (hT : TOk P T) (hmx : P.follows .mixedOrders = true) {f : FuncId} {fn : Func} {hs : List Ob} {xs : List VV} {hs' : List Ob} {r : VV} (Sh : Shs) (L : Ann) (pub : Bool) (hf : P.funcs[f]? = some fn)
    (hfn : fnB fn xs.length = true) (hb : L.base = hs.length) (h : (fnCtx P T Sh L pub fn hs' r).goal (St.init hs xs)) : VSpec P f hs xs hs' r :=
  vspec_of hT hmx Sh L pub hf hfn hb h
theorem SatC.le {c : Ctx} {rel : List Nat} {l l' : List (Nat × VV)} {hs hs' : List Ob} (h1 : leT l l') (h2 : leO hs hs') (h : SatC c rel (mkSt l' hs')) : SatC c rel (mkSt l hs) := Sat.le h1 h2 h
theorem SatC.own {c : Ctx} {rel : List Nat} {l : List (Nat × VV)} {hs : List Ob} (k t sz : Nat) (f : Nat → List VV) (hk : l[k]? = some (t, .nl)) (h : SatC c rel (mkSt (l.set k (t, .ow hs.length 0 0)) (hs ++ [.arr true 0 0 sz f]))) : SatC c rel (mkSt l hs) := Sat.own k t sz f hk h
end Go.Proofs.Ytnodhjlpoaahbaa
