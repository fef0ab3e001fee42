/-
  Values as trees: what a value says when all that it points to is read out; when a value in a world says it; that it goes on saying it.
-/
import Derived.WalkKit
import Derived.Below
import Derived.Orders
namespace Go.Proofs.Ytnodhjlpoaahbaa
open Go.RowKit

/-- A value, read out: a scalar; a slice that nobody writes to any more; a pointer to cells that nobody writes to; a pointer into a box of the run's own; a struct; several results; a function with what it captured. -/
inductive VV where
  | dead
  | sc (v : Value)
  | sl (n sz : Nat) (f : Nat → List VV)
  | tp (cs : List VV)
  | bp (id off : Nat)
  | agg (cs : List VV)
  | tup (cs : List VV)
  | fn (f : Fn) (cs : List VV)

instance : Inhabited VV := ⟨.dead⟩

/-- Where the run's boxes lie. -/
abbrev Phi := Nat → Option Nat

/-- A value says what the tree says, in a world in which the blocks of A may yet be written. (With no map: what lies in memory.) -/
inductive V (w : World) (A : Nat → Prop) : Option Phi → VV → Value → Prop
  | dead {m : Option Phi} {v : Value} : V w A m .dead v
  | sc {m : Option Phi} {v : Value} : V w A m (.sc v) v
  | nil {m : Option Phi} {sz cap : Nat} {f : Nat → List VV} {a : Option Addr} (h : cap ≤ maxLen) : V w A m (.sl 0 sz f) (.slice a 0 cap)
  | sl {m : Option Phi} {n sz b off cap : Nat} {f : Nat → List VV} (u : Nat → Nat → Value) (h1 : n ≤ cap) (h2 : cap ≤ maxLen) (h3 : b < w.heap.size) (h4 : ¬ A b)
      (h5 : ∀ i, i < n → (f i).length = sz) (h6 : ∀ i j x, i < n → (f i)[j]? = some x → w.cell? ⟨b, off + i * sz + j, none⟩ = some (u i j))
      (h7 : ∀ i j x, i < n → (f i)[j]? = some x → V w A none x (u i j)) : V w A m (.sl n sz f) (.slice (some ⟨b, off, none⟩) n cap)
  | tp {φ : Phi} {cs : List VV} {b off : Nat} (u : Nat → Value) (h1 : b < w.heap.size) (h2 : ∀ id, φ id ≠ some b) (h3 : ∀ j x, cs[j]? = some x → w.cell? ⟨b, off + j, none⟩ = some (u j))
      (h4 : ∀ j x, cs[j]? = some x → V w A none x (u j)) : V w A (some φ) (.tp cs) (.pointer (some ⟨b, off, none⟩))
  | bp {φ : Phi} {id off b : Nat} (h : φ id = some b) : V w A (some φ) (.bp id off) (.pointer (some ⟨b, off, none⟩))
  | agg {m : Option Phi} {cs : List VV} {vs : Array Value} (h1 : vs.size = cs.length) (h2 : ∀ (j : Nat) x, cs[j]? = some x → V w A m x (vs.getD j undef)) : V w A m (.agg cs) (.agg vs)
  | tup {m : Option Phi} {cs : List VV} {vs : Array Value} (h1 : vs.size = cs.length) (h2 : ∀ (j : Nat) x, cs[j]? = some x → V w A m x (vs.getD j undef)) : V w A m (.tup cs) (.tuple vs)
  | fn {m : Option Phi} {g : Fn} {cs : List VV} {vs : Array Value} (h1 : vs.size = cs.length) (h2 : ∀ (j : Nat) x, cs[j]? = some x → V w A m x (vs.getD j undef)) : V w A m (.fn g cs) (.func g #[] vs)

/-- From one map to a greater one, in a later world. -/
def ModeUp (w w' : World) : Option Phi → Option Phi → Prop
  | none, none => True
  | some φ, some φ' => (∀ id b, φ id = some b → φ' id = some b) ∧ ∀ k, k < w.heap.size → (∀ id, φ id ≠ some k) → w'.heap[k]? = w.heap[k]? ∧ ∀ id, φ' id ≠ some k
  | _, _ => False

theorem V.mono {w w' : World} {A A' : Nat → Prop} {m m' : Option Phi} {x : VV} {v : Value} (h : V w A m x v) (hs : w.heap.size ≤ w'.heap.size)
    (hA : ∀ k, k < w.heap.size → ¬ A k → w'.heap[k]? = w.heap[k]? ∧ ¬ A' k) (hm : ModeUp w w' m m') : V w' A' m' x v := by
  induction h generalizing m' with
  | dead => exact .dead
  | sc => exact .sc
  | nil h => exact .nil h
  | sl u h1 h2 h3 h4 h5 h6 h7 ih =>
    obtain ⟨e1, e2⟩ := hA _ h3 h4
    exact .sl u h1 h2 (Nat.lt_of_lt_of_le h3 hs) e2 h5 (fun i j x hi hx => (World.cell?_of_block e1).trans (h6 i j x hi hx)) (fun i j x hi hx => ih i j x hi hx (m' := none) trivial)
  | tp u h1 h2 h3 h4 ih =>
    cases m' with
    | none => exact hm.elim
    | some φ' =>
      obtain ⟨e1, e2⟩ := hm.2 _ h1 h2
      exact .tp u (Nat.lt_of_lt_of_le h1 hs) e2 (fun j x hx => (World.cell?_of_block e1).trans (h3 j x hx)) (fun j x hx => ih j x hx (m' := none) trivial)
  | bp h =>
    cases m' with
    | none => exact hm.elim
    | some φ' => exact .bp (hm.1 _ _ h)
  | agg h1 h2 ih => exact .agg h1 fun j x hx => ih j x hx hm
  | tup h1 h2 ih => exact .tup h1 fun j x hx => ih j x hx hm
  | fn h1 h2 ih => exact .fn h1 fun j x hx => ih j x hx hm

/-- What lies in memory may be held. -/
theorem V.held {w : World} {A : Nat → Prop} {x : VV} {v : Value} {m : Option Phi} (h : V w A none x v) : V w A m x v := by
  generalize hm : (none : Option Phi) = m0 at h
  induction h with
  | dead => exact .dead
  | sc => exact .sc
  | nil h => exact .nil h
  | sl u h1 h2 h3 h4 h5 h6 h7 _ => exact .sl u h1 h2 h3 h4 h5 h6 h7
  | tp => cases hm
  | bp => cases hm
  | agg h1 h2 ih => exact .agg h1 fun j x hx => ih j x hx hm
  | tup h1 h2 ih => exact .tup h1 fun j x hx => ih j x hx hm
  | fn h1 h2 ih => exact .fn h1 fun j x hx => ih j x hx hm

/-- Trees that lie in memory: no struct, no pointer. -/
def VV.lies : VV → Bool
  | .dead | .sc _ | .sl .. => true
  | _ => false
theorem V.lies {w : World} {A : Nat → Prop} {x : VV} {v : Value} {m m' : Option Phi} (h : V w A m x v) (hx : x.lies = true) : V w A m' x v := by
  cases h with
  | dead => exact .dead
  | sc => exact .sc
  | nil h => exact .nil h
  | sl u h1 h2 h3 h4 h5 h6 h7 => exact .sl u h1 h2 h3 h4 h5 h6 h7
  | tp => cases hx
  | bp => cases hx
  | agg => cases hx
  | tup => cases hx
  | fn => cases hx

/-- Fewer blocks that may be written. -/
theorem V.less {w : World} {A A' : Nat → Prop} {x : VV} {v : Value} (h : V w A none x v) (hA : ∀ k, A' k → A k) : V w A' none x v :=
  h.mono (Nat.le_refl _) (fun k _ hk => ⟨rfl, fun h => hk (hA k h)⟩) trivial

/-- What a run may have done: its own boxes have been written, others made. -/
structure Ext (w : World) (φ : Phi) (w' : World) (φ' : Phi) : Prop where
  os : w'.os = w.os
  tape : w'.tape = w.tape
  output : w'.output = w.output
  size : w.heap.size ≤ w'.heap.size
  block : ∀ k, k < w.heap.size → (∀ id, φ id ≠ some k) → w'.heap[k]? = w.heap[k]?
  sub : ∀ id b, φ id = some b → φ' id = some b
  new : ∀ id b, φ' id = some b → φ id = some b ∨ w.heap.size ≤ b

theorem Ext.refl (w : World) (φ : Phi) : Ext w φ w φ := ⟨rfl, rfl, rfl, Nat.le_refl _, fun _ _ _ => rfl, fun _ _ h => h, fun _ _ h => .inl h⟩
theorem Ext.trans {w w' w'' : World} {φ φ' φ'' : Phi} (h : Ext w φ w' φ') (k : Ext w' φ' w'' φ'') : Ext w φ w'' φ'' where
  os := k.os.trans h.os
  tape := k.tape.trans h.tape
  output := k.output.trans h.output
  size := Nat.le_trans h.size k.size
  block := fun b hb hn => (k.block b (Nat.lt_of_lt_of_le hb h.size) fun id e => by
    rcases h.new id b e with e | e
    · exact hn id e
    · omega).trans (h.block b hb hn)
  sub := fun id b e => k.sub id b (h.sub id b e)
  new := fun id b e => by
    rcases k.new id b e with e | e
    · exact h.new id b e
    · exact .inr (Nat.le_trans h.size e)
theorem Ext.of_below {w w' : World} {φ : Phi} (h : Below w.heap.size w w') : Ext w φ w' φ :=
  ⟨h.os, h.tape, h.output, h.size, fun k hk _ => h.block k hk, fun _ _ h => h, fun _ _ h => .inl h⟩

/-- The blocks that may be written: those of callers, those of the run. -/
def Mut (A : Nat → Prop) (φ : Phi) (k : Nat) : Prop := A k ∨ ∃ id, φ id = some k

theorem Ext.up {w w' : World} {φ φ' : Phi} (h : Ext w φ w' φ') : ModeUp w w' (some φ) (some φ') :=
  ⟨h.sub, fun k hk hn => ⟨h.block k hk hn, fun id e => by
    rcases h.new id k e with e | e
    · exact hn id e
    · omega⟩⟩
theorem Ext.mut {w w' : World} {φ φ' : Phi} {A : Nat → Prop} (h : Ext w φ w' φ') (k : Nat) (hk : k < w.heap.size) (hn : ¬ Mut A φ k) : w'.heap[k]? = w.heap[k]? ∧ ¬ Mut A φ' k := by
  refine ⟨h.block k hk fun id e => hn (.inr ⟨id, e⟩), ?_⟩
  rintro (e | ⟨id, e⟩)
  · exact hn (.inl e)
  · rcases h.new id k e with e | e
    · exact hn (.inr ⟨id, e⟩)
    · omega
theorem V.ext {w w' : World} {φ φ' : Phi} {A : Nat → Prop} {x : VV} {v : Value} (h : V w (Mut A φ) (some φ) x v) (e : Ext w φ w' φ') : V w' (Mut A φ') (some φ') x v :=
  h.mono e.size (fun k hk hn => e.mut k hk hn) e.up
theorem V.ext' {w w' : World} {φ φ' : Phi} {A : Nat → Prop} {x : VV} {v : Value} (h : V w (Mut A φ) none x v) (e : Ext w φ w' φ') : V w' (Mut A φ') none x v :=
  h.mono e.size (fun k hk hn => e.mut k hk hn) trivial
end Go.Proofs.Ytnodhjlpoaahbaa
