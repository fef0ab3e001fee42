/-
  Values as trees, with arrays of the run's own: what a value says when all that it points to is read out; that it goes on saying it.
-/
import Derived.WalkKit
import Derived.Below
import Derived.Orders
namespace Go.Proofs.Ytnodhjlpoaahbaa
open Go.RowKit

/-- A value, read out: a scalar; the slice that is nil; a slice (frozen for good, or lent for as long as the run goes); a lent pointer to cells; a pointer into a box of the run's own; the header of an array of its own (its generation, its length); a pointer into such an array (the row's cells, the row, the cell); a struct; several results; a function with what it captured. -/
inductive VV where
  | dead
  | sc (v : Value)
  | nl
  | sl (fz : Bool) (n sz : Nat) (f : Nat → List VV)
  | tp (cs : List VV)
  | bp (id off : Nat)
  | ow (id gen n : Nat)
  | ep (id gen sz i o : Nat)
  | agg (cs : List VV)
  | tup (cs : List VV)
  | fn (f : Fn) (cs : List VV)
instance : Inhabited VV := ⟨.dead⟩

/-- Where an object of the run's lies: a box in a block; an array (its generation, its length) in none or in one, of some room. -/
inductive Pl where
  | box (b : Nat)
  | arr (gen len : Nat) (hd : Option (Nat × Nat))
abbrev Phi := Nat → Option Pl
def Blk (φ : Phi) (id k : Nat) : Prop := φ id = some (.box k) ∨ ∃ c n cap, φ id = some (.arr c n (some (k, cap)))
def Own (φ : Phi) (k : Nat) : Prop := ∃ id, Blk φ id k

/-- What is guarded: blocks that may yet be written some day; blocks that may be written in this run. -/
structure Prot where
  fz : Nat → Prop
  br : Nat → Prop
/-- Within what is frozen nothing is lent. -/
def Prot.hold (E : Prot) : Prot := ⟨E.fz, fun _ => True⟩
def Prot.at (E : Prot) : Bool → Prot
  | true => E.hold
  | false => E
/-- With the run's own. -/
def Prot.up (E : Prot) (φ : Phi) : Prot := ⟨fun k => E.fz k ∨ Own φ k, fun k => E.br k ∨ Own φ k⟩
def Prot.bad (E : Prot) : Bool → Nat → Prop
  | true => E.fz
  | false => E.br

/-- The header of an array of n elements, that lies so. -/
def hdV (hd : Option (Nat × Nat)) (n : Nat) (v : Value) : Prop :=
  match hd with
  | none => n = 0 ∧ v = .slice none 0 0
  | some (g, cap) => v = .slice (some ⟨g, 0, none⟩) n cap ∧ n ≤ cap

/-- A value says what the tree says. (With no map: what lies in memory.) -/
inductive V (w : World) : Prot → Option Phi → VV → Value → Prop
  | dead {E : Prot} {m : Option Phi} {v : Value} : V w E m .dead v
  | sc {E : Prot} {m : Option Phi} {v : Value} : V w E m (.sc v) v
  | nl {E : Prot} {m : Option Phi} : V w E m .nl (.slice none 0 0)
  | nil {E : Prot} {m : Option Phi} {fz : Bool} {sz cap : Nat} {f : Nat → List VV} {a : Option Addr} (h : cap ≤ maxLen) : V w E m (.sl fz 0 sz f) (.slice a 0 cap)
  | sl {E : Prot} {m : Option Phi} {fz : Bool} {n sz b off cap : Nat} {f : Nat → List VV} (u : Nat → Nat → Value) (h1 : n ≤ cap) (h2 : cap ≤ maxLen) (h3 : b < w.heap.size) (h4 : ¬ E.bad fz b)
      (h5 : ∀ i, i < n → (f i).length = sz) (h6 : ∀ i j x, i < n → (f i)[j]? = some x → w.cell? ⟨b, off + i * sz + j, none⟩ = some (u i j))
      (h7 : ∀ i j x, i < n → (f i)[j]? = some x → V w (E.at fz) none x (u i j)) : V w E m (.sl fz n sz f) (.slice (some ⟨b, off, none⟩) n cap)
  | tp {E : Prot} {m : Option Phi} {cs : List VV} {b off : Nat} (u : Nat → Value) (h1 : b < w.heap.size) (h2 : ¬ E.br b) (h3 : ∀ j x, cs[j]? = some x → w.cell? ⟨b, off + j, none⟩ = some (u j))
      (h4 : ∀ j x, cs[j]? = some x → V w E none x (u j)) : V w E m (.tp cs) (.pointer (some ⟨b, off, none⟩))
  | bp {E : Prot} {φ : Phi} {id off b : Nat} (h : φ id = some (.box b)) : V w E (some φ) (.bp id off) (.pointer (some ⟨b, off, none⟩))
  | ow {E : Prot} {φ : Phi} {id gen n c len : Nat} {hd hd0 : Option (Nat × Nat)} {v : Value} (h : φ id = some (.arr c len hd)) (hg : gen ≤ c) (h0 : hdV hd0 n v) (hv : gen = c → hd0 = hd ∧ n ≤ len) : V w E (some φ) (.ow id gen n) v
  | ep {E : Prot} {φ : Phi} {id gen sz i o c len b : Nat} {hd : Option (Nat × Nat)} (h : φ id = some (.arr c len hd)) (hg : gen ≤ c)
      (hv : gen = c → i < len ∧ ∃ cap, hd = some (b, cap)) : V w E (some φ) (.ep id gen sz i o) (.pointer (some ⟨b, i * sz + o, none⟩))
  | agg {E : Prot} {m : Option Phi} {cs : List VV} {vs : Array Value} (h1 : vs.size = cs.length) (h2 : ∀ (j : Nat) x, cs[j]? = some x → V w E m x (vs.getD j undef)) : V w E m (.agg cs) (.agg vs)
  | tup {E : Prot} {m : Option Phi} {cs : List VV} {vs : Array Value} (h1 : vs.size = cs.length) (h2 : ∀ (j : Nat) x, cs[j]? = some x → V w E m x (vs.getD j undef)) : V w E m (.tup cs) (.tuple vs)
  | fn {E : Prot} {m : Option Phi} {g : Fn} {cs : List VV} {vs : Array Value} (h1 : vs.size = cs.length) (h2 : ∀ (j : Nat) x, cs[j]? = some x → V w E m x (vs.getD j undef)) : V w E m (.fn g cs) (.func g #[] vs)

/-- An object, later: a box where it was; an array as it was, or of a later generation. -/
def PlUp : Pl → Pl → Prop
  | .box b, q => q = .box b
  | .arr c n hd, q => ∃ c' n' hd', q = .arr c' n' hd' ∧ c ≤ c' ∧ (c' = c → n' = n ∧ hd' = hd)
theorem PlUp.refl (p : Pl) : PlUp p p := by
  cases p with
  | box b => rfl
  | arr c n hd => exact ⟨c, n, hd, rfl, Nat.le_refl _, fun _ => ⟨rfl, rfl⟩⟩
theorem PlUp.trans {p q r : Pl} (h : PlUp p q) (k : PlUp q r) : PlUp p r := by
  cases p with
  | box b => simp only [PlUp] at h; subst h; exact k
  | arr c n hd =>
    obtain ⟨c', n', hd', rfl, h1, h2⟩ := h
    obtain ⟨c'', n'', hd'', rfl, k1, k2⟩ := k
    refine ⟨c'', n'', hd'', rfl, Nat.le_trans h1 k1, fun e => ?_⟩
    obtain rfl : c' = c := by omega
    obtain ⟨rfl, rfl⟩ := h2 rfl
    exact k2 e
def PhiUp (φ φ' : Phi) : Prop := ∀ id p, φ id = some p → ∃ p', φ' id = some p' ∧ PlUp p p'
theorem PhiUp.refl (φ : Phi) : PhiUp φ φ := fun _ p h => ⟨p, h, PlUp.refl p⟩
theorem PhiUp.trans {φ φ' φ'' : Phi} (h : PhiUp φ φ') (k : PhiUp φ' φ'') : PhiUp φ φ'' := fun id p e => by
  obtain ⟨q, e1, h1⟩ := h id p e
  obtain ⟨r, e2, h2⟩ := k id q e1
  exact ⟨r, e2, h1.trans h2⟩
def ModeUp : Option Phi → Option Phi → Prop
  | none, none => True
  | some φ, some φ' => PhiUp φ φ'
  | _, _ => False

theorem V.mono {w w' : World} {E E' : Prot} {m m' : Option Phi} {x : VV} {v : Value} (h : V w E m x v) (hs : w.heap.size ≤ w'.heap.size)
    (hA : ∀ k, k < w.heap.size → ¬ E.fz k → w'.heap[k]? = w.heap[k]? ∧ ¬ E'.fz k) (hR : ∀ k, k < w.heap.size → ¬ E.br k → w'.heap[k]? = w.heap[k]? ∧ ¬ E'.br k) (hm : ModeUp m m') : V w' E' m' x v := by
  induction h generalizing m' E' with
  | dead => exact .dead
  | sc => exact .sc
  | nl => exact .nl
  | nil h => exact .nil h
  | @sl E m fz n sz b off cap f u h1 h2 h3 h4 h5 h6 h7 ih =>
    obtain ⟨e1, e2⟩ : w'.heap[b]? = w.heap[b]? ∧ ¬ E'.bad fz b := by cases fz with
      | true => exact hA _ h3 h4
      | false => exact hR _ h3 h4
    refine .sl u h1 h2 (Nat.lt_of_lt_of_le h3 hs) e2 h5 (fun i j x hi hx => (World.cell?_of_block e1).trans (h6 i j x hi hx)) (fun i j x hi hx => ih i j x hi hx ?_ ?_ (m' := none) trivial)
    · cases fz <;> exact hA
    · cases fz with
      | true => exact fun k _ hk => (hk trivial).elim
      | false => exact hR
  | tp u h1 h2 h3 h4 ih =>
    obtain ⟨e1, e2⟩ := hR _ h1 h2
    exact .tp u (Nat.lt_of_lt_of_le h1 hs) e2 (fun j x hx => (World.cell?_of_block e1).trans (h3 j x hx)) (fun j x hx => ih j x hx hA hR (m' := none) trivial)
  | bp h =>
    cases m' with
    | none => exact hm.elim
    | some φ' => obtain ⟨p', e, hp⟩ := hm _ _ h; simp only [PlUp] at hp; subst hp; exact .bp e
  | ow h hg h0 hv =>
    cases m' with
    | none => exact hm.elim
    | some φ' =>
      obtain ⟨p', e, c', n', hd', rfl, k1, k2⟩ := hm _ _ h
      refine .ow e (Nat.le_trans hg k1) h0 fun eg => ?_
      obtain ⟨rfl, rfl⟩ := k2 (by omega)
      exact hv (by omega)
  | ep h hg hv =>
    cases m' with
    | none => exact hm.elim
    | some φ' =>
      obtain ⟨p', e, c', n', hd', rfl, k1, k2⟩ := hm _ _ h
      refine .ep e (Nat.le_trans hg k1) fun eg => ?_
      obtain ⟨rfl, rfl⟩ := k2 (by omega)
      exact hv (by omega)
  | agg h1 h2 ih => exact .agg h1 fun j x hx => ih j x hx hA hR hm
  | tup h1 h2 ih => exact .tup h1 fun j x hx => ih j x hx hA hR hm
  | fn h1 h2 ih => exact .fn h1 fun j x hx => ih j x hx hA hR hm

/-- What lies in memory may be held. -/
theorem V.held {w : World} {E : Prot} {x : VV} {v : Value} {m : Option Phi} (h : V w E none x v) : V w E m x v := by
  generalize hm : (none : Option Phi) = m0 at h
  induction h with
  | dead => exact .dead
  | sc => exact .sc
  | nl => exact .nl
  | nil h => exact .nil h
  | sl u h1 h2 h3 h4 h5 h6 h7 _ => exact .sl u h1 h2 h3 h4 h5 h6 h7
  | tp u h1 h2 h3 h4 _ => exact .tp u h1 h2 h3 h4
  | bp => cases hm
  | ow => cases hm
  | ep => cases hm
  | agg h1 h2 ih => exact .agg h1 fun j x hx => ih j x hx hm
  | tup h1 h2 ih => exact .tup h1 fun j x hx => ih j x hx hm
  | fn h1 h2 ih => exact .fn h1 fun j x hx => ih j x hx hm

/-- Trees of one cell that lie in memory: nothing of the run's own. -/
def VV.lies : VV → Bool
  | .dead | .sc _ | .nl | .sl .. => true
  | _ => false
/-- They are frozen besides. -/
def VV.mem : VV → Bool
  | .dead | .sc _ | .nl | .sl true .. => true
  | _ => false
theorem VV.mem_lies {x : VV} (h : x.mem = true) : x.lies = true := by cases x <;> first | rfl | cases h
theorem V.lies {w : World} {E : Prot} {x : VV} {v : Value} {m m' : Option Phi} (h : V w E m x v) (hx : x.lies = true) : V w E m' x v := by
  cases h with
  | dead => exact .dead
  | sc => exact .sc
  | nl => exact .nl
  | nil h => exact .nil h
  | sl u h1 h2 h3 h4 h5 h6 h7 => exact .sl u h1 h2 h3 h4 h5 h6 h7
  | tp => cases hx
  | bp => cases hx
  | ow => cases hx
  | ep => cases hx
  | agg => cases hx
  | tup => cases hx
  | fn => cases hx
/-- What is frozen asks nothing of who lends. -/
theorem V.mem {w : World} {E E' : Prot} {x : VV} {v : Value} {m m' : Option Phi} (h : V w E m x v) (hx : x.mem = true) (hE : E'.fz = E.fz) : V w E' m' x v := by
  cases h with
  | dead => exact .dead
  | sc => exact .sc
  | nl => exact .nl
  | nil h => exact .nil h
  | @sl _ _ fz n sz b off cap f u h1 h2 h3 h4 h5 h6 h7 =>
    cases fz with
    | false => cases hx
    | true =>
      refine .sl u h1 h2 h3 (by show ¬ E'.fz _; rw [hE]; exact h4) h5 h6 fun i j x hi hx => ?_
      have e : E'.at true = E.at true := by simp only [Prot.at, Prot.hold, hE]
      rw [e]; exact h7 i j x hi hx
  | tp => cases hx
  | bp => cases hx
  | ow => cases hx
  | ep => cases hx
  | agg => cases hx
  | tup => cases hx
  | fn => cases hx
/-- Less is guarded. -/
theorem V.less {w : World} {E E' : Prot} {x : VV} {v : Value} {m : Option Phi} (h : V w E m x v) (hA : ∀ k, E'.fz k → E.fz k) (hR : ∀ k, E'.br k → E.br k) : V w E' m x v :=
  h.mono (Nat.le_refl _) (fun k _ hk => ⟨rfl, fun h => hk (hA k h)⟩) (fun k _ hk => ⟨rfl, fun h => hk (hR k h)⟩) (by cases m with
    | none => trivial
    | some φ => exact PhiUp.refl φ)

/-- What a run may have done: its own blocks have been written, others made. -/
structure Ext (w : World) (φ : Phi) (w' : World) (φ' : Phi) : Prop where
  os : w'.os = w.os
  tape : w'.tape = w.tape
  output : w'.output = w.output
  size : w.heap.size ≤ w'.heap.size
  block : ∀ k, k < w.heap.size → ¬ Own φ k → w'.heap[k]? = w.heap[k]?
  up : PhiUp φ φ'
  new : ∀ k, Own φ' k → Own φ k ∨ w.heap.size ≤ k
theorem Ext.refl (w : World) (φ : Phi) : Ext w φ w φ := ⟨rfl, rfl, rfl, Nat.le_refl _, fun _ _ _ => rfl, PhiUp.refl φ, fun _ h => .inl h⟩
theorem Ext.trans {w w' w'' : World} {φ φ' φ'' : Phi} (h : Ext w φ w' φ') (k : Ext w' φ' w'' φ'') : Ext w φ w'' φ'' where
  os := k.os.trans h.os
  tape := k.tape.trans h.tape
  output := k.output.trans h.output
  size := Nat.le_trans h.size k.size
  block := fun b hb hn => (k.block b (Nat.lt_of_lt_of_le hb h.size) fun e => by
    rcases h.new b e with e | e
    · exact hn e
    · omega).trans (h.block b hb hn)
  up := h.up.trans k.up
  new := fun b e => by
    rcases k.new b e with e | e
    · exact h.new b e
    · exact .inr (Nat.le_trans h.size e)
theorem Ext.of_below {w w' : World} {φ : Phi} (h : Below w.heap.size w w') : Ext w φ w' φ :=
  ⟨h.os, h.tape, h.output, h.size, fun k hk _ => h.block k hk, PhiUp.refl φ, fun _ h => .inl h⟩
theorem Ext.fz {w w' : World} {φ φ' : Phi} {E : Prot} (h : Ext w φ w' φ') (k : Nat) (hk : k < w.heap.size) (hn : ¬ (E.up φ).fz k) : w'.heap[k]? = w.heap[k]? ∧ ¬ (E.up φ').fz k := by
  refine ⟨h.block k hk fun e => hn (.inr e), ?_⟩
  rintro (e | e)
  · exact hn (.inl e)
  · rcases h.new k e with e | e
    · exact hn (.inr e)
    · omega
theorem Ext.br {w w' : World} {φ φ' : Phi} {E : Prot} (h : Ext w φ w' φ') (k : Nat) (hk : k < w.heap.size) (hn : ¬ (E.up φ).br k) : w'.heap[k]? = w.heap[k]? ∧ ¬ (E.up φ').br k := by
  refine ⟨h.block k hk fun e => hn (.inr e), ?_⟩
  rintro (e | e)
  · exact hn (.inl e)
  · rcases h.new k e with e | e
    · exact hn (.inr e)
    · omega
theorem V.ext {w w' : World} {φ φ' : Phi} {E : Prot} {x : VV} {v : Value} (h : V w (E.up φ) (some φ) x v) (e : Ext w φ w' φ') : V w' (E.up φ') (some φ') x v :=
  h.mono e.size (fun k hk hn => e.fz k hk hn) (fun k hk hn => e.br k hk hn) e.up
theorem V.ext' {w w' : World} {φ φ' : Phi} {E : Prot} {x : VV} {v : Value} (h : V w (E.up φ) none x v) (e : Ext w φ w' φ') : V w' (E.up φ') none x v :=
  h.mono e.size (fun k hk hn => e.fz k hk hn) (fun k hk hn => e.br k hk hn) trivial
/-- What is frozen stays so, through what this run does. -/
theorem V.extH {w w' : World} {φ φ' : Phi} {E : Prot} {x : VV} {v : Value} (h : V w (E.up φ).hold none x v) (e : Ext w φ w' φ') : V w' (E.up φ').hold none x v :=
  h.mono e.size (fun k hk hn => e.fz (E := E) k hk hn) (fun _ _ hk => (hk trivial).elim) trivial
end Go.Proofs.Ytnodhjlpoaahbaa
