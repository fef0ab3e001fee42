/-
  Statements on trees: what must hold for a statement to end as is said.
-/
import Derived.Test.YtnodhjlpoaahbaaViReg7
import Derived.ScopeJumps
namespace Go.Proofs.Ytnodhjlpoaahbaa
open Go.RowKit

/-- What a run may have done to memory: its own boxes have been written, others made; some have been left. -/
structure Fr (w : World) (φ : Phi) (w' : World) (φ' : Phi) : Prop where
  os : w'.os = w.os
  tape : w'.tape = w.tape
  output : w'.output = w.output
  size : w.heap.size ≤ w'.heap.size
  block : ∀ k, k < w.heap.size → (∀ id, φ id ≠ some k) → w'.heap[k]? = w.heap[k]?
  new : ∀ id b, φ' id = some b → (∃ id', φ id' = some b) ∨ w.heap.size ≤ b
theorem Fr.refl (w : World) (φ : Phi) : Fr w φ w φ := ⟨rfl, rfl, rfl, Nat.le_refl _, fun _ _ _ => rfl, fun id _ h => .inl ⟨id, h⟩⟩
theorem Fr.of_ext {w w' : World} {φ φ' : Phi} (h : Ext w φ w' φ') : Fr w φ w' φ' :=
  ⟨h.os, h.tape, h.output, h.size, h.block, fun id b e => (h.new id b e).imp (fun e => ⟨id, e⟩) (fun e => e)⟩
theorem Fr.trans {w w' w'' : World} {φ φ' φ'' : Phi} (h : Fr w φ w' φ') (k : Fr w' φ' w'' φ'') : Fr w φ w'' φ'' where
  os := k.os.trans h.os
  tape := k.tape.trans h.tape
  output := k.output.trans h.output
  size := Nat.le_trans h.size k.size
  block := fun b hb hn => (k.block b (Nat.lt_of_lt_of_le hb h.size) fun id e => by
    rcases h.new id b e with ⟨id', e⟩ | e
    · exact hn id' e
    · omega).trans (h.block b hb hn)
  new := fun id b e => by
    rcases k.new id b e with ⟨id', e⟩ | e
    · exact h.new id' b e
    · exact .inr (Nat.le_trans h.size e)

/-- From a state on, a statement ends as is said. -/
structure Sat (P : Program) (N : Nat) (p : List Nat) (c : Code) (K : Exit → St → Prop) (st : St) : Prop where
  h : ∀ (A : Nat → Prop) (B : Nat) (φ : Phi) (a : Act) (w : World), Rel N A B st φ a w → c.wp P (fun e a' w' => ∃ st' φ', K e st' ∧ Rel N A B st' φ' a' w' ∧ Fr w φ w' φ') a w

/-! ### A state, forgotten but for what is kept -/
def lookT (i : Nat) : List (Nat × VV) → VV
  | [] => .dead
  | (j, x) :: l => bif Nat.beq i j then x else lookT i l
/-- A state, written out. -/
def mkSt (l : List (Nat × VV)) (hs : List (List VV)) (n : Nat) : St := { t := fun i => lookT i l, H := fun id => hs.getD id [], nx := n }
/-- No pointer to a box from n on. -/
def VV.under1 (n : Nat) : VV → Bool
  | .bp id _ => Nat.blt id n
  | .agg cs => cs.all VV.lies
  | .fn _ cs => cs.all VV.lies
  | .tup _ => false
  | _ => true
def VV.under (n : Nat) : VV → Bool
  | .fn _ cs => cs.all (VV.under1 n)
  | x => x.under1 n
def okF (keep : List Nat) (n : Nat) (st : St) : Bool := (keep.all fun i => (st.t i).under n) && ((List.range n).all fun id => (st.H id).all (VV.under n)) && Nat.ble n st.nx
def forget (keep : List Nat) (n : Nat) (st : St) : St := mkSt (keep.map fun i => (i, st.t i)) ((List.range n).map st.H) n

/-- Which temporaries are kept at a loop's head (at a scope's label), by the place in the text. -/
abbrev Ann := List Nat → List Nat
def seqK (K : Exit → St → Prop) (next : St → Prop) : Exit → St → Prop
  | .normal, st => next st
  | e, st => K e st
def blockK (id : Nat) (K : Exit → St → Prop) : Exit → St → Prop
  | .exit j, st => bif Nat.beq j id then K .normal st else K (.exit j) st
  | e, st => K e st
/-- A loop's round has ended. -/
def loopK (keep : List Nat) (n : Nat) (J : St → Prop) (K : Exit → St → Prop) : Exit → St → Prop
  | .normal, st => bif okF keep n st then J (forget keep n st) else False
  | e, st => K e st
/-- A jump to a label. -/
def jumpK (l : Nat) (keep : List Nat) (n : Nat) (J : St → Prop) (K : Exit → St → Prop) : Exit → St → Prop
  | .goto l', st => bif Nat.beq l' l && okF keep n st then J (forget keep n st) else False
  | e, st => K e st

def xc (P : Program) (T : TypeId → TE) (Sh : Shs) (N : Nat) (L : Ann) : List Nat → Code → (Exit → St → Prop) → St → Prop
  | _, .skip, K, st => K .normal st
  | _, .label _, K, st => K .normal st
  | _, .region _ ops _, K, st => xopsE P T Sh ops ops.toList st [] fun st' => K .normal (clr ops st')
  | p, .seq x y, K, st => xc P T Sh N L (0 :: p) x (seqK K (xc P T Sh N L (1 :: p) y K)) st
  | p, .cond c x y, K, st => match st.val c with
    | .sc (.bool b) => (b = true → xc P T Sh N L (0 :: p) x K st) ∧ (b = false → xc P T Sh N L (1 :: p) y K st)
    | _ => False
  | p, .block id c, K, st => xc P T Sh N L (0 :: p) c (blockK id K) st
  | _, .exit id, K, st => K (.exit id) st
  | _, .goto l, K, st => K (.goto l) st
  | _, .ret, K, st => K .ret st
  | p, .loop c, K, st => bif okF (L p) st.nx st then Sat P N p (.loop c) K (forget (L p) st.nx st) else False
  | p, .scope c, K, st => bif okF (L p) st.nx st then Sat P N p (.scope c) K (forget (L p) st.nx st) else False
  | _, _, _, _ => False

/-- A part of a statement, by its place. -/
def subC : List Nat → Code → Code
  | 0 :: q, .seq x _ => subC q x
  | 1 :: q, .seq _ y => subC q y
  | 0 :: q, .cond _ x _ => subC q x
  | 1 :: q, .cond _ _ y => subC q y
  | 0 :: q, .block _ c => subC q c
  | 0 :: q, .loop c => subC q c
  | 0 :: q, .scope c => subC q c
  | [], c => c
  | _, _ => .skip
/-- What follows a part of a statement. -/
def kontC (P : Program) (T : TypeId → TE) (Sh : Shs) (N : Nat) (L : Ann) : List Nat → List Nat → Code → (Exit → St → Prop) → Exit → St → Prop
  | 0 :: q, p, .seq x y, K => kontC P T Sh N L q (0 :: p) x (seqK K (xc P T Sh N L (1 :: p) y K))
  | 1 :: q, p, .seq _ y, K => kontC P T Sh N L q (1 :: p) y K
  | 0 :: q, p, .cond _ x _, K => kontC P T Sh N L q (0 :: p) x K
  | 1 :: q, p, .cond _ _ y, K => kontC P T Sh N L q (1 :: p) y K
  | 0 :: q, p, .block id c, K => kontC P T Sh N L q (0 :: p) c (blockK id K)
  | _, _, _, K => K

/-- The regions of a statement may be run in the text's order. -/
def regsB (N : Nat) : Code → Bool
  | .region _ ops _ => regB ops N
  | .seq x y => regsB N x && regsB N y
  | .cond _ x y => regsB N x && regsB N y
  | .block _ c => regsB N c
  | _ => true

section
variable {P : Program} {T : TypeId → TE} {Sh : Shs} {N : Nat} {L : Ann}
theorem V.under1 {w : World} {A : Nat → Prop} {φ : Phi} {n : Nat} {x : VV} {v : Value} (h : V w (Mut A φ) (some φ) x v) (hu : x.under1 n = true) : V w (Mut A fun id => if id < n then φ id else none) (some fun id => if id < n then φ id else none) x v := by
  have hm : ∀ k, Mut A (fun id => if id < n then φ id else none) k → Mut A φ k := by
    rintro k (hk | ⟨id, e⟩)
    · exact .inl hk
    · by_cases hi : id < n
      · simp only [if_pos hi] at e; exact .inr ⟨id, e⟩
      · simp only [if_neg hi] at e; cases e
  cases h with
  | dead => exact .dead
  | sc => exact .sc
  | nil h => exact .nil h
  | sl u h1 h2 h3 h4 h5 h6 h7 => exact .sl u h1 h2 h3 (fun hk => h4 (hm _ hk)) h5 h6 fun i j x hi hx => (h7 i j x hi hx).less hm
  | tp u h1 h2 h3 h4 =>
    refine .tp u h1 (fun id e => ?_) h3 fun j x hx => (h4 j x hx).less hm
    by_cases hi : id < n
    · simp only [if_pos hi] at e; exact h2 id e
    · simp only [if_neg hi] at e; cases e
  | bp h =>
    refine .bp ?_
    have hlt := Nat.le_of_ble_eq_true hu
    exact (if_pos hlt).trans h
  | agg h1 h2 => exact .agg h1 fun j x hx => ((h2 j x hx).lies (m' := none) (List.all_eq_true.1 hu x (List.mem_of_getElem? hx))).less hm |>.held
  | tup => cases hu
  | fn h1 h2 => exact .fn h1 fun j x hx => ((h2 j x hx).lies (m' := none) (List.all_eq_true.1 hu x (List.mem_of_getElem? hx))).less hm |>.held
theorem V.under {w : World} {A : Nat → Prop} {φ : Phi} {n : Nat} {x : VV} {v : Value} (h : V w (Mut A φ) (some φ) x v) (hu : x.under n = true) : V w (Mut A fun id => if id < n then φ id else none) (some fun id => if id < n then φ id else none) x v := by
  cases x with
  | fn g cs =>
    cases h with | fn h1 h2 => exact .fn h1 fun j x hx => (h2 j x hx).under1 (List.all_eq_true.1 hu x (List.mem_of_getElem? hx))
  | _ => exact h.under1 hu
theorem lookT_map {f : Nat → VV} (i : Nat) : ∀ (l : List Nat), lookT i (l.map fun j => (j, f j)) = if i ∈ l then f i else .dead
  | [] => rfl
  | j :: l => by
    simp only [List.map_cons, lookT]
    cases hq : Nat.beq i j with
    | true => have := Nat.eq_of_beq_eq_true hq; subst this; simp
    | false =>
      have hne : i ≠ j := by rintro rfl; simp at hq
      rw [cond_false, lookT_map i l]
      simp [hne]
theorem Rel.forget {A : Nat → Prop} {B : Nat} {st : St} {φ : Phi} {a : Act} {w : World} (h : Rel N A B st φ a w) {keep : List Nat} {n : Nat} (hk : okF keep n st = true) :
    ∃ φ', Rel N A B (forget keep n st) φ' a w ∧ Fr w φ w φ' := by
  unfold okF at hk
  simp only [Bool.and_eq_true] at hk
  obtain ⟨⟨hk1, hk2⟩, _⟩ := hk
  refine ⟨fun id => if id < n then φ id else none, ⟨h.sz, h.df, h.old, h.bas, fun t => ?_, ⟨fun id b e => ?_, fun i j b ei ej => ?_⟩, fun id hid => ?_⟩, ⟨rfl, rfl, rfl, Nat.le_refl _, fun _ _ _ => rfl, fun id b e => ?_⟩⟩
  · show V w _ _ (lookT t (keep.map fun i => (i, st.t i))) _
    rw [lookT_map]
    split
    · rename_i hm; exact (h.tm t).under (List.all_eq_true.1 hk1 t hm)
    · exact .dead
  · by_cases hi : id < n
    · simp only [if_pos hi] at e
      obtain ⟨h1, c, ty, h2, h3⟩ := h.hp.box id b e
      refine ⟨h1, c, ty, h2, ?_⟩
      have hH : (Go.Proofs.Ytnodhjlpoaahbaa.forget keep n st).H id = st.H id := by simp [Go.Proofs.Ytnodhjlpoaahbaa.forget, mkSt, hi]
      rw [hH]
      refine ⟨h3.1, fun j x hx => (h3.2 j x hx).under ?_⟩
      exact List.all_eq_true.1 (List.all_eq_true.1 hk2 id (List.mem_range.2 hi)) x (List.mem_of_getElem? hx)
    · simp only [if_neg hi] at e; cases e
  · by_cases hi : i < n <;> by_cases hj : j < n
    · simp only [if_pos hi] at ei; simp only [if_pos hj] at ej; exact h.hp.inj i j b ei ej
    · simp only [if_neg hj] at ej; cases ej
    · simp only [if_neg hi] at ei; cases ei
    · simp only [if_neg hi] at ei; cases ei
  · have hid' : n ≤ id := hid
    have hn : ¬ id < n := by omega
    simp only [if_neg hn]
  · by_cases hi : id < n
    · simp only [if_pos hi] at e; exact .inl ⟨id, e⟩
    · simp only [if_neg hi] at e; cases e

theorem Sat.mono {p : List Nat} {c : Code} {K K' : Exit → St → Prop} {st : St} (h : Sat P N p c K st) (hk : ∀ e st, K e st → K' e st) : Sat P N p c K' st := ⟨fun A B φ a w hr =>
  Go.wp_mono (h.h A B φ a w hr) fun _ _ _ ⟨st', φ', h1, h2, h3⟩ => ⟨st', φ', hk _ _ h1, h2, h3⟩⟩
theorem xc_sat (hT : TOk P T) (hmx : P.follows .mixedOrders = true) : ∀ (c : Code), regsB N c = true → ∀ (p : List Nat) (K : Exit → St → Prop) (st : St), xc P T Sh N L p c K st → Sat P N p c K st
  | .skip, _, p, K, st, h => ⟨fun A B φ a w hr => wp_skip ⟨st, φ, h, hr, Fr.refl _ _⟩⟩
  | .label l, _, p, K, st, h => ⟨fun A B φ a w hr => wp_label ⟨st, φ, h, hr, Fr.refl _ _⟩⟩
  | .exit id, _, p, K, st, h => ⟨fun A B φ a w hr => wp_exit ⟨st, φ, h, hr, Fr.refl _ _⟩⟩
  | .goto l, _, p, K, st, h => ⟨fun A B φ a w hr => wp_goto ⟨st, φ, h, hr, Fr.refl _ _⟩⟩
  | .ret, _, p, K, st, h => ⟨fun A B φ a w hr => wp_ret ⟨st, φ, h, hr, Fr.refl _ _⟩⟩
  | .loop c, _, p, K, st, h => ⟨fun A B φ a w hr => by
    simp only [xc] at h
    cases hq : okF (L p) st.nx st with
    | false => rw [hq] at h; exact h.elim
    | true =>
      rw [hq] at h
      obtain ⟨φ1, hr1, hf1⟩ := hr.forget hq
      exact Go.wp_mono (h.h A B φ1 a w hr1) fun _ _ _ ⟨st', φ', h1, h2, h3⟩ => ⟨st', φ', h1, h2, hf1.trans h3⟩⟩
  | .scope c, _, p, K, st, h => ⟨fun A B φ a w hr => by
    simp only [xc] at h
    cases hq : okF (L p) st.nx st with
    | false => rw [hq] at h; exact h.elim
    | true =>
      rw [hq] at h
      obtain ⟨φ1, hr1, hf1⟩ := hr.forget hq
      exact Go.wp_mono (h.h A B φ1 a w hr1) fun _ _ _ ⟨st', φ', h1, h2, h3⟩ => ⟨st', φ', h1, h2, hf1.trans h3⟩⟩
  | .rangeFunc .., _, p, K, st, h => h.elim
  | .refuse _, _, p, K, st, h => h.elim
  | .region id ops draw, hB, p, K, st, h => ⟨fun A B φ a w hr =>
    Go.wp_mono (region_okE (id := id) (draw := draw) hT hmx hB (K := fun st' => K .normal st') h hr) fun e a' w' ⟨he, st', φ', h1, h2, h3⟩ => ⟨st', φ', by rw [he]; exact h1, h2, Fr.of_ext h3⟩⟩
  | .seq x y, hB, p, K, st, h => ⟨fun A B φ a w hr => by
    simp only [regsB, Bool.and_eq_true] at hB
    refine wp_seq (Go.wp_mono ((xc_sat hT hmx x hB.1 _ _ st h).h A B φ a w hr) ?_)
    rintro e a' w' ⟨st', φ', h1, h2, h3⟩
    cases e with
    | normal => exact Go.wp_mono ((xc_sat hT hmx y hB.2 _ K st' h1).h A B φ' a' w' h2) fun e a'' w'' ⟨st'', φ'', g1, g2, g3⟩ => ⟨st'', φ'', g1, g2, h3.trans g3⟩
    | _ => exact ⟨st', φ', h1, h2, h3⟩⟩
  | .cond c x y, hB, p, K, st, h => ⟨fun A B φ a w hr => by
    simp only [regsB, Bool.and_eq_true] at hB
    have hc : V w (Mut A φ) (some φ) (st.val c) (a.eval c) := by
      cases c with
      | tmp t => exact hr.tm t
      | const v => exact V.litC v
      | global g => exact .dead
      | func f => exact .fn rfl fun j x hx => by simp at hx
    simp only [xc] at h
    split at h
    · rename_i b e
      rw [e] at hc
      refine wp_cond (t := b) hc.sc_inv ?_
      cases b with
      | true => exact (xc_sat hT hmx x hB.1 _ K st (h.1 rfl)).h A B φ a w hr
      | false => exact (xc_sat hT hmx y hB.2 _ K st (h.2 rfl)).h A B φ a w hr
    · exact h.elim⟩
  | .block id c, hB, p, K, st, h => ⟨fun A B φ a w hr => by
    refine wp_block (Go.wp_mono ((xc_sat hT hmx c hB _ _ st h).h A B φ a w hr) ?_)
    rintro e a' w' ⟨st', φ', h1, h2, h3⟩
    cases e with
    | exit j =>
      simp only [Exit.inBlock]
      by_cases hj : j = id
      · subst hj
        simp only [blockK, Nat.beq_refl, cond_true] at h1
        rw [if_pos rfl]
        exact ⟨st', φ', h1, h2, h3⟩
      · have hb : Nat.beq j id = false := by
          cases hq : Nat.beq j id with
          | true => exact absurd (Nat.eq_of_beq_eq_true hq) hj
          | false => rfl
        simp only [blockK, hb, cond_false] at h1
        rw [if_neg hj]
        exact ⟨st', φ', h1, h2, h3⟩
    | _ => exact ⟨st', φ', h1, h2, h3⟩⟩

theorem least_of' {p : Nat → Prop} (h : ∃ g, p g) : ∃ g, p g ∧ ∀ g', p g' → g ≤ g' := by
  obtain ⟨g, hg⟩ := h
  induction g using Nat.strongRecOn with
  | _ g ih =>
    by_cases hx : ∃ g', g' < g ∧ p g'
    · obtain ⟨g', hlt, hp⟩ := hx; exact ih g' hlt hp
    · exact ⟨g, hg, fun g' hp => Nat.le_of_not_lt fun hlt => hx ⟨g', hlt, hp⟩⟩
theorem wp_loop_ghost {c : Code} {Q : Exit → Act → World → Prop} {a : Act} {w : World} (J : Nat → Act → World → Prop) (h0 : ∃ g, J g a w)
    (round : ∀ g a w, J g a w → c.wp P (Exit.then (fun a' w' => ∃ g', g' < g ∧ J g' a' w') Q) a w) : (Code.loop c).wp P Q a w := by
  classical
  let μ : Act → World → Nat := fun a w => if h : ∃ g, J g a w then Classical.choose (least_of' h) else 0
  have hμ : ∀ a w, (h : ∃ g, J g a w) → J (μ a w) a w ∧ ∀ g', J g' a w → μ a w ≤ g' := by
    intro a w h
    have e : μ a w = Classical.choose (least_of' h) := dif_pos h
    rw [e]; exact Classical.choose_spec (least_of' h)
  refine wp_loop (fun a w => ∃ g, J g a w) μ h0 ?_
  intro a w hx
  refine Go.wp_mono (round _ a w (hμ a w hx).1) fun e a' w' h => ?_
  cases e with
  | normal =>
    obtain ⟨g', hlt, hj⟩ := h
    exact ⟨⟨g', hj⟩, Nat.lt_of_le_of_lt ((hμ _ _ ⟨g', hj⟩).2 g' hj) hlt⟩
  | _ => exact h
/-- A tree that says less. -/
def VV.le (x y : VV) : Prop := ∀ (w : World) (A : Nat → Prop) (m : Option Phi) (v : Value), V w A m x v → V w A m y v
theorem VV.le_refl (x : VV) : VV.le x x := fun _ _ _ _ h => h
theorem VV.le_nil {a b : Nat} {f g : Nat → List VV} : VV.le (.sl 0 a f) (.sl 0 b g) := by
  intro w A m v h
  obtain ⟨_, cap, rfl, _, h2, _⟩ := h
  · exact .nil ‹_›
  · exact .nil ‹_›
/-- Lists of trees, one by one. -/
def leL : List VV → List VV → Prop
  | [], [] => True
  | x :: xs, y :: ys => VV.le x y ∧ leL xs ys
  | _, _ => False
def leT : List (Nat × VV) → List (Nat × VV) → Prop
  | [], [] => True
  | (i, x) :: xs, (j, y) :: ys => i = j ∧ VV.le x y ∧ leT xs ys
  | _, _ => False
def leH : List (List VV) → List (List VV) → Prop
  | [], [] => True
  | x :: xs, y :: ys => leL x y ∧ leH xs ys
  | _, _ => False
theorem leT_look {i : Nat} : ∀ {l l' : List (Nat × VV)}, leT l l' → VV.le (lookT i l) (lookT i l')
  | [], [], _ => VV.le_refl _
  | (j, x) :: l, (j', y) :: l', h => by
    obtain ⟨rfl, h2, h3⟩ := h
    simp only [lookT]
    cases Nat.beq i j with
    | true => exact h2
    | false => exact leT_look h3
theorem leL_at : ∀ {l l' : List VV}, leL l l' → l.length = l'.length ∧ ∀ (j : Nat) y, l'[j]? = some y → ∃ x, l[j]? = some x ∧ VV.le x y
  | [], [], _ => ⟨rfl, fun j y h => by simp at h⟩
  | x :: l, y :: l', h => by
    obtain ⟨h1, h2⟩ := leL_at h.2
    refine ⟨by simp [h1], fun j z hz => ?_⟩
    match j, hz with
    | 0, hz => simp only [List.getElem?_cons_zero, Option.some.injEq] at hz; subst hz; exact ⟨x, rfl, h.1⟩
    | j + 1, hz => exact h2 j z hz
theorem leH_at : ∀ {l l' : List (List VV)}, leH l l' → ∀ (j : Nat), leL (l.getD j []) (l'.getD j [])
  | [], [], _, j => by simp [leL]
  | x :: l, y :: l', h, j => by
    match j with
    | 0 => exact h.1
    | j + 1 => exact leH_at h.2 j
theorem Sat.le {p : List Nat} {c : Code} {K : Exit → St → Prop} {l l' : List (Nat × VV)} {hs hs' : List (List VV)} {n : Nat} (h1 : leT l l') (h2 : leH hs hs') (h : Sat P N p c K (mkSt l' hs' n)) : Sat P N p c K (mkSt l hs n) :=
  ⟨fun A B φ a w hr => h.h A B φ a w ⟨hr.sz, hr.df, hr.old, hr.bas, fun t => leT_look h1 _ _ _ _ (hr.tm t), ⟨fun id b e => by
    obtain ⟨g1, c, ty, g2, g3⟩ := hr.hp.box id b e
    obtain ⟨k1, k2⟩ := leL_at (leH_at h2 id)
    refine ⟨g1, c, ty, g2, g3.1.trans k1, fun j y hy => ?_⟩
    obtain ⟨x, hx, hle⟩ := k2 j y hy
    exact hle _ _ _ _ (g3.2 j x hx), hr.hp.inj⟩, hr.fr⟩⟩
/-- **A loop**: what holds at its head, what sinks. -/
theorem sat_loop (hT : TOk P T) (hmx : P.follows .mixedOrders = true) {lc : Code} (c : Code) {K : Exit → St → Prop} {st : St} {p : List Nat} (Sh : Shs) (L : Ann) (keep : List Nat) (n : Nat) (J : Nat → St → Prop) (hlc : lc = .loop c) (hB : regsB N c = true) (hJ : ∃ g, J g st)
    (round : ∀ g st, J g st → xc P T Sh N L (0 :: p) c (loopK keep n (fun st' => ∃ g', g' < g ∧ J g' st') K) st) : Sat P N p lc K st := by
  subst hlc
  refine ⟨fun A B φ a w hr => ?_⟩
  obtain ⟨g0, hg0⟩ := hJ
  refine wp_loop_ghost (fun g a' w' => ∃ st' φ', J g st' ∧ Rel N A B st' φ' a' w' ∧ Fr w φ w' φ') ⟨g0, st, φ, hg0, hr, Fr.refl _ _⟩ ?_
  rintro g a' w' ⟨st', φ', h1, h2, h3⟩
  refine Go.wp_mono ((xc_sat hT hmx c hB _ _ st' (round g st' h1)).h A B φ' a' w' h2) ?_
  rintro e a'' w'' ⟨st'', φ'', g1, g2, g3⟩
  cases e with
  | normal =>
    simp only [loopK] at g1
    cases hq : okF keep n st'' with
    | false => rw [hq] at g1; exact g1.elim
    | true =>
      rw [hq] at g1
      obtain ⟨g', k2, k3⟩ := g1
      obtain ⟨φ3, r3, f3⟩ := g2.forget hq
      exact ⟨g', k2, _, φ3, k3, r3, h3.trans (g3.trans f3)⟩
  | _ => exact ⟨st'', φ'', g1, g2, h3.trans g3⟩
theorem wp_scope_ghost' {c rest : Code} {Q : Exit → Act → World → Prop} {a : Act} {w : World} (l : Nat) (J : Nat → Act → World → Prop) (hf : findLabel c l = some rest)
    (first : c.wp P (Exit.jump l (fun a w => ∃ g, J g a w) Q) a w)
    (pass : ∀ g a w, J g a w → rest.wp P (Exit.jump l (fun a' w' => ∃ g', g' < g ∧ J g' a' w') Q) a w) : (Code.scope c).wp P Q a w := by
  classical
  let μ : Act → World → Nat := fun a w => if h : ∃ g, J g a w then Classical.choose (least_of' h) else 0
  have hμ : ∀ a w, (h : ∃ g, J g a w) → J (μ a w) a w ∧ ∀ g', J g' a w → μ a w ≤ g' := by
    intro a w h
    have e : μ a w = Classical.choose (least_of' h) := dif_pos h
    rw [e]; exact Classical.choose_spec (least_of' h)
  refine wp_scope_jumps l (fun a w => ∃ g, J g a w) μ hf first ?_
  intro a w hx
  refine Go.wp_mono (pass _ a w (hμ a w hx).1) fun e a' w' h => ?_
  cases e with
  | goto l' =>
    obtain ⟨h1, g', hlt, hj⟩ := h
    exact ⟨h1, ⟨g', hj⟩, Nat.lt_of_le_of_lt ((hμ _ _ ⟨g', hj⟩).2 g' hj) hlt⟩
  | _ => exact h
/-- **A label that is jumped to.** -/
theorem sat_scope (hT : TOk P T) (hmx : P.follows .mixedOrders = true) {lc : Code} (c rest : Code) {K : Exit → St → Prop} {st : St} {p : List Nat} (Sh : Shs) (L : Ann) (keep : List Nat) (n l : Nat) (J : Nat → St → Prop) (hlc : lc = .scope c) (hf : findLabel c l = some rest) (hB : regsB N c = true) (hB' : regsB N rest = true)
    (first : xc P T Sh N L (0 :: p) c (jumpK l keep n (fun st' => ∃ g, J g st') K) st)
    (pass : ∀ g st, J g st → xc P T Sh N L (1 :: p) rest (jumpK l keep n (fun st' => ∃ g', g' < g ∧ J g' st') K) st) : Sat P N p lc K st := by
  subst hlc
  refine ⟨fun A B φ a w hr => ?_⟩
  have conv : ∀ (J1 : St → Prop) (J2 : Act → World → Prop) (φ1 : Phi) (w1 : World), Fr w φ w1 φ1 → (∀ st' φ' a' w', J1 st' → Rel N A B st' φ' a' w' → Fr w φ w' φ' → J2 a' w') → ∀ e a' w', (∃ st' φ', jumpK l keep n J1 K e st' ∧ Rel N A B st' φ' a' w' ∧ Fr w1 φ1 w' φ') →
      Exit.jump l J2 (fun e a' w' => ∃ st' φ', K e st' ∧ Rel N A B st' φ' a' w' ∧ Fr w φ w' φ') e a' w' := by
    rintro J1 J2 φ1 w1 hf1 hJ e a' w' ⟨st', φ', g1, g2, g3⟩
    cases e with
    | goto l' =>
      simp only [jumpK] at g1
      cases hq : (Nat.beq l' l && okF keep n st') with
      | false => rw [hq] at g1; exact g1.elim
      | true =>
        rw [hq] at g1
        rw [Bool.and_eq_true] at hq
        obtain ⟨φ3, r3, f3⟩ := g2.forget hq.2
        exact ⟨Nat.eq_of_beq_eq_true hq.1, hJ _ φ3 _ _ g1 r3 (hf1.trans (g3.trans f3))⟩
    | _ => exact ⟨st', φ', g1, g2, hf1.trans g3⟩
  refine wp_scope_ghost' l (fun g a' w' => ∃ st' φ', J g st' ∧ Rel N A B st' φ' a' w' ∧ Fr w φ w' φ') hf ?_ ?_
  · exact Go.wp_mono ((xc_sat hT hmx c hB _ _ st first).h A B φ a w hr) (conv _ _ φ w (Fr.refl _ _) fun st' φ' a' w' ⟨g, hg⟩ h2 h3 => ⟨g, st', φ', hg, h2, h3⟩)
  · rintro g a' w' ⟨st', φ', h1, h2, h3⟩
    exact Go.wp_mono ((xc_sat hT hmx rest hB' _ _ st' (pass g st' h1)).h A B φ' a' w' h2) (conv _ _ φ' w' h3 fun st' φ' a' w' ⟨g', hlt, hg⟩ h2 h3 => ⟨g', hlt, st', φ', hg, h2, h3⟩)
end
end Go.Proofs.Ytnodhjlpoaahbaa
