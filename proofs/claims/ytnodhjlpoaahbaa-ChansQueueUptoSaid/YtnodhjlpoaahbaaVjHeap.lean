/-
  The objects of the run's own: what they hold; that they go on holding it; objects more.
-/
import Derived.Test.YtnodhjlpoaahbaaVjRun3
import Derived.Deep.AppendSrc
namespace Go.Proofs.Ytnodhjlpoaahbaa
open Go.RowKit

/-- A cell of an array. -/
def CellV (w : World) (E : Prot) (φ : Phi) (fr : Bool) (x : VV) (v : Value) : Prop :=
  match fr with
  | true => V w (E.up φ).hold none x v
  | false => V w (E.up φ) (some φ) x v
/-- An array's rows. -/
def RowV (w : World) (E : Prot) (φ : Phi) (fr : Bool) (n sz : Nat) (f : Nat → List VV) (hd : Option (Nat × Nat)) : Prop :=
  match hd with
  | none => n = 0
  | some (g, cap) => ∃ c ty, w.heap[g]? = some (.cells c ty (0, 0)) ∧ c.size = cap * sz ∧ n ≤ cap ∧ cap ≤ maxLen ∧ (∀ i, i < n → (f i).length = sz) ∧
      (∀ i j x, i < n → (f i)[j]? = some x → CellV w E φ fr x (c.getD (i * sz + j) undef)) ∧ ∀ k, k < n * sz → (c.getD k undef).oneCell' = true
/-- An object is what is said, where it lies. -/
def ObV (w : World) (E : Prot) (φ : Phi) : Ob → Pl → Prop
  | .box cs, .box b => ∃ c ty, w.heap[b]? = some (.cells c ty (0, 0)) ∧ Says w (E.up φ) (some φ) cs c
  | .arr fr g n sz f, .arr g' n' hd => g = g' ∧ n = n' ∧ RowV w E φ fr n sz f hd
  | .gone g, .arr g' _ hd => g = g' ∧ hd = none
  | _, _ => False
/-- The block in which an object lies. -/
def PlB : Pl → Nat → Prop
  | .box b, k => b = k
  | .arr _ _ hd, k => ∃ cap, hd = some (k, cap)
theorem blk_iff {φ : Phi} {id k : Nat} : Blk φ id k ↔ ∃ p, φ id = some p ∧ PlB p k := by
  constructor
  · rintro (h | ⟨c, n, cap, h⟩)
    · exact ⟨_, h, rfl⟩
    · exact ⟨_, h, cap, rfl⟩
  · rintro ⟨p, h, hp⟩
    cases p with
    | box b => simp only [PlB] at hp; subst hp; exact .inl h
    | arr c n hd => obtain ⟨cap, rfl⟩ := hp; exact .inr ⟨c, n, cap, h⟩

/-- The run's objects hold what the state says. -/
structure HRel (E : Prot) (H : Nat → Ob) (φ : Phi) (w : World) : Prop where
  sub : ∀ k, E.br k → E.fz k
  ob : ∀ id p, φ id = some p → ObV w E φ (H id) p
  inj : ∀ i j k, Blk φ i k → Blk φ j k → i = j
  free : ∀ k, Own φ k → ¬ E.fz k

section
variable {w w' : World} {E : Prot} {φ φ' : Phi} {H H' : Nat → Ob}
theorem Says.ext {cs : List VV} {vs : Array Value} (h : Says w (E.up φ) (some φ) cs vs) (e : Ext w φ w' φ') : Says w' (E.up φ') (some φ') cs vs :=
  ⟨h.1, fun j x hx => (h.2 j x hx).ext e⟩
theorem CellV.ext {fr : Bool} {x : VV} {v : Value} (h : CellV w E φ fr x v) (e : Ext w φ w' φ') : CellV w' E φ' fr x v := by
  cases fr with
  | true => exact V.extH h e
  | false => exact V.ext h e
theorem CellV.held {fr : Bool} {x : VV} {v : Value} (h : CellV w E φ fr x v) : V w (E.up φ) (some φ) x v := by
  cases fr with
  | true => exact V.held (V.unhold h)
  | false => exact h
/-- An object goes on holding what it holds, if its block stays. -/
theorem ObV.ext {o : Ob} {p : Pl} (h : ObV w E φ o p) (e : Ext w φ w' φ') (hk : ∀ k, PlB p k → k < w.heap.size → w'.heap[k]? = w.heap[k]?) : ObV w' E φ' o p := by
  have lt : ∀ {k : Nat} {x : Obj}, w.heap[k]? = some x → k < w.heap.size := fun h => (Array.getElem?_eq_some_iff.1 h).1
  cases o with
  | box cs =>
    cases p with
    | box b =>
      obtain ⟨c, ty, h1, h2⟩ := h
      exact ⟨c, ty, (hk b rfl (lt h1)).trans h1, h2.ext e⟩
    | arr => exact h.elim
  | arr fr g n sz f =>
    cases p with
    | box b => exact h.elim
    | arr g' n' hd =>
      obtain ⟨rfl, rfl, h⟩ := h
      refine ⟨rfl, rfl, ?_⟩
      match hd, h, hk with
      | none, h, _ => exact h
      | some (b, cap), h, hk =>
        obtain ⟨c, ty, h1, h2, h3, h4, h5, h6, h7⟩ := h
        exact ⟨c, ty, (hk b ⟨cap, rfl⟩ (lt h1)).trans h1, h2, h3, h4, h5, fun i j x hi hx => (h6 i j x hi hx).ext e, h7⟩
  | gone g =>
    cases p with
    | box b => exact h.elim
    | arr g' n' hd => exact h
theorem ObV.lt {o : Ob} {p : Pl} (h : ObV w E φ o p) {k : Nat} (hk : PlB p k) : k < w.heap.size := by
  have lt : ∀ {k : Nat} {x : Obj}, w.heap[k]? = some x → k < w.heap.size := fun h => (Array.getElem?_eq_some_iff.1 h).1
  cases o with
  | box cs =>
    cases p with
    | box b => obtain ⟨c, ty, h1, _⟩ := h; simp only [PlB] at hk; subst hk; exact lt h1
    | arr => exact h.elim
  | arr fr g n sz f =>
    cases p with
    | box b => exact h.elim
    | arr g' n' hd =>
      obtain ⟨cap, rfl⟩ := hk
      obtain ⟨_, _, c, ty, h1, _⟩ := h
      exact lt h1
  | gone g =>
    cases p with
    | box b => exact h.elim
    | arr g' n' hd => obtain ⟨cap, rfl⟩ := hk; obtain ⟨_, h⟩ := h; cases h
theorem HRel.lt (h : HRel E H φ w) {k : Nat} (hk : Own φ k) : k < w.heap.size := by
  obtain ⟨id, hb⟩ := hk
  obtain ⟨p, hp, hb⟩ := blk_iff.1 hb
  exact (h.ob id p hp).lt hb
theorem HRel.congr (h : HRel E H φ w) (hH : ∀ k, φ k ≠ none → H' k = H k) : HRel E H' φ w :=
  ⟨h.sub, fun id p e => by rw [hH id (by rw [e]; simp)]; exact h.ob id p e, h.inj, h.free⟩
/-- Nothing of the run's own has turned. -/
theorem HRel.same (h : HRel E H φ w) (e : Ext w φ w' φ) (hk : ∀ k, k < w.heap.size → w'.heap[k]? = w.heap[k]?) : HRel E H φ w' :=
  ⟨h.sub, fun id p e' => (h.ob id p e').ext e fun k _ hk' => hk k hk', h.inj, h.free⟩
theorem HRel.below (h : HRel E H φ w) (hb : Below w.heap.size w w') : HRel E H φ w' := h.same (Ext.of_below hb) fun k hk => hb.block k hk
end

/-! ### Objects more -/
def addP (φ : Phi) (nx : Nat) (pls : List Pl) : Phi := fun k => if nx ≤ k ∧ k < nx + pls.length then pls[k - nx]? else φ k
def addH (H : Nat → Ob) : Nat → List Ob → Nat → Ob
  | _, [] => H
  | nx, o :: os => addH (fun k => bif Nat.beq k nx then o else H k) (nx + 1) os
theorem beq_false_of_ne {a b : Nat} (h : a ≠ b) : Nat.beq a b = false := by
  cases hq : Nat.beq a b with
  | true => exact absurd (Nat.eq_of_beq_eq_true hq) h
  | false => rfl
theorem addH_out {nx k : Nat} : ∀ {os : List Ob} {H : Nat → Ob}, k < nx ∨ nx + os.length ≤ k → addH H nx os k = H k := by
  intro os
  induction os generalizing nx with
  | nil => intro H _; rfl
  | cons o os ih =>
    intro H h
    simp only [List.length_cons] at h
    simp only [addH]
    rw [ih (by omega), beq_false_of_ne (by omega)]; rfl
theorem addH_at {nx i : Nat} {o : Ob} : ∀ {os : List Ob} {H : Nat → Ob}, os[i]? = some o → addH H nx os (nx + i) = o := by
  intro os
  induction os generalizing nx i with
  | nil => intro H h; simp at h
  | cons o' os ih =>
    intro H h
    simp only [addH]
    match i, h with
    | 0, h =>
      simp only [List.getElem?_cons_zero, Option.some.injEq] at h
      subst h
      rw [addH_out (by omega)]
      simp
    | i + 1, h =>
      have := ih (nx := nx + 1) (H := fun k => bif Nat.beq k nx then o' else H k) (i := i) (by simpa using h)
      rw [show nx + (i + 1) = nx + 1 + i by omega]; exact this
theorem addP_out {φ : Phi} {nx k : Nat} {pls : List Pl} (h : k < nx ∨ nx + pls.length ≤ k) : addP φ nx pls k = φ k := if_neg (by omega)
theorem addP_at {φ : Phi} {nx i : Nat} {p : Pl} {pls : List Pl} (h : pls[i]? = some p) : addP φ nx pls (nx + i) = some p := by
  have := (List.getElem?_eq_some_iff.1 h).1
  unfold addP
  rw [if_pos (by omega), show nx + i - nx = i by omega, h]
theorem addP_nil {φ : Phi} {nx : Nat} : addP φ nx [] = φ := by funext k; exact addP_out (by simp; omega)
theorem addP_inv {φ : Phi} {nx k : Nat} {p : Pl} {pls : List Pl} (h : addP φ nx pls k = some p) : (∃ i, k = nx + i ∧ pls[i]? = some p) ∨ (φ k = some p ∧ ¬ (nx ≤ k ∧ k < nx + pls.length)) := by
  unfold addP at h
  split at h
  · rename_i hk; exact .inl ⟨k - nx, by omega, h⟩
  · rename_i hk; exact .inr ⟨h, hk⟩

/-- Where new objects lie. -/
structure Room (w : World) (pls : List Pl) (w' : World) : Prop where
  below : Below w.heap.size w w'
  far : ∀ (i : Nat) p k, pls[i]? = some p → PlB p k → w.heap.size ≤ k
  inj : ∀ (i j : Nat) p q k, pls[i]? = some p → pls[j]? = some q → PlB p k → PlB q k → i = j
/-- Objects, new, where nothing was. -/
structure News (w : World) (E : Prot) (φ : Phi) (nx : Nat) (obs : List Ob) (pls : List Pl) (w' : World) : Prop extends Room w pls w' where
  len : pls.length = obs.length
  ob : ∀ (i : Nat) o p, obs[i]? = some o → pls[i]? = some p → ObV w' E (addP φ nx pls) o p

section
variable {w w' : World} {E : Prot} {φ : Phi} {H H' : Nat → Ob} {nx : Nat} {obs : List Ob} {pls : List Pl}
theorem Room.own (_h : Room w pls w') (hid : ∀ i, i < pls.length → φ (nx + i) = none) {k : Nat} : Own (addP φ nx pls) k ↔ Own φ k ∨ ∃ (i : Nat) (p : Pl), pls[i]? = some p ∧ PlB p k := by
  constructor
  · rintro ⟨id, hb0⟩
    obtain ⟨p, hp, hb⟩ := blk_iff.1 hb0
    rcases addP_inv hp with ⟨i, rfl, hi⟩ | ⟨hp, _⟩
    · exact .inr ⟨i, p, hi, hb⟩
    · exact .inl ⟨id, blk_iff.2 ⟨p, hp, hb⟩⟩
  · rintro (⟨id, hb⟩ | ⟨i, p, hi, hb⟩)
    · obtain ⟨p, hp, hb⟩ := blk_iff.1 hb
      have : addP φ nx pls id = some p := by
        rw [addP_out, hp]
        apply Classical.byContradiction
        intro hc
        have := hid (id - nx) (by omega)
        rw [show nx + (id - nx) = id by omega, hp] at this
        cases this
      exact ⟨id, blk_iff.2 ⟨p, this, hb⟩⟩
    · exact ⟨nx + i, blk_iff.2 ⟨p, addP_at hi, hb⟩⟩
theorem Room.ext (h : Room w pls w') (hid : ∀ i, i < pls.length → φ (nx + i) = none) : Ext w φ w' (addP φ nx pls) := by
  refine ⟨h.below.os, h.below.tape, h.below.output, h.below.size, fun k hk _ => h.below.block k hk, fun id p e => ⟨p, ?_, PlUp.refl p⟩, fun k hk => ?_⟩
  · rw [addP_out, e]
    apply Classical.byContradiction
    intro hc
    have := hid (id - nx) (by omega)
    rw [show nx + (id - nx) = id by omega, e] at this
    cases this
  · rcases (h.own hid).1 hk with hk | ⟨i, p, hi, hb⟩
    · exact .inl hk
    · exact .inr (h.far i p k hi hb)
theorem News.ext (h : News w E φ nx obs pls w') (hid : ∀ i, i < obs.length → φ (nx + i) = none) : Ext w φ w' (addP φ nx pls) := h.toRoom.ext (by rw [h.len]; exact hid)
theorem News.own (h : News w E φ nx obs pls w') (hid : ∀ i, i < obs.length → φ (nx + i) = none) {k : Nat} : Own (addP φ nx pls) k ↔ Own φ k ∨ ∃ (i : Nat) (p : Pl), pls[i]? = some p ∧ PlB p k := h.toRoom.own (by rw [h.len]; exact hid)
/-- One block. -/
theorem Room.one {p : Pl} (hb : Below w.heap.size w w') (hp : ∀ k, PlB p k → w.heap.size ≤ k) : Room w [p] w' := by
  refine ⟨hb, fun i q k hi hk => ?_, fun i j q r k hi hj _ _ => ?_⟩
  · match i, hi with
    | 0, hi => simp only [List.getElem?_cons_zero, Option.some.injEq] at hi; subst hi; exact hp k hk
    | i + 1, hi => simp at hi
  · match i, j, hi, hj with
    | 0, 0, _, _ => rfl
    | i + 1, _, hi, _ => simp at hi
    | _, j + 1, _, hj => simp at hj
theorem News.one {o : Ob} {p : Pl} (hr : Room w [p] w') (ho : ObV w' E (addP φ nx [p]) o p) : News w E φ nx [o] [p] w' := ⟨hr, rfl, fun i o' q hi hj => by
  match i, hi, hj with
  | 0, hi, hj =>
    simp only [List.getElem?_cons_zero, Option.some.injEq] at hi hj
    subst hi; subst hj; exact ho
  | i + 1, hi, _ => simp at hi⟩
theorem HRel.news (hr : HRel E H φ w) (hz : ∀ k, E.fz k → k < w.heap.size) (h : News w E φ nx obs pls w') (hid : ∀ i, i < obs.length → φ (nx + i) = none) (hH : ∀ k, φ k ≠ none → H' k = H k) (hH' : ∀ (i : Nat) o, obs[i]? = some o → H' (nx + i) = o) :
    HRel E H' (addP φ nx pls) w' := by
  have hext := h.ext hid
  refine ⟨hr.sub, fun id p e => ?_, fun i j k hi hj => ?_, fun k hk => ?_⟩
  · rcases addP_inv e with ⟨i, rfl, hi⟩ | ⟨hp, _⟩
    · have hil := (List.getElem?_eq_some_iff.1 hi).1
      have ho : obs[i]? = some (obs[i]'(by rw [← h.len]; exact hil)) := List.getElem?_eq_getElem _
      rw [hH' i _ ho]
      exact h.ob i _ p ho hi
    · rw [hH id (by rw [hp]; simp)]
      exact (hr.ob id p hp).ext hext fun k _ hk => h.below.block k hk
  · obtain ⟨p, hp, hpb⟩ := blk_iff.1 hi
    obtain ⟨q, hq, hqb⟩ := blk_iff.1 hj
    have low : ∀ {id : Nat} {p : Pl}, φ id = some p → PlB p k → k < w.heap.size := fun e hb => hr.lt ⟨_, blk_iff.2 ⟨_, e, hb⟩⟩
    rcases addP_inv hp with ⟨i', rfl, hi'⟩ | ⟨hp', _⟩ <;> rcases addP_inv hq with ⟨j', rfl, hj'⟩ | ⟨hq', _⟩
    · rw [h.inj i' j' p q k hi' hj' hpb hqb]
    · have := h.far i' p k hi' hpb; have := low hq' hqb; omega
    · have := h.far j' q k hj' hqb; have := low hp' hpb; omega
    · exact hr.inj i j k (blk_iff.2 ⟨p, hp', hpb⟩) (blk_iff.2 ⟨q, hq', hqb⟩)
  · rcases (h.own hid).1 hk with hk | ⟨i, p, hi, hb⟩
    · exact hr.free k hk
    · intro hf
      have := hz k hf
      have := h.far i p k hi hb
      omega
/-- Nothing new. -/
theorem News.none (hb : Below w.heap.size w w') : News w E φ nx [] [] w' := ⟨⟨hb, fun i p k h => by simp at h, fun i j p q k h => by simp at h⟩, rfl, fun i o p h => by simp at h⟩
end
end Go.Proofs.Ytnodhjlpoaahbaa
