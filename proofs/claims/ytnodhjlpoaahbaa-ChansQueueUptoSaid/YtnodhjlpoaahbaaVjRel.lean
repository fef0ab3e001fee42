/-
  References, renamed: what is handed to a callee, what comes back.
-/
import Derived.Test.YtnodhjlpoaahbaaVjApp2
namespace Go.Proofs.Ytnodhjlpoaahbaa
open Go.RowKit

/-- Under new names all says the same. -/
structure Reloc (nb : Bool) (ri : Nat → Option Nat) (rg : Nat → Nat → Option Nat) (E1 : Prot) (φ1 : Phi) (E2 : Prot) (φ2 : Phi) : Prop where
  fz : ∀ k, E2.fz k → E1.fz k
  br : nb = false → ∀ k, E2.br k → E1.br k
  bx : ∀ id i b, ri id = some i → φ1 id = some (.box b) → φ2 i = some (.box b)
  ar : ∀ id i gen g c len hd, ri id = some i → rg id gen = some g → φ1 id = some (.arr c len hd) → gen ≤ c → ∃ c2, φ2 i = some (.arr c2 len hd) ∧ g ≤ c2 ∧ (g = c2 → gen = c)
def relPl (og : Nat → Nat) : Pl → Pl
  | .box b => .box b
  | .arr c n hd => .arr (og c) n hd
theorem relPl_B {og : Nat → Nat} {p : Pl} {k : Nat} : PlB (relPl og p) k ↔ PlB p k := by cases p <;> exact Iff.rfl

section
variable {w : World} {nb : Bool} {ri : Nat → Option Nat} {rg : Nat → Nat → Option Nat} {og : Nat → Nat} {E1 E2 : Prot} {φ1 φ2 : Phi}
theorem relF_ok (h : Reloc nb ri rg E1 φ1 E2 φ2) : ∀ (k : Nat) (x : VV) (v : Value), V w E1 (some φ1) x v → V w E2 (some φ2) (relF nb ri rg k x) v
  | 0, _, _, _ => .dead
  | k + 1, x, v, hv => by
    have memc : ∀ {x : VV}, V w E1 (some φ1) x v → x.mem = true → V w E2 (some φ2) x v := fun hv hm =>
      (hv.mem (E' := ⟨E1.fz, E2.br⟩) (m' := some φ2) hm rfl).less h.fz fun _ h => h
    have rec' : ∀ (cs : List VV) (vs : Array Value), vs.size = cs.length → (∀ (j : Nat) x, cs[j]? = some x → V w E1 (some φ1) x (vs.getD j undef)) →
        vs.size = (cs.map (relF nb ri rg k)).length ∧ ∀ (j : Nat) x, (cs.map (relF nb ri rg k))[j]? = some x → V w E2 (some φ2) x (vs.getD j undef) := by
      intro cs vs h1 h2
      refine ⟨by simp [h1], fun j x hx => ?_⟩
      rw [List.getElem?_map] at hx
      obtain ⟨y, hy, rfl⟩ := Option.map_eq_some_iff.1 hx
      exact relF_ok h k y _ (h2 j y hy)
    cases x with
    | dead => exact .dead
    | sc u => exact memc hv rfl
    | nl => exact memc hv rfl
    | sl fz n sz f =>
      cases fz with
      | true => exact memc hv rfl
      | false =>
        cases nb with
        | true => exact .dead
        | false => exact (hv.lies (m' := some φ2) rfl).less h.fz (h.br rfl)
    | tp cs =>
      cases nb with
      | true => exact .dead
      | false =>
        obtain ⟨b, off, rfl, h1, h2, u, h3, h4⟩ := hv.tp_inv
        exact .tp u h1 (fun e => h2 (h.br rfl _ e)) h3 fun j x hx => (h4 j x hx).less h.fz (h.br rfl)
    | bp id off =>
      obtain ⟨b, hb, rfl⟩ := hv.bp_inv
      simp only [relF]
      cases hq : ri id with
      | none => exact .dead
      | some i => exact .bp (h.bx id i b hq hb)
    | ow id gen n =>
      obtain ⟨c, len, hd, hd0, hph, hg, h0, hcur⟩ := hv.ow_inv
      simp only [relF]
      cases hq : ri id with
      | none => exact .dead
      | some i =>
        cases hq2 : rg id gen with
        | none => exact .dead
        | some g =>
          obtain ⟨c2, a1, a2, a3⟩ := h.ar id i gen g c len hd hq hq2 hph hg
          exact .ow a1 a2 h0 fun e => hcur (a3 e)
    | ep id gen sz r o =>
      obtain ⟨c, len, hd, b, hph, hg, rfl, hcur⟩ := hv.ep_inv
      simp only [relF]
      cases hq : ri id with
      | none => exact .dead
      | some i =>
        cases hq2 : rg id gen with
        | none => exact .dead
        | some g =>
          obtain ⟨c2, a1, a2, a3⟩ := h.ar id i gen g c len hd hq hq2 hph hg
          exact .ep a1 a2 fun e => hcur (a3 e)
    | agg cs =>
      obtain ⟨vs, rfl, h1, h2⟩ := hv.agg_inv
      obtain ⟨g1, g2⟩ := rec' cs vs h1 h2
      exact .agg g1 g2
    | tup cs =>
      cases hv with | tup h1 h2 =>
      obtain ⟨g1, g2⟩ := rec' cs _ h1 h2
      exact .tup g1 g2
    | fn g cs =>
      cases hv with | fn h1 h2 =>
      obtain ⟨g1, g2⟩ := rec' cs _ h1 h2
      exact .fn g1 g2
theorem relOb_ok (h : Reloc nb ri rg (E1.up φ1) φ1 (E2.up φ2) φ2) {o : Ob} {p : Pl} (ho : ObV w E1 φ1 o p) : ObV w E2 φ2 (relOb nb ri rg og o) (relPl og p) := by
  cases o with
  | box cs =>
    cases p with
    | arr => exact ho.elim
    | box b =>
      obtain ⟨c, ty, h1, h2⟩ := ho
      refine ⟨c, ty, h1, by simp [h2.1], fun j x hx => ?_⟩
      rw [List.getElem?_map] at hx
      obtain ⟨y, hy, rfl⟩ := Option.map_eq_some_iff.1 hx
      exact relF_ok h _ y _ (h2.2 j y hy)
  | gone g =>
    cases p with
    | box b => exact ho.elim
    | arr c n hd => obtain ⟨rfl, rfl⟩ := ho; exact ⟨rfl, rfl⟩
  | arr fr g n sz f =>
    cases p with
    | box b => exact ho.elim
    | arr c n' hd =>
      obtain ⟨rfl, rfl, hrow⟩ := ho
      have key : ∀ (f' : Nat → List VV), (∀ i, i < n → (f' i).length = (f i).length) → (∀ (i j : Nat) (x : VV), i < n → (f' i)[j]? = some x → ∀ u, (∀ y, (f i)[j]? = some y → CellV w E1 φ1 fr y u) → CellV w E2 φ2 fr x u) → RowV w E2 φ2 fr n sz f' hd := by
        intro f' hl hc
        match hd, hrow with
        | none, hrow => exact hrow
        | some (b, cap), hrow =>
          obtain ⟨cs, ty, h1, h2, h3, h4, h5, h6, h7⟩ := hrow
          exact ⟨cs, ty, h1, h2, h3, h4, fun i hi => (hl i hi).trans (h5 i hi), fun i j x hi hx => hc i j x hi hx _ fun y hy => h6 i j y hi hy, h7⟩
      cases fr with
      | true => exact ⟨rfl, rfl, key f (fun _ _ => rfl) fun i j x _ hx u hu => V.less (hu x hx) h.fz fun _ h => h⟩
      | false =>
        refine ⟨rfl, rfl, key _ (fun i hi => by simp [rowsF, hi]) fun i j x hi hx u hu => ?_⟩
        simp only [rowsF, List.getD_eq_getElem?_getD, List.getElem?_map, List.getElem?_range hi, Option.map_some, Option.getD_some] at hx
        obtain ⟨y, hy, rfl⟩ := Option.map_eq_some_iff.1 hx
        exact relF_ok h _ y _ (hu y hy)
end

/-! ### Where an object is found -/
theorem idx_some : ∀ {ids : List Nat} {id j : Nat}, idx ids id = some j → ids[j]? = some id
  | [], _, _, h => by cases h
  | i :: is, id, j, h => by
    simp only [idx] at h
    cases hq : Nat.beq i id with
    | true =>
      rw [hq] at h
      simp only [cond_true, Option.some.injEq] at h
      subst h
      rw [Nat.eq_of_beq_eq_true hq]; rfl
    | false =>
      rw [hq] at h
      simp only [cond_false, Option.map_eq_some_iff] at h
      obtain ⟨j', hj, rfl⟩ := h
      have := idx_some hj
      simpa using this
theorem okIds_lt {nx : Nat} : ∀ {ids : List Nat}, okIds nx ids = true → ∀ (j : Nat) id, ids[j]? = some id → id < nx
  | [], _, j, id, h => by simp at h
  | i :: is, hk, j, id, h => by
    simp only [okIds, Bool.and_eq_true] at hk
    match j, h with
    | 0, h => simp only [List.getElem?_cons_zero, Option.some.injEq] at h; subst h; exact Nat.le_of_ble_eq_true hk.1.1
    | j + 1, h => exact okIds_lt hk.2 j id h
theorem idx_of {nx : Nat} : ∀ {ids : List Nat}, okIds nx ids = true → ∀ (j : Nat) id, ids[j]? = some id → idx ids id = some j
  | [], _, j, id, h => by simp at h
  | i :: is, hk, j, id, h => by
    simp only [okIds, Bool.and_eq_true] at hk
    match j, h with
    | 0, h => simp only [List.getElem?_cons_zero, Option.some.injEq] at h; subst h; simp [idx]
    | j + 1, h =>
      have h' : is[j]? = some id := h
      have hne : i ≠ id := by
        rintro rfl
        have := not_true_eq hk.1.2
        rw [mem_beq.2 (List.mem_of_getElem? h')] at this
        cases this
      simp only [idx, beq_false_of_ne hne, cond_false, idx_of hk.2 j id h', Option.map_some]
theorem idx_none {ids : List Nat} {id : Nat} (h : idx ids id = none) : ∀ j : Nat, ids[j]? ≠ some id := by
  intro j hj
  induction ids generalizing j with
  | nil => simp at hj
  | cons i is ih =>
    simp only [idx] at h
    cases hq : Nat.beq i id with
    | true => rw [hq] at h; cases h
    | false =>
      rw [hq] at h
      simp only [cond_false, Option.map_eq_none_iff] at h
      match j, hj with
      | 0, hj => simp only [List.getElem?_cons_zero, Option.some.injEq] at hj; subst hj; simp at hq
      | j + 1, hj => exact ih h j hj

/-! ### Some objects as if they were the only ones -/
/-- The blocks of the others. -/
def Rest (ids : List Nat) (φ : Phi) (k : Nat) : Prop := ∃ id, idx ids id = none ∧ Blk φ id k
def lendP (ids : List Nat) (φ : Phi) : Phi := fun j => (ids[j]?).bind fun id => (φ id).map (relPl fun _ => 0)
section
variable {w : World} {E E' : Prot} {φ : Phi} {st : St} {ids : List Nat} {Hc : Nat → Ob}
theorem lendP_some {j : Nat} {p : Pl} (h : lendP ids φ j = some p) : ∃ id q, ids[j]? = some id ∧ φ id = some q ∧ p = relPl (fun _ => 0) q := by
  unfold lendP at h
  cases hq : ids[j]? with
  | none => rw [hq] at h; cases h
  | some id =>
    rw [hq] at h
    simp only [Option.bind_some, Option.map_eq_some_iff] at h
    obtain ⟨q, hq, rfl⟩ := h
    exact ⟨id, q, rfl, hq, rfl⟩
theorem lendP_at {j id : Nat} (h : ids[j]? = some id) : lendP ids φ j = (φ id).map (relPl fun _ => 0) := by unfold lendP; rw [h]; rfl
theorem lendP_blk {j k : Nat} : Blk (lendP ids φ) j k ↔ ∃ id, ids[j]? = some id ∧ Blk φ id k := by
  constructor
  · intro h
    obtain ⟨p, hp, hb⟩ := blk_iff.1 h
    obtain ⟨id, q, h1, h2, rfl⟩ := lendP_some hp
    exact ⟨id, h1, blk_iff.2 ⟨q, h2, relPl_B.1 hb⟩⟩
  · rintro ⟨id, h1, h2⟩
    obtain ⟨q, hq, hb⟩ := blk_iff.1 h2
    exact blk_iff.2 ⟨relPl (fun _ => 0) q, by rw [lendP_at h1, hq]; rfl, relPl_B.2 hb⟩
theorem lendP_own {k : Nat} : Own (lendP ids φ) k ↔ ∃ (j : Nat) (id : Nat), ids[j]? = some id ∧ Blk φ id k :=
  ⟨fun ⟨j, h⟩ => let ⟨id, h1, h2⟩ := lendP_blk.1 h; ⟨j, id, h1, h2⟩, fun ⟨j, id, h1, h2⟩ => ⟨j, lendP_blk.2 ⟨id, h1, h2⟩⟩⟩
theorem rest_own {k : Nat} : Own φ k ↔ Rest ids φ k ∨ Own (lendP ids φ) k := by
  rw [lendP_own]
  constructor
  · rintro ⟨id, h⟩
    cases hq : idx ids id with
    | none => exact .inl ⟨id, hq, h⟩
    | some j => exact .inr ⟨j, id, idx_some hq, h⟩
  · rintro (⟨id, _, h⟩ | ⟨j, id, _, h⟩)
    · exact ⟨id, h⟩
    · exact ⟨id, h⟩
/-- Of what an array is now. -/
theorem HRel.gen (h : HRel E Hc φ w) {id c len : Nat} {hd : Option (Nat × Nat)} (e : φ id = some (.arr c len hd)) : (Hc id).gen = c := by
  have := h.ob id _ e
  cases hq : Hc id with
  | box cs => rw [hq] at this; exact this.elim
  | arr fr g n sz f => rw [hq] at this; exact this.1
  | gone g => rw [hq] at this; exact this.1
theorem lend_reloc (h : HRel E st.H φ w) (h1 : ∀ k, E'.fz k → E.fz k ∨ Rest ids φ k) (h2 : ∀ k, E'.br k → E.br k ∨ Rest ids φ k) :
    Reloc false (idx ids) (inGen st) (E.up φ) φ (E'.up (lendP ids φ)) (lendP ids φ) := by
  refine ⟨?_, fun _ => ?_, fun id i b hi hb => ?_, fun id i gen g c len hd hi hg hph hgc => ?_⟩
  · rintro k (hk1 | hk1)
    · exact (h1 k hk1).imp (fun h => h) fun h => rest_own.2 (.inl h)
    · exact .inr (rest_own.2 (.inr hk1))
  · rintro k (hk1 | hk1)
    · exact (h2 k hk1).imp (fun h => h) fun h => rest_own.2 (.inl h)
    · exact .inr (rest_own.2 (.inr hk1))
  · rw [lendP_at (idx_some hi), hb]; rfl
  · have hgen := h.gen hph
    unfold inGen at hg
    rw [hgen] at hg
    cases hq : Nat.beq gen c with
    | false => rw [hq] at hg; cases hg
    | true =>
      rw [hq] at hg
      simp only [cond_true, Option.some.injEq] at hg
      subst hg
      exact ⟨0, by rw [lendP_at (idx_some hi), hph]; rfl, Nat.le_refl _, fun _ => Nat.eq_of_beq_eq_true hq⟩
/-- The objects, lent. -/
theorem HRel.lend (h : HRel E st.H φ w) (hk : okIds st.nx ids = true) (h1 : ∀ k, E'.fz k → E.fz k ∨ Rest ids φ k) (h2 : ∀ k, E'.br k → E.br k ∨ Rest ids φ k) (h3 : ∀ k, E'.br k → E'.fz k) {H' : Nat → Ob} (hH : ∀ (j id : Nat), ids[j]? = some id → H' j = lendOb st ids id) :
    HRel E' H' (lendP ids φ) w := by
  refine ⟨h3, fun j p e => ?_, fun i j k hi hj => ?_, fun k hk1 hf => ?_⟩
  · obtain ⟨id, q, e1, e2, rfl⟩ := lendP_some e
    rw [hH j id e1]
    exact relOb_ok (lend_reloc h h1 h2) (h.ob id q e2)
  · obtain ⟨a, ha1, ha2⟩ := lendP_blk.1 hi
    obtain ⟨b, hb1, hb2⟩ := lendP_blk.1 hj
    obtain rfl := h.inj a b k ha2 hb2
    have e1 := idx_of hk i a ha1
    have e2 := idx_of hk j a hb1
    rw [e1] at e2
    simpa using e2
  · obtain ⟨j, id, e1, e2⟩ := lendP_own.1 hk1
    rcases h1 k hf with hf | ⟨id', e3, e4⟩
    · exact h.free k ⟨id, e2⟩ hf
    · obtain rfl := h.inj id id' k e2 e4
      exact idx_none e3 j e1
end
end Go.Proofs.Ytnodhjlpoaahbaa
