/-
  Texts, joined: VjB, Enc, EncGood, GoodP, GdQ, VjIdx, VjTab.
-/
import Derived.Test.YtiaebjpcgjkhoaaGreatDoorPkA
import Derived.Laws.BytesString
import Derived.ScopeJumps
import Derived.IntWalk
import Derived.Test.YtiaebjpcgjkhoaaGreatDoorProg
import Derived.KernelRfl
namespace Go.Proofs.YtiaebjpcgjkhoaaGreatDoor
open Go.RowKit
section
structure Reloc (nb : Bool) (ri : Nat → Option Nat) (rg : Nat → Nat → Option Nat) (E1 : Prot) (φ1 : Phi) (E2 : Prot) (φ2 : Phi) : Prop where
  fz : ∀ k, E2.fz k → E1.fz k
  br : nb = false → ∀ k, E2.br k → E1.br k
  bx : ∀ id i b, ri id = some i → φ1 id = some (.box b) → φ2 i = some (.box b)
  ar : ∀ id i gen g c len hd, ri id = some i → rg id gen = some g → φ1 id = some (.arr c len hd) → gen ≤ c → ∃ c2, φ2 i = some (.arr c2 len hd) ∧ g ≤ c2 ∧ (g = c2 → gen = c)
def relPl (og : Nat → Nat) : Pl → Pl
  | .box b => .box b
  | .arr c n hd => .arr (og c) n hd
theorem relPl_B {og : Nat → Nat} {p : Pl} {k : Nat} : PlB (relPl og p) k ↔ PlB p k := by cases p <;> exact Iff.rfl
section
variable {w : World} {nb : Bool} {ri : Nat → Option Nat} {rg : Nat → Nat → Option Nat} {og : Nat → Nat} {E1 E2 : Prot} {φ1 φ2 : Phi}
theorem relF_ok (h : Reloc nb ri rg E1 φ1 E2 φ2) : ∀ (k : Nat) (x : VV) (v : Value), V w E1 (some φ1) x v → V w E2 (some φ2) (relF nb ri rg k x) v
  | 0, _, _, _ => .dead
  | k + 1, x, v, hv => by
    have memc : ∀ {x : VV}, V w E1 (some φ1) x v → x.mem = true → V w E2 (some φ2) x v := fun hv hm =>
      (hv.mem (E' := ⟨E1.fz, E2.br⟩) (m' := some φ2) hm rfl).less h.fz fun _ h => h
    have rec' : ∀ (cs : List VV) (vs : Array Value), vs.size = cs.length → (∀ (j : Nat) x, cs[j]? = some x → V w E1 (some φ1) x (vs.getD j undef)) →
        vs.size = (cs.map (relF nb ri rg k)).length ∧ ∀ (j : Nat) x, (cs.map (relF nb ri rg k))[j]? = some x → V w E2 (some φ2) x (vs.getD j undef) := by
      intro cs vs h1 h2
      refine ⟨by simp [h1], fun j x hx => ?_⟩
      rw [List.getElem?_map] at hx
      obtain ⟨y, hy, rfl⟩ := Option.map_eq_some_iff.1 hx
      exact relF_ok h k y _ (h2 j y hy)
    cases x with
    | dead => exact .dead
    | sc u => exact memc hv rfl
    | nl => exact memc hv rfl
    | er b => exact memc hv rfl
    | sl fz n sz f =>
      cases fz with
      | true => exact memc hv rfl
      | false =>
        cases nb with
        | true => exact .dead
        | false => exact (hv.lies (m' := some φ2) rfl).less h.fz (h.br rfl)
    | tp cs =>
      cases nb with
      | true => exact .dead
      | false =>
        obtain ⟨b, off, rfl, h1, h2, u, h3, h4⟩ := hv.tp_inv
        exact .tp u h1 (fun e => h2 (h.br rfl _ e)) h3 fun j x hx => (h4 j x hx).less h.fz (h.br rfl)
    | bp id off =>
      obtain ⟨b, hb, rfl⟩ := hv.bp_inv
      simp only [relF]
      cases hq : ri id with
      | none => exact .dead
      | some i => exact .bp (h.bx id i b hq hb)
    | ow id gen n =>
      obtain ⟨c, len, hd, hd0, hph, hg, h0, hcur⟩ := hv.ow_inv
      simp only [relF]
      cases hq : ri id with
      | none => exact .dead
      | some i =>
        cases hq2 : rg id gen with
        | none => exact .dead
        | some g =>
          obtain ⟨c2, a1, a2, a3⟩ := h.ar id i gen g c len hd hq hq2 hph hg
          exact .ow a1 a2 h0 fun e => hcur (a3 e)
    | ep id gen sz r o =>
      obtain ⟨c, len, hd, b, hph, hg, rfl, hcur⟩ := hv.ep_inv
      simp only [relF]
      cases hq : ri id with
      | none => exact .dead
      | some i =>
        cases hq2 : rg id gen with
        | none => exact .dead
        | some g =>
          obtain ⟨c2, a1, a2, a3⟩ := h.ar id i gen g c len hd hq hq2 hph hg
          exact .ep a1 a2 fun e => hcur (a3 e)
    | agg cs =>
      obtain ⟨vs, rfl, h1, h2⟩ := hv.agg_inv
      obtain ⟨g1, g2⟩ := rec' cs vs h1 h2
      exact .agg g1 g2
    | tup cs =>
      cases hv with | tup h1 h2 =>
      obtain ⟨g1, g2⟩ := rec' cs _ h1 h2
      exact .tup g1 g2
    | fn g cs =>
      cases hv with | fn h1 h2 =>
      obtain ⟨g1, g2⟩ := rec' cs _ h1 h2
      exact .fn g1 g2
theorem relOb_ok (h : Reloc nb ri rg (E1.up φ1) φ1 (E2.up φ2) φ2) {o : Ob} {p : Pl} (ho : ObV w E1 φ1 o p) : ObV w E2 φ2 (relOb nb ri rg og o) (relPl og p) := by
  cases o with
  | box cs =>
    cases p with
    | arr => exact ho.elim
    | box b =>
      obtain ⟨c, ty, h1, h2⟩ := ho
      refine ⟨c, ty, h1, by simp [h2.1], fun j x hx => ?_⟩
      rw [List.getElem?_map] at hx
      obtain ⟨y, hy, rfl⟩ := Option.map_eq_some_iff.1 hx
      exact relF_ok h _ y _ (h2.2 j y hy)
  | gone g =>
    cases p with
    | box b => exact ho.elim
    | arr c n hd => obtain ⟨rfl, rfl⟩ := ho; exact ⟨rfl, rfl⟩
  | arr fr g n sz f =>
    cases p with
    | box b => exact ho.elim
    | arr c n' hd =>
      obtain ⟨rfl, rfl, hrow⟩ := ho
      have key : ∀ (f' : Nat → List VV), (∀ i, i < n → (f' i).length = (f i).length) → (∀ (i j : Nat) (x : VV), i < n → (f' i)[j]? = some x → ∀ u, (∀ y, (f i)[j]? = some y → CellV w E1 φ1 fr y u) → CellV w E2 φ2 fr x u) → RowV w E2 φ2 fr n sz f' hd := by
        intro f' hl hc
        match hd, hrow with
        | none, hrow => exact hrow
        | some (b, cap), hrow =>
          obtain ⟨cs, ty, h1, h2, h3, h4, h5, h6, h7⟩ := hrow
          exact ⟨cs, ty, h1, h2, h3, h4, fun i hi => (hl i hi).trans (h5 i hi), fun i j x hi hx => hc i j x hi hx _ fun y hy => h6 i j y hi hy, h7⟩
      cases fr with
      | true => exact ⟨rfl, rfl, key f (fun _ _ => rfl) fun i j x _ hx u hu => V.less (hu x hx) h.fz fun _ h => h⟩
      | false =>
        refine ⟨rfl, rfl, key _ (fun i hi => by simp [rowsF, hi]) fun i j x hi hx u hu => ?_⟩
        simp only [rowsF, List.getD_eq_getElem?_getD, List.getElem?_map, List.getElem?_range hi, Option.map_some, Option.getD_some] at hx
        obtain ⟨y, hy, rfl⟩ := Option.map_eq_some_iff.1 hx
        exact relF_ok h _ y _ (hu y hy)
end
theorem idx_some : ∀ {ids : List Nat} {id j : Nat}, idx ids id = some j → ids[j]? = some id
  | [], _, _, h => by cases h
  | i :: is, id, j, h => by
    simp only [idx] at h
    cases hq : Nat.beq i id with
    | true =>
      rw [hq] at h
      simp only [cond_true, Option.some.injEq] at h
      subst h
      rw [Nat.eq_of_beq_eq_true hq]; rfl
    | false =>
      rw [hq] at h
      simp only [cond_false, Option.map_eq_some_iff] at h
      obtain ⟨j', hj, rfl⟩ := h
      have := idx_some hj
      simpa using this
theorem okIds_lt {nx : Nat} : ∀ {ids : List Nat}, okIds nx ids = true → ∀ (j : Nat) id, ids[j]? = some id → id < nx
  | [], _, j, id, h => by simp at h
  | i :: is, hk, j, id, h => by
    simp only [okIds, Bool.and_eq_true] at hk
    match j, h with
    | 0, h => simp only [List.getElem?_cons_zero, Option.some.injEq] at h; subst h; exact Nat.le_of_ble_eq_true hk.1.1
    | j + 1, h => exact okIds_lt hk.2 j id h
theorem idx_of {nx : Nat} : ∀ {ids : List Nat}, okIds nx ids = true → ∀ (j : Nat) id, ids[j]? = some id → idx ids id = some j
  | [], _, j, id, h => by simp at h
  | i :: is, hk, j, id, h => by
    simp only [okIds, Bool.and_eq_true] at hk
    match j, h with
    | 0, h => simp only [List.getElem?_cons_zero, Option.some.injEq] at h; subst h; simp [idx]
    | j + 1, h =>
      have h' : is[j]? = some id := h
      have hne : i ≠ id := by
        rintro rfl
        have := not_true_eq hk.1.2
        rw [mem_beq.2 (List.mem_of_getElem? h')] at this
        cases this
      simp only [idx, beq_false_of_ne hne, cond_false, idx_of hk.2 j id h', Option.map_some]
theorem idx_none {ids : List Nat} {id : Nat} (h : idx ids id = none) : ∀ j : Nat, ids[j]? ≠ some id := by
  intro j hj
  induction ids generalizing j with
  | nil => simp at hj
  | cons i is ih =>
    simp only [idx] at h
    cases hq : Nat.beq i id with
    | true => rw [hq] at h; cases h
    | false =>
      rw [hq] at h
      simp only [cond_false, Option.map_eq_none_iff] at h
      match j, hj with
      | 0, hj => simp only [List.getElem?_cons_zero, Option.some.injEq] at hj; subst hj; simp at hq
      | j + 1, hj => exact ih h j hj
def Rest (ids : List Nat) (φ : Phi) (k : Nat) : Prop := ∃ id, idx ids id = none ∧ Blk φ id k
def lendP (ids : List Nat) (φ : Phi) : Phi := fun j => (ids[j]?).bind fun id => (φ id).map (relPl fun _ => 0)
section
variable {w : World} {E E' : Prot} {φ : Phi} {st : St} {ids : List Nat} {Hc : Nat → Ob}
theorem lendP_some {j : Nat} {p : Pl} (h : lendP ids φ j = some p) : ∃ id q, ids[j]? = some id ∧ φ id = some q ∧ p = relPl (fun _ => 0) q := by
  unfold lendP at h
  cases hq : ids[j]? with
  | none => rw [hq] at h; cases h
  | some id =>
    rw [hq] at h
    simp only [Option.bind_some, Option.map_eq_some_iff] at h
    obtain ⟨q, hq, rfl⟩ := h
    exact ⟨id, q, rfl, hq, rfl⟩
theorem lendP_at {j id : Nat} (h : ids[j]? = some id) : lendP ids φ j = (φ id).map (relPl fun _ => 0) := by unfold lendP; rw [h]; rfl
theorem lendP_blk {j k : Nat} : Blk (lendP ids φ) j k ↔ ∃ id, ids[j]? = some id ∧ Blk φ id k := by
  constructor
  · intro h
    obtain ⟨p, hp, hb⟩ := blk_iff.1 h
    obtain ⟨id, q, h1, h2, rfl⟩ := lendP_some hp
    exact ⟨id, h1, blk_iff.2 ⟨q, h2, relPl_B.1 hb⟩⟩
  · rintro ⟨id, h1, h2⟩
    obtain ⟨q, hq, hb⟩ := blk_iff.1 h2
    exact blk_iff.2 ⟨relPl (fun _ => 0) q, by rw [lendP_at h1, hq]; rfl, relPl_B.2 hb⟩
theorem lendP_own {k : Nat} : Own (lendP ids φ) k ↔ ∃ (j : Nat) (id : Nat), ids[j]? = some id ∧ Blk φ id k :=
  ⟨fun ⟨j, h⟩ => let ⟨id, h1, h2⟩ := lendP_blk.1 h; ⟨j, id, h1, h2⟩, fun ⟨j, id, h1, h2⟩ => ⟨j, lendP_blk.2 ⟨id, h1, h2⟩⟩⟩
theorem rest_own {k : Nat} : Own φ k ↔ Rest ids φ k ∨ Own (lendP ids φ) k := by
  rw [lendP_own]
  constructor
  · rintro ⟨id, h⟩
    cases hq : idx ids id with
    | none => exact .inl ⟨id, hq, h⟩
    | some j => exact .inr ⟨j, id, idx_some hq, h⟩
  · rintro (⟨id, _, h⟩ | ⟨j, id, _, h⟩)
    · exact ⟨id, h⟩
    · exact ⟨id, h⟩
theorem HRel.gen (h : HRel E Hc φ w) {id c len : Nat} {hd : Option (Nat × Nat)} (e : φ id = some (.arr c len hd)) : (Hc id).gen = c := by
  have := h.ob id _ e
  cases hq : Hc id with
  | box cs => rw [hq] at this; exact this.elim
  | arr fr g n sz f => rw [hq] at this; exact this.1
  | gone g => rw [hq] at this; exact this.1
theorem lend_reloc (h : HRel E st.H φ w) (h1 : ∀ k, E'.fz k → E.fz k ∨ Rest ids φ k) (h2 : ∀ k, E'.br k → E.br k ∨ Rest ids φ k) :
    Reloc false (idx ids) (inGen st) (E.up φ) φ (E'.up (lendP ids φ)) (lendP ids φ) := by
  refine ⟨?_, fun _ => ?_, fun id i b hi hb => ?_, fun id i gen g c len hd hi hg hph hgc => ?_⟩
  · rintro k (hk1 | hk1)
    · exact (h1 k hk1).imp (fun h => h) fun h => rest_own.2 (.inl h)
    · exact .inr (rest_own.2 (.inr hk1))
  · rintro k (hk1 | hk1)
    · exact (h2 k hk1).imp (fun h => h) fun h => rest_own.2 (.inl h)
    · exact .inr (rest_own.2 (.inr hk1))
  · rw [lendP_at (idx_some hi), hb]; rfl
  · have hgen := h.gen hph
    unfold inGen at hg
    rw [hgen] at hg
    cases hq : Nat.beq gen c with
    | false => rw [hq] at hg; cases hg
    | true =>
      rw [hq] at hg
      simp only [cond_true, Option.some.injEq] at hg
      subst hg
      exact ⟨0, by rw [lendP_at (idx_some hi), hph]; rfl, Nat.le_refl _, fun _ => Nat.eq_of_beq_eq_true hq⟩
theorem HRel.lend (h : HRel E st.H φ w) (hk : okIds st.nx ids = true) (h1 : ∀ k, E'.fz k → E.fz k ∨ Rest ids φ k) (h2 : ∀ k, E'.br k → E.br k ∨ Rest ids φ k) (h3 : ∀ k, E'.br k → E'.fz k) {H' : Nat → Ob} (hH : ∀ (j id : Nat), ids[j]? = some id → H' j = lendOb st ids id) :
    HRel E' H' (lendP ids φ) w := by
  refine ⟨h3, fun j p e => ?_, fun i j k hi hj => ?_, fun k hk1 hf => ?_⟩
  · obtain ⟨id, q, e1, e2, rfl⟩ := lendP_some e
    rw [hH j id e1]
    exact relOb_ok (lend_reloc h h1 h2) (h.ob id q e2)
  · obtain ⟨a, ha1, ha2⟩ := lendP_blk.1 hi
    obtain ⟨b, hb1, hb2⟩ := lendP_blk.1 hj
    obtain rfl := h.inj a b k ha2 hb2
    have e1 := idx_of hk i a ha1
    have e2 := idx_of hk j a hb1
    rw [e1] at e2
    simpa using e2
  · obtain ⟨j, id, e1, e2⟩ := lendP_own.1 hk1
    rcases h1 k hf with hf | ⟨id', e3, e4⟩
    · exact h.free k ⟨id, e2⟩ hf
    · obtain rfl := h.inj id id' k e2 e4
      exact idx_none e3 j e1
end
end
section
def PlK : Pl → Pl → Prop
  | .box b, q => q = .box b
  | .arr _ _ _, q => ∃ c n hd, q = .arr c n hd
theorem PlK.refl (p : Pl) : PlK p p := by cases p with
  | box b => rfl
  | arr c n hd => exact ⟨c, n, hd, rfl⟩
theorem PlK.trans {p q r : Pl} (h : PlK p q) (k : PlK q r) : PlK p r := by
  cases p with
  | box b => simp only [PlK] at h; subst h; exact k
  | arr c n hd => obtain ⟨_, _, _, rfl⟩ := h; exact k
theorem PlUp.kind {p q : Pl} (h : PlUp p q) : PlK p q := by
  cases p with
  | box b => exact h
  | arr c n hd => obtain ⟨c', n', hd', e, _⟩ := h; exact ⟨c', n', hd', e⟩
structure Fr (b : Nat) (w : World) (φ : Phi) (w' : World) (φ' : Phi) : Prop where
  os : w'.os = w.os
  tape : w'.tape = w.tape
  output : w'.output = w.output
  size : w.heap.size ≤ w'.heap.size
  block : ∀ k, k < w.heap.size → ¬ Own φ k → w'.heap[k]? = w.heap[k]?
  new : ∀ k, Own φ' k → Own φ k ∨ w.heap.size ≤ k
  kind : ∀ id p, id < b → φ id = some p → ∃ p', φ' id = some p' ∧ PlK p p'
theorem Fr.refl (b : Nat) (w : World) (φ : Phi) : Fr b w φ w φ := ⟨rfl, rfl, rfl, Nat.le_refl _, fun _ _ _ => rfl, fun _ h => .inl h, fun _ p _ h => ⟨p, h, PlK.refl p⟩⟩
theorem Fr.of_ext {b : Nat} {w w' : World} {φ φ' : Phi} (h : Ext w φ w' φ') : Fr b w φ w' φ' :=
  ⟨h.os, h.tape, h.output, h.size, h.block, h.new, fun id p _ e => let ⟨p', e', hp⟩ := h.up id p e; ⟨p', e', hp.kind⟩⟩
theorem Fr.trans {b : Nat} {w w' w'' : World} {φ φ' φ'' : Phi} (h : Fr b w φ w' φ') (k : Fr b w' φ' w'' φ'') : Fr b w φ w'' φ'' where
  os := k.os.trans h.os
  tape := k.tape.trans h.tape
  output := k.output.trans h.output
  size := Nat.le_trans h.size k.size
  block := fun b hb hn => (k.block b (Nat.lt_of_lt_of_le hb h.size) fun e => by
    rcases h.new b e with e | e
    · exact hn e
    · omega).trans (h.block b hb hn)
  new := fun b e => by
    rcases k.new b e with e | e
    · exact h.new b e
    · exact .inr (Nat.le_trans h.size e)
  kind := fun id p hb e => by
    obtain ⟨q, e1, h1⟩ := h.kind id p hb e
    obtain ⟨r, e2, h2⟩ := k.kind id q hb e1
    exact ⟨r, e2, h1.trans h2⟩
def Callable (P : Program) (f : FuncId) : Prop := ∃ fn, P.funcs[f]? = some fn ∧ fn.body.isNone = false ∧ (fn.name == "runtime.NumGoroutine") = false
def obsH (hs : List Ob) : Nat → Ob := fun id => hs.getD id (.gone 0)
structure VSpec (P : Program) (f : FuncId) (hs : List Ob) (xs : List VV) (hs' : List Ob) (r : VV) : Prop where
  callable : Callable P f
  call : ∀ (w : World) (E : Prot) (φ : Phi) (vs : Array Value), Old E φ w → HRel E (obsH hs) φ w → (∀ id, φ id ≠ none ↔ id < hs.length) → Says w (E.up φ) (some φ) xs vs →
    Calls P f vs w fun e w' => ∃ v φ', e = .returned v ∧ HRel E (obsH hs') φ' w' ∧ Fr hs.length w φ w' φ' ∧ (∀ id, φ' id ≠ none ↔ id < hs'.length) ∧ V w' (E.up φ') (some φ') r v
def OrcOk (P : Program) (O : Orc) : Prop := ∀ f hs xs, (∀ p ∈ (O.run f hs xs).2, p) → VSpec P f hs xs (O.run f hs xs).1.1 (O.run f hs xs).1.2
theorem backL_at {nb : Bool} {st : St} {ids : List Nat} : ∀ {os : List Ob} {j0 j : Nat}, (backL nb st ids j0 os)[j]? = (os[j]?).map (backOb nb st ids (j0 + j))
  | [], _, _ => by simp [backL]
  | o :: os, j0, 0 => by simp [backL]
  | o :: os, j0, j + 1 => by
    simp only [backL, List.getElem?_cons_succ]
    rw [backL_at, show j0 + 1 + j = j0 + (j + 1) by omega]
theorem backL_len {nb : Bool} {st : St} {ids : List Nat} : ∀ {os : List Ob} {j0 : Nat}, (backL nb st ids j0 os).length = os.length
  | [], _ => rfl
  | o :: os, j0 => by simp [backL, backL_len]
def Makes (P : Program) (E : Prot) (φ : Phi) (nx : Nat) (obs : List Ob) (x : VV) (o : Oper) (a : Act) (w : World) : Prop :=
  ∀ (K : Act → World → Prop) (Q : Exit → Act → World → Prop), (∀ v w' pls, News w E φ nx obs pls w' → V w' (E.up (addP φ nx pls)) (some (addP φ nx pls)) x v → K (a.put o.dst v) w') → o.wp P a w K Q
theorem Makes.of {P : Program} {E : Prot} {φ : Phi} {nx : Nat} {obs : List Ob} {x : VV} {a : Act} {w : World} {o : Oper} {S : Sem Value} (he : execOp a.eval o = (do pure (.value (← S)) : Sem Next))
    (h : ∃ v w' pls, S.run P w = .ok v w' ∧ News w E φ nx obs pls w' ∧ V w' (E.up (addP φ nx pls)) (some (addP φ nx pls)) x v) : Makes P E φ nx obs x o a w := by
  obtain ⟨v, w', pls, hr, h1, h2⟩ := h
  intro K Q hK
  unfold Oper.wp
  rw [he, Sem.run_bind, hr]
  exact hK v w' pls h1 h2
theorem Makes.quiet {P : Program} {E : Prot} {φ : Phi} {nx : Nat} {x : VV} {a : Act} {w : World} {o : Oper} {S : Sem Value} (he : execOp a.eval o = (do pure (.value (← S)) : Sem Next))
    (h : ∃ v, S.run P w = .ok v w ∧ V w (E.up φ) (some φ) x v) : Makes P E φ nx [] x o a w := by
  obtain ⟨v, hr, h2⟩ := h
  exact Makes.of he ⟨v, w, [], hr, News.none (Below.refl _ _), by rw [addP_nil]; exact h2⟩
section
variable {P : Program} {T : TypeId → TE} {O : Orc} {w : World} {E : Prot} {φ : Phi} {st : St} {Hc : Nat → Ob} {a : Act}
theorem wp_call {o : Oper} {c : Call} {f : Operand} {g : FuncId} {vs : Array Value} (ho : o.op = .call c) (hf : c.callee = .value f) (hv : a.eval f = .func (.func g) #[] vs) (hc : Callable P g)
    {K : Act → World → Prop} {Q : Exit → Act → World → Prop} {R : Ending → World → Prop} (hcall : Calls P g (c.args.map a.eval ++ vs) w R) (hK : ∀ e w', R e w' → ∃ v, e = .returned v ∧ K (a.put o.dst v) w') : o.wp P a w K Q := by
  obtain ⟨fn, hfn, hb, hnm⟩ := hc
  have hrun : (execOp a.eval o).run P w = .ok (.enter g (c.args.map a.eval ++ vs)) w := by
    unfold execOp
    rw [ho]
    simp only [resolve, hf, hv, Deferred.ofValue, Sem.run_bind, Sem.run_pure, Result.andThen_ok, invoke, callFunc, run_program, hfn, hnm, hb, Bool.false_eq_true, if_false, Array.empty_append]
  unfold Oper.wp
  rw [hrun, Oper.upon_enter]
  refine hcall.mono ?_
  intro e w' h
  obtain ⟨v, rfl, hk⟩ := hK e w' h
  exact hk
theorem args_at {c : Call} {caps : List VV} {vs : Array Value} {R : VV → Value → Prop} (h2 : ∀ y ∈ c.args.toList, R (st.val y) (a.eval y)) (e1 : vs.size = caps.length) (e2 : ∀ (j : Nat) x, caps[j]? = some x → R x (vs.getD j undef)) :
    (c.args.map a.eval ++ vs).size = (c.args.toList.map st.val ++ caps).length ∧ ∀ (j : Nat) x, (c.args.toList.map st.val ++ caps)[j]? = some x → R x ((c.args.map a.eval ++ vs).getD j undef) := by
  refine ⟨by simp [e1], fun j x hx => ?_⟩
  by_cases hj : j < c.args.size
  · rw [List.getElem?_append_left (by simpa using hj)] at hx
    rw [List.getElem?_map] at hx
    obtain ⟨z, hz, rfl⟩ := Option.map_eq_some_iff.1 hx
    have := h2 z (List.mem_of_getElem? hz)
    have hz' : c.args[j] = z := by have := (List.getElem?_eq_some_iff.1 hz).2; simpa using this
    have e : (c.args.map a.eval ++ vs).getD j undef = a.eval z := by
      simp [Array.getD, hj, hz', show j < c.args.size + vs.size by omega]
    rw [e]; exact this
  · rw [List.getElem?_append_right (by simp; omega)] at hx
    have := e2 _ x hx
    have hjl := (List.getElem?_eq_some_iff.1 hx).1
    simp at hjl this
    have e : (c.args.map a.eval ++ vs).getD j undef = vs[j - c.args.size]'(by omega) := by
      simp [Array.getD, Array.getElem_append, hj, show j < c.args.size + vs.size by omega]
    rw [e]
    rw [Array.getElem?_eq_getElem (by omega)] at this
    exact this
theorem outG_mono {ids : List Nat} {j g c : Nat} (h : g ≤ c) : outG st ids j g ≤ outG st ids j c ∧ (outG st ids j g = outG st ids j c → g = c) := by
  unfold outG
  cases ids[j]? with
  | some id => exact ⟨by show (st.H id).gen + 1 + g ≤ (st.H id).gen + 1 + c; omega, fun e => by have e' : (st.H id).gen + 1 + g = (st.H id).gen + 1 + c := e; omega⟩
  | none => exact ⟨h, fun e => e⟩
theorem relPl_id {og : Nat → Nat} (h : ∀ g, og g = g) (p : Pl) : relPl og p = p := by cases p <;> simp [relPl, h]
theorem back_news {w' : World} {φ2 : Phi} {os : List Ob} {r : VV} {v : Value} {nx : Nat} (hnx : nx = st.nx) (hid : ∀ i, i < os.length → φ (nx + i) = none)
    (h1 : HRel (E.up φ).lend (obsH os) φ2 w') (h2 : Fr 0 w (fun _ => none) w' φ2) (h3 : ∀ id, φ2 id ≠ none ↔ id < os.length) (h4 : V w' ((E.up φ).lend.up φ2) (some φ2) r v) :
    ∃ pls, News w E φ nx (backL true st [] 0 os) pls w' ∧ V w' (E.up (addP φ nx pls)) (some (addP φ nx pls)) (backV true st [] r) v := by
  subst hnx
  let pls : List Pl := (List.range os.length).map fun j => (φ2 j).getD (.box 0)
  have hpls : ∀ (j : Nat) p, pls[j]? = some p ↔ φ2 j = some p := by
    intro j p
    show ((List.range os.length).map fun j => (φ2 j).getD (.box 0))[j]? = some p ↔ _
    rw [List.getElem?_map]
    by_cases hj : j < os.length
    · obtain ⟨q, hq⟩ := Option.ne_none_iff_exists'.1 ((h3 j).2 hj)
      simp [hj, hq]
    · have : φ2 j = none := Classical.byContradiction fun h => hj ((h3 j).1 h)
      simp [hj, this]
  have hlen : pls.length = os.length := by simp [pls]
  have hnone : ∀ k, ¬ Own (fun _ => none : Phi) k := by
    rintro k ⟨id, hb⟩
    obtain ⟨p, hp, _⟩ := blk_iff.1 hb
    cases hp
  have hroom : Room w pls w' := by
    refine ⟨⟨h2.os, h2.tape, h2.output, h2.size, fun k hk => h2.block k hk (hnone k)⟩, fun i p k hi hb => ?_, fun i j p q k hi hj hpb hqb => ?_⟩
    · exact (h2.new k ⟨i, blk_iff.2 ⟨p, (hpls i p).1 hi, hb⟩⟩).resolve_left (hnone k)
    · exact h1.inj i j k (blk_iff.2 ⟨p, (hpls i p).1 hi, hpb⟩) (blk_iff.2 ⟨q, (hpls j q).1 hj, hqb⟩)
  have hid' : ∀ i, i < pls.length → φ (st.nx + i) = none := fun i hi => hid i (by rw [← hlen]; exact hi)
  have hrel : Reloc true (fun j => some (outId st [] j)) (fun j g => some (outG st [] j g)) ((E.up φ).lend.up φ2) φ2 (E.up (addP φ st.nx pls)) (addP φ st.nx pls) := by
    have hout : ∀ j, outId st [] j = st.nx + j := fun j => by simp [outId]
    refine ⟨?_, fun e => Bool.noConfusion e, fun id i b hi hb => ?_, fun id i gen g c len hd hi hg hph hgc => ?_⟩
    · rintro k (hk | hk)
      · exact .inl (.inl hk)
      · rcases (hroom.own hid').1 hk with hk | ⟨i, p, hi, hb⟩
        · exact .inl (.inr hk)
        · exact .inr ⟨i, blk_iff.2 ⟨p, (hpls i p).1 hi, hb⟩⟩
    · simp only [Option.some.injEq] at hi
      rw [← hi, hout]
      exact addP_at ((hpls id _).2 hb)
    · simp only [Option.some.injEq] at hi hg
      rw [← hi, hout]
      have hg' : g = gen := by rw [← hg]; rfl
      subst hg'
      exact ⟨c, addP_at ((hpls id _).2 hph), hgc, fun e => e⟩
  refine ⟨pls, ⟨hroom, by rw [hlen, backL_len], fun i o p hi hp => ?_⟩, relF_ok hrel _ _ _ h4⟩
  rw [backL_at] at hi
  obtain ⟨o', ho', rfl⟩ := Option.map_eq_some_iff.1 hi
  have hob := h1.ob i p ((hpls i p).1 hp)
  have hoo : obsH os i = o' := by simp [obsH, ho']
  rw [hoo] at hob
  have := relOb_ok (og := outG st [] (0 + i)) hrel hob
  rw [relPl_id (og := outG st [] (0 + i)) fun g => rfl] at this
  exact this
end
end
section
section
variable {P : Program} {T : TypeId → TE} {O : Orc} {w : World} {E : Prot} {φ : Phi} {st : St} {Hc : Nat → Ob} {a : Act} {ids : List Nat}
def lendE (E : Prot) (ids : List Nat) (φ : Phi) : Prot := ⟨fun k => E.fz k ∨ Rest ids φ k, fun k => E.br k ∨ Rest ids φ k⟩
def backP (st : St) (ids : List Nat) (n : Nat) (φ φ2 : Phi) : Phi := fun k =>
  match idx ids k with
  | some j => (φ2 j).map (relPl (outG st ids j))
  | none => if st.nx ≤ k ∧ k < st.nx + (n - ids.length) then (φ2 (k - st.nx + ids.length)).map (relPl (outG st ids (k - st.nx + ids.length))) else φ k
theorem outId_lt {j id : Nat} (h : ids[j]? = some id) : outId st ids j = id := by unfold outId; rw [h]
theorem outId_ge {j : Nat} (h : ids.length ≤ j) : outId st ids j = st.nx + (j - ids.length) := by
  unfold outId
  rw [List.getElem?_eq_none h]
theorem idx_ge (hk : okIds st.nx ids = true) {k : Nat} (h : st.nx ≤ k) : idx ids k = none := by
  cases hq : idx ids k with
  | none => rfl
  | some j => have := okIds_lt hk j k (idx_some hq); omega
theorem backP_at (hk : okIds st.nx ids = true) {n j : Nat} {φ2 : Phi} (hj : j < n) : backP st ids n φ φ2 (outId st ids j) = (φ2 j).map (relPl (outG st ids j)) := by
  unfold backP
  rcases Nat.lt_or_ge j ids.length with h | h
  · have e : ids[j]? = some ids[j] := List.getElem?_eq_getElem h
    rw [outId_lt e, idx_of hk j _ e]
  · rw [outId_ge h, idx_ge hk (by omega)]
    simp only
    rw [if_pos (by omega), show st.nx + (j - ids.length) - st.nx + ids.length = j by omega]
theorem backP_inv {n k : Nat} {φ2 : Phi} {p : Pl} (h : backP st ids n φ φ2 k = some p) :
    (∃ j q, k = outId st ids j ∧ φ2 j = some q ∧ p = relPl (outG st ids j) q) ∨ (idx ids k = none ∧ φ k = some p ∧ ¬ (st.nx ≤ k ∧ k < st.nx + (n - ids.length))) := by
  unfold backP at h
  cases hq : idx ids k with
  | some j =>
    rw [hq] at h
    obtain ⟨q, e1, e2⟩ := Option.map_eq_some_iff.1 h
    exact .inl ⟨j, q, (outId_lt (idx_some hq)).symm, e1, e2.symm⟩
  | none =>
    rw [hq] at h
    simp only at h
    split at h
    · rename_i hc
      obtain ⟨q, e1, e2⟩ := Option.map_eq_some_iff.1 h
      exact .inl ⟨_, q, by rw [outId_ge (by omega)]; omega, e1, e2.symm⟩
    · rename_i hc; exact .inr ⟨rfl, h, hc⟩
theorem back_puts (hH : HRel E st.H φ w) (hfr : ∀ id, st.nx ≤ id → φ id = none) (hlv : ∀ id, id < st.nx → φ id ≠ none) (hk : okIds st.nx ids = true) {w' : World} {φ2 : Phi} {os : List Ob} {r : VV} {v : Value} (hlen : ids.length ≤ os.length)
    (h1 : HRel (lendE E ids φ) (obsH os) φ2 w') (h2 : Fr ids.length w (lendP ids φ) w' φ2) (h3 : ∀ id, φ2 id ≠ none ↔ id < os.length) (h4 : V w' ((lendE E ids φ).up φ2) (some φ2) r v) {H' : Nat → Ob} (hH' : ∀ j, j < os.length → H' (outId st ids j) = backOb false st ids j (obsH os j))
    (hH'' : ∀ k, k < st.nx → idx ids k = none → H' k = st.H k) :
    ∃ φ', HRel E H' φ' w' ∧ Ext w φ w' φ' ∧ (∀ id, φ' id ≠ none ↔ φ id ≠ none ∨ (st.nx ≤ id ∧ id < st.nx + (os.length - ids.length))) ∧ V w' (E.up φ') (some φ') (backV false st ids r) v := by
  refine ⟨backP st ids os.length φ φ2, ?_⟩
  have hat : ∀ {j : Nat}, j < os.length → backP st ids os.length φ φ2 (outId st ids j) = (φ2 j).map (relPl (outG st ids j)) := fun hj => backP_at hk hj
  have hlt2 : ∀ {j : Nat} {q : Pl}, φ2 j = some q → j < os.length := fun e => (h3 _).1 (by rw [e]; simp)
  have hltφ : ∀ {k : Nat} {p : Pl}, φ k = some p → k < st.nx := by
    intro k p e
    rcases Nat.lt_or_ge k st.nx with h | h
    · exact h
    · rw [hfr k h] at e; cases e
  have hblk : ∀ {i k : Nat}, Blk (backP st ids os.length φ φ2) i k → (∃ j, i = outId st ids j ∧ j < os.length ∧ Blk φ2 j k) ∨ (idx ids i = none ∧ Blk φ i k) := by
    intro i k hb
    obtain ⟨p, hp, hpb⟩ := blk_iff.1 hb
    rcases backP_inv hp with ⟨j, q, e1, e2, rfl⟩ | ⟨e1, e2, _⟩
    · exact .inl ⟨j, e1, hlt2 e2, blk_iff.2 ⟨q, e2, relPl_B.1 hpb⟩⟩
    · exact .inr ⟨e1, blk_iff.2 ⟨p, e2, hpb⟩⟩
  have hblk' : ∀ {j k : Nat}, Blk φ2 j k → Blk (backP st ids os.length φ φ2) (outId st ids j) k := by
    intro j k hb
    obtain ⟨p, hp, hpb⟩ := blk_iff.1 hb
    exact blk_iff.2 ⟨_, by rw [hat (hlt2 hp), hp]; rfl, relPl_B.2 hpb⟩
  have hblk'' : ∀ {i k : Nat}, idx ids i = none → Blk φ i k → Blk (backP st ids os.length φ φ2) i k := by
    intro i k hi hb
    obtain ⟨p, hp, hpb⟩ := blk_iff.1 hb
    have := hltφ hp
    refine blk_iff.2 ⟨p, ?_, hpb⟩
    unfold backP
    rw [hi]
    simp only
    rw [if_neg (by omega), hp]
  have apart : ∀ {j i k : Nat}, Blk φ2 j k → idx ids i = none → Blk φ i k → False := fun h5 h6 h7 => h1.free _ ⟨_, h5⟩ (.inr ⟨_, h6, h7⟩)
  have hown : ∀ {k : Nat}, Own (backP st ids os.length φ φ2) k ↔ Own φ2 k ∨ Rest ids φ k := by
    intro k
    constructor
    · rintro ⟨i, hb⟩
      rcases hblk hb with ⟨j, _, _, hb⟩ | ⟨hi, hb⟩
      · exact .inl ⟨j, hb⟩
      · exact .inr ⟨i, hi, hb⟩
    · rintro (⟨j, hb⟩ | ⟨i, hi, hb⟩)
      · exact ⟨_, hblk' hb⟩
      · exact ⟨i, hblk'' hi hb⟩
  have hrel : Reloc false (fun j => some (outId st ids j)) (fun j g => some (outG st ids j g)) ((lendE E ids φ).up φ2) φ2 (E.up (backP st ids os.length φ φ2)) (backP st ids os.length φ φ2) := by
    refine ⟨?_, fun _ => ?_, fun id i b hi hb => ?_, fun id i gen g c len hd hi hg hph hgc => ?_⟩
    · rintro k (hk1 | hk1)
      · exact .inl (.inl hk1)
      · rcases hown.1 hk1 with h | h
        · exact .inr h
        · exact .inl (.inr h)
    · rintro k (hk1 | hk1)
      · exact .inl (.inl hk1)
      · rcases hown.1 hk1 with h | h
        · exact .inr h
        · exact .inl (.inr h)
    · simp only [Option.some.injEq] at hi
      rw [← hi, hat (hlt2 hb), hb]; rfl
    · simp only [Option.some.injEq] at hi hg
      subst hi; subst hg
      obtain ⟨m1, m2⟩ := outG_mono (st := st) (ids := ids) (j := id) hgc
      exact ⟨_, by rw [hat (hlt2 hph), hph]; rfl, m1, m2⟩
  have hext : Ext w φ w' (backP st ids os.length φ φ2) := by
    refine ⟨h2.os, h2.tape, h2.output, h2.size, fun k hk1 hn => h2.block k hk1 fun h => hn (rest_own.2 (.inr h)), fun id p e => ?_, fun k hk1 => ?_⟩
    · cases hq : idx ids id with
      | none =>
        have := hltφ e
        refine ⟨p, ?_, PlUp.refl p⟩
        unfold backP
        rw [hq]
        simp only
        rw [if_neg (by omega), e]
      | some j =>
        have hj := idx_some hq
        have hjl : j < ids.length := (List.getElem?_eq_some_iff.1 hj).1
        obtain ⟨p2, e2, hp2⟩ := h2.kind j (relPl (fun _ => 0) p) hjl (by rw [lendP_at hj, e]; rfl)
        refine ⟨relPl (outG st ids j) p2, ?_, ?_⟩
        · have := hat (j := j) (by omega)
          rw [outId_lt hj, e2] at this
          exact this
        · cases p with
          | box b => simp only [relPl, PlK] at hp2; subst hp2; rfl
          | arr c n hd =>
            obtain ⟨c', n', hd', rfl⟩ := hp2
            have hg := hH.gen e
            have : outG st ids j c' = c + 1 + c' := by unfold outG; rw [hj]; simp only [hg]
            exact ⟨_, _, _, rfl, by omega, fun e' => by omega⟩
    · rcases hown.1 hk1 with h | ⟨i, hi, hb⟩
      · exact (h2.new k h).imp (fun h => rest_own.2 (.inr h)) fun h => h
      · exact .inl ⟨i, hb⟩
  refine ⟨⟨hH.sub, fun k p e => ?_, fun i j k hi hj => ?_, fun k hk1 hf => ?_⟩, hext, fun id => ?_, relF_ok hrel _ _ _ h4⟩
  · rcases backP_inv e with ⟨j, q, rfl, e2, rfl⟩ | ⟨e1, e2, _⟩
    · rw [hH' j (hlt2 e2)]
      exact relOb_ok hrel (h1.ob j q e2)
    · rw [hH'' k (hltφ e2) e1]
      refine (hH.ob k p e2).ext hext fun b hb hlt => h2.block b hlt ?_
      intro ho
      obtain ⟨j, id', a1, a2⟩ := lendP_own.1 ho
      have := hH.inj k id' b (blk_iff.2 ⟨p, e2, hb⟩) a2
      subst this
      exact idx_none e1 j a1
  · rcases hblk hi with ⟨i', rfl, _, hb1⟩ | ⟨hi1, hb1⟩ <;> rcases hblk hj with ⟨j', rfl, _, hb2⟩ | ⟨hj1, hb2⟩
    · rw [h1.inj i' j' k hb1 hb2]
    · exact (apart hb1 hj1 hb2).elim
    · exact (apart hb2 hi1 hb1).elim
    · exact hH.inj i j k hb1 hb2
  · rcases hown.1 hk1 with h | ⟨i, hi, hb⟩
    · exact h1.free k h (.inl hf)
    · exact hH.free k ⟨i, hb⟩ hf
  · constructor
    · intro hn
      cases hq : idx ids id with
      | some j => exact .inl (hlv id (okIds_lt hk j id (idx_some hq)))
      | none =>
        unfold backP at hn
        rw [hq] at hn
        simp only at hn
        split at hn
        · rename_i hc; exact .inr hc
        · exact .inl hn
    · intro hn
      unfold backP
      cases hq : idx ids id with
      | some j =>
        have hj := idx_some hq
        have hjl : j < ids.length := (List.getElem?_eq_some_iff.1 hj).1
        have := (h3 j).2 (by omega)
        simpa using this
      | none =>
        simp only
        split
        · have := (h3 (id - st.nx + ids.length)).2 (by omega)
          simpa using this
        · rename_i hc; exact hn.resolve_right hc
theorem s_call (hO : OrcOk P O) (hH : HRel E Hc φ w) (hHc : ∀ id, id < st.nx → Hc id = st.H id) (hz : Old E φ w) {o : Oper} {c : Call} {f : Operand} (ho : o.op = .call c) (hf : c.callee = .value f)
    (h1 : V w (E.up φ) (some φ) (st.val f) (a.eval f)) (h2 : ∀ y ∈ c.args.toList, V w (E.up φ) (some φ) (st.val y) (a.eval y)) (hc : ∀ p ∈ (vcall O st (st.val f) (c.args.toList.map st.val)).chk, p) :
    ((vcall O st (st.val f) (c.args.toList.map st.val)).put = none ∧ ((∀ i, i < (vcall O st (st.val f) (c.args.toList.map st.val)).new.length → φ (st.nx + i) = none) →
        Makes P E φ st.nx (vcall O st (st.val f) (c.args.toList.map st.val)).new (vcall O st (st.val f) (c.args.toList.map st.val)).val o a w)) ∨
    (∃ H', (vcall O st (st.val f) (c.args.toList.map st.val)).put = some H' ∧ ((∀ id, st.nx ≤ id → φ id = none) → (∀ id, id < st.nx → φ id ≠ none) → HRel E st.H φ w →
        Puts P E φ (addH H' st.nx (vcall O st (st.val f) (c.args.toList.map st.val)).new) st.nx (st.nx + (vcall O st (st.val f) (c.args.toList.map st.val)).new.length) (vcall O st (st.val f) (c.args.toList.map st.val)).val o a w)) := by
  generalize hx : st.val f = x at *
  unfold vcall at hc ⊢
  cases hask : vask O.lend st x (c.args.toList.map st.val) with
  | none => rw [hask] at hc; exact not_bad hc
  | some q =>
    obtain ⟨g, ids, hs, xs⟩ := q
    rw [hask] at hc
    simp only at hc ⊢
    unfold vask at hask
    split at hask
    · rename_i g' caps
      generalize hv : a.eval f = vf at h1
      cases h1 with | fn e1 e2 =>
      rename_i vs
      obtain ⟨l1, l2⟩ := args_at (c := c) (st := st) (a := a) (R := V w (E.up φ) (some φ)) h2 e1 e2
      cases hld : O.lend g' with
      | false =>
        rw [hld] at hask
        simp only [cond_false] at hask
        split at hask
        · rename_i xs' hsn
          simp only [Option.some.injEq, Prod.mk.injEq] at hask
          obtain ⟨rfl, rfl, rfl, rfl⟩ := hask
          generalize hrun : O.run g' [] xs' = q at hc ⊢
          obtain ⟨⟨os, r⟩, ck⟩ := q
          simp only [hld] at hc ⊢
          have hb : vback st false [] os r = { val := backV true st [] r, new := backL true st [] 0 os, put := none } := by simp [vback, Nat.ble]
          rw [hb] at hc ⊢
          refine .inl ⟨rfl, fun hid => ?_⟩
          simp only [Res.also, List.nil_append] at hc hid ⊢
          have hsp := hO g' [] xs' (by rw [hrun]; exact hc)
          rw [hrun] at hsp
          obtain ⟨m1, m2⟩ := omapL_ok hsn
          have hHlt : ∀ {k : Nat}, Own φ k → k < w.heap.size := fun h => hH.lt h
          have hnil : lendP [] φ = fun _ => none := by funext j; simp [lendP]
          have hHc' : HRel ((E.up φ).lend) (obsH []) (lendP [] φ) w := by
            refine ⟨fun k h => h.elim, fun j p e => ?_, fun i j k h => ?_, fun k h => ?_⟩
            · rw [hnil] at e; cases e
            · rw [hnil] at h; obtain ⟨p, hp, _⟩ := blk_iff.1 h; cases hp
            · rw [hnil] at h; obtain ⟨j, h⟩ := h; obtain ⟨p, hp, _⟩ := blk_iff.1 h; cases hp
          have hcall := hsp.call w (E.up φ).lend (lendP [] φ) (c.args.map a.eval ++ vs) ⟨(by
              rintro k (hk | hk)
              · exact hz.lt k hk
              · exact hHlt hk), hz.lib.at', hz.lib.lt, fun k _ ho => by rw [hnil] at ho; obtain ⟨j, ho⟩ := ho; obtain ⟨p, hp, _⟩ := blk_iff.1 ho; cases hp⟩ hHc' (fun id => by rw [hnil]; simp) ⟨by rw [l1, m1], fun j y hy => by
              obtain ⟨x, hx, hxy⟩ := m2 j y hy
              have := snapF_ok (H := st.Hg) hH (fun id => by
                unfold St.Hg
                cases hq : Nat.blt id st.nx with
                | false => exact .inl rfl
                | true => exact .inr (hHc id (Nat.le_of_ble_eq_true hq)).symm) _ x y _ (l2 j x hx) hxy
              refine (this.held (m := some (lendP [] φ))).less ?_ ?_
              · rintro k (hk | hk)
                · exact hk
                · rw [hnil] at hk; obtain ⟨j, h⟩ := hk; obtain ⟨p, hp, _⟩ := blk_iff.1 h; cases hp
              · rintro k (hk | hk)
                · exact hk
                · rw [hnil] at hk; obtain ⟨j, h⟩ := hk; obtain ⟨p, hp, _⟩ := blk_iff.1 h; cases hp⟩
          intro K Q hK
          refine wp_call ho hf hv hsp.callable hcall ?_
          rintro e w' ⟨v, φ2, rfl, k1, k2, k3, k4⟩
          refine ⟨v, rfl, ?_⟩
          rw [hnil] at k2
          obtain ⟨pls, n1, n2⟩ := back_news (st := st) rfl (fun i hi => hid i (by rw [backL_len]; exact hi)) k1 k2 k3 k4
          exact hK v w' pls n1 n2
        · cases hask
      | true =>
        rw [hld] at hask
        simp only [cond_true] at hask
        generalize reachF st 64 ((c.args.toList.map st.val ++ caps).flatMap (refsF 8)) [] = is at hask
        cases hok : okIds st.nx is with
        | false => rw [hok] at hask; cases hask
        | true =>
          rw [hok] at hask
          simp only [cond_true, Option.some.injEq, Prod.mk.injEq] at hask
          obtain ⟨rfl, rfl, rfl, rfl⟩ := hask
          generalize hrun : O.run g' (is.map (lendOb st is)) ((c.args.toList.map st.val ++ caps).map (lendV st is)) = q at hc ⊢
          obtain ⟨⟨os, r⟩, ck⟩ := q
          simp only [hld] at hc ⊢
          unfold vback at hc ⊢
          cases hle : Nat.ble is.length os.length with
          | false => rw [hle] at hc; exact (hc False (by simp [Res.bad, Res.also])).elim
          | true =>
            rw [hle] at hc
            simp only [cond_true, Bool.not_true] at hc ⊢
            have hlen := Nat.le_of_ble_eq_true hle
            refine .inr ⟨_, rfl, fun hfr hlv hHs => ?_⟩
            simp only [Res.also, List.nil_append] at hc ⊢
            have hsp := hO g' _ _ (by rw [hrun]; exact hc)
            rw [hrun] at hsp
            have hE1 : ∀ k, (lendE E is φ).fz k → E.fz k ∨ Rest is φ k := fun _ h => h
            have hE2 : ∀ k, (lendE E is φ).br k → E.br k ∨ Rest is φ k := fun _ h => h
            have hHc' := hHs.lend (E' := lendE E is φ) hok hE1 hE2 (fun k h => h.imp (hHs.sub k) fun h => h) (H' := obsH (is.map (lendOb st is))) (fun j id e => by simp [obsH, e])
            have hrl := lend_reloc (E' := lendE E is φ) hHs hE1 hE2
            have hcall := hsp.call w (lendE E is φ) (lendP is φ) (c.args.map a.eval ++ vs) ⟨(by
                rintro k (hk | ⟨id, _, hk⟩)
                · exact hz.lt k hk
                · exact hHs.lt ⟨id, hk⟩), hz.lib.at', hz.lib.lt, fun k hk ho => hz.lib.out k hk ((lendP_own.1 ho).elim fun _ h => h.elim fun id h => ⟨id, h.2⟩)⟩ hHc' (fun j => by
                rw [List.length_map]
                constructor
                · intro h
                  obtain ⟨p, hp⟩ := Option.ne_none_iff_exists'.1 h
                  obtain ⟨id, _, e1, _⟩ := lendP_some hp
                  exact (List.getElem?_eq_some_iff.1 e1).1
                · intro h
                  have e1 : is[j]? = some is[j] := List.getElem?_eq_getElem h
                  rw [lendP_at e1]
                  have := hlv _ (okIds_lt hok j _ e1)
                  simpa using this) ⟨by rw [l1]; simp, fun j y hy => by
                rw [List.getElem?_map] at hy
                obtain ⟨x, hx, rfl⟩ := Option.map_eq_some_iff.1 hy
                exact relF_ok hrl _ _ _ (l2 j x hx)⟩
            intro K Q hK
            refine wp_call ho hf hv hsp.callable hcall ?_
            rintro e w' ⟨v, φ2, rfl, k1, k2, k3, k4⟩
            refine ⟨v, rfl, ?_⟩
            rw [List.length_map] at k2
            have hnl : ((backL false st is 0 os).drop is.length).length = os.length - is.length := by rw [List.length_drop, backL_len]
            obtain ⟨φ', p1, p2, p3, p4⟩ := back_puts hHs hfr hlv hok hlen k1 k2 k3 k4 (H' := addH (fun k => match idx is k with
              | some j => (backL false st is 0 os).getD j (.gone 0)
              | none => st.H k) st.nx ((backL false st is 0 os).drop is.length)) (fun j hj => by
                have hoj : os[j]? = some os[j] := List.getElem?_eq_getElem hj
                have hbj : (backL false st is 0 os)[j]? = some (backOb false st is j (obsH os j)) := by
                  rw [backL_at, Nat.zero_add, hoj]; simp [obsH, hoj]
                rcases Nat.lt_or_ge j is.length with h | h
                · have e : is[j]? = some is[j] := List.getElem?_eq_getElem h
                  rw [outId_lt e, addH_out (.inl (okIds_lt hok j _ e)), idx_of hok j _ e]
                  simp only [List.getD, hbj, Option.getD_some]
                · rw [outId_ge h]
                  refine addH_at ?_
                  rw [List.getElem?_drop, show is.length + (j - is.length) = j by omega]
                  exact hbj) (fun k hk hi => by rw [addH_out (.inl hk), hi])
            exact hK v w' φ' p1 p2 (by rw [hnl]; exact p3) p4
    · cases hask
end
end
section
section
variable {P : Program} {T : TypeId → TE} {O : Orc} {w : World} {E : Prot} {φ : Phi} {st : St} {Hc : Nat → Ob} {a : Act}
def Reads (w : World) (E : Prot) (φ : Phi) (st : St) (a : Act) : Op → Prop
  | .pick c x y => V w (E.up φ) (some φ) (st.val c) (a.eval c) ∧ (a.eval c = .bool true → V w (E.up φ) (some φ) (st.val x) (a.eval x)) ∧ (a.eval c = .bool false → V w (E.up φ) (some φ) (st.val y) (a.eval y))
  | op => ∀ y ∈ op.operands.toList, V w (E.up φ) (some φ) (st.val y) (a.eval y)
theorem parts_ok {ps : Array (Nat × Operand)} (h : ∀ y ∈ (ps.toList.map (·.2)), V w (E.up φ) (some φ) (st.val y) (a.eval y)) :
    (ps.toList.map fun p => (p.1, st.val p.2)).length = (ps.map fun (i, x) => (i, a.eval x)).toList.length ∧ ∀ (j : Nat) p q, (ps.toList.map fun p => (p.1, st.val p.2))[j]? = some p → (ps.map fun (i, x) => (i, a.eval x)).toList[j]? = some q → p.1 = q.1 ∧ V w (E.up φ) (some φ) p.2 q.2 := by
  refine ⟨by simp, fun j p q hp hq => ?_⟩
  rw [List.getElem?_map] at hp
  rw [Array.toList_map, List.getElem?_map] at hq
  obtain ⟨z, hz, rfl⟩ := Option.map_eq_some_iff.1 hp
  rw [hz] at hq
  simp only [Option.map_some, Option.some.injEq] at hq
  subst hq
  exact ⟨rfl, h _ (List.mem_map.2 ⟨z, List.mem_of_getElem? hz, rfl⟩)⟩
theorem vlens_shape {xs : List VV} {ts : List TypeId} (hc : ∀ p ∈ (vlens T xs ts).chk, p) : ∃ x t, xs = [x] ∧ ts = [t] :=
  match xs, ts, hc with
  | [x], [t], _ => ⟨x, t, rfl, rfl⟩
  | [], _, hc => not_bad hc
  | _ :: _ :: _, _, hc => not_bad hc
  | [_], [], hc => not_bad hc
  | [_], _ :: _ :: _, hc => not_bad hc
theorem vapps_shape {xs : List VV} {ts : List TypeId} (hc : ∀ p ∈ (vapps T st xs ts).chk, p) : ∃ x y t, xs = [x, y] ∧ ts = [t, t] := by
  unfold vapps at hc
  split at hc
  · rename_i x y t t'
    cases hq : Nat.beq t t' with
    | false => rw [hq] at hc; exact not_bad hc
    | true => have := Nat.eq_of_beq_eq_true hq; subst this; exact ⟨x, y, t, rfl, rfl⟩
  · exact not_bad hc
theorem vmm_shape {b : Bool} {xs : List VV} (hc : ∀ p ∈ (vmm b xs).chk, p) : ∃ k x y, xs = [.sc (.int k x), .sc (.int k y)] := by
  unfold vmm at hc
  split at hc
  · rename_i k x k' y
    cases hq : decide (k = k') with
    | false => rw [hq] at hc; exact not_bad hc
    | true => have := of_decide_eq_true hq; subst this; exact ⟨k, x, y, rfl⟩
  · exact not_bad hc
theorem two_of {β : Type} {f : Operand → β} {args : Array Operand} {x y : β} (h : args.toList.map f = [x, y]) : ∃ u v, args = #[u, v] ∧ f u = x ∧ f v = y := by
  have hl : args.toList.length = 2 := by have := congrArg List.length h; simpa using this
  match hm : args.toList, hl with
  | [u, v], _ =>
    rw [hm] at h
    simp only [List.map_cons, List.map_nil, List.cons.injEq, and_true] at h
    exact ⟨u, v, Array.ext' (by simpa using hm), h.1, h.2⟩
theorem put_build {t : TypeId} {n : Nat} {ps : List (Nat × VV)} : (vbuildSlice T st t n ps).put = none := by
  unfold vbuildSlice
  split
  · generalize (_ && _ : Bool) = q
    cases q with
    | false => rfl
    | true =>
      simp only [cond_true]
      split
      · rename_i cs _
        cases cs.all VV.one <;> rfl
      · rfl
  · rfl
theorem new_build {t : TypeId} {n : Nat} {ps : List (Nat × VV)} (hc : ∀ p ∈ (vbuildSlice T st t n ps).chk, p) : (vbuildSlice T st t n ps).new.length ≠ 0 := by
  revert hc
  unfold vbuildSlice
  split
  · generalize (_ && _ : Bool) = q
    cases q with
    | false => intro hc; exact not_bad hc
    | true =>
      simp only [cond_true]
      split
      · rename_i cs _
        cases cs.all VV.one with
        | false => intro hc; exact not_bad hc
        | true => intro _ h; cases h
      · intro hc; exact not_bad hc
  · intro hc; exact not_bad hc
theorem put_make {t : TypeId} {x y : VV} : (vmake T st t x y).put = none := by
  unfold vmake
  split
  · generalize (_ && _ : Bool) = q; cases q <;> rfl
  · rfl
theorem put_store {t : TypeId} {zx zy : VV} (hc : ∀ p ∈ (vstore T st t zx zy).chk, p) : ∃ H', (vstore T st t zx zy).put = some H' := by
  revert hc
  unfold vstore
  split
  · rename_i id off
    generalize (_ && _ : Bool) = q
    cases q with
    | false => intro hc; exact not_bad hc
    | true =>
      simp only [cond_true]
      split
      · cases Nat.ble (off + zy.cells.length) (List.length _) with
        | false => intro hc; exact not_bad hc
        | true => intro _; exact ⟨_, rfl⟩
      · intro hc; exact not_bad hc
  · generalize (_ && _ : Bool) = q
    cases q with
    | false => intro hc; exact not_bad hc
    | true =>
      simp only [cond_true]
      split
      · split
        · generalize (_ && _ : Bool) = q
          cases q with
          | false => intro hc; exact not_bad hc
          | true => intro _; exact ⟨_, rfl⟩
        · intro hc; exact not_bad hc
      · intro hc; exact not_bad hc
  · intro hc; exact not_bad hc
theorem put_append {t : TypeId} {zx zy : VV} (hc : ∀ p ∈ (vappend T st t zx zy).chk, p) : ∃ H', (vappend T st t zx zy).put = some H' := by
  revert hc
  unfold vappend
  split
  · generalize (_ && _ : Bool) = q
    cases q with
    | false => intro hc; exact not_bad hc
    | true =>
      simp only [cond_true]
      split
      · split
        · intro _; exact ⟨_, rfl⟩
        · generalize (_ && _ : Bool) = q
          cases q with
          | false => intro hc; exact not_bad hc
          | true =>
            simp only [cond_true]
            split
            · generalize (_ && _ : Bool) = q
              cases q with
              | false => intro hc; exact not_bad hc
              | true => intro _; exact ⟨_, rfl⟩
            · generalize (_ && _ : Bool) = q
              cases q with
              | false => intro hc; exact not_bad hc
              | true =>
                simp only [cond_true]
                split
                · generalize (_ && _ : Bool) = q
                  cases q with
                  | false => intro hc; exact not_bad hc
                  | true => intro _; exact ⟨_, rfl⟩
                · intro hc; exact not_bad hc
            · intro hc; exact not_bad hc
        · intro hc; exact not_bad hc
      · intro hc; exact not_bad hc
  · intro hc; exact not_bad hc
theorem s_mm {b : Bool} {k : IntKind} {x y : Int} : ∃ v, ((bif b then Builtin.max_ #[] 0 #[.int k x, .int k y] else Builtin.min_ #[] 0 #[.int k x, .int k y]) : Sem Value).run P w = .ok v w ∧ V w E (some φ) (vmm b [.sc (.int k x), .sc (.int k y)]).val v := by
  cases b with
  | true =>
    refine ⟨.int k (max x y), ?_, ?_⟩
    · have : (if y > x then y else x) = max x y := by split <;> omega
      simp [Builtin.max_, Builtin.max2, this]
    · simp only [vmm, decide_true, cond_true, Res.ok]; exact .sc
  | false =>
    refine ⟨.int k (min x y), ?_, ?_⟩
    · have : (if y < x then y else x) = min x y := by split <;> omega
      simp [Builtin.min_, Builtin.min2, this]
    · simp only [vmm, decide_true, cond_true, cond_false, Res.ok]; exact .sc
theorem s_load (hT : TOk P T) (hH : HRel E Hc φ w) (hHc : ∀ id, id < st.nx → Hc id = st.H id) {t : TypeId} {x : VV} {vx : Value} (hx : V w (E.up φ) (some φ) x vx) (hc : ∀ p ∈ (vload T st t x).chk, p) :
    ∃ v, (Instr.loadAt t vx).run P w = .ok v w ∧ V w (E.up φ) (some φ) (vload T st t x).val v := by
  cases x with
  | bp id off =>
    simp only [vload] at hc ⊢
    cases hq : Nat.blt id st.nx with
    | false => rw [hq] at hc; exact not_bad hc
    | true =>
      rw [hq] at hc
      simp only [cond_true] at hc ⊢
      obtain ⟨b, hb, e⟩ := hx.bp_inv
      have hob := hH.ob id _ hb
      rw [hHc id (Nat.le_of_ble_eq_true hq)] at hob
      cases hHi : st.H id with
      | arr => rw [hHi] at hc; exact not_bad hc
      | gone => rw [hHi] at hc; exact not_bad hc
      | box cs =>
        rw [hHi] at hob hc
        obtain ⟨c, ty, h2, h3⟩ := hob
        rw [e]
        refine s_take hT (u := fun j => c.getD (off + j) undef) (fun j x hx => ?_) (fun j x hx => ?_) hc
        · rw [List.getElem?_drop] at hx
          exact cell_at h2 (by rw [h3.1]; exact (List.getElem?_eq_some_iff.1 hx).1)
        · rw [List.getElem?_drop] at hx
          exact h3.2 _ x hx
  | ep id gen sz i o =>
    simp only [vload] at hc ⊢
    cases hq : Nat.blt id st.nx with
    | false => rw [hq] at hc; exact not_bad hc
    | true =>
      rw [hq] at hc
      simp only [cond_true] at hc ⊢
      obtain ⟨c, len, hd, b, hph, hg, e, hcur⟩ := hx.ep_inv
      have hob := hH.ob id _ hph
      rw [hHc id (Nat.le_of_ble_eq_true hq)] at hob
      cases hHi : st.H id with
      | box cs => rw [hHi] at hc; exact not_bad hc
      | gone => rw [hHi] at hc; exact not_bad hc
      | arr fr g n s f =>
        rw [hHi] at hob hc
        obtain ⟨rfl, rfl, hrow⟩ := hob
        simp only at hc ⊢
        cases hq2 : (Nat.beq gen g && Nat.beq s sz) with
        | false => rw [hq2] at hc; exact not_bad hc
        | true =>
          rw [hq2] at hc
          simp only [cond_true] at hc ⊢
          rw [Bool.and_eq_true] at hq2
          have hsz := Nat.eq_of_beq_eq_true hq2.2
          subst hsz
          obtain ⟨hil, cap, rfl⟩ := hcur (Nat.eq_of_beq_eq_true hq2.1)
          obtain ⟨cs, ty, h1, h2, h3, h4, h5, h6, h7⟩ := hrow
          rw [e]
          have hj : ∀ (j : Nat) y, ((f i).drop o)[j]? = some y → (f i)[o + j]? = some y ∧ i * s + o + j < cs.size := by
            intro j y hy
            rw [List.getElem?_drop] at hy
            have := (List.getElem?_eq_some_iff.1 hy).1
            rw [h5 i hil] at this
            have h8 : (i + 1) * s ≤ cap * s := Nat.mul_le_mul_right _ (by omega)
            rw [Nat.add_mul] at h8
            exact ⟨hy, by rw [h2]; omega⟩
          refine s_take hT (u := fun j => cs.getD (i * s + o + j) undef) (fun j y hy => cell_at h1 (hj j y hy).2) (fun j y hy => ?_) hc
          have := (h6 i (o + j) y hil (hj j y hy).1).held
          rw [← Nat.add_assoc] at this
          exact this
  | tp cs =>
    simp only [vload] at hc ⊢
    obtain ⟨b, off, e, h1, h2, u, h3, h4⟩ := hx.tp_inv
    rw [e]
    exact s_take hT h3 (fun j x hx => (h4 j x hx).held) hc
  | _ => exact not_bad hc
theorem box_news {vs : Array Value} {cs : List VV} {ty : TypeId} (hid : φ st.nx = none) (hs : Says w (E.up φ) (some φ) cs vs) :
    News w E φ st.nx [.box cs] [.box w.heap.size] (w.alloc (.cells vs ty)) ∧ V (w.alloc (.cells vs ty)) (E.up (addP φ st.nx [.box w.heap.size])) (some (addP φ st.nx [.box w.heap.size])) (.bp st.nx 0) (.pointer (some ⟨w.heap.size, 0, none⟩)) := by
  have hroom : Room w [.box w.heap.size] (w.alloc (.cells vs ty)) := Room.one ((Below.refl _ w).alloc (Nat.le_refl _) _) fun k hk => by simp only [PlB] at hk; omega
  have hext := hroom.ext (φ := φ) (nx := st.nx) fun i hi => by
    simp only [List.length_cons, List.length_nil, Nat.zero_add, Nat.lt_one_iff] at hi
    subst hi; exact hid
  exact ⟨News.one hroom ⟨vs, ty, heap_alloc_new _ _, hs.ext hext⟩, .bp (addP_at (i := 0) rfl)⟩
theorem s_text {src dst e : TypeId} (hs : P.underlying src = some (.slice e)) (he : P.underlying e = some (.int .u8)) (hd : P.underlying dst = some .string) {b off n cap : Nat} {f : Nat → List VV} {u : Nat → Value} {E' : Prot} {m : Option Phi}
    (h2 : ∀ i x, i < n → (f i)[0]? = some x → w.cell? ⟨b, off + i, none⟩ = some (u i)) (h3 : ∀ i x, i < n → (f i)[0]? = some x → V w E' m x (u i)) (hc : ∀ p ∈ (vtext n f).chk, p) :
    ∃ v, (convert src dst (.slice (some ⟨b, off, none⟩) n cap)).run P w = .ok v w ∧ V w (E.up φ) (some φ) (vtext n f).val v := by
  have hb : ∀ i, i < n → isByte (f i) = true := fun i hi => List.all_eq_true.1 (hc (((List.range n).all fun i => isByte (f i)) = true) (by unfold vtext; exact List.mem_cons_self ..)) i (List.mem_range.2 hi)
  refine ⟨_, ?_, .sc⟩
  rw [run_convert_bytes_string w src dst e _ n cap hs he hd]
  have hl := run_loadCells_list (P := P) w ⟨b, off, none⟩ (((List.range n).map fun i => byteI (f i)).map (Value.int .u8)) (fun j v hj => by
    rw [List.getElem?_map, List.getElem?_map] at hj
    obtain ⟨_, hk, rfl⟩ := Option.map_eq_some_iff.1 hj
    obtain ⟨i, hk', rfl⟩ := Option.map_eq_some_iff.1 hk
    have hi : i = j ∧ j < n := by
      rw [List.getElem?_eq_some_iff] at hk'
      obtain ⟨h, e⟩ := hk'
      simp at h e
      exact ⟨e.symm, h⟩
    obtain ⟨rfl, hi⟩ := hi
    have := hb i hi
    match hf : f i, this with
    | [.sc (.int .u8 k)], _ =>
      have e1 := h2 i _ hi (by rw [hf]; rfl)
      have e2 := (h3 i _ hi (by rw [hf]; rfl)).sc_inv
      have : (⟨b, off, none⟩ : Addr).add i = ⟨b, off + i, none⟩ := by unfold Addr.add; split <;> simp_all
      rw [this, e1, e2]; rfl)
  simp only [List.length_map, List.length_range] at hl
  rw [run_bytesToString w _ n cap _ hl]
  rfl
theorem s_convS (hT : TOk P T) (hH : HRel E Hc φ w) (hHc : ∀ id, id < st.nx → Hc id = st.H id) {s d : TypeId} {x : VV} {vx : Value} (hx : V w (E.up φ) (some φ) x vx) (hc : ∀ p ∈ (vconvS T st s d x).chk, p) :
    ∃ v, (convert s d vx).run P w = .ok v w ∧ V w (E.up φ) (some φ) (vconvS T st s d x).val v := by
  unfold vconvS at hc ⊢
  split at hc
  · rename_i e hs hd
    split at hc
    · rename_i id gen n he
      cases hq : Nat.blt id st.nx with
      | false => rw [hq] at hc; exact not_bad hc
      | true =>
        rw [hq] at hc
        simp only [cond_true] at hc ⊢
        obtain ⟨c, len, hd', hd0, hph, hg, h0, hcur⟩ := hx.ow_inv
        have hob := hH.ob id _ hph
        rw [hHc id (Nat.le_of_ble_eq_true hq)] at hob
        split at hc
        · rename_i g _ sz f hHi
          rw [hHi] at hob
          obtain ⟨rfl, rfl, hrow⟩ := hob
          cases hq2 : (Nat.beq gen g && Nat.beq sz 1) with
          | false => rw [hq2] at hc; exact not_bad hc
          | true =>
            rw [hq2] at hc
            simp only [cond_true] at hc ⊢
            rw [Bool.and_eq_true] at hq2
            obtain rfl := Nat.eq_of_beq_eq_true hq2.1
            obtain rfl := Nat.eq_of_beq_eq_true hq2.2
            obtain ⟨rfl, hn⟩ := hcur rfl
            match hd0, h0, hrow with
            | none, h0, _ =>
              obtain ⟨rfl, rfl⟩ := h0
              refine ⟨_, ?_, .sc⟩
              rw [run_convert_bytes_string w s d e _ 0 0 (hT.sl hs) (hT.int he) (hT.str hd)]
              rfl
            | some (b, cap), h0, hrow =>
              obtain ⟨rfl, _⟩ := h0
              obtain ⟨cs, ty, k1, k2, k3, k4, k5, k6, k7⟩ := hrow
              refine s_text (off := 0) (u := fun i => cs.getD (i * 1 + 0) undef) (hT.sl hs) (hT.int he) (hT.str hd) (fun i x hi hx => ?_) (fun i x hi hx => (k6 i 0 x (by omega) hx).held) hc
              have := cell_at k1 (k := 0 + i) (by omega)
              simpa using this
        · exact not_bad hc
    · rename_i fz n sz f he
      cases hq2 : (Nat.beq sz 1) with
      | false => rw [hq2] at hc; exact not_bad hc
      | true =>
        rw [hq2] at hc
        simp only [cond_true] at hc ⊢
        obtain rfl := Nat.eq_of_beq_eq_true hq2
        obtain ⟨a, cap, rfl, _, _, h4⟩ := hx.sl_inv
        rcases Nat.eq_zero_or_pos n with rfl | hp
        · refine ⟨.string ByteArray.empty, ?_, .sc⟩
          rw [run_convert_bytes_string w s d e _ 0 cap (hT.sl hs) (hT.int he) (hT.str hd)]
          cases a with
          | none => rfl
          | some a =>
            have hl := run_loadCells_list (P := P) w a [] (fun j v hj => by simp at hj)
            exact run_bytesToString w a 0 cap [] hl
        · obtain ⟨b, off, rfl, _, _, h5, u, h6, h7⟩ := h4 hp
          exact s_text (u := fun i => u i 0) (hT.sl hs) (hT.int he) (hT.str hd) (fun i x hi hx => by have := h6 i 0 x hi hx; simpa using this) (fun i x hi hx => h7 i 0 x hi hx) hc
    · rename_i he
      rw [hx.nl_inv]
      refine ⟨_, ?_, .sc⟩
      rw [run_convert_bytes_string w s d e _ 0 0 (hT.sl hs) (hT.int he) (hT.str hd)]
      rfl
    · exact not_bad hc
  · exact s_conv hT hx hc
theorem vop_buildSlice (hT : TOk P T) (hH : HRel E Hc φ w) (hz : Old E φ w) {o : Oper} {t : TypeId} {n : Nat} {ps : Array (Nat × Operand)} (hop : o.op = .buildSlice t n ps) (hr : Reads w E φ st a (.buildSlice t n ps)) {R : Res}
    (hR : R = bif O.gd then vfroz T t n (ps.toList.map fun p => (p.1, st.val p.2)) else vbuildSlice T st t n (ps.toList.map fun p => (p.1, st.val p.2))) (hc : ∀ p ∈ R.chk, p) :
    (R.put = none ∧ ((∀ i, i < R.new.length → φ (st.nx + i) = none) → Makes P E φ st.nx R.new R.val o a w)) ∨
    (∃ H', R.put = some H' ∧ ((∀ id, st.nx ≤ id → φ id = none) → (∀ id, id < st.nx → φ id ≠ none) → HRel E st.H φ w →
      Puts P E φ (addH H' st.nx R.new) st.nx (st.nx + R.new.length) R.val o a w)) := by
  have hp := parts_ok (st := st) (a := a) (φ := φ) (E := E) (w := w) (ps := ps) (by have hr' : ∀ y ∈ (Op.buildSlice t n ps).operands.toList, V w (E.up φ) (some φ) (st.val y) (a.eval y) := hr; simpa [Op.operands] using hr')
  refine .inl ?_
  cases hgd : O.gd with
  | true =>
    rw [hgd, cond_true] at hR
    obtain ⟨h1, h2, v, w', h3, h4, h5⟩ := s_froz hT (fun k hk => hk.elim (hz.lt k) fun ho => hH.lt ho) hp.1 hp.2 (by rw [hR] at hc; exact hc)
    rw [← hR] at h1 h2 h5
    rw [h1]
    refine ⟨h2, fun _ => Makes.of (S := Instr.buildSlice t n (ps.map fun (i, x) => (i, a.eval x))) (by unfold execOp; rw [hop]) ?_⟩
    exact ⟨v, w', [], h3, News.none h4, by rw [addP_nil]; exact h5⟩
  | false =>
    rw [hgd, cond_false] at hR
    subst hR
    refine ⟨put_build, fun hid => Makes.of (S := Instr.buildSlice t n (ps.map fun (i, x) => (i, a.eval x))) (by unfold execOp; rw [hop]) ?_⟩
    have hnew := new_build hc
    exact (s_buildSlice hT (by have := hid 0 (by omega); simpa using this) hp.1 hp.2 hc).2
theorem vop_ok (hT : TOk P T) (hO : OrcOk P O) (hH : HRel E Hc φ w) (hHc : ∀ id, id < st.nx → Hc id = st.H id) (hz : Old E φ w) {o : Oper} (hr : Reads w E φ st a o.op) (hc : ∀ p ∈ (vop T O st o.op).chk, p) :
    ((vop T O st o.op).put = none ∧ ((∀ i, i < (vop T O st o.op).new.length → φ (st.nx + i) = none) → Makes P E φ st.nx (vop T O st o.op).new (vop T O st o.op).val o a w)) ∨
    (∃ H', (vop T O st o.op).put = some H' ∧ ((∀ id, st.nx ≤ id → φ id = none) → (∀ id, id < st.nx → φ id ≠ none) → HRel E st.H φ w →
      Puts P E φ (addH H' st.nx (vop T O st o.op).new) st.nx (st.nx + (vop T O st o.op).new.length) (vop T O st o.op).val o a w)) := by
  cases hop : o.op <;> rw [hop] at hr hc <;> simp only [vop] at hc ⊢
  case move x => exact .inl ⟨rfl, fun _ => Makes.quiet (S := pure (a.eval x)) (by unfold execOp; rw [hop]; rfl) ⟨_, rfl, hr x (by simp [Op.operands])⟩⟩
  case assign x => exact .inl ⟨rfl, fun _ => Makes.quiet (S := pure (a.eval x)) (by unfold execOp; rw [hop]; rfl) ⟨_, rfl, hr x (by simp [Op.operands])⟩⟩
  case pick c x y => exact .inl ⟨rfl, fun _ => Makes.quiet (by unfold execOp; rw [hop]; simp only [pure_bind, bind_assoc]) (s_pick hr.1 hr.2.1 hr.2.2 hc)⟩
  case binOp op t x y t' =>
    obtain ⟨v, h1, h2⟩ := s_binO (w := w) hT (ox := x) (oy := y) (hr x (by simp [Op.operands])) (hr y (by simp [Op.operands])) (fun c e => by rw [e]; rfl) hc
    exact .inl ⟨rfl, fun _ => Makes.quiet (by unfold execOp; rw [hop]) ⟨v, h1, h2⟩⟩
  case unOp op t x => exact .inl ⟨rfl, fun _ => Makes.quiet (by unfold execOp; rw [hop]) (s_un (hr x (by simp [Op.operands])) hc)⟩
  case fieldAddr s x f => exact .inl ⟨rfl, fun _ => Makes.quiet (by unfold execOp; rw [hop]) (s_fieldAt hT (hr x (by simp [Op.operands])) hc)⟩
  case field s x f => exact .inl ⟨rfl, fun _ => Makes.quiet (by unfold execOp; rw [hop]) (s_field hT (hr x (by simp [Op.operands])) hc)⟩
  case indexAddr t x i => exact .inl ⟨rfl, fun _ => Makes.quiet (by unfold execOp; rw [hop]) (s_indexAt hT (hr x (by simp [Op.operands])) (hr i (by simp [Op.operands])) (fun k hk => hk.imp (hH.sub k) fun h => h) hc)⟩
  case index t x i => exact .inl ⟨rfl, fun _ => Makes.quiet (by unfold execOp; rw [hop]) (s_index hT (hr x (by simp [Op.operands])) (hr i (by simp [Op.operands])) hc)⟩
  case extract x i => exact .inl ⟨rfl, fun _ => Makes.quiet (by unfold execOp; rw [hop]) (s_extract (hr x (by simp [Op.operands])) hc)⟩
  case convert s d x => exact .inl ⟨rfl, fun _ => Makes.quiet (by unfold execOp; rw [hop]) (s_convS hT hH hHc (hr x (by simp [Op.operands])) hc)⟩
  case load t x => exact .inl ⟨rfl, fun _ => Makes.quiet (by unfold execOp; rw [hop]) (s_load hT hH hHc (hr x (by simp [Op.operands])) hc)⟩
  case slice t x lo hi mx =>
    cases mx with
    | some _ => exact not_bad hc
    | none =>
      refine .inl ⟨rfl, fun _ => Makes.quiet (S := Instr.sliceAt t (a.eval x) (lo.map a.eval) (hi.map a.eval) none) (by unfold execOp; rw [hop]; rfl) (s_slice hT (hr x (by simp [Op.operands])) ?_ ?_ hc)⟩
      · cases lo with
        | none => trivial
        | some l => exact hr l (by simp [Op.operands])
      · cases hi with
        | none => trivial
        | some l => exact hr l (by simp [Op.operands])
  case build t ps =>
    have hp := parts_ok (st := st) (a := a) (φ := φ) (E := E) (w := w) (ps := ps) (by have hr' : ∀ y ∈ (Op.build t ps).operands.toList, V w (E.up φ) (some φ) (st.val y) (a.eval y) := hr; simpa [Op.operands] using hr')
    exact .inl ⟨rfl, fun _ => Makes.quiet (by unfold execOp; rw [hop]) (s_build hT hp.1 hp.2 hc)⟩
  case buildSlice t n ps => exact vop_buildSlice hT hH hz hop hr rfl hc
  case makeSlice t n m =>
    exact .inl ⟨put_make, fun _ => Makes.of (S := Instr.makeSlice t (a.eval n) (a.eval m)) (by unfold execOp; rw [hop]) (s_make hT (hr n (by simp [Op.operands])) (hr m (by simp [Op.operands])) hc).2⟩
  case nilCheck x =>
    have hx := hr x (by simp [Op.operands])
    refine .inl ⟨rfl, fun _ => ?_⟩
    intro K Q hK
    have run : ∀ v, ((∃ b, v = .pointer (some b)) ∨ ∃ g cs, v = .func (.func g) #[] cs) → a.eval x = v → (execOp a.eval o).run P w = .ok (.value v) w := by
      rintro v (⟨b, rfl⟩ | ⟨g, cs, rfl⟩) e <;> (unfold execOp; rw [hop]; simp only [e]; rfl)
    have key : (execOp a.eval o).run P w = .ok (.value (a.eval x)) w ∧ V w (E.up φ) (some φ) (vnil (st.val x)).val (a.eval x) := by
      generalize st.val x = z at hx hc ⊢
      cases z with
      | bp id off =>
        obtain ⟨b, hb, e2⟩ := hx.bp_inv
        exact ⟨run _ (.inl ⟨_, e2⟩) rfl, hx⟩
      | ep id gen sz i off =>
        obtain ⟨_, _, _, b, _, _, e2, _⟩ := hx.ep_inv
        exact ⟨run _ (.inl ⟨_, e2⟩) rfl, hx⟩
      | tp cs =>
        obtain ⟨b, off, e2, _⟩ := hx.tp_inv
        exact ⟨run _ (.inl ⟨_, e2⟩) rfl, hx⟩
      | fn g cs =>
        cases g with
        | func g =>
          refine ⟨run _ (.inr ?_) rfl, hx⟩
          generalize a.eval x = v at hx
          cases hx with | fn h1 h2 => exact ⟨g, _, rfl⟩
        | _ => exact not_bad hc
      | _ => exact not_bad hc
    unfold Oper.wp
    rw [key.1]
    exact hK _ w [] (News.none (Below.refl _ _)) (by rw [addP_nil]; exact key.2)
  case makeFunc f first caps =>
    cases hq : first.isEmpty with
    | false => rw [hq] at hc; exact not_bad hc
    | true =>
      have h0 : first = #[] := by simpa using hq
      subst h0
      refine .inl ⟨rfl, fun _ => ?_⟩
      refine Makes.quiet (S := Instr.makeFunc f ((#[] : Array Operand).map a.eval) (caps.map a.eval)) (by unfold execOp; rw [hop]) ⟨.func f #[] (caps.map a.eval), by simp [Instr.makeFunc], ?_⟩
      show V w (E.up φ) (some φ) (.fn f (caps.toList.map st.val)) _
      refine .fn (by simp) fun j y hy => ?_
      rw [List.getElem?_map] at hy
      obtain ⟨z, hz, rfl⟩ := Option.map_eq_some_iff.1 hy
      have hm := hr z (by simp [Op.operands]; exact Array.mem_toList_iff.1 (List.mem_of_getElem? hz))
      obtain ⟨hj, rfl⟩ := List.getElem?_eq_some_iff.1 hz
      have e : (caps.map a.eval).getD j undef = a.eval caps.toList[j] := by
        have : j < caps.size := by simpa using hj
        simp [Array.getD, this]
      rw [e]; exact hm
  case box e x =>
    cases hq : vfix (st.val x) with
    | false => rw [hq] at hc; exact not_bad hc
    | true =>
      simp only [cond_true]
      refine .inl ⟨by trivial, fun hid => ?_⟩
      intro K Q hK
      unfold Oper.wp execOp
      rw [hop]
      simp only [Instr.box, newVar, newRow, Sem.run_bind, Sem.run_pure, Result.andThen_ok, run_newObj]
      obtain ⟨n1, n2⟩ := box_news (ty := e) (by have := hid 0 (by simp); simpa using this) ((hr x (by simp [Op.operands])).cells hq)
      exact hK _ _ _ n1 n2
  case alloc e =>
    cases hq : (T e).k.known with
    | false => rw [hq] at hc; exact not_bad hc
    | true =>
      simp only [cond_true]
      obtain ⟨ie, z, hie, hs, hz', hzz⟩ := hT.size (known_ne hq)
      refine .inl ⟨by trivial, fun hid => ?_⟩
      intro K Q hK
      unfold Oper.wp execOp
      rw [hop]
      simp only [Instr.alloc, zeroValue, typeInfo, newVar, newRow, Sem.run_bind, Sem.run_pure, Result.andThen_ok, run_program, hie, hz', run_newObj]
      obtain ⟨n1, n2⟩ := box_news (ty := e) (E := E) (st := st) (vs := z.cells) (cs := z.cells.toList.map litVV) (by have := hid 0 (by simp); simpa using this) (Says.zero z.cells)
      rw [hzz] at hK
      exact hK _ _ _ n1 n2
  case store t x y =>
    obtain ⟨H', hH'⟩ := put_store hc
    refine .inr ⟨H', hH', fun _ _ hHs => ?_⟩
    obtain ⟨H2, h1, h2, h3, h4⟩ := s_store hT hHs hz.lt hop (hr x (by simp [Op.operands])) (hr y (by simp [Op.operands])) hc
    rw [hH'] at h1
    simp only [Option.some.injEq] at h1
    subst h1
    rw [h2, h3]
    intro K Q hK
    refine h4 K Q fun v w' φ' g1 g2 g3 g4 => hK v w' φ' (by simpa [addH] using g1) g2 (fun id => ?_) g4
    rw [g3]
    refine ⟨fun h => h.imp (fun h => h) fun h => by omega, fun h => h.imp (fun h => h) fun h => ?_⟩
    simp only [List.length_nil] at h
    omega
  case call c =>
    cases hcl : c.callee with
    | value f =>
      rw [hcl] at hc
      exact s_call hO hH hHc hz hop hcl (hr f (by simp [Op.operands, Call.operands, hcl])) (fun y hy => hr y (by simp [Op.operands, Call.operands, hcl]; right; simpa using hy)) hc
    | invoke r n => rw [hcl] at hc; exact not_bad hc
    | builtin b =>
      rw [hcl] at hc
      cases b <;> try exact not_bad hc
      case append =>
        replace hc : ∀ p ∈ (vapps T st (c.args.toList.map st.val) c.argTypes.toList).chk, p := hc
        obtain ⟨x', y', t, e1, e2⟩ := vapps_shape hc
        obtain ⟨x, y, hargs, rfl, rfl⟩ := two_of e1
        have htys : c.argTypes = #[t, t] := Array.ext' (by simpa using e2)
        have hx := hr x (by simp [Op.operands, Call.operands, hcl, hargs])
        have hy := hr y (by simp [Op.operands, Call.operands, hcl, hargs])
        have hv : vapps T st (c.args.toList.map st.val) c.argTypes.toList = vappend T st t (st.val x) (st.val y) := by rw [e1, e2]; simp [vapps]
        show ((vapps T st (c.args.toList.map st.val) c.argTypes.toList).put = none ∧ _) ∨ _
        rw [hv] at hc ⊢
        obtain ⟨H', hH'⟩ := put_append hc
        refine .inr ⟨H', hH', fun hfr hlv hHs => ?_⟩
        obtain ⟨H2, h1, h2⟩ := s_append (ty := o.type) hT hHs hz.lt hfr hx hy hc
        rw [hH'] at h1
        simp only [Option.some.injEq] at h1
        subst h1
        refine Puts.of (S := Builtin.append_ #[t, t] o.type #[a.eval x, a.eval y]) ?_ h2
        unfold execOp
        rw [hop]
        simp only [resolve, hcl, hargs, htys, invoke, builtin, List.map_toArray, List.map_cons, List.map_nil, pure_bind]
      case len =>
        refine .inl ⟨rfl, fun _ => ?_⟩
        replace hc : ∀ p ∈ (vlens T (c.args.toList.map st.val) c.argTypes.toList).chk, p := hc
        show Makes P E φ st.nx [] (vlens T (c.args.toList.map st.val) c.argTypes.toList).val o a w
        have shape : ∃ x t, c.args = #[x] ∧ c.argTypes = #[t] := by
          obtain ⟨x', t, e1, e2⟩ := vlens_shape hc
          have hl : c.args.toList.length = 1 := by have := congrArg List.length e1; simpa using this
          match hm : c.args.toList, hl with
          | [x], _ => exact ⟨x, t, Array.ext' (by simpa using hm), Array.ext' (by simpa using e2)⟩
        obtain ⟨x, t, hargs, htys⟩ := shape
        have hx := hr x (by simp [Op.operands, Call.operands, hcl, hargs])
        rw [hargs, htys] at hc ⊢
        obtain ⟨v, h1, h2⟩ := s_len (w := w) (ty := o.type) hT hx hc
        intro K Q hK
        unfold Oper.wp execOp
        rw [hop]
        simp only [resolve, hcl, hargs, htys, Sem.run_bind, Sem.run_pure, Result.andThen_ok, invoke, builtin, List.map_toArray, List.map_cons, List.map_nil, h1]
        exact hK v w [] (News.none (Below.refl _ _)) (by rw [addP_nil]; exact h2)
      case max =>
        refine .inl ⟨rfl, fun _ => ?_⟩
        replace hc : ∀ p ∈ (vmm true (c.args.toList.map st.val)).chk, p := hc
        show Makes P E φ st.nx [] (vmm true (c.args.toList.map st.val)).val o a w
        obtain ⟨k, x', y', e1⟩ := vmm_shape hc
        obtain ⟨x, y, hargs, e2, e3⟩ := two_of e1
        have hx := hr x (by simp [Op.operands, Call.operands, hcl, hargs])
        have hy := hr y (by simp [Op.operands, Call.operands, hcl, hargs])
        rw [e2] at hx
        rw [e3] at hy
        rw [e1]
        intro K Q hK
        unfold Oper.wp execOp
        rw [hop]
        obtain ⟨v, h1, h2⟩ := s_mm (P := P) (w := w) (E := E.up φ) (φ := φ) (b := true) (k := k) (x := x') (y := y')
        simp only [cond_true] at h1
        have h1' : (Builtin.max_ c.argTypes o.type #[.int k x', .int k y']).run P w = .ok v w := h1
        simp only [resolve, hcl, hargs, Sem.run_bind, Sem.run_pure, Result.andThen_ok, invoke, builtin, List.map_toArray, List.map_cons, List.map_nil, hx.sc_inv, hy.sc_inv, h1']
        exact hK v w [] (News.none (Below.refl _ _)) (by rw [addP_nil]; exact h2)
      case min =>
        refine .inl ⟨rfl, fun _ => ?_⟩
        replace hc : ∀ p ∈ (vmm false (c.args.toList.map st.val)).chk, p := hc
        show Makes P E φ st.nx [] (vmm false (c.args.toList.map st.val)).val o a w
        obtain ⟨k, x', y', e1⟩ := vmm_shape hc
        obtain ⟨x, y, hargs, e2, e3⟩ := two_of e1
        have hx := hr x (by simp [Op.operands, Call.operands, hcl, hargs])
        have hy := hr y (by simp [Op.operands, Call.operands, hcl, hargs])
        rw [e2] at hx
        rw [e3] at hy
        rw [e1]
        intro K Q hK
        unfold Oper.wp execOp
        rw [hop]
        obtain ⟨v, h1, h2⟩ := s_mm (P := P) (w := w) (E := E.up φ) (φ := φ) (b := false) (k := k) (x := x') (y := y')
        simp only [cond_false] at h1
        have h1' : (Builtin.min_ c.argTypes o.type #[.int k x', .int k y']).run P w = .ok v w := h1
        simp only [resolve, hcl, hargs, Sem.run_bind, Sem.run_pure, Result.andThen_ok, invoke, builtin, List.map_toArray, List.map_cons, List.map_nil, hx.sc_inv, hy.sc_inv, h1']
        exact hK v w [] (News.none (Below.refl _ _)) (by rw [addP_nil]; exact h2)
  all_goals exact not_bad hc
end
end
section
def Res.base (r : Res) (st : St) : Nat → Ob :=
  match r.put with
  | some H' => H'
  | none => st.H
def St.after (st : St) (o : Oper) (r : Res) : St :=
  St.put { st with H := addH (r.base st) st.nx r.new, nx := st.nx + r.new.length } o.dst r.val
def boolOf : VV → Option Bool
  | .sc (.bool b) => some b
  | _ => none
def vguard (ops : Array Oper) (st : St) (pcs : List Bool) (o : Oper) : Option Bool :=
  match o.guard with
  | none => some true
  | some (j, want) =>
    match pcs[j]?, (ops[j]?).bind (·.dst) with
    | some p, some d =>
      match boolOf (st.t d) with
      | some b => some (p && (b == want))
      | none => none
    | _, _ => none
def conj : List Prop → Prop → Prop
  | [], K => K
  | p :: ps, K => p ∧ conj ps K
def conjIf (pc : Bool) : List Prop → Prop → Prop
  | [], K => K
  | p :: ps, K => (pc = true → p) ∧ conjIf pc ps K
def rbit (M : Array Nat) (i j : Nat) : Bool := (M.getD i 0).testBit j
def isLoud : Op → Bool
  | .load .. | .store .. | .alloc _ | .box .. | .buildSlice .. | .makeSlice .. | .convert .. => true
  | .call c => match c.callee with
    | .builtin .len | .builtin .max | .builtin .min => false
    | _ => true
  | _ => false
def tpB (st : St) : Op → Bool
  | .load _ a => match st.val a with
    | .tp _ => true
    | _ => false
  | _ => false
def loudB (st : St) (op : Op) : Bool := isLoud op && !tpB st op
def softId (st : St) : Op → Option Nat
  | .load _ a => match st.val a with
    | .bp id _ => bif Nat.blt id st.nx then some id else none
    | .ep id _ _ _ _ => bif Nat.blt id st.nx then some id else none
    | _ => none
  | _ => none
def vtarget (ld : FuncId → Bool) (st : St) : Op → Option (FuncId × List Nat × List Ob × List VV)
  | .call c =>
    match c.callee with
    | .value f => vask ld st (st.val f) (c.args.toList.map st.val)
    | _ => none
  | _ => none
def stchOf (st : St) : Op → Option (List Nat)
  | .store _ a _ => match st.val a with
    | .bp id _ => some [id]
    | _ => none
  | _ => none
def tchOf (ld : FuncId → Bool) (st : St) (op : Op) : Option (List Nat) :=
  match vtarget ld st op with
  | some q => bif ld q.1 then some q.2.1 else none
  | none => stchOf st op
structure Fl where
  p : Bool
  l : Bool
  s : Option Nat
  t : Option (List Nat)
def esc : Option Nat → Option (List Nat) → Bool
  | some id, some ids => !(ids.any (Nat.beq id))
  | _, _ => false
def conf (f g : Fl) : Bool := (g.p && f.l && !(esc f.s g.t)) || (g.l && f.p && !(esc g.s f.t))
def Res.flag (r : Res) (l : Bool) (s : Option Nat) (t : Option (List Nat)) : Fl := ⟨r.put.isSome, l, s, t⟩
def okOrd (dr : Bool) (ops : Array Oper) (fl : List Fl) (k : Nat) (g : Fl) : Bool := !dr || (List.range k).all fun s =>
  match fl[s]? with
  | some f => !(conf f g) || rbit (Region.before ops) k s
  | none => false
def xops (T : TypeId → TE) (O : Nat → Orc) (dr : Bool) (ops : Array Oper) : Nat → List Oper → St → List Bool → List Fl → (St → Prop) → Prop
  | _, [], st, _, _, K => K st
  | k, o :: rest, st, pcs, fl, K =>
    match vguard ops st pcs o with
    | none => False
    | some pc =>
      bif okOrd dr ops fl k ((vop T (O k) st o.op).flag (loudB st o.op) (softId st o.op) (tchOf (O k).lend st o.op)) then
        match o.guard, (vop T (O k) st o.op).new, (vop T (O k) st o.op).put with
        | none, _, _ => conj (vop T (O k) st o.op).chk (xops T O dr ops (k + 1) rest (st.after o (vop T (O k) st o.op)) (pcs ++ [pc]) (fl ++ [(vop T (O k) st o.op).flag (loudB st o.op) (softId st o.op) (tchOf (O k).lend st o.op)]) K)
        | some _, [], none => conjIf pc (vop T (O k) st o.op).chk (xops T O dr ops (k + 1) rest (st.after o (vop T (O k) st o.op)) (pcs ++ [pc]) (fl ++ [(vop T (O k) st o.op).flag (loudB st o.op) (softId st o.op) (tchOf (O k).lend st o.op)]) K)
        | _, _, _ => False
      else False
theorem conj_iff {K : Prop} : ∀ {l : List Prop}, conj l K → (∀ p ∈ l, p) ∧ K
  | [], h => ⟨fun p hp => by simp at hp, h⟩
  | q :: l, h => by
    obtain ⟨h1, h2⟩ := conj_iff h.2
    refine ⟨fun p hp => ?_, h2⟩
    rcases List.mem_cons.1 hp with rfl | hp
    · exact h.1
    · exact h1 p hp
theorem conjIf_iff {pc : Bool} {K : Prop} : ∀ {l : List Prop}, conjIf pc l K → (pc = true → ∀ p ∈ l, p) ∧ K
  | [], h => ⟨fun _ p hp => by simp at hp, h⟩
  | q :: l, h => by
    obtain ⟨h1, h2⟩ := conjIf_iff h.2
    refine ⟨fun hpc p hp => ?_, h2⟩
    rcases List.mem_cons.1 hp with rfl | hp
    · exact h.1 hpc
    · exact h1 hpc p hp
section
variable (T : TypeId → TE) (O : Nat → Orc) (ops : Array Oper) (st0 : St)
def runS : Nat → St × List Bool
  | 0 => (st0, [])
  | i + 1 =>
    match ops[i]? with
    | none => runS i
    | some o => ((runS i).1.after o (vop T (O i) (runS i).1 o.op), (runS i).2 ++ [(vguard ops (runS i).1 (runS i).2 o).getD false])
def rPc (i : Nat) : Bool :=
  match ops[i]? with
  | none => false
  | some o => (vguard ops (runS T O ops st0 i).1 (runS T O ops st0 i).2 o).getD false
def rR (i : Nat) : Res :=
  match ops[i]? with
  | none => .bad
  | some o => vop T (O i) (runS T O ops st0 i).1 o.op
def rL (i : Nat) : Bool :=
  match ops[i]? with
  | none => false
  | some o => loudB (runS T O ops st0 i).1 o.op
def rSo (i : Nat) : Option Nat :=
  match ops[i]? with
  | none => none
  | some o => softId (runS T O ops st0 i).1 o.op
def rTc (i : Nat) : Option (List Nat) :=
  match ops[i]? with
  | none => none
  | some o => tchOf (O i).lend (runS T O ops st0 i).1 o.op
def rFl (i : Nat) : Fl := (rR T O ops st0 i).flag (rL T O ops st0 i) (rSo T O ops st0 i) (rTc T O ops st0 i)
def rF (i : Nat) : List Fl := (List.range i).map fun j => rFl T O ops st0 j
end
section
variable {P : Program} {T : TypeId → TE} {O : Nat → Orc} {ops : Array Oper} {st0 : St}
theorem runS_succ {i : Nat} {o : Oper} (ho : ops[i]? = some o) : (runS T O ops st0 (i + 1)).1 = (runS T O ops st0 i).1.after o (rR T O ops st0 i) ∧ (runS T O ops st0 (i + 1)).2 = (runS T O ops st0 i).2 ++ [rPc T O ops st0 i] := by
  simp only [runS, rR, rPc, ho]
  exact ⟨trivial, trivial⟩
theorem runS_pcs : ∀ (i : Nat), i ≤ ops.size → (runS T O ops st0 i).2.length = i ∧ ∀ k, k < i → (runS T O ops st0 i).2[k]? = some (rPc T O ops st0 k)
  | 0, _ => ⟨rfl, fun k hk => by omega⟩
  | i + 1, hi => by
    obtain ⟨h1, h2⟩ := runS_pcs i (by omega)
    have ho : ops[i]? = some (ops[i]'(by omega)) := by simp [show i < ops.size by omega]
    obtain ⟨_, e⟩ := runS_succ (T := T) (O := O) (st0 := st0) ho
    rw [e]
    refine ⟨by simp [h1], fun k hk => ?_⟩
    by_cases hki : k < i
    · rw [List.getElem?_append_left (by omega)]; exact h2 k hki
    · obtain rfl : k = i := by omega
      rw [List.getElem?_append_right (by omega)]; simp [h1]
structure RGood (dr : Bool) (T : TypeId → TE) (O : Nat → Orc) (ops : Array Oper) (st0 : St) (i : Nat) (o : Oper) : Prop where
  pc : vguard ops (runS T O ops st0 i).1 (runS T O ops st0 i).2 o = some (rPc T O ops st0 i)
  chk : rPc T O ops st0 i = true → ∀ p ∈ (rR T O ops st0 i).chk, p
  plain : o.guard ≠ none → (rR T O ops st0 i).new = [] ∧ (rR T O ops st0 i).put = none
  ord : dr = true → ∀ s, s < i → conf (rFl T O ops st0 s) (rFl T O ops st0 i) = true → rbit (Region.before ops) i s = true
theorem xops_good {dr : Bool} {K : St → Prop} : ∀ (l : List Oper) (i : Nat), l = ops.toList.drop i → i ≤ ops.size → xops T O dr ops i l (runS T O ops st0 i).1 (runS T O ops st0 i).2 (rF T O ops st0 i) K →
    (∀ j o, i ≤ j → ops[j]? = some o → RGood dr T O ops st0 j o) ∧ K (runS T O ops st0 ops.size).1
  | [], i, hl, hi, h => by
    have hlen := congrArg List.length hl
    simp at hlen
    obtain rfl : i = ops.size := by omega
    refine ⟨fun j o hj ho => ?_, h⟩
    have := (Array.getElem?_eq_some_iff.1 ho).1
    omega
  | o :: rest, i, hl, hi, h => by
    have hlen := congrArg List.length hl
    simp at hlen
    have hi' : i < ops.size := by omega
    have ho : ops[i]? = some o := by
      have := congrArg (·[0]?) hl
      simp only [List.getElem?_cons_zero, List.getElem?_drop, Nat.add_zero] at this
      simpa using this.symm
    have hrest : rest = ops.toList.drop (i + 1) := by
      have := congrArg List.tail hl
      simpa using this
    obtain ⟨e1, e2⟩ := runS_succ (T := T) (O := O) (st0 := st0) ho
    simp only [xops] at h
    split at h
    · exact h.elim
    · rename_i pc hpc
      have hp : rPc T O ops st0 i = pc := by simp only [rPc, ho, hpc, Option.getD_some]
      have hr : rR T O ops st0 i = vop T (O i) (runS T O ops st0 i).1 o.op := by simp only [rR, ho]
      have hL : (rR T O ops st0 i).flag (loudB (runS T O ops st0 i).1 o.op) (softId (runS T O ops st0 i).1 o.op) (tchOf (O i).lend (runS T O ops st0 i).1 o.op) = rFl T O ops st0 i := by simp only [rFl, rL, rSo, rTc, ho]
      rw [← hr, hL] at h
      have eF : rF T O ops st0 i ++ [rFl T O ops st0 i] = rF T O ops st0 (i + 1) := by
        unfold rF
        rw [List.range_succ, List.map_append]
        rfl
      cases hpu : okOrd dr ops (rF T O ops st0 i) i (rFl T O ops st0 i) with
      | false => rw [hpu] at h; exact h.elim
      | true =>
      rw [hpu] at h
      simp only [cond_true] at h
      have hord : dr = true → ∀ s, s < i → conf (rFl T O ops st0 s) (rFl T O ops st0 i) = true → rbit (Region.before ops) i s = true := by
        intro hdr s hs hn
        unfold okOrd at hpu
        rw [hdr, Bool.not_true, Bool.false_or] at hpu
        have hx := List.all_eq_true.1 hpu s (List.mem_range.2 hs)
        have hf : (rF T O ops st0 i)[s]? = some (rFl T O ops st0 s) := by
          unfold rF
          rw [List.getElem?_map, List.getElem?_range hs]; rfl
        rw [hf] at hx
        simp only [hn] at hx
        simpa using hx
      have key : RGood dr T O ops st0 i o ∧ xops T O dr ops (i + 1) rest ((runS T O ops st0 i).1.after o (rR T O ops st0 i)) ((runS T O ops st0 i).2 ++ [pc]) (rF T O ops st0 (i + 1)) K := by
        rw [eF] at h
        split at h
        · rename_i hg
          obtain ⟨h1, h2⟩ := conj_iff h
          exact ⟨⟨by rw [hpc, hp], fun _ => h1, fun hn => absurd hg hn, hord⟩, h2⟩
        · rename_i hg hn hp2
          obtain ⟨h1, h2⟩ := conjIf_iff h
          exact ⟨⟨by rw [hpc, hp], fun hq => h1 (by rw [← hp]; exact hq), fun _ => ⟨hn, hp2⟩, hord⟩, h2⟩
        · exact h.elim
      obtain ⟨hg, hx⟩ := key
      rw [← hp, ← e1, ← e2] at hx
      obtain ⟨h3, h4⟩ := xops_good rest (i + 1) hrest hi' hx
      refine ⟨fun j oj hj hoj => ?_, h4⟩
      by_cases hji : j = i
      · subst hji
        rw [ho] at hoj
        simp only [Option.some.injEq] at hoj
        subst hoj
        exact hg
      · exact h3 j oj (by omega) hoj
theorem after_t (st : St) (o : Oper) (r : Res) (t : Nat) : (st.after o r).t t = if o.dst = some t then r.val else st.t t := by
  have h0 : ∀ (s : St) (d : Option Nat), (s.put d r.val).t t = if d = some t then r.val else s.t t := by
    intro s d
    cases d with
    | none => simp [St.put]
    | some d =>
      simp only [St.put]
      cases hq : Nat.beq t d with
      | true => have := Nat.eq_of_beq_eq_true hq; subst this; simp
      | false =>
        have hne : d ≠ t := by rintro rfl; simp at hq
        simp [hne]
  unfold St.after
  rw [h0]
theorem runS_out {t : Nat} : ∀ (i : Nat), i ≤ ops.size → (∀ j o, j < i → ops[j]? = some o → o.dst ≠ some t) → (runS T O ops st0 i).1.t t = st0.t t
  | 0, _, _ => rfl
  | i + 1, hi, h => by
    have ho : ops[i]? = some (ops[i]'(by omega)) := by simp [show i < ops.size by omega]
    rw [(runS_succ ho).1, after_t, if_neg (h i _ (by omega) ho)]
    exact runS_out i (by omega) fun j o hj => h j o (by omega)
theorem runS_inn {t j : Nat} {oj : Oper} (hoj : ops[j]? = some oj) (hd : oj.dst = some t) : ∀ (i : Nat), i ≤ ops.size → j < i → (∀ k o, k < i → k ≠ j → ops[k]? = some o → o.dst ≠ some t) → (runS T O ops st0 i).1.t t = (rR T O ops st0 j).val
  | 0, _, hj, _ => by omega
  | i + 1, hi, hj, h => by
    have ho : ops[i]? = some (ops[i]'(by omega)) := by simp [show i < ops.size by omega]
    rw [(runS_succ ho).1, after_t]
    by_cases hji : j = i
    · subst hji
      rw [ho] at hoj
      simp only [Option.some.injEq] at hoj
      rw [hoj, if_pos hd]
    · rw [if_neg (h i _ (by omega) (by omega) ho)]
      exact runS_inn hoj hd i (by omega) (by omega) fun k o hk => h k o (by omega)
end
end
section
def gImp (ops : Array Oper) : Nat → Nat → Nat → Bool
  | 0, _, _ => false
  | f + 1, i, j =>
    match (ops[j]?).bind (·.guard) with
    | none => true
    | some g =>
      match (ops[i]?).bind (·.guard) with
      | none => false
      | some h => h == g || gImp ops f h.1 j
def pickOk (ops : Array Oper) (n i : Nat) (c : Operand) (want : Bool) (j : Nat) : Bool :=
  match (ops[j]?).bind (·.guard), c with
  | some (k, w), .tmp t => w == want && (ops[k]?).bind (·.dst) == some t && gImp ops n i k && Nat.blt k i
  | _, _ => false
def rdB (ops : Array Oper) (M : Array Nat) (i : Nat) (ok : Nat → Bool) : Operand → Bool
  | .tmp t => (List.range ops.size).all fun j =>
    match ops[j]? with
    | some oj => !(oj.dst == some t) || Nat.beq j i || (bif Nat.blt j i then rbit M i j && ok j else rbit M j i)
    | none => true
  | _ => true
def readsB (ops : Array Oper) (M : Array Nat) (i : Nat) : Op → Bool
  | .pick c x y => rdB ops M i (gImp ops ops.size i) c && rdB ops M i (fun j => gImp ops ops.size i j || pickOk ops ops.size i c true j) x && rdB ops M i (fun j => gImp ops ops.size i j || pickOk ops ops.size i c false j) y
  | op => op.operands.toList.all (rdB ops M i (gImp ops ops.size i))
def opB (ops : Array Oper) (M : Array Nat) (N i : Nat) (o : Oper) : Bool :=
  (o.after.toList.all fun e => !Region.binds .any e || Nat.blt e.on i) &&
  ((List.range ops.size).all fun j => !rbit M i j || o.after.toList.any fun e => Region.binds .any e && (Nat.beq e.on j || rbit M e.on j)) &&
  (match o.dst with
    | none => true
    | some d => Nat.blt d N && (List.range ops.size).all fun j => Nat.beq j i || !((ops[j]?).bind (·.dst) == some d)) &&
  (match o.guard with
    | none => true
    | some (k, _) => Nat.blt k i && rbit M i k) &&
  readsB ops M i o.op
def regB (ops : Array Oper) (N : Nat) : Bool :=
  let M := Region.before ops
  (List.range ops.size).all fun i =>
    match ops[i]? with
    | some o => opB ops M N i o
    | none => false
def RdOk (ops : Array Oper) (M : Array Nat) (i : Nat) (ok : Nat → Bool) (y : Operand) : Prop :=
  ∀ t, y = .tmp t → ∀ (j : Nat) oj, ops[j]? = some oj → oj.dst = some t → j ≠ i → (j < i → rbit M i j = true ∧ ok j = true) ∧ (i < j → rbit M j i = true)
structure RegOk (ops : Array Oper) (M : Array Nat) (N : Nat) : Prop where
  low : ∀ (i : Nat) o e, ops[i]? = some o → e ∈ o.after → Region.binds .any e = true → e.on < i
  mask : ∀ (i : Nat) o j, ops[i]? = some o → j < ops.size → rbit M i j = true → ∃ e ∈ o.after, Region.binds .any e = true ∧ (e.on = j ∨ rbit M e.on j = true)
  dst : ∀ (i : Nat) o d, ops[i]? = some o → o.dst = some d → d < N
  uniq : ∀ (i j : Nat) oi oj d, ops[i]? = some oi → ops[j]? = some oj → oi.dst = some d → oj.dst = some d → i = j
  guard : ∀ (i : Nat) o k w, ops[i]? = some o → o.guard = some (k, w) → k < i ∧ rbit M i k = true
  reads : ∀ (i : Nat) o, ops[i]? = some o → (∀ c x y, o.op ≠ .pick c x y) → ∀ y ∈ o.op.operands.toList, RdOk ops M i (gImp ops ops.size i) y
  pick : ∀ (i : Nat) o c x y, ops[i]? = some o → o.op = .pick c x y → RdOk ops M i (gImp ops ops.size i) c ∧ RdOk ops M i (fun j => gImp ops ops.size i j || pickOk ops ops.size i c true j) x ∧ RdOk ops M i (fun j => gImp ops ops.size i j || pickOk ops ops.size i c false j) y
theorem rd_of {ops : Array Oper} {M : Array Nat} {i : Nat} {ok : Nat → Bool} {y : Operand} (h : rdB ops M i ok y = true) : RdOk ops M i ok y := by
  rintro t rfl j oj hj hd hne
  simp only [rdB, List.all_eq_true, List.mem_range] at h
  have := h j (Array.getElem?_eq_some_iff.1 hj).1
  rw [hj] at this
  simp only [hd, beq_self_eq_true, Bool.not_true, Bool.false_or] at this
  have hb : Nat.beq j i = false := by
    cases hq : Nat.beq j i with
    | true => exact absurd (Nat.eq_of_beq_eq_true hq) hne
    | false => rfl
  rw [hb, Bool.false_or] at this
  constructor
  · intro hlt
    have hl : Nat.blt j i = true := Nat.ble_eq_true_of_le hlt
    rw [hl, cond_true, Bool.and_eq_true] at this
    exact this
  · intro hlt
    have hl : Nat.blt j i = false := by
      cases hq : Nat.blt j i with
      | true => have := Nat.le_of_ble_eq_true hq; omega
      | false => rfl
    rw [hl, cond_false] at this
    exact this
theorem regOk_of {ops : Array Oper} {N : Nat} (h : regB ops N = true) : RegOk ops (Region.before ops) N := by
  have hop : ∀ (i : Nat) o, ops[i]? = some o → opB ops (Region.before ops) N i o = true := by
    intro i o ho
    have := List.all_eq_true.1 h i (List.mem_range.2 (Array.getElem?_eq_some_iff.1 ho).1)
    simp only [ho] at this
    exact this
  have split : ∀ (i : Nat) o, ops[i]? = some o → _ := fun i o ho => by
    have := hop i o ho
    unfold opB at this
    simp only [Bool.and_eq_true] at this
    exact this
  refine ⟨?_, ?_, ?_, ?_, ?_, ?_, ?_⟩
  · intro i o e ho he hb
    obtain ⟨⟨⟨⟨h1, _⟩, _⟩, _⟩, _⟩ := split i o ho
    have := List.all_eq_true.1 h1 e (by simpa using he)
    rw [hb] at this
    exact Nat.le_of_ble_eq_true (by simpa [Nat.blt] using this)
  · intro i o j ho hj hb
    obtain ⟨⟨⟨⟨_, h1⟩, _⟩, _⟩, _⟩ := split i o ho
    have := List.all_eq_true.1 h1 j (List.mem_range.2 hj)
    rw [hb, Bool.not_true, Bool.false_or, List.any_eq_true] at this
    obtain ⟨e, he, hq⟩ := this
    rw [Bool.and_eq_true, Bool.or_eq_true] at hq
    exact ⟨e, by simpa using he, hq.1, hq.2.imp Nat.eq_of_beq_eq_true id⟩
  · intro i o d ho hd
    obtain ⟨⟨⟨⟨_, _⟩, h1⟩, _⟩, _⟩ := split i o ho
    rw [hd] at h1
    simp only [Bool.and_eq_true] at h1
    exact Nat.le_of_ble_eq_true h1.1
  · intro i j oi oj d hi hj hdi hdj
    obtain ⟨⟨⟨⟨_, _⟩, h1⟩, _⟩, _⟩ := split i oi hi
    rw [hdi] at h1
    simp only [Bool.and_eq_true] at h1
    have := List.all_eq_true.1 h1.2 j (List.mem_range.2 (Array.getElem?_eq_some_iff.1 hj).1)
    rw [hj, Option.bind_some, hdj] at this
    simp only [beq_self_eq_true, Bool.not_true, Bool.or_false] at this
    exact (Nat.eq_of_beq_eq_true this).symm
  · intro i o k w ho hg
    obtain ⟨⟨⟨⟨_, _⟩, _⟩, h1⟩, _⟩ := split i o ho
    rw [hg] at h1
    simp only [Bool.and_eq_true] at h1
    exact ⟨Nat.le_of_ble_eq_true h1.1, h1.2⟩
  · intro i o ho hnp y hy
    obtain ⟨⟨⟨⟨_, _⟩, _⟩, _⟩, h1⟩ := split i o ho
    unfold readsB at h1
    split at h1
    · rename_i c x y' e; exact absurd e (hnp c x y')
    · exact rd_of (List.all_eq_true.1 h1 y hy)
  · intro i o c x y ho hp
    obtain ⟨⟨⟨⟨_, _⟩, _⟩, _⟩, h1⟩ := split i o ho
    rw [hp] at h1
    simp only [readsB, Bool.and_eq_true] at h1
    exact ⟨rd_of h1.1.1, rd_of h1.1.2, rd_of h1.2⟩
section
variable {ops : Array Oper} {M : Array Nat} {N : Nat}
def Closed (ops : Array Oper) (D : Nat → Bool) : Prop := ∀ (i : Nat) o e, ops[i]? = some o → D i = true → e ∈ o.after → Region.binds .any e = true → D e.on = true
theorem mask_closed (hR : RegOk ops M N) {D : Nat → Bool} (hD : Closed ops D) : ∀ (i : Nat) o (j : Nat), ops[i]? = some o → (∀ e ∈ o.after, Region.binds .any e = true → D e.on = true) → j < ops.size → rbit M i j = true → D j = true := by
  intro i
  induction i using Nat.strongRecOn with
  | _ i ih =>
    intro o j ho hdeps hj hb
    obtain ⟨e, he, hbd, hq⟩ := hR.mask i o j ho hj hb
    have hDe := hdeps e he hbd
    rcases hq with hq | hq
    · rw [← hq]; exact hDe
    · have hlt := hR.low i o e ho he hbd
      have hil := (Array.getElem?_eq_some_iff.1 ho).1
      have hoe : ops[e.on]? = some (ops[e.on]'(by omega)) := by simp [show e.on < ops.size by omega]
      exact ih e.on hlt _ j hoe (fun e' he' hb' => hD e.on _ e' hoe hDe he' hb') hj hq
end
end
section
section
variable {dr : Bool} {P : Program} {T : TypeId → TE} {O : Nat → Orc} {ops : Array Oper} {st0 : St} {M : Array Nat} {N : Nat} {E : Prot} {w0 : World} {φ0 : Phi}
theorem St.put_nx (s : St) (d : Option Nat) (x : VV) : (s.put d x).nx = s.nx := by cases d <;> rfl
theorem St.put_H (s : St) (d : Option Nat) (x : VV) : (s.put d x).H = s.H := by cases d <;> rfl
theorem runS_at {i : Nat} {o : Oper} (ho : ops[i]? = some o) : (runS T O ops st0 (i + 1)).1.nx = (runS T O ops st0 i).1.nx + (rR T O ops st0 i).new.length ∧
    (runS T O ops st0 (i + 1)).1.H = addH ((rR T O ops st0 i).base (runS T O ops st0 i).1) (runS T O ops st0 i).1.nx (rR T O ops st0 i).new := by
  rw [(runS_succ (T := T) (O := O) (st0 := st0) ho).1]
  unfold St.after
  rw [St.put_nx, St.put_H]
  exact ⟨rfl, rfl⟩
theorem runS_nx (i m : Nat) (him : i ≤ m) (hm : m ≤ ops.size) : (runS T O ops st0 i).1.nx ≤ (runS T O ops st0 m).1.nx := by
  induction m with
  | zero => (obtain rfl : i = 0 := (by omega)); exact Nat.le_refl _
  | succ m ih =>
    by_cases hi : i = m + 1
    · subst hi; exact Nat.le_refl _
    · have h1 := ih (by omega) (by omega)
      have ho : ops[m]? = some (ops[m]'(by omega)) := by simp [show m < ops.size by omega]
      rw [(runS_at (T := T) (O := O) (st0 := st0) ho).1]
      omega
theorem runS_keep (i m : Nat) (him : i ≤ m) (hm : m ≤ ops.size) (hp : ∀ s o, i ≤ s → s < m → ops[s]? = some o → (rR T O ops st0 s).put = none) :
    ∀ id, id < (runS T O ops st0 i).1.nx → (runS T O ops st0 m).1.H id = (runS T O ops st0 i).1.H id := by
  induction m with
  | zero => (obtain rfl : i = 0 := (by omega)); exact fun _ _ => rfl
  | succ m ih =>
    by_cases hi : i = m + 1
    · subst hi; exact fun _ _ => rfl
    · intro id hid
      have h2 := ih (by omega) (by omega) (fun s o hs1 hs2 => hp s o hs1 (by omega)) id hid
      have hnx := runS_nx (T := T) (O := O) (ops := ops) (st0 := st0) i m (by omega) (by omega)
      have ho : ops[m]? = some (ops[m]'(by omega)) := by simp [show m < ops.size by omega]
      rw [(runS_at (T := T) (O := O) (st0 := st0) ho).2, addH_out (.inl (by omega))]
      unfold Res.base
      rw [hp m _ (by omega) (by omega) ho]
      exact h2
theorem runS_new {i j : Nat} {o : Oper} {ob : Ob} (ho : ops[i]? = some o) (hn : (rR T O ops st0 i).new[j]? = some ob) :
    (runS T O ops st0 (i + 1)).1.H ((runS T O ops st0 i).1.nx + j) = ob := by
  rw [(runS_at (T := T) (O := O) (st0 := st0) ho).2]
  exact addH_at hn
structure RI (P : Program) (T : TypeId → TE) (O : Nat → Orc) (ops : Array Oper) (st0 : St) (N : Nat) (E : Prot) (w0 : World) (φ0 : Phi) (D : Nat → Bool) (φ : Phi) (a : Act) (w : World) : Prop where
  sz : a.tmps.size = N
  df : a.defers = []
  ext : Ext w0 φ0 w φ
  old : Old E φ w
  out : ∀ t, (∀ (i : Nat) o, ops[i]? = some o → D i = true → o.dst ≠ some t) → V w (E.up φ) (some φ) (st0.t t) (a.tmps.getD t undef)
  inn : ∀ (i : Nat) o t, ops[i]? = some o → D i = true → o.dst = some t → (rPc T O ops st0 i = true → V w (E.up φ) (some φ) (rR T O ops st0 i).val (a.tmps.getD t undef)) ∧ (rPc T O ops st0 i = false → a.tmps.getD t undef = undef)
  al : ∀ (i : Nat) o, ops[i]? = some o → D i = false → ∀ j, j < (rR T O ops st0 i).new.length → φ ((runS T O ops st0 i).1.nx + j) = none
  lv : ∀ id, id < st0.nx → φ id ≠ none
  nw : ∀ (i : Nat) o, ops[i]? = some o → D i = true → ∀ j, j < (rR T O ops st0 i).new.length → φ ((runS T O ops st0 i).1.nx + j) ≠ none
  st : ∃ m, m ≤ ops.size ∧ (∀ (s : Nat) o, ops[s]? = some o → (rR T O ops st0 s).put ≠ none → (D s = true ↔ s < m)) ∧ (m < ops.size → (rR T O ops st0 m).put ≠ none) ∧
    HRel E (runS T O ops st0 m).1.H φ w ∧ ∀ id, (runS T O ops st0 m).1.nx ≤ id → φ id = none
theorem put_getD (a : Act) (d : Option Nat) (v : Value) (t : Nat) (hd : ∀ k, d = some k → k < a.tmps.size) : (a.put d v).tmps.getD t undef = if d = some t then v else a.tmps.getD t undef := by
  cases d with
  | none => simp [Act.put]
  | some d =>
    have := hd d rfl
    simp only [Act.put, Array.getD_eq_getD_getElem?, Option.some.injEq]
    by_cases h : d = t
    · subst h; simp [this]
    · rw [Array.getElem?_setIfInBounds_ne h, if_neg h]
theorem quiet_cases {op : Op} {st : St} (h : loudB st op = false) : isLoud op = false ∨ ∃ t a cs, op = .load t a ∧ st.val a = .tp cs := by
  unfold loudB at h
  cases hl : isLoud op with
  | false => exact .inl rfl
  | true =>
    rw [hl] at h
    have h' : tpB st op = true := by simpa using h
    unfold tpB at h'
    split at h'
    · rename_i t a
      split at h'
      · rename_i cs hv; exact .inr ⟨t, a, cs, rfl, hv⟩
      · cases h'
    · cases h'
theorem quiet_new' {O : Orc} {op : Op} {st : St} (h : isLoud op = false) : (vop T O st op).new = [] ∧ (vop T O st op).put = none := by
  cases op <;> first | exact ⟨rfl, rfl⟩ | cases h | skip
  case slice t x lo hi mx => cases mx <;> exact ⟨rfl, rfl⟩
  case call c =>
    simp only [vop, isLoud] at h ⊢
    cases hc : c.callee with
    | value f => rw [hc] at h; simp at h
    | invoke r n => exact ⟨rfl, rfl⟩
    | builtin b => cases b <;> first | exact ⟨rfl, rfl⟩ | (rw [hc] at h; simp at h)
theorem quiet_new {O : Orc} {op : Op} {st : St} (h : loudB st op = false) : (vop T O st op).new = [] ∧ (vop T O st op).put = none := by
  rcases quiet_cases h with h | ⟨t, a, cs, rfl, _⟩
  · exact quiet_new' h
  · exact ⟨rfl, rfl⟩
theorem loud_of {O : Orc} {op : Op} {st : St} (h : (vop T O st op).new.length ≠ 0 ∨ (vop T O st op).put ≠ none) : loudB st op = true := by
  cases hq : loudB st op with
  | true => rfl
  | false =>
    obtain ⟨h1, h2⟩ := quiet_new (T := T) (O := O) (st := st) hq
    rw [h1, h2] at h
    simp at h
theorem quiet_H' {O : Orc} {op : Op} {st : St} (h : isLoud op = false) (H : Nat → Ob) : vop T O { st with H := H } op = vop T O st op := by
  cases op <;> first | rfl | cases h | skip
  case slice t x lo hi mx => cases mx <;> rfl
  case call c =>
    simp only [vop, isLoud] at h ⊢
    cases hc : c.callee with
    | value f => rw [hc] at h; simp at h
    | invoke r n => rfl
    | builtin b => cases b <;> first | rfl | (rw [hc] at h; simp at h)
theorem quiet_H {O : Orc} {op : Op} {st : St} (h : loudB st op = false) (H : Nat → Ob) : vop T O { st with H := H } op = vop T O st op := by
  rcases quiet_cases h with h | ⟨t, a, cs, rfl, hv⟩
  · exact quiet_H' h H
  · have hv' : St.val { st with H := H } a = .tp cs := by rw [← hv]; cases a <;> rfl
    simp only [vop, hv, hv', vload]
theorem soft_load {st : St} {op : Op} {id : Nat} (h : softId st op = some id) : ∃ t a, op = .load t a ∧ id < st.nx ∧ ((∃ o, st.val a = .bp id o) ∨ ∃ g sz i o, st.val a = .ep id g sz i o) := by
  cases op <;> simp only [softId, reduceCtorEq] at h
  rename_i t a
  split at h
  · rename_i j o hv
    cases hq : Nat.blt j st.nx with
    | false => rw [hq] at h; cases h
    | true =>
      rw [hq] at h
      simp only [cond_true, Option.some.injEq] at h
      subst h
      exact ⟨t, a, rfl, Nat.le_of_ble_eq_true hq, .inl ⟨o, hv⟩⟩
  · rename_i j g sz i o hv
    cases hq : Nat.blt j st.nx with
    | false => rw [hq] at h; cases h
    | true =>
      rw [hq] at h
      simp only [cond_true, Option.some.injEq] at h
      subst h
      exact ⟨t, a, rfl, Nat.le_of_ble_eq_true hq, .inr ⟨g, sz, i, o, hv⟩⟩
  · cases h
theorem soft_new {O : Orc} {op : Op} {st : St} {id : Nat} (h : softId st op = some id) : (vop T O st op).new = [] ∧ (vop T O st op).put = none := by
  obtain ⟨t, a, rfl, _⟩ := soft_load h
  exact ⟨rfl, rfl⟩
theorem soft_H {O : Orc} {op : Op} {st : St} {id : Nat} (h : softId st op = some id) {H : Nat → Ob} (hH : H id = st.H id) : vop T O { st with H := H } op = vop T O st op := by
  obtain ⟨t, a, rfl, _, hv⟩ := soft_load h
  have e : St.val { st with H := H } a = st.val a := by cases a <;> rfl
  rcases hv with ⟨o, hv⟩ | ⟨g, sz, i, o, hv⟩
  · simp only [vop, e, hv, vload, hH]
  · simp only [vop, e, hv, vload, hH]
def hardB (st : St) (op : Op) : Bool := loudB st op && (softId st op).isNone
theorem hard_of {O : Orc} {op : Op} {st : St} (h : (vop T O st op).new.length ≠ 0 ∨ (vop T O st op).put ≠ none) : hardB st op = true := by
  unfold hardB
  rw [loud_of h, Bool.true_and]
  cases hs : softId st op with
  | none => rfl
  | some id =>
    obtain ⟨h1, h2⟩ := soft_new (T := T) (O := O) hs
    rw [h1, h2] at h
    simp at h
theorem ord_at (hdr : dr = true) (hG : ∀ (j : Nat) o, ops[j]? = some o → RGood dr T O ops st0 j o) {i s : Nat} {oi os : Oper} (hi : ops[i]? = some oi) (hp : (rR T O ops st0 i).put ≠ none) (hs : ops[s]? = some os) (hl : hardB (runS T O ops st0 s).1 os.op = true) :
    (s < i → rbit (Region.before ops) i s = true) ∧ (i < s → rbit (Region.before ops) s i = true) := by
  unfold hardB at hl
  rw [Bool.and_eq_true, Option.isNone_iff_eq_none] at hl
  have hL : rL T O ops st0 s = true := by simp only [rL, hs]; exact hl.1
  have hS : rSo T O ops st0 s = none := by simp only [rSo, hs]; exact hl.2
  have hP := Option.isSome_iff_ne_none.2 hp
  refine ⟨fun h => (hG i oi hi).ord hdr s h ?_, fun h => (hG s os hs).ord hdr i h ?_⟩
  · simp [conf, rFl, Res.flag, hP, hL, hS, esc]
  · simp [conf, rFl, Res.flag, hP, hL, hS, esc]
theorem ord_soft (hdr : dr = true) (hG : ∀ (j : Nat) o, ops[j]? = some o → RGood dr T O ops st0 j o) {i s id : Nat} {oi os : Oper} (hi : ops[i]? = some oi) (hp : (rR T O ops st0 i).put ≠ none) (hs : ops[s]? = some os) (hl : loudB (runS T O ops st0 s).1 os.op = true) (hso : softId (runS T O ops st0 s).1 os.op = some id) :
    esc (some id) (rTc T O ops st0 i) = true ∨ ((s < i → rbit (Region.before ops) i s = true) ∧ (i < s → rbit (Region.before ops) s i = true)) := by
  have hL : rL T O ops st0 s = true := by simp only [rL, hs]; exact hl
  have hS : rSo T O ops st0 s = some id := by simp only [rSo, hs]; exact hso
  have hP := Option.isSome_iff_ne_none.2 hp
  cases he : esc (some id) (rTc T O ops st0 i) with
  | true => exact .inl rfl
  | false =>
    refine .inr ⟨fun h => (hG i oi hi).ord hdr s h ?_, fun h => (hG s os hs).ord hdr i h ?_⟩
    · simp [conf, rFl, Res.flag, hP, hL, hS, he]
    · simp [conf, rFl, Res.flag, hP, hL, hS, he]
theorem vtarget_vop {T : TypeId → TE} {O : Orc} {st : St} {op : Op} {q : FuncId × List Nat × List Ob × List VV} (h : vtarget O.lend st op = some q) :
    vop T O st op = (vback st (O.lend q.1) q.2.1 (O.run q.1 q.2.2.1 q.2.2.2).1.1 (O.run q.1 q.2.2.1 q.2.2.2).1.2).also (O.run q.1 q.2.2.1 q.2.2.2).2 := by
  cases op <;> simp only [vtarget, reduceCtorEq] at h
  rename_i c
  split at h
  · rename_i f hf
    simp only [vop, hf, vcall, h]
  · cases h
theorem idx_not : ∀ {ids : List Nat} {id : Nat}, ids.any (Nat.beq id) = false → idx ids id = none
  | [], _, _ => rfl
  | i :: is, id, h => by
    simp only [List.any_cons, Bool.or_eq_false_iff] at h
    have hb : Nat.beq i id = false := by
      cases hq : Nat.beq i id with
      | false => rfl
      | true =>
        have := Nat.eq_of_beq_eq_true hq
        subst this
        have h1 := h.1
        simp at h1
    simp only [idx, hb, cond_false, idx_not h.2, Option.map_none]
theorem tch_keep {i id : Nat} (he : esc (some id) (rTc T O ops st0 i) = true) : (rR T O ops st0 i).base (runS T O ops st0 i).1 id = (runS T O ops st0 i).1.H id := by
  cases ho : ops[i]? with
  | none => simp only [rTc, ho, esc] at he; cases he
  | some o =>
    simp only [rTc, ho] at he
    simp only [rR, ho]
    unfold tchOf at he
    split at he
    · rename_i q hq
      cases hld : (O i).lend q.1 with
      | false => rw [hld] at he; simp [esc] at he
      | true =>
        rw [hld] at he
        simp only [cond_true, esc, Bool.not_eq_true'] at he
        rw [vtarget_vop hq, hld]
        unfold Res.base Res.also vback
        cases hb : Nat.ble q.2.1.length ((O i).run q.1 q.2.2.1 q.2.2.2).1.1.length with
        | false => rfl
        | true =>
          simp only [cond_true, idx_not he]
    · unfold stchOf at he
      split at he
      · rename_i t a x hop
        split at he
        · rename_i id' off hv
          have hne : Nat.beq id id' = false := by
            simp only [esc, List.any_cons, List.any_nil, Bool.or_false, Bool.not_eq_true'] at he
            exact he
          rw [hop]
          simp only [vop, hv, vstore, Res.base]
          cases (Nat.blt id' (runS T O ops st0 i).1.nx && (T t).k.known && Nat.beq ((runS T O ops st0 i).1.val x).cells.length (T t).sz && ((runS T O ops st0 i).1.val x).cells.all VV.one) with
          | false => rfl
          | true =>
            rw [cond_true]
            cases (runS T O ops st0 i).1.H id' with
            | box cs =>
              cases hb : Nat.ble (off + ((runS T O ops st0 i).1.val x).cells.length) cs.length with
              | false => simp only [hb, cond_false]; rfl
              | true => simp only [hb, cond_true, hne, cond_false]
            | _ => rfl
        · simp [esc] at he
      · simp [esc] at he
theorem runS_keep1 {id : Nat} (i m : Nat) (him : i ≤ m) (hm : m ≤ ops.size) (hid : id < (runS T O ops st0 i).1.nx) (hp : ∀ s o, i ≤ s → s < m → ops[s]? = some o → (rR T O ops st0 s).put = none ∨ esc (some id) (rTc T O ops st0 s) = true) :
    (runS T O ops st0 m).1.H id = (runS T O ops st0 i).1.H id := by
  induction m with
  | zero => (obtain rfl : i = 0 := (by omega)); rfl
  | succ m ih =>
    by_cases hi : i = m + 1
    · subst hi; rfl
    · have h2 := ih (by omega) (by omega) (fun s o hs1 hs2 => hp s o hs1 (by omega))
      have hnx := runS_nx (T := T) (O := O) (ops := ops) (st0 := st0) i m (by omega) (by omega)
      have ho : ops[m]? = some (ops[m]'(by omega)) := by simp [show m < ops.size by omega]
      rw [(runS_at (T := T) (O := O) (st0 := st0) ho).2, addH_out (.inl (by omega))]
      rcases hp m _ (by omega) (by omega) ho with h | h
      · unfold Res.base
        rw [h]
        exact h2
      · rw [tch_keep h]; exact h2
end
end
section
section
variable {dr : Bool} {P : Program} {T : TypeId → TE} {O : Nat → Orc} {ops : Array Oper} {st0 : St} {M : Array Nat} {N : Nat} {E : Prot} {w0 : World} {φ0 : Phi} {D : Nat → Bool} {φ : Phi} {a : Act} {w : World}
def plus (D : Nat → Bool) (i : Nat) (j : Nat) : Bool := j == i || D j
theorem plus_iff {i j : Nat} : plus D i j = true ↔ j = i ∨ D j = true := by simp [plus]
section
variable (hR : RegOk ops M N) (hG : ∀ (j : Nat) o, ops[j]? = some o → RGood dr T O ops st0 j o)
include hR hG
omit hR in
theorem pc_none {i : Nat} {o : Oper} (ho : ops[i]? = some o) (hg : o.guard = none) : rPc T O ops st0 i = true := by
  have := (hG i o ho).pc
  simp only [vguard, hg, Option.some.injEq] at this
  exact this.symm
theorem pc_some {i k : Nat} {want : Bool} {o : Oper} (ho : ops[i]? = some o) (hg : o.guard = some (k, want)) :
    ∃ ok d b, ops[k]? = some ok ∧ ok.dst = some d ∧ (rR T O ops st0 k).val = .sc (.bool b) ∧ k < i ∧ rPc T O ops st0 i = (rPc T O ops st0 k && (b == want)) := by
  have hgd := (hG i o ho).pc
  obtain ⟨hki, _⟩ := hR.guard i o k want ho hg
  have hi := (Array.getElem?_eq_some_iff.1 ho).1
  have hok : ops[k]? = some (ops[k]'(by omega)) := by simp [show k < ops.size by omega]
  have hp := (runS_pcs (T := T) (O := O) (ops := ops) (st0 := st0) i (by omega)).2 k hki
  simp only [vguard, hg, hp, hok, Option.bind_some] at hgd
  split at hgd
  · rename_i p d e1 e2
    simp only [Option.some.injEq] at e1
    subst e1
    split at hgd
    · rename_i b hb
      simp only [Option.some.injEq] at hgd
      rw [runS_inn hok e2 i (by omega) hki (fun k' o' _ hne ho' hd' => hne (hR.uniq k' k o' _ d ho' hok hd' e2))] at hb
      refine ⟨_, d, b, hok, e2, ?_, hki, hgd.symm⟩
      unfold boolOf at hb
      split at hb
      · rename_i b' e3; simp only [Option.some.injEq] at hb; subst hb; exact e3
      · cases hb
    · cases hgd
  · cases hgd
theorem gImp_ok : ∀ (f i j : Nat), i < ops.size → j < ops.size → gImp ops f i j = true → rPc T O ops st0 i = true → rPc T O ops st0 j = true
  | 0, _, _, _, _, h, _ => by cases h
  | f + 1, i, j, hi, hj, h, hp => by
    have hoi : ops[i]? = some (ops[i]'hi) := by simp [hi]
    have hoj : ops[j]? = some (ops[j]'hj) := by simp [hj]
    simp only [gImp, hoi, hoj, Option.bind_some] at h
    split at h
    · rename_i hg; exact pc_none hG hoj hg
    · rename_i g hg
      split at h
      · cases h
      · rename_i h0 hg0
        rw [Bool.or_eq_true] at h
        obtain ⟨k, w1⟩ := h0
        obtain ⟨k2, w2⟩ := g
        obtain ⟨ok, d, b, h1, h2, h3, h4, h5⟩ := pc_some hR hG hoi hg0
        rcases h with h | h
        · have e : (k, w1) = (k2, w2) := by simpa using h
          simp only [Prod.mk.injEq] at e
          obtain ⟨rfl, rfl⟩ := e
          obtain ⟨ok', d', b', h1', h2', h3', h4', h5'⟩ := pc_some hR hG hoj hg
          rw [h3] at h3'
          simp only [VV.sc.injEq, Value.bool.injEq] at h3'
          subst h3'
          rw [h5', ← h5]; exact hp
        · rw [h5, Bool.and_eq_true] at hp
          exact gImp_ok f k j (by omega) hj h hp.1
end
theorem read_ok (hR : RegOk ops M N) (hcl : Closed ops D) (h : RI P T O ops st0 N E w0 φ0 D φ a w) {i : Nat} {o : Oper} (ho : ops[i]? = some o) (hi : D i = false) (hdeps : ∀ e ∈ o.after, Region.binds .any e = true → D e.on = true)
    {ok : Nat → Bool} {y : Operand} (hrd : RdOk ops M i ok y) (hok : ∀ j, j < ops.size → ok j = true → rPc T O ops st0 j = true) : V w (E.up φ) (some φ) ((runS T O ops st0 i).1.val y) (a.eval y) := by
  have hil := (Array.getElem?_eq_some_iff.1 ho).1
  cases y with
  | const v => exact V.litC v
  | global g => exact .dead
  | func f => exact .fn rfl fun j x hx => by simp at hx
  | tmp t =>
    show V w _ _ ((runS T O ops st0 i).1.t t) (a.tmps.getD t undef)
    by_cases hex : ∃ j oj, ops[j]? = some oj ∧ oj.dst = some t ∧ j ≠ i
    · obtain ⟨j, oj, hj, hd, hne⟩ := hex
      have hjl := (Array.getElem?_eq_some_iff.1 hj).1
      obtain ⟨h1, h2⟩ := hrd t rfl j oj hj hd hne
      rcases Nat.lt_or_ge j i with hlt | hge
      · obtain ⟨hm, hk⟩ := h1 hlt
        have hDj := mask_closed hR hcl i o j ho hdeps hjl hm
        rw [runS_inn hj hd i (by omega) hlt (fun k' o' _ hne' ho' hd' => hne' (hR.uniq k' j o' oj t ho' hj hd' hd))]
        exact (h.inn j oj t hj hDj hd).1 (hok j hjl hk)
      · have hgt : i < j := by omega
        have hm := h2 hgt
        have hDj : D j = false := by
          cases hq : D j with
          | false => rfl
          | true =>
            have := mask_closed hR hcl j oj i hj (fun e he hb => hcl j oj e hj hq he hb) hil hm
            rw [hi] at this; cases this
        rw [runS_out i (by omega) (fun k' o' hk' ho' hd' => by have := hR.uniq k' j o' oj t ho' hj hd' hd; omega)]
        exact h.out t fun k' o' ho' hD' hd' => by
          have := hR.uniq k' j o' oj t ho' hj hd' hd
          subst this
          rw [hDj] at hD'; cases hD'
    · have hno : ∀ (k' : Nat) o', ops[k']? = some o' → o'.dst = some t → k' = i := fun k' o' ho' hd' => Classical.byContradiction fun hne => hex ⟨k', o', ho', hd', hne⟩
      rw [runS_out i (by omega) (fun k' o' hk' ho' hd' => by have := hno k' o' ho' hd'; omega)]
      exact h.out t fun k' o' ho' hD' hd' => by
        have := hno k' o' ho' hd'
        subst this
        rw [hi] at hD'; cases hD'
theorem wanted_ok (hR : RegOk ops M N) (hG : ∀ (j : Nat) o, ops[j]? = some o → RGood dr T O ops st0 j o) (hcl : Closed ops D) (h : RI P T O ops st0 N E w0 φ0 D φ a w) {i : Nat} {o : Oper} (ho : ops[i]? = some o)
    (hdeps : ∀ e ∈ o.after, Region.binds .any e = true → D e.on = true) : Region.wanted o (yielded ops a.tmps) = rPc T O ops st0 i := by
  have hil := (Array.getElem?_eq_some_iff.1 ho).1
  unfold Region.wanted
  cases hg : o.guard with
  | none => simp only; exact (pc_none hG ho hg).symm
  | some g =>
    obtain ⟨k, want⟩ := g
    obtain ⟨ok, d, b, h1, h2, h3, h4, h5⟩ := pc_some hR hG ho hg
    have hDk := mask_closed hR hcl i o k ho hdeps (by omega) (hR.guard i o k want ho hg).2
    obtain ⟨g1, g2⟩ := h.inn k ok d h1 hDk h2
    have hd : d < a.tmps.size := by rw [h.sz]; exact hR.dst k ok d h1 h2
    have hget : a.tmps[d]? = some (a.tmps.getD d undef) := by simp [Array.getD, hd]
    simp only [yielded, h1, Option.bind_some, h2, hget]
    rw [h5]
    cases hp : rPc T O ops st0 k with
    | true =>
      have := g1 hp
      rw [h3] at this
      rw [this.sc_inv]
      simp only [Bool.true_and]
      cases b <;> cases want <;> rfl
    | false =>
      rw [g2 hp]
      rfl
end
end
section
section
variable {dr : Bool} {P : Program} {T : TypeId → TE} {O : Nat → Orc} {ops : Array Oper} {st0 : St} {M : Array Nat} {N : Nat} {E : Prot} {w0 : World} {φ0 : Phi} {D : Nat → Bool} {φ : Phi} {a : Act} {w : World}
theorem RI.more (hR : RegOk ops M N) (h : RI P T O ops st0 N E w0 φ0 D φ a w) {i : Nat} {o : Oper} (ho : ops[i]? = some o) {φ' : Phi} {w' : World} {v : Value} (he : Ext w φ w' φ')
    (hv1 : rPc T O ops st0 i = true → V w' (E.up φ') (some φ') (rR T O ops st0 i).val v) (hv2 : rPc T O ops st0 i = false → v = undef)
    (hphi : ∀ id, φ' id ≠ none ↔ φ id ≠ none ∨ ((runS T O ops st0 i).1.nx ≤ id ∧ id < (runS T O ops st0 i).1.nx + (rR T O ops st0 i).new.length))
    (hst : ∃ m, m ≤ ops.size ∧ (∀ (s : Nat) o, ops[s]? = some o → (rR T O ops st0 s).put ≠ none → (plus D i s = true ↔ s < m)) ∧ (m < ops.size → (rR T O ops st0 m).put ≠ none) ∧
      HRel E (runS T O ops st0 m).1.H φ' w' ∧ ∀ id, (runS T O ops st0 m).1.nx ≤ id → φ' id = none) :
    RI P T O ops st0 N E w0 φ0 (plus D i) φ' (a.put o.dst v) w' := by
  have hd : ∀ k, o.dst = some k → k < a.tmps.size := fun k hk => by rw [h.sz]; exact hR.dst i o k ho hk
  refine ⟨?_, ?_, h.ext.trans he, h.old.ext he, fun t ht => ?_, fun j oj t hj hD hdj => ?_, fun j oj hj hD jj hjj => ?_, fun id hid => (hphi id).2 (.inl (h.lv id hid)), fun j oj hj hD jj hjj => ?_, hst⟩
  · rw [← h.sz]; cases o.dst <;> simp [Act.put]
  · rw [← h.df]; cases o.dst <;> rfl
  · rw [put_getD a _ v t hd, if_neg (ht i o ho (plus_iff.2 (.inl rfl)))]
    exact (h.out t fun j oj hj hD => ht j oj hj (plus_iff.2 (.inr hD))).ext he
  · by_cases hji : j = i
    · subst hji
      rw [ho] at hj
      simp only [Option.some.injEq] at hj
      subst hj
      rw [put_getD a _ v t hd, if_pos hdj]
      exact ⟨hv1, hv2⟩
    · have hDj : D j = true := (plus_iff.1 hD).resolve_left hji
      have hne : o.dst ≠ some t := fun e => hji (hR.uniq j i oj o t hj ho hdj e)
      rw [put_getD a _ v t hd, if_neg hne]
      obtain ⟨h1, h2⟩ := h.inn j oj t hj hDj hdj
      exact ⟨fun hp => (h1 hp).ext he, h2⟩
  · have hne : j ≠ i := by rintro rfl; rw [plus_iff.2 (.inl rfl)] at hD; cases hD
    have hDj : D j = false := by
      cases hq : D j with
      | false => rfl
      | true => rw [plus_iff.2 (.inr hq)] at hD; cases hD
    have hjl := (Array.getElem?_eq_some_iff.1 hj).1
    have hil := (Array.getElem?_eq_some_iff.1 ho).1
    apply Classical.byContradiction
    intro hn
    rcases (hphi _).1 hn with h1 | ⟨h1, h2⟩
    · exact h1 (h.al j oj hj hDj jj hjj)
    · rcases Nat.lt_or_ge j i with hlt | hge
      · have a1 := (runS_at (T := T) (O := O) (st0 := st0) hj).1
        have a2 := runS_nx (T := T) (O := O) (ops := ops) (st0 := st0) (j + 1) i (by omega) (by omega)
        omega
      · have a1 := (runS_at (T := T) (O := O) (st0 := st0) ho).1
        have a2 := runS_nx (T := T) (O := O) (ops := ops) (st0 := st0) (i + 1) j (by omega) (by omega)
        omega
  · rcases plus_iff.1 hD with rfl | hDj
    · exact (hphi _).2 (.inr ⟨by omega, by omega⟩)
    · exact (hphi _).2 (.inl (h.nw j oj hj hDj jj hjj))
theorem RI.live (h : RI P T O ops st0 N E w0 φ0 D φ a w) {i : Nat} (hi : i ≤ ops.size) (hD : ∀ s o, s < i → ops[s]? = some o → hardB (runS T O ops st0 s).1 o.op = true → D s = true) : ∀ id, id < (runS T O ops st0 i).1.nx → φ id ≠ none := by
  induction i with
  | zero => exact fun id hid => h.lv id hid
  | succ i ih =>
    intro id hid
    have ho : ops[i]? = some (ops[i]'(by omega)) := by simp [show i < ops.size by omega]
    have e := (runS_at (T := T) (O := O) (st0 := st0) ho).1
    rcases Nat.lt_or_ge id (runS T O ops st0 i).1.nx with hlt | hge
    · exact ih (by omega) (fun s o hs => hD s o (by omega)) id hlt
    · have hl : hardB (runS T O ops st0 i).1 (ops[i]'(by omega)).op = true := by
        have hr : rR T O ops st0 i = vop T (O i) (runS T O ops st0 i).1 (ops[i]'(by omega)).op := by simp only [rR, ho]
        refine hard_of (T := T) (O := O i) (st := (runS T O ops st0 i).1) (.inl ?_)
        rw [← hr]; omega
      have := h.nw i _ ho (hD i _ (by omega) ho hl) (id - (runS T O ops st0 i).1.nx) (by omega)
      rw [show (runS T O ops st0 i).1.nx + (id - (runS T O ops st0 i).1.nx) = id by omega] at this
      exact this
theorem nextPut : ∀ (n k : Nat), k + n = ops.size → ∃ m', k ≤ m' ∧ m' ≤ ops.size ∧ (∀ s, k ≤ s → s < m' → (rR T O ops st0 s).put = none) ∧ (m' < ops.size → (rR T O ops st0 m').put ≠ none)
  | 0, k, hk => ⟨k, Nat.le_refl _, by omega, fun s h1 h2 => by omega, fun h => by omega⟩
  | n + 1, k, hk => by
    by_cases hq : (rR T O ops st0 k).put = none
    · obtain ⟨m', a1, a2, a3, a4⟩ := nextPut n (k + 1) (by omega)
      refine ⟨m', by omega, a2, fun s h1 h2 => ?_, a4⟩
      by_cases hsk : s = k
      · subst hsk; exact hq
      · exact a3 s (by omega) h2
    · exact ⟨k, Nat.le_refl _, by omega, fun s h1 h2 => by omega, fun _ => hq⟩
theorem RI.step (hT : TOk P T) (hO : ∀ i, OrcOk P (O i)) (hR : RegOk ops (Region.before ops) N) (hG : ∀ (j : Nat) o, ops[j]? = some o → RGood dr T O ops st0 j o) (hcl : Closed ops D) (h : RI P T O ops st0 N E w0 φ0 D φ a w) {i : Nat} {o : Oper} (ho : ops[i]? = some o) (hi : D i = false)
    (hdeps : ∀ e ∈ o.after, Region.binds .any e = true → D e.on = true) (hsq : dr = false → ∀ s, s < ops.size → (D s = true ↔ s < i)) {K : Act → World → Prop} {Q : Exit → Act → World → Prop} (hK : ∀ φ' a' w', RI P T O ops st0 N E w0 φ0 (plus D i) φ' a' w' → K a' w') : wpOp P ops Q i K a w := by
  have hil := (Array.getElem?_eq_some_iff.1 ho).1
  have hwant := wanted_ok hR hG hcl h ho hdeps
  have hr : rR T O ops st0 i = vop T (O i) (runS T O ops st0 i).1 o.op := by simp only [rR, ho]
  unfold wpOp
  simp only [ho]
  rw [hwant]
  obtain ⟨m, hm, hput, hmp, hH, hfr⟩ := h.st
  have stay : (rR T O ops st0 i).put = none → ∀ (s : Nat) o', ops[s]? = some o' → (rR T O ops st0 s).put ≠ none → (plus D i s = true ↔ s < m) := fun hnp s o' hs hp => by
    rw [plus_iff]
    constructor
    · rintro (rfl | hD)
      · exact absurd hnp hp
      · exact (hput s o' hs hp).1 hD
    · intro hlt; exact .inr ((hput s o' hs hp).2 hlt)
  have still : (rR T O ops st0 i).new = [] → ∀ id, φ id ≠ none ↔ φ id ≠ none ∨ ((runS T O ops st0 i).1.nx ≤ id ∧ id < (runS T O ops st0 i).1.nx + (rR T O ops st0 i).new.length) := fun hn id => by
    rw [hn]
    exact ⟨.inl, fun h => h.resolve_right (by simp only [List.length_nil]; omega)⟩
  cases hpc : rPc T O ops st0 i with
  | false =>
    simp only [Bool.false_eq_true, if_false]
    have hg : o.guard ≠ none := fun e => by rw [pc_none hG ho e] at hpc; cases hpc
    obtain ⟨hnn, hnp⟩ := (hG i o ho).plain hg
    exact hK φ _ _ (h.more hR ho (Ext.refl _ _) (fun e => by rw [hpc] at e; cases e) (fun _ => rfl) (still hnn) ⟨m, hm, stay hnp, hmp, hH, hfr⟩)
  | true =>
    simp only [if_true]
    refine .inl ?_
    have hchk := (hG i o ho).chk hpc
    have hreads : ∀ (H : Nat → Ob), Reads w E φ { (runS T O ops st0 i).1 with H := H } a o.op := by
      intro H
      have hgi : ∀ j, j < ops.size → gImp ops ops.size i j = true → rPc T O ops st0 j = true := fun j hj hg => gImp_ok hR hG _ i j hil hj hg hpc
      have hval : ∀ y, St.val { (runS T O ops st0 i).1 with H := H } y = (runS T O ops st0 i).1.val y := by intro y; cases y <;> rfl
      by_cases hpk : ∃ c x y, o.op = .pick c x y
      · obtain ⟨c, x, y, e⟩ := hpk
        obtain ⟨r1, r2, r3⟩ := hR.pick i o c x y ho e
        rw [e]
        have hc := read_ok hR hcl h ho hi hdeps r1 hgi
        have hpick : ∀ (want : Bool) j, a.eval c = .bool want → j < ops.size → (gImp ops ops.size i j || pickOk ops ops.size i c want j) = true → rPc T O ops st0 j = true := by
          intro want j hev hj hq
          rw [Bool.or_eq_true] at hq
          rcases hq with hq | hq
          · exact hgi j hj hq
          · unfold pickOk at hq
            split at hq
            · rename_i k w' t hgj
              simp only [Bool.and_eq_true] at hq
              obtain ⟨⟨⟨q1, q2⟩, q3⟩, q4⟩ := hq
              have hw' : w' = want := by simpa using q1
              subst hw'
              have hoj : ops[j]? = some (ops[j]'hj) := by simp [hj]
              rw [hoj, Option.bind_some] at hgj
              obtain ⟨ok, d, b, h1, h2, h3, h4, h5⟩ := pc_some hR hG hoj hgj
              rw [h1, Option.bind_some, h2] at q2
              have hdt : d = t := by simpa using q2
              subst hdt
              have hki := Nat.le_of_ble_eq_true q4
              have hpk := hgi k (by omega) q3
              have hv : (runS T O ops st0 i).1.val (.tmp d) = .sc (.bool b) := by
                show (runS T O ops st0 i).1.t d = _
                rw [runS_inn h1 h2 i (by omega) hki (fun k' o' _ hne' ho' hd' => hne' (hR.uniq k' k o' ok d ho' h1 hd' h2))]
                exact h3
              rw [hv] at hc
              have hb := hc.sc_inv
              rw [hev] at hb
              simp only [Value.bool.injEq] at hb
              rw [h5, hpk, hb]
              simp
            · cases hq
        refine ⟨by rw [hval]; exact hc, fun hev => ?_, fun hev => ?_⟩
        · rw [hval]; exact read_ok hR hcl h ho hi hdeps r2 fun j hj hq => hpick true j hev hj hq
        · rw [hval]; exact read_ok hR hcl h ho hi hdeps r3 fun j hj hq => hpick false j hev hj hq
      · have hnp : ∀ c x y, o.op ≠ .pick c x y := fun c x y e => hpk ⟨c, x, y, e⟩
        have hall : ∀ y ∈ o.op.operands.toList, V w (E.up φ) (some φ) (St.val { (runS T O ops st0 i).1 with H := H } y) (a.eval y) := by
          intro y hy
          rw [hval]
          exact read_ok hR hcl h ho hi hdeps (hR.reads i o ho hnp y hy) hgi
        cases hop : o.op <;> first | (rw [hop] at hall; exact hall) | exact absurd hop (hnp _ _ _)
    cases hl : loudB (runS T O ops st0 i).1 o.op with
    | false =>
      obtain ⟨hnn, hnp⟩ := quiet_new (T := T) (O := O i) (st := (runS T O ops st0 i).1) hl
      rw [← hr] at hnn hnp
      have hvop : vop T (O i) { (runS T O ops st0 i).1 with H := (runS T O ops st0 m).1.H } o.op = rR T O ops st0 i := by rw [quiet_H hl, hr]
      have hok := vop_ok (st := { (runS T O ops st0 i).1 with H := (runS T O ops st0 m).1.H }) hT (hO i) hH (fun _ _ => rfl) h.old (hreads _) (by rw [hvop]; exact hchk)
      rw [hvop] at hok
      rcases hok with ⟨_, hq⟩ | ⟨H', h1, _⟩
      · refine hq (fun j hj => by rw [hnn] at hj; simp at hj) _ _ fun v w' pls hn hV => ?_
        have hpl : pls = [] := List.eq_nil_of_length_eq_zero (by rw [hn.len, hnn]; rfl)
        subst hpl
        rw [addP_nil] at hV
        exact hK φ _ _ (h.more hR ho (Ext.of_below hn.below) (fun _ => hV) (fun e => by rw [hpc] at e; cases e) (still hnn) ⟨m, hm, stay hnp, hmp, hH.below hn.below, hfr⟩)
      · rw [hnp] at h1; cases h1
    | true =>
    cases hso : softId (runS T O ops st0 i).1 o.op with
    | some id =>
      obtain ⟨hnn, hnp⟩ := soft_new (T := T) (O := O i) hso
      rw [← hr] at hnn hnp
      have hid : φ id ≠ none ∧ id < (runS T O ops st0 i).1.nx := by
        obtain ⟨t, x, hop, hlt, hv⟩ := soft_load hso
        refine ⟨?_, hlt⟩
        have hx := hreads (runS T O ops st0 i).1.H
        rw [hop] at hx
        have hx' : V w (E.up φ) (some φ) ((runS T O ops st0 i).1.val x) (a.eval x) := hx x (by simp [Op.operands])
        rcases hv with ⟨off, hv⟩ | ⟨g, sz, j, off, hv⟩
        · rw [hv] at hx'
          obtain ⟨b, hb, _⟩ := hx'.bp_inv
          rw [hb]; simp
        · rw [hv] at hx'
          obtain ⟨c, len, hd, b, hb, _⟩ := hx'.ep_inv
          rw [hb]; simp
      have hidm : id < (runS T O ops st0 m).1.nx := by
        rcases Nat.lt_or_ge id (runS T O ops st0 m).1.nx with h' | h'
        · exact h'
        · exact absurd (hfr id h') hid.1
      have hsame : (runS T O ops st0 m).1.H id = (runS T O ops st0 i).1.H id := by
        rcases Nat.le_total i m with him | hmi
        · refine runS_keep1 i m him hm hid.2 fun s os hs1 hs2 hs => ?_
          by_cases hq : (rR T O ops st0 s).put = none
          · exact .inl hq
          · have hDs := (hput s os hs hq).2 hs2
            have hsi : s ≠ i := by rintro rfl; exact hq hnp
            have hsl := (Array.getElem?_eq_some_iff.1 hs).1
            cases hdr : dr with
            | false => have := (hsq hdr s hsl).1 hDs; omega
            | true =>
              rcases ord_soft hdr hG hs hq ho hl hso with h' | ⟨h', _⟩
              · exact .inr h'
              · have hb := h' (by omega)
                have := mask_closed hR hcl s os i hs (fun e he hb' => hcl s os e hs hDs he hb') hil hb
                rw [hi] at this; cases this
        · refine (runS_keep1 m i hmi (Nat.le_of_lt hil) hidm fun s os hs1 hs2 hs => ?_).symm
          by_cases hq : (rR T O ops st0 s).put = none
          · exact .inl hq
          · have hDs : ¬ D s = true := fun hD => by have := (hput s os hs hq).1 hD; omega
            have hsl := (Array.getElem?_eq_some_iff.1 hs).1
            cases hdr : dr with
            | false => exact absurd ((hsq hdr s hsl).2 hs2) hDs
            | true =>
              rcases ord_soft hdr hG hs hq ho hl hso with h' | ⟨_, h'⟩
              · exact .inr h'
              · exact absurd (mask_closed hR hcl i o s ho hdeps hsl (h' hs2)) hDs
      have hvop : vop T (O i) { (runS T O ops st0 i).1 with H := (runS T O ops st0 m).1.H } o.op = rR T O ops st0 i := by rw [soft_H hso hsame, hr]
      have hok := vop_ok (st := { (runS T O ops st0 i).1 with H := (runS T O ops st0 m).1.H }) hT (hO i) hH (fun _ _ => rfl) h.old (hreads _) (by rw [hvop]; exact hchk)
      rw [hvop] at hok
      rcases hok with ⟨_, hq⟩ | ⟨H', h1, _⟩
      · refine hq (fun j hj => by rw [hnn] at hj; simp at hj) _ _ fun v w' pls hn hV => ?_
        have hpl : pls = [] := List.eq_nil_of_length_eq_zero (by rw [hn.len, hnn]; rfl)
        subst hpl
        rw [addP_nil] at hV
        exact hK φ _ _ (h.more hR ho (Ext.of_below hn.below) (fun _ => hV) (fun e => by rw [hpc] at e; cases e) (still hnn) ⟨m, hm, stay hnp, hmp, hH.below hn.below, hfr⟩)
      · rw [hnp] at h1; cases h1
    | none =>
      have hhd : hardB (runS T O ops st0 i).1 o.op = true := by unfold hardB; rw [hl, hso]; rfl
      have him : i ≤ m := by
        rcases Nat.lt_or_ge m i with hlt | hge
        · exfalso
          have hml : m < ops.size := by omega
          have hom : ops[m]? = some (ops[m]'hml) := by simp [hml]
          have hpm := hmp hml
          have : D m = true := by
            cases hdr : dr with
            | false => exact (hsq hdr m hml).2 hlt
            | true => exact mask_closed hR hcl i o m ho hdeps (by omega) ((ord_at hdr hG hom hpm ho hhd).2 hlt)
          have := (hput m _ hom hpm).1 this
          omega
        · exact hge
      have hnop : (rR T O ops st0 i).put = none → ∀ s o', i ≤ s → s < m → ops[s]? = some o' → (rR T O ops st0 s).put = none := by
        intro hip s o' hs1 hs2 hs
        apply Classical.byContradiction
        intro hq
        have hDs := (hput s o' hs hq).2 hs2
        by_cases hsi : s = i
        · subst hsi; exact hq hip
        · cases hdr : dr with
          | false => have := (hsq hdr s (by omega)).1 hDs; omega
          | true =>
            have hb := (ord_at hdr hG hs hq ho hhd).1 (by omega)
            have := mask_closed hR hcl s o' i hs (fun e he hb' => hcl s o' e hs hDs he hb') hil hb
            rw [hi] at this; cases this
      have key : ∀ {Hc : Nat → Ob}, HRel E Hc φ w → (∀ id, id < (runS T O ops st0 i).1.nx → Hc id = (runS T O ops st0 i).1.H id) → _ := fun {Hc} hHc hk =>
        vop_ok (st := (runS T O ops st0 i).1) (o := o) (a := a) (Hc := Hc) hT (hO i) hHc hk h.old (hreads _) (by rw [← hr]; exact hchk)
      by_cases hip : (rR T O ops st0 i).put = none
      · have hnop' := hnop hip
        have hkeep := runS_keep (T := T) (O := O) (st0 := st0) i m him hm hnop'
        have hok := key hH hkeep
        rw [← hr] at hok
        rcases hok with ⟨_, hq⟩ | ⟨H', h1, _⟩
        · have hal := h.al i o ho hi
          refine hq hal _ _ fun v w' pls hn hV => ?_
          have hext := hn.ext hal
          have hphi : ∀ id, addP φ (runS T O ops st0 i).1.nx pls id ≠ none ↔ φ id ≠ none ∨ ((runS T O ops st0 i).1.nx ≤ id ∧ id < (runS T O ops st0 i).1.nx + (rR T O ops st0 i).new.length) := by
            intro id
            rw [← hn.len]
            by_cases hc : (runS T O ops st0 i).1.nx ≤ id ∧ id < (runS T O ops st0 i).1.nx + pls.length
            · refine ⟨fun _ => .inr hc, fun _ => ?_⟩
              unfold addP
              rw [if_pos hc, List.getElem?_eq_getElem (by omega)]
              simp
            · unfold addP
              rw [if_neg hc]
              exact ⟨.inl, fun h => h.resolve_right hc⟩
          have him1 : i + 1 ≤ m := by
            rcases Nat.lt_or_ge i m with hlt | hge
            · exact hlt
            · exfalso
              obtain rfl : i = m := by omega
              exact hmp hil hip
          have n4 := runS_keep (T := T) (O := O) (st0 := st0) (i + 1) m him1 hm (fun s o' hs1 hs2 hs => hnop' s o' (by omega) hs2 hs)
          have n5 := runS_nx (T := T) (O := O) (ops := ops) (st0 := st0) (i + 1) m him1 hm
          have n6 := (runS_at (T := T) (O := O) (st0 := st0) ho).1
          refine hK _ _ _ (h.more hR ho hext (fun _ => hV) (fun e => by rw [hpc] at e; cases e) hphi ⟨m, hm, stay hip, hmp, hH.news h.old.lt hn hal (fun _ _ => rfl) (fun j ob hj => ?_), fun k hk => ?_⟩)
          · have hjl := (List.getElem?_eq_some_iff.1 hj).1
            rw [n4 _ (by omega)]
            exact runS_new ho hj
          · rw [addP_out (.inr (by rw [hn.len]; omega))]
            exact hfr k (by omega)
        · rw [hip] at h1; cases h1
      ·
        have hmi : m = i := by
          rcases Nat.lt_or_ge i m with hlt | hge
          · have := (hput i o ho hip).2 hlt; rw [hi] at this; cases this
          · omega
        subst hmi
        have hok := key hH (fun _ _ => rfl)
        rw [← hr] at hok
        rcases hok with ⟨h1, _⟩ | ⟨H', h1, hq⟩
        · exact absurd h1 hip
        have hlive := h.live hm (fun s o' hs hos hl' => by
          cases hdr : dr with
          | false => exact (hsq hdr s (by omega)).2 hs
          | true =>
            have := (ord_at hdr hG ho hip hos hl').1 hs
            exact mask_closed hR hcl m o s ho hdeps (by omega) this)
        obtain ⟨m', hm1, hm2, hm3, hm4⟩ : ∃ m', m < m' ∧ m' ≤ ops.size ∧ (∀ s, m < s → s < m' → (rR T O ops st0 s).put = none) ∧ (m' < ops.size → (rR T O ops st0 m').put ≠ none) := by
          obtain ⟨m', a1, a2, a3, a4⟩ := nextPut (T := T) (O := O) (ops := ops) (st0 := st0) (ops.size - (m + 1)) (m + 1) (by omega)
          exact ⟨m', by omega, a2, fun s h1 h2 => a3 s (by omega) h2, a4⟩
        have n4 := runS_keep (T := T) (O := O) (st0 := st0) (m + 1) m' hm1 hm2 (fun s o' hs1 hs2 hs => hm3 s (by omega) hs2)
        have n5 := runS_nx (T := T) (O := O) (ops := ops) (st0 := st0) (m + 1) m' hm1 hm2
        obtain ⟨n6, n7⟩ := runS_at (T := T) (O := O) (st0 := st0) ho
        have hbase : (rR T O ops st0 m).base (runS T O ops st0 m).1 = H' := by unfold Res.base; rw [h1]
        rw [hbase] at n7
        refine hq hfr hlive hH _ _ fun v w' φ' g1 g2 g3 g4 => ?_
        have hin : ∀ k, φ' k ≠ none → k < (runS T O ops st0 (m + 1)).1.nx := by
          intro k hk
          rcases (g3 k).1 hk with h' | h'
          · rcases Nat.lt_or_ge k (runS T O ops st0 m).1.nx with h'' | h''
            · omega
            · exact absurd (hfr k h'') h'
          · omega
        refine hK _ _ _ (h.more hR ho g2 (fun _ => g4) (fun e => absurd e (by rw [hpc]; simp)) g3 ⟨m', hm2, fun s o' hs' hp => ?_, hm4, g1.congr fun k hk => ?_, fun k hk => ?_⟩)
        · rw [plus_iff]
          constructor
          · rintro (rfl | hD)
            · exact hm1
            · have := (hput s o' hs' hp).1 hD; omega
          · intro hlt
            by_cases hsm : s = m
            · exact .inl hsm
            · rcases Nat.lt_or_ge s m with h' | h'
              · exact .inr ((hput s o' hs' hp).2 h')
              · exact absurd (hm3 s (by omega) hlt) hp
        · rw [n4 k (hin k hk), n7]
        · apply Classical.byContradiction
          intro hk'
          have := hin k hk'
          omega
end
end
section
structure Rel (N : Nat) (E : Prot) (st : St) (φ : Phi) (a : Act) (w : World) : Prop where
  sz : a.tmps.size = N
  df : a.defers = []
  old : Old E φ w
  tm : ∀ t, V w (E.up φ) (some φ) (st.t t) (a.tmps.getD t undef)
  hp : HRel E st.H φ w
  fr : ∀ id, st.nx ≤ id → φ id = none
  lv : ∀ id, id < st.nx → φ id ≠ none
def gdOf (ops : Array Oper) : List Nat := ops.toList.filterMap fun o => bif o.guard.isSome then o.dst else none
def clr (ops : Array Oper) (st : St) : St :=
  match gdOf ops with
  | [] => st
  | l => { st with t := fun i => bif l.any (Nat.beq i) then .dead else st.t i }
theorem Rel.drew {N : Nat} {E : Prot} {st : St} {φ : Phi} {a : Act} {w : World} (h : Rel N E st φ a w) : Rel N E st φ a { w with drawn := w.drawn + 1 } ∧ Ext w φ { w with drawn := w.drawn + 1 } φ := by
  have he : Ext w φ { w with drawn := w.drawn + 1 } φ := ⟨rfl, rfl, rfl, Nat.le_refl _, fun _ _ _ => rfl, PhiUp.refl φ, fun _ h => .inl h⟩
  exact ⟨⟨h.sz, h.df, h.old.ext he, fun t => (h.tm t).ext he, h.hp.same he fun _ _ => rfl, h.fr, h.lv⟩, he⟩
theorem countP_lt {p q : Nat → Bool} (hpq : ∀ x, q x = true → p x = true) {i : Nat} (hp : p i = true) (hq : q i = false) : ∀ (l : List Nat), i ∈ l → l.countP q < l.countP p
  | [], h => by simp at h
  | x :: l, h => by
    have hle : l.countP q ≤ l.countP p := List.countP_mono_left fun x _ => hpq x
    rcases List.mem_cons.1 h with rfl | h
    · rw [List.countP_cons_of_neg (by simp [hq]), List.countP_cons_of_pos hp]; omega
    · have ih := countP_lt hpq hp hq l h
      cases hx : q x with
      | true => rw [List.countP_cons_of_pos hx, List.countP_cons_of_pos (hpq x hx)]; omega
      | false =>
        rw [List.countP_cons_of_neg (by simp [hx])]
        cases hx' : p x with
        | true => rw [List.countP_cons_of_pos hx']; omega
        | false => rw [List.countP_cons_of_neg (by simp [hx'])]; exact ih
section
variable {dr : Bool} {P : Program} {T : TypeId → TE} {O : Nat → Orc} {ops : Array Oper} {st0 : St} {N : Nat} {E : Prot} {w0 : World} {φ0 : Phi} {M : Array Nat}
theorem RI.start {a : Act} (h : Rel N E st0 φ0 a w0) : RI P T O ops st0 N E w0 φ0 (fun _ => false) φ0 a w0 := by
  obtain ⟨m, _, a2, a3, a4⟩ := nextPut (T := T) (O := O) (ops := ops) (st0 := st0) ops.size 0 (by omega)
  have n3 := runS_nx (T := T) (O := O) (ops := ops) (st0 := st0) 0 m (Nat.zero_le _) a2
  have n4 := runS_keep (T := T) (O := O) (ops := ops) (st0 := st0) 0 m (Nat.zero_le _) a2 (fun s o' hs1 hs2 hs => a3 s (by omega) hs2)
  refine ⟨h.sz, h.df, Ext.refl _ _, h.old, fun t _ => h.tm t, fun i o t _ hD => by (simp at hD), fun i o ho _ j hj => ?_, h.lv, fun i o _ hD => by (simp at hD), m, a2, fun s o ho hp => ?_, a4, ?_, fun id hid => h.fr id (Nat.le_trans n3 hid)⟩
  · have n5 := runS_nx (T := T) (O := O) (ops := ops) (st0 := st0) 0 i (Nat.zero_le _) (Nat.le_of_lt (Array.getElem?_eq_some_iff.1 ho).1)
    exact h.fr _ (Nat.le_trans n5 (Nat.le_add_right _ _))
  · constructor
    · intro h; simp at h
    · intro hlt; exact absurd (a3 s (by omega) hlt) hp
  · refine h.hp.congr fun k hk => n4 k ?_
    rcases Nat.lt_or_ge k st0.nx with h' | h'
    · exact h'
    · exact absurd (h.fr k h') hk
theorem RI.finish (hR : RegOk ops M N) (hG : ∀ (j : Nat) o, ops[j]? = some o → RGood dr T O ops st0 j o) {D : Nat → Bool} (hD : ∀ i, i < ops.size → D i = true) {φ : Phi} {a : Act} {w : World} (h : RI P T O ops st0 N E w0 φ0 D φ a w) :
    Rel N E (clr ops (runS T O ops st0 ops.size).1) φ a w := by
  obtain ⟨m, hm, hput, hmp, hH, hfr⟩ := h.st
  have hmn : m = ops.size := by
    rcases Nat.lt_or_ge m ops.size with hlt | hge
    · have ho : ops[m]? = some (ops[m]'hlt) := by simp [hlt]
      have := (hput m _ ho (hmp hlt)).1 (hD m hlt)
      omega
    · omega
  subst hmn
  have hclr : (clr ops (runS T O ops st0 ops.size).1).H = (runS T O ops st0 ops.size).1.H ∧ (clr ops (runS T O ops st0 ops.size).1).nx = (runS T O ops st0 ops.size).1.nx := by unfold clr; split <;> exact ⟨rfl, rfl⟩
  have htm : ∀ t, (∀ (i : Nat) o, ops[i]? = some o → o.dst = some t → o.guard = none) → V w (E.up φ) (some φ) ((runS T O ops st0 ops.size).1.t t) (a.tmps.getD t undef) := by
    intro t ht
    by_cases hex : ∃ (i : Nat) (o : Oper), ops[i]? = some o ∧ o.dst = some t
    · obtain ⟨i, o, ho, hd⟩ := hex
      have hil := (Array.getElem?_eq_some_iff.1 ho).1
      rw [runS_inn ho hd _ (Nat.le_refl _) hil (fun k o' _ hne ho' hd' => hne (hR.uniq k i o' o t ho' ho hd' hd))]
      exact (h.inn i o t ho (hD i hil) hd).1 (pc_none hG ho (ht i o ho hd))
    · rw [runS_out _ (Nat.le_refl _) (fun i (o : Oper) _ ho hd => hex ⟨i, o, ho, hd⟩)]
      exact h.out t fun i o ho _ hd => hex ⟨i, o, ho, hd⟩
  refine ⟨h.sz, h.df, h.old, fun t => ?_, by rw [hclr.1]; exact hH, by rw [hclr.2]; exact hfr, by rw [hclr.2]; exact h.live (Nat.le_refl _) fun s o hs _ _ => hD s hs⟩
  have hno : (gdOf ops).any (Nat.beq t) = false → V w (E.up φ) (some φ) ((runS T O ops st0 ops.size).1.t t) (a.tmps.getD t undef) := by
    intro hno
    refine htm t fun i o ho hd => ?_
    cases hg : o.guard with
    | none => rfl
    | some g =>
      exfalso
      have hmem : t ∈ gdOf ops := by
        unfold gdOf
        rw [List.mem_filterMap]
        exact ⟨o, by have := Array.mem_of_getElem? ho; simpa using this, by simp [hg, hd]⟩
      have := List.any_eq_false.1 hno t hmem
      simp at this
  unfold clr
  split
  · rename_i hl; exact hno (by rw [hl]; rfl)
  · show V w _ _ (bif (gdOf ops).any (Nat.beq t) then VV.dead else _) _
    cases hq : (gdOf ops).any (Nat.beq t) with
    | true => exact .dead
    | false => exact hno hq
theorem any_ok (hdr : dr = true) (hT : TOk P T) (hO : ∀ i, OrcOk P (O i)) (hR : RegOk ops (Region.before ops) N) (hG : ∀ (j : Nat) o, ops[j]? = some o → RGood dr T O ops st0 j o) {Q : Exit → Act → World → Prop}
    (hQ : ∀ D φ a w, (∀ i, i < ops.size → D i = true) → RI P T O ops st0 N E w0 φ0 D φ a w → Q .normal a w) :
    ∀ (fuel : Nat) (listed : Array Bool) (φ : Phi) (a : Act) (w : World), listed.size = ops.size → Closed ops (fun i => listed.getD i false) → (List.range ops.size).countP (fun i => !listed.getD i false) ≤ fuel →
      RI P T O ops st0 N E w0 φ0 (fun i => listed.getD i false) φ a w → wpAny P .any ops Q fuel listed a w := by
  have hnil : ∀ (listed : Array Bool), listed.size = ops.size → Region.ready .any ops listed = [] → ∀ i, i < ops.size → listed.getD i false = true := by
    intro listed hs hr i
    induction i using Nat.strongRecOn with
    | _ i ih =>
      intro hi
      cases hq : listed.getD i false with
      | true => rfl
      | false =>
        exfalso
        have ho : ops[i]? = some (ops[i]'hi) := by simp [hi]
        have hil : i < listed.size := by omega
        have : i ∈ Region.ready .any ops listed := mem_ready.2 ⟨by simp [Array.getD, hil] at hq ⊢; exact hq, _, ho, fun e he hb => ih e.on (hR.low i _ e ho he hb) (by have := hR.low i _ e ho he hb; omega)⟩
        rw [hr] at this
        simp at this
  intro fuel
  induction fuel with
  | zero =>
    intro listed φ a w hs hcl hc h
    have hall : ∀ i, i < ops.size → listed.getD i false = true := by
      intro i hi
      have := List.countP_eq_zero.1 (Nat.le_zero.1 hc) i (List.mem_range.2 hi)
      simpa using this
    refine ⟨?_, hQ _ φ a w hall h⟩
    rw [List.eq_nil_iff_forall_not_mem]
    intro j hj
    obtain ⟨h0, o, ho, _⟩ := mem_ready.1 hj
    have hjl : j < listed.size := by rw [hs]; exact (Array.getElem?_eq_some_iff.1 ho).1
    have := hall j (by omega)
    simp [Array.getD, hjl] at h0 this
    rw [h0] at this
    simp at this
  | succ fuel ih =>
    intro listed φ a w hs hcl hc h
    refine ⟨fun hr => hQ _ φ a w (hnil listed hs hr) h, fun i hi => ?_⟩
    obtain ⟨h0, o, ho, hdeps⟩ := mem_ready.1 hi
    have hil : i < ops.size := (Array.getElem?_eq_some_iff.1 ho).1
    have hif : listed.getD i false = false := by
      have : i < listed.size := by omega
      simp [Array.getD, this] at h0 ⊢; exact h0
    have hplus : (fun j => (listed.setIfInBounds i true).getD j false) = plus (fun j => listed.getD j false) i := by
      funext j
      simp only [plus]
      by_cases hji : j = i
      · subst hji; simp [Array.getD, show j < listed.size by omega]
      · rw [getD_set_ne false (Ne.symm hji)]; simp [hji]
    refine h.step hT hO hR hG hcl ho hif hdeps (fun e => by rw [hdr] at e; cases e) fun φ' a' w' h' => ih _ φ' a' w' (by simpa using hs) ?_ ?_ (by rw [hplus]; exact h')
    · rw [hplus]
      intro k ok e hk hD he hb
      rcases plus_iff.1 hD with rfl | hD
      · rw [ho] at hk
        simp only [Option.some.injEq] at hk
        subst hk
        exact plus_iff.2 (.inr (hdeps e he hb))
      · exact plus_iff.2 (.inr (hcl k ok e hk hD he hb))
    · have hlt := countP_lt (p := fun j => !listed.getD j false) (q := fun j => !(listed.setIfInBounds i true).getD j false) (fun x hx => by
        have e : (listed.setIfInBounds i true).getD x false = plus (fun j => listed.getD j false) i x := congrFun hplus x
        simp only [e, plus, Bool.not_or, Bool.and_eq_true] at hx
        exact hx.2) (i := i) (by simp only [hif, Bool.not_false]) (by
          have e : (listed.setIfInBounds i true).getD i false = plus (fun j => listed.getD j false) i i := congrFun hplus i
          simp only [e, plus, beq_self_eq_true, Bool.true_or, Bool.not_true]) (List.range ops.size) (List.mem_range.2 hil)
      omega
theorem ops_ok (hT : TOk P T) (hO : ∀ i, OrcOk P (O i)) (hR : RegOk ops (Region.before ops) N) (hG : ∀ (j : Nat) o, ops[j]? = some o → RGood dr T O ops st0 j o) {Q : Exit → Act → World → Prop}
    (hQ : ∀ D φ a w, (∀ i, i < ops.size → D i = true) → RI P T O ops st0 N E w0 φ0 D φ a w → Q .normal a w) :
    ∀ (n k : Nat) (φ : Phi) (a : Act) (w : World), k + n = ops.size → RI P T O ops st0 N E w0 φ0 (fun i => decide (i < k)) φ a w → wpOps P ops Q (List.range' k n) a w
  | 0, k, φ, a, w, hk, h => hQ _ φ a w (fun i hi => by simp; omega) h
  | n + 1, k, φ, a, w, hk, h => by
    rw [List.range'_succ, wpOps_cons]
    have ho : ops[k]? = some (ops[k]'(by omega)) := by simp [show k < ops.size by omega]
    have hcl : Closed ops (fun i => decide (i < k)) := by
      intro i o e hi hD he hb
      have := hR.low i o e hi he hb
      simp at hD ⊢; omega
    refine h.step hT hO hR hG hcl ho (by simp) (fun e he hb => by have := hR.low k _ e ho he hb; simpa using this) (fun _ s _ => by simp) fun φ' a' w' h' => ops_ok hT hO hR hG hQ n (k + 1) φ' a' w' (by omega) ?_
    have e : (fun i => decide (i < k + 1)) = plus (fun i => decide (i < k)) k := by
      funext i
      simp only [plus]
      by_cases hik : i = k
      · subst hik; simp
      · have : (i < k + 1) ↔ i < k := by omega
        simp [this, hik]
    rw [e]; exact h'
theorem region_ok (hT : TOk P T) (hO : ∀ i, OrcOk P (O i)) (hmx : P.follows .mixedOrders = true) (hB : regB ops N = true) {K : St → Prop} {id : Nat} {draw : Bool} {a : Act} (h : xops T O draw ops 0 ops.toList st0 [] [] fun st' => K (clr ops st')) (hrel : Rel N E st0 φ0 a w0) :
    (Code.region id ops draw).wp P (fun e a' w' => e = .normal ∧ ∃ st' φ', K st' ∧ Rel N E st' φ' a' w' ∧ Ext w0 φ0 w' φ') a w0 := by
  have hR := regOk_of hB
  obtain ⟨hG', hK⟩ := xops_good (T := T) (O := O) (st0 := st0) ops.toList 0 (by simp) (Nat.zero_le _) h
  have hG : ∀ (j : Nat) o, ops[j]? = some o → RGood draw T O ops st0 j o := fun j o => hG' j o (Nat.zero_le _)
  cases draw with
  | false =>
    refine wp_region ?_
    rw [List.range_eq_range']
    refine ops_ok hT hO hR hG (fun D φ a w hD hI => ⟨rfl, _, φ, hK, hI.finish hR hG hD, hI.ext⟩) ops.size 0 φ0 a w0 (by omega) ?_
    have e : (fun i => decide (i < 0)) = fun _ => false := by funext i; simp
    rw [e]; exact RI.start hrel
  | true =>
    obtain ⟨hrel', hext⟩ := hrel.drew
    refine wp_region_any hmx ?_
    refine any_ok rfl hT hO hR hG (w0 := { w0 with drawn := w0.drawn + 1 }) (φ0 := φ0) (fun D φ a w hD hI => ⟨rfl, _, φ, hK, hI.finish hR hG hD, hext.trans hI.ext⟩) ops.size _ φ0 a _ (by simp) ?_ ?_ ?_
    · intro i o e hi hD
      have h0 : (Array.replicate ops.size false).getD i false = false := by simp [Array.getD]
      exact absurd (h0.symm.trans hD) (by simp)
    · have := List.countP_le_length (p := fun i => !(Array.replicate ops.size false).getD i false) (l := List.range ops.size)
      simpa using this
    · have e : (fun i => (Array.replicate ops.size false).getD i false) = fun _ => false := by funext i; simp [Array.getD]
      rw [e]; exact RI.start hrel'
end
structure Shp where
  α : Type
  enc : α → List Ob × VV
  lend : Bool := false
abbrev Shs := FuncId → Shp
def Shs.ld (Sh : Shs) : FuncId → Bool := fun f => (Sh f).lend
def noOrc (ld : FuncId → Bool) (g : Bool) : Orc := ⟨ld, fun _ _ _ => (([], .dead), [False]), g⟩
theorem noOrc_lend (ld : FuncId → Bool) (g : Bool) : (noOrc ld g).lend = ld := rfl
def xopsE (P : Program) (T : TypeId → TE) (Sh : Shs) (dr : Bool) (ops : Array Oper) : Nat → List Oper → St → List Bool → List Fl → (St → Prop) → Prop
  | _, [], st, _, _, K => K st
  | k, o :: rest, st, pcs, fl, K =>
    match vguard ops st pcs o with
    | none => False
    | some pc =>
      match vtarget Sh.ld st o.op, o.guard with
      | some q, none => ∃ y : (Sh q.1).α, VSpec P q.1 q.2.2.1 q.2.2.2 ((Sh q.1).enc y).1 ((Sh q.1).enc y).2 ∧
          (bif okOrd dr ops fl k ((vback st (Sh.ld q.1) q.2.1 ((Sh q.1).enc y).1 ((Sh q.1).enc y).2).flag (loudB st o.op) (softId st o.op) (tchOf Sh.ld st o.op)) then
            conj (vback st (Sh.ld q.1) q.2.1 ((Sh q.1).enc y).1 ((Sh q.1).enc y).2).chk
              (xopsE P T Sh dr ops (k + 1) rest (st.after o (vback st (Sh.ld q.1) q.2.1 ((Sh q.1).enc y).1 ((Sh q.1).enc y).2)) (pcs ++ [pc]) (fl ++ [(vback st (Sh.ld q.1) q.2.1 ((Sh q.1).enc y).1 ((Sh q.1).enc y).2).flag (loudB st o.op) (softId st o.op) (tchOf Sh.ld st o.op)]) K) else False)
      | some q, some _ => ∃ y : (Sh q.1).α, (pc = true → VSpec P q.1 q.2.2.1 q.2.2.2 ((Sh q.1).enc y).1 ((Sh q.1).enc y).2) ∧
          (bif okOrd dr ops fl k ((vback st (Sh.ld q.1) q.2.1 ((Sh q.1).enc y).1 ((Sh q.1).enc y).2).flag (loudB st o.op) (softId st o.op) (tchOf Sh.ld st o.op)) then
          match (vback st (Sh.ld q.1) q.2.1 ((Sh q.1).enc y).1 ((Sh q.1).enc y).2).new, (vback st (Sh.ld q.1) q.2.1 ((Sh q.1).enc y).1 ((Sh q.1).enc y).2).put, (vback st (Sh.ld q.1) q.2.1 ((Sh q.1).enc y).1 ((Sh q.1).enc y).2).chk with
          | [], none, [] => xopsE P T Sh dr ops (k + 1) rest (st.after o (vback st (Sh.ld q.1) q.2.1 ((Sh q.1).enc y).1 ((Sh q.1).enc y).2)) (pcs ++ [pc]) (fl ++ [(vback st (Sh.ld q.1) q.2.1 ((Sh q.1).enc y).1 ((Sh q.1).enc y).2).flag (loudB st o.op) (softId st o.op) (tchOf Sh.ld st o.op)]) K
          | _, _, _ => False
          else False)
      | none, g =>
        bif okOrd dr ops fl k ((vop T (noOrc Sh.ld g.isSome) st o.op).flag (loudB st o.op) (softId st o.op) (tchOf Sh.ld st o.op)) then
          match g, (vop T (noOrc Sh.ld g.isSome) st o.op).new, (vop T (noOrc Sh.ld g.isSome) st o.op).put with
          | none, _, _ => conj (vop T (noOrc Sh.ld g.isSome) st o.op).chk (xopsE P T Sh dr ops (k + 1) rest (st.after o (vop T (noOrc Sh.ld g.isSome) st o.op)) (pcs ++ [pc]) (fl ++ [(vop T (noOrc Sh.ld g.isSome) st o.op).flag (loudB st o.op) (softId st o.op) (tchOf Sh.ld st o.op)]) K)
          | some _, [], none => conjIf pc (vop T (noOrc Sh.ld g.isSome) st o.op).chk (xopsE P T Sh dr ops (k + 1) rest (st.after o (vop T (noOrc Sh.ld g.isSome) st o.op)) (pcs ++ [pc]) (fl ++ [(vop T (noOrc Sh.ld g.isSome) st o.op).flag (loudB st o.op) (softId st o.op) (tchOf Sh.ld st o.op)]) K)
          | _, _, _ => False
        else False
theorem vop_target {T : TypeId → TE} {O : Orc} {st : St} {op : Op} {q : FuncId × List Nat × List Ob × List VV} (h : vtarget O.lend st op = some q) :
    vop T O st op = (vback st (O.lend q.1) q.2.1 (O.run q.1 q.2.2.1 q.2.2.2).1.1 (O.run q.1 q.2.2.1 q.2.2.2).1.2).also (O.run q.1 q.2.2.1 q.2.2.2).2 := by
  cases op <;> simp only [vtarget, reduceCtorEq] at h
  rename_i c
  split at h
  · rename_i f hf
    simp only [vop, hf, vcall, h]
  · cases h
theorem conj_mk {K : Prop} : ∀ {l : List Prop}, (∀ p ∈ l, p) → K → conj l K
  | [], _, hk => hk
  | p :: _, h, hk => ⟨h p (List.mem_cons_self ..), conj_mk (fun q hq => h q (List.mem_cons_of_mem _ hq)) hk⟩
theorem conjIf_mk {pc : Bool} {K : Prop} : ∀ {l : List Prop}, (pc = true → ∀ p ∈ l, p) → K → conjIf pc l K
  | [], _, hk => hk
  | p :: _, h, hk => ⟨fun hpc => h hpc p (List.mem_cons_self ..), conjIf_mk (fun hpc q hq => h hpc q (List.mem_cons_of_mem _ hq)) hk⟩
theorem xops_congr {dr : Bool} {T : TypeId → TE} {O O' : Nat → Orc} {ops : Array Oper} {K : St → Prop} : ∀ (l : List Oper) (k : Nat) (st : St) (pcs : List Bool) (fl : List Fl), (∀ i, k ≤ i → O i = O' i) → xops T O dr ops k l st pcs fl K → xops T O' dr ops k l st pcs fl K
  | [], _, _, _, _, _, h => h
  | o :: rest, k, st, pcs, fl, he, h => by
    have e := he k (Nat.le_refl _)
    simp only [xops] at h ⊢
    split
    · rename_i hg; rw [hg] at h; exact h
    · rename_i pc hg
      rw [hg] at h
      simp only at h
      rw [← e]
      cases hpu : okOrd dr ops fl k ((vop T (O k) st o.op).flag (loudB st o.op) (softId st o.op) (tchOf (O k).lend st o.op)) with
      | false => rw [hpu] at h; exact h.elim
      | true =>
        rw [hpu] at h
        simp only [cond_true] at h ⊢
        split
        · rename_i hgd
          rw [hgd] at h
          simp only at h
          obtain ⟨h1, h2⟩ := conj_iff h
          exact conj_mk h1 (xops_congr rest (k + 1) _ _ _ (fun i hi => he i (by omega)) h2)
        · rename_i gd hgd hn hp
          rw [hgd, hn, hp] at h
          simp only at h
          obtain ⟨h1, h2⟩ := conjIf_iff h
          exact conjIf_mk h1 (xops_congr rest (k + 1) _ _ _ (fun i hi => he i (by omega)) h2)
        · rename_i x1 x2
          split at h
          · rename_i hgd; exact absurd hgd x1
          · rename_i gd hgd hn hp; exact absurd hp (x2 gd hgd hn)
          · exact h.elim
theorem xopsE_xops {dr : Bool} {P : Program} {T : TypeId → TE} {Sh : Shs} {ops : Array Oper} {K : St → Prop} : ∀ (l : List Oper) (k : Nat) (st : St) (pcs : List Bool) (fl : List Fl), xopsE P T Sh dr ops k l st pcs fl K →
    ∃ O : Nat → Orc, (∀ i, OrcOk P (O i)) ∧ xops T O dr ops k l st pcs fl K
  | [], _, _, _, _, h => ⟨fun _ => noOrc Sh.ld false, fun _ f hs xs h => (h False (by simp [noOrc])).elim, h⟩
  | o :: rest, k, st, pcs, fl, h => by
    simp only [xopsE] at h
    split at h
    · exact h.elim
    · rename_i pc hg
      have fin : ∀ (Ok : Orc), OrcOk P Ok → ∀ (O' : Nat → Orc), (∀ i, OrcOk P (O' i)) → ∃ O : Nat → Orc, (∀ i, OrcOk P (O i)) ∧ O k = Ok ∧ ∀ i, k + 1 ≤ i → O' i = O i := by
        intro Ok h1 O' h2
        refine ⟨fun i => if i = k then Ok else O' i, fun i => ?_, if_pos rfl, fun i hi => (if_neg (by omega)).symm⟩
        show OrcOk P (if i = k then Ok else O' i)
        split
        · exact h1
        · exact h2 i
      split at h
      · rename_i q hq hgd
        obtain ⟨y, hy, hk⟩ := h
        cases hpu : okOrd dr ops fl k ((vback st (Sh.ld q.1) q.2.1 ((Sh q.1).enc y).1 ((Sh q.1).enc y).2).flag (loudB st o.op) (softId st o.op) (tchOf Sh.ld st o.op)) with
        | false => rw [hpu] at hk; exact hk.elim
        | true =>
          rw [hpu] at hk
          simp only [cond_true] at hk
          obtain ⟨hc1, hc2⟩ := conj_iff hk
          obtain ⟨O', h2, h3⟩ := xopsE_xops rest (k + 1) _ _ _ hc2
          obtain ⟨O, o1, o2, o3⟩ := fin ⟨Sh.ld, fun f hs ys => ((Sh q.1).enc y, [VSpec P f hs ys ((Sh q.1).enc y).1 ((Sh q.1).enc y).2]), false⟩ (fun f hs ys hp => hp _ (List.mem_cons_self ..)) O' h2
          refine ⟨O, o1, ?_⟩
          have ev : vop T (O k) st o.op = (vback st (Sh.ld q.1) q.2.1 ((Sh q.1).enc y).1 ((Sh q.1).enc y).2).also [VSpec P q.1 q.2.2.1 q.2.2.2 ((Sh q.1).enc y).1 ((Sh q.1).enc y).2] := by
            rw [o2]
            exact vop_target (O := ⟨Sh.ld, fun f hs ys => ((Sh q.1).enc y, [VSpec P f hs ys ((Sh q.1).enc y).1 ((Sh q.1).enc y).2]), false⟩) hq
          have ep : ∀ ps, okOrd dr ops fl k (((vback st (Sh.ld q.1) q.2.1 ((Sh q.1).enc y).1 ((Sh q.1).enc y).2).also ps).flag (loudB st o.op) (softId st o.op) (tchOf Sh.ld st o.op)) = true := fun ps => hpu
          have el : (O k).lend = Sh.ld := by rw [o2]
          simp only [xops, hg, hgd, ev, el, ep, cond_true]
          refine conj_mk ?_ (xops_congr rest (k + 1) _ _ _ o3 h3)
          intro p hp
          rcases List.mem_append.1 hp with hp | hp
          · exact hc1 p hp
          · simp only [List.mem_singleton] at hp; subst hp; exact hy
      · rename_i q gd hq hgd
        obtain ⟨y, hy, hk⟩ := h
        cases hpu : okOrd dr ops fl k ((vback st (Sh.ld q.1) q.2.1 ((Sh q.1).enc y).1 ((Sh q.1).enc y).2).flag (loudB st o.op) (softId st o.op) (tchOf Sh.ld st o.op)) with
        | false => rw [hpu] at hk; exact hk.elim
        | true =>
        rw [hpu] at hk
        simp only [cond_true] at hk
        split at hk
        · rename_i e1 e2 e3
          obtain ⟨O', h2, h3⟩ := xopsE_xops rest (k + 1) _ _ _ hk
          obtain ⟨O, o1, o2, o3⟩ := fin ⟨Sh.ld, fun f hs ys => ((Sh q.1).enc y, [VSpec P f hs ys ((Sh q.1).enc y).1 ((Sh q.1).enc y).2]), false⟩ (fun f hs ys hp => hp _ (List.mem_cons_self ..)) O' h2
          refine ⟨O, o1, ?_⟩
          have ev : vop T (O k) st o.op = (vback st (Sh.ld q.1) q.2.1 ((Sh q.1).enc y).1 ((Sh q.1).enc y).2).also [VSpec P q.1 q.2.2.1 q.2.2.2 ((Sh q.1).enc y).1 ((Sh q.1).enc y).2] := by
            rw [o2]
            exact vop_target (O := ⟨Sh.ld, fun f hs ys => ((Sh q.1).enc y, [VSpec P f hs ys ((Sh q.1).enc y).1 ((Sh q.1).enc y).2]), false⟩) hq
          have ep : ∀ ps, okOrd dr ops fl k (((vback st (Sh.ld q.1) q.2.1 ((Sh q.1).enc y).1 ((Sh q.1).enc y).2).also ps).flag (loudB st o.op) (softId st o.op) (tchOf Sh.ld st o.op)) = true := fun ps => hpu
          have en : ∀ ps, ((vback st (Sh.ld q.1) q.2.1 ((Sh q.1).enc y).1 ((Sh q.1).enc y).2).also ps).new = [] := fun _ => e1
          have eu : ∀ ps, ((vback st (Sh.ld q.1) q.2.1 ((Sh q.1).enc y).1 ((Sh q.1).enc y).2).also ps).put = none := fun _ => e2
          have el : (O k).lend = Sh.ld := by rw [o2]
          simp only [xops, hg, hgd, ev, el, ep, cond_true, en, eu]
          refine conjIf_mk ?_ (xops_congr rest (k + 1) _ _ _ o3 h3)
          intro hpc p hp
          rcases List.mem_append.1 hp with hp | hp
          · rw [e3] at hp; simp at hp
          · simp only [List.mem_singleton] at hp; subst hp; exact hy hpc
        · exact hk.elim
      · rename_i hnt
        have bad : ∀ g, OrcOk P (noOrc Sh.ld g) := fun g f hs xs h => (h False (by simp [noOrc])).elim
        generalize o.guard.isSome = gg at h
        cases hpu : okOrd dr ops fl k ((vop T (noOrc Sh.ld gg) st o.op).flag (loudB st o.op) (softId st o.op) (tchOf Sh.ld st o.op)) with
        | false => rw [hpu] at h; exact h.elim
        | true =>
          rw [hpu] at h
          simp only [cond_true] at h
          split at h
          · rename_i hgd
            obtain ⟨h1, h2⟩ := conj_iff h
            obtain ⟨O', h3, h4⟩ := xopsE_xops rest (k + 1) _ _ _ h2
            obtain ⟨O, o1, o2, o3⟩ := fin _ (bad gg) O' h3
            refine ⟨O, o1, ?_⟩
            simp only [xops, hg, hgd, o2, noOrc_lend, hpu, cond_true]
            exact conj_mk h1 (xops_congr rest (k + 1) _ _ _ o3 h4)
          · rename_i gd hgd hn hp
            obtain ⟨h1, h2⟩ := conjIf_iff h
            obtain ⟨O', h3, h4⟩ := xopsE_xops rest (k + 1) _ _ _ h2
            obtain ⟨O, o1, o2, o3⟩ := fin _ (bad gg) O' h3
            refine ⟨O, o1, ?_⟩
            simp only [xops, hg, hgd, o2, noOrc_lend, hpu, cond_true, hn, hp]
            exact conjIf_mk h1 (xops_congr rest (k + 1) _ _ _ o3 h4)
          · exact h.elim
theorem region_okE {P : Program} {T : TypeId → TE} {Sh : Shs} {ops : Array Oper} {st0 : St} {N : Nat} {E : Prot} {w0 : World} {φ0 : Phi} (hT : TOk P T) (hmx : P.follows .mixedOrders = true) (hB : regB ops N = true) {K : St → Prop} {id : Nat} {draw : Bool} {a : Act}
    (h : xopsE P T Sh draw ops 0 ops.toList st0 [] [] fun st' => K (clr ops st')) (hrel : Rel N E st0 φ0 a w0) :
    (Code.region id ops draw).wp P (fun e a' w' => e = .normal ∧ ∃ st' φ', K st' ∧ Rel N E st' φ' a' w' ∧ Ext w0 φ0 w' φ') a w0 := by
  obtain ⟨O, hO, hx⟩ := xopsE_xops ops.toList 0 st0 [] [] h
  exact region_ok hT hO hmx hB hx hrel
end
section
structure Sat (P : Program) (N b : Nat) (p : List Nat) (c : Code) (K : Exit → St → Prop) (st : St) : Prop where
  h : ∀ (E : Prot) (φ : Phi) (a : Act) (w : World), Rel N E st φ a w → c.wp P (fun e a' w' => ∃ st' φ', K e st' ∧ Rel N E st' φ' a' w' ∧ Fr b w φ w' φ') a w
def lookT (i : Nat) : List (Nat × VV) → VV
  | [] => .dead
  | (j, x) :: l => bif Nat.beq i j then x else lookT i l
def mkSt (l : List (Nat × VV)) (hs : List Ob) : St := { t := fun i => lookT i l, H := obsH hs, nx := hs.length }
def outIds (st : St) (b : Nat) (refs : List Nat) : List Nat := reachF st 64 ((List.range b).flatMap (fun i => (st.H i).refs) ++ refs) (List.range b)
def okOut (st : St) (b : Nat) (ids : List Nat) : Bool := okIds st.nx ids && (List.range b).all fun i =>
  match idx ids i with
  | some j => Nat.beq j i
  | none => false
def keepIds (b : Nat) (keep : List Nat) (st : St) : List Nat := outIds st b (keep.flatMap fun i => refsF 8 (st.t i))
def okF (b : Nat) (keep : List Nat) (st : St) : Bool := okOut st b (keepIds b keep st)
def forgetIds (keep : List Nat) (st : St) (ids : List Nat) : St := mkSt (keep.map fun i => (i, lendV st ids (st.t i))) (ids.map (lendOb st ids))
def forget (b : Nat) (keep : List Nat) (st : St) : St := forgetIds keep st (keepIds b keep st)
structure Ann where
  keep : List Nat → List Nat
  base : Nat := 0
  cut : List Nat → Bool := fun _ => false
def seqK (K : Exit → St → Prop) (next : St → Prop) : Exit → St → Prop
  | .normal, st => next st
  | e, st => K e st
def blockK (id : Nat) (K : Exit → St → Prop) : Exit → St → Prop
  | .exit j, st => bif Nat.beq j id then K .normal st else K (.exit j) st
  | e, st => K e st
def loopK (b : Nat) (keep : List Nat) (J : St → Prop) (K : Exit → St → Prop) : Exit → St → Prop
  | .normal, st => bif okF b keep st then J (forget b keep st) else False
  | e, st => K e st
def jumpK (l b : Nat) (keep : List Nat) (J : St → Prop) (K : Exit → St → Prop) : Exit → St → Prop
  | .goto l', st => bif Nat.beq l' l && okF b keep st then J (forget b keep st) else False
  | e, st => K e st
def xc (P : Program) (T : TypeId → TE) (Sh : Shs) (N : Nat) (L : Ann) : List Nat → Code → (Exit → St → Prop) → St → Prop
  | _, .skip, K, st => K .normal st
  | _, .label _, K, st => K .normal st
  | _, .region _ ops dr, K, st => xopsE P T Sh dr ops 0 ops.toList st [] [] fun st' => K .normal (clr ops st')
  | p, .seq x y, K, st => xc P T Sh N L (0 :: p) x (seqK K fun st' => bif L.cut (1 :: p) then (bif okF L.base (L.keep (1 :: p)) st' then Sat P N L.base (1 :: p) y K (forget L.base (L.keep (1 :: p)) st') else False) else xc P T Sh N L (1 :: p) y K st') st
  | p, .cond c x y, K, st => match st.val c with
    | .sc (.bool b) => (b = true → xc P T Sh N L (0 :: p) x K st) ∧ (b = false → xc P T Sh N L (1 :: p) y K st)
    | _ => False
  | p, .block id c, K, st => xc P T Sh N L (0 :: p) c (blockK id K) st
  | _, .exit id, K, st => K (.exit id) st
  | _, .goto l, K, st => K (.goto l) st
  | _, .ret, K, st => K .ret st
  | p, .loop c, K, st => bif okF L.base (L.keep p) st then Sat P N L.base p (.loop c) K (forget L.base (L.keep p) st) else False
  | p, .scope c, K, st => bif okF L.base (L.keep p) st then Sat P N L.base p (.scope c) K (forget L.base (L.keep p) st) else False
  | _, _, _, _ => False
def subC : List Nat → Code → Code
  | 0 :: q, .seq x _ => subC q x
  | 1 :: q, .seq _ y => subC q y
  | 0 :: q, .cond _ x _ => subC q x
  | 1 :: q, .cond _ _ y => subC q y
  | 0 :: q, .block _ c => subC q c
  | 0 :: q, .loop c => subC q c
  | 0 :: q, .scope c => subC q c
  | [], c => c
  | _, _ => .skip
def kontC (P : Program) (T : TypeId → TE) (Sh : Shs) (N : Nat) (L : Ann) : List Nat → List Nat → Code → (Exit → St → Prop) → Exit → St → Prop
  | 0 :: q, p, .seq x y, K => kontC P T Sh N L q (0 :: p) x (seqK K fun st' => bif L.cut (1 :: p) then (bif okF L.base (L.keep (1 :: p)) st' then Sat P N L.base (1 :: p) y K (forget L.base (L.keep (1 :: p)) st') else False) else xc P T Sh N L (1 :: p) y K st')
  | 1 :: q, p, .seq _ y, K => kontC P T Sh N L q (1 :: p) y K
  | 0 :: q, p, .cond _ x _, K => kontC P T Sh N L q (0 :: p) x K
  | 1 :: q, p, .cond _ _ y, K => kontC P T Sh N L q (1 :: p) y K
  | 0 :: q, p, .block id c, K => kontC P T Sh N L q (0 :: p) c (blockK id K)
  | _, _, _, K => K
def regsB (N : Nat) : Code → Bool
  | .region _ ops _ => regB ops N
  | .seq x y => regsB N x && regsB N y
  | .cond _ x y => regsB N x && regsB N y
  | .block _ c => regsB N c
  | _ => true
section
variable {P : Program} {T : TypeId → TE} {Sh : Shs} {N b : Nat} {L : Ann} {E : Prot} {w : World} {φ : Phi} {a : Act} {st : St}
theorem lookT_map {f : Nat → VV} (i : Nat) : ∀ (l : List Nat), lookT i (l.map fun j => (j, f j)) = if i ∈ l then f i else .dead
  | [] => rfl
  | j :: l => by
    simp only [List.map_cons, lookT]
    cases hq : Nat.beq i j with
    | true => have := Nat.eq_of_beq_eq_true hq; subst this; simp
    | false =>
      have hne : i ≠ j := by rintro rfl; simp at hq
      rw [cond_false, lookT_map i l]
      simp [hne]
theorem okOut_iff {ids : List Nat} (h : okOut st b ids = true) : okIds st.nx ids = true ∧ ∀ (i : Nat), i < b → ids[i]? = some i := by
  unfold okOut at h
  rw [Bool.and_eq_true] at h
  refine ⟨h.1, fun i hi => ?_⟩
  have := List.all_eq_true.1 h.2 i (List.mem_range.2 hi)
  split at this
  · rename_i j hj
    have e := Nat.eq_of_beq_eq_true this
    subst e
    exact idx_some hj
  · cases this
theorem lend_fr {ids : List Nat} (hk : ∀ (i : Nat), i < b → ids[i]? = some i) : Fr b w φ w (lendP ids φ) :=
  ⟨rfl, rfl, rfl, Nat.le_refl _, fun _ _ _ => rfl, fun _ h => .inl (rest_own.2 (.inr h)), fun id p hb e => ⟨relPl (fun _ => 0) p, by rw [lendP_at (hk id hb), e]; rfl, by
    cases p with
    | box b => rfl
    | arr c n hd => exact ⟨_, _, _, rfl⟩⟩⟩
theorem lend_there {ids : List Nat} (hk : okIds st.nx ids = true) (hlv : ∀ id, id < st.nx → φ id ≠ none) (j : Nat) : lendP ids φ j ≠ none ↔ j < ids.length := by
  constructor
  · intro h
    obtain ⟨p, hp⟩ := Option.ne_none_iff_exists'.1 h
    obtain ⟨id, _, e1, _⟩ := lendP_some hp
    exact (List.getElem?_eq_some_iff.1 e1).1
  · intro h
    have e1 : ids[j]? = some ids[j] := List.getElem?_eq_getElem h
    rw [lendP_at e1]
    have := hlv _ (okIds_lt hk j _ e1)
    simpa using this
theorem Rel.forgetIds (h : Rel N E st φ a w) {keep ids : List Nat} (hk : okOut st b ids = true) : ∃ φ', Rel N E (forgetIds keep st ids) φ' a w ∧ Fr b w φ w φ' := by
  obtain ⟨hk1, hk2⟩ := okOut_iff hk
  refine ⟨lendP ids φ, ⟨h.sz, h.df, h.old.sub fun _ ho => (lendP_own.1 ho).elim fun _ h => h.elim fun id h => ⟨id, h.2⟩, fun t => ?_, h.hp.lend hk1 (fun _ h => .inl h) (fun _ h => .inl h) h.hp.sub (fun j id e => by simp [Go.Proofs.YtiaebjpcgjkhoaaGreatDoor.forgetIds, mkSt, obsH, e]), fun id hid => ?_, fun id hid => ?_⟩, lend_fr hk2⟩
  · show V w _ _ (lookT t (keep.map fun i => (i, lendV st ids (st.t i)))) _
    rw [lookT_map]
    split
    · exact relF_ok (lend_reloc h.hp (fun _ h => .inl h) fun _ h => .inl h) _ _ _ (h.tm t)
    · exact .dead
  · have hid' : ids.length ≤ id := by have : (ids.map (lendOb st ids)).length ≤ id := hid; simpa using this
    exact Classical.byContradiction fun hn => by have := (lend_there hk1 h.lv id).1 hn; omega
  · have hid' : id < ids.length := by have : id < (ids.map (lendOb st ids)).length := hid; simpa using this
    exact (lend_there hk1 h.lv id).2 hid'
theorem Rel.forget (h : Rel N E st φ a w) {keep : List Nat} (hk : okF b keep st = true) : ∃ φ', Rel N E (forget b keep st) φ' a w ∧ Fr b w φ w φ' := h.forgetIds hk
theorem Sat.mono {p : List Nat} {c : Code} {K K' : Exit → St → Prop} {st : St} (h : Sat P N b p c K st) (hk : ∀ e st, K e st → K' e st) : Sat P N b p c K' st := ⟨fun E φ a w hr =>
  Go.wp_mono (h.h E φ a w hr) fun _ _ _ ⟨st', φ', h1, h2, h3⟩ => ⟨st', φ', hk _ _ h1, h2, h3⟩⟩
theorem xc_sat (hT : TOk P T) (hmx : P.follows .mixedOrders = true) : ∀ (c : Code), regsB N c = true → ∀ (p : List Nat) (K : Exit → St → Prop) (st : St), xc P T Sh N L p c K st → Sat P N L.base p c K st
  | .skip, _, p, K, st, h => ⟨fun E φ a w hr => wp_skip ⟨st, φ, h, hr, Fr.refl _ _ _⟩⟩
  | .label l, _, p, K, st, h => ⟨fun E φ a w hr => wp_label ⟨st, φ, h, hr, Fr.refl _ _ _⟩⟩
  | .exit id, _, p, K, st, h => ⟨fun E φ a w hr => wp_exit ⟨st, φ, h, hr, Fr.refl _ _ _⟩⟩
  | .goto l, _, p, K, st, h => ⟨fun E φ a w hr => wp_goto ⟨st, φ, h, hr, Fr.refl _ _ _⟩⟩
  | .ret, _, p, K, st, h => ⟨fun E φ a w hr => wp_ret ⟨st, φ, h, hr, Fr.refl _ _ _⟩⟩
  | .loop c, _, p, K, st, h => ⟨fun E φ a w hr => by
    simp only [xc] at h
    cases hq : okF L.base (L.keep p) st with
    | false => rw [hq] at h; exact h.elim
    | true =>
      rw [hq] at h
      obtain ⟨φ1, hr1, hf1⟩ := hr.forget hq
      exact Go.wp_mono (h.h E φ1 a w hr1) fun _ _ _ ⟨st', φ', h1, h2, h3⟩ => ⟨st', φ', h1, h2, hf1.trans h3⟩⟩
  | .scope c, _, p, K, st, h => ⟨fun E φ a w hr => by
    simp only [xc] at h
    cases hq : okF L.base (L.keep p) st with
    | false => rw [hq] at h; exact h.elim
    | true =>
      rw [hq] at h
      obtain ⟨φ1, hr1, hf1⟩ := hr.forget hq
      exact Go.wp_mono (h.h E φ1 a w hr1) fun _ _ _ ⟨st', φ', h1, h2, h3⟩ => ⟨st', φ', h1, h2, hf1.trans h3⟩⟩
  | .rangeFunc .., _, p, K, st, h => h.elim
  | .refuse _, _, p, K, st, h => h.elim
  | .region id ops draw, hB, p, K, st, h => ⟨fun E φ a w hr =>
    Go.wp_mono (region_okE (id := id) (draw := draw) hT hmx hB (K := fun st' => K .normal st') h hr) fun e a' w' ⟨he, st', φ', h1, h2, h3⟩ => ⟨st', φ', by rw [he]; exact h1, h2, Fr.of_ext h3⟩⟩
  | .seq x y, hB, p, K, st, h => ⟨fun E φ a w hr => by
    simp only [regsB, Bool.and_eq_true] at hB
    refine wp_seq (Go.wp_mono ((xc_sat hT hmx x hB.1 _ _ st h).h E φ a w hr) ?_)
    rintro e a' w' ⟨st', φ', h1, h2, h3⟩
    cases e with
    | normal =>
      have key : Sat P N L.base (1 :: p) y K st' := by
        simp only [seqK] at h1
        cases hcut : L.cut (1 :: p) with
        | false => rw [hcut] at h1; exact xc_sat hT hmx y hB.2 _ K st' h1
        | true =>
          rw [hcut, cond_true] at h1
          cases hq : okF L.base (L.keep (1 :: p)) st' with
          | false => rw [hq] at h1; exact h1.elim
          | true =>
            rw [hq] at h1
            exact ⟨fun E φ a w hr => by
              obtain ⟨φ1, hr1, hf1⟩ := hr.forget hq
              exact Go.wp_mono (h1.h E φ1 a w hr1) fun _ _ _ ⟨st', φ', h1, h2, h3⟩ => ⟨st', φ', h1, h2, hf1.trans h3⟩⟩
      exact Go.wp_mono (key.h E φ' a' w' h2) fun e a'' w'' ⟨st'', φ'', g1, g2, g3⟩ => ⟨st'', φ'', g1, g2, h3.trans g3⟩
    | _ => exact ⟨st', φ', h1, h2, h3⟩⟩
  | .cond c x y, hB, p, K, st, h => ⟨fun E φ a w hr => by
    simp only [regsB, Bool.and_eq_true] at hB
    have hc : V w (E.up φ) (some φ) (st.val c) (a.eval c) := by
      cases c with
      | tmp t => exact hr.tm t
      | const v => exact V.litC v
      | global g => exact .dead
      | func f => exact .fn rfl fun j x hx => by simp at hx
    simp only [xc] at h
    split at h
    · rename_i b e
      rw [e] at hc
      refine wp_cond (t := b) hc.sc_inv ?_
      cases b with
      | true => exact (xc_sat hT hmx x hB.1 _ K st (h.1 rfl)).h E φ a w hr
      | false => exact (xc_sat hT hmx y hB.2 _ K st (h.2 rfl)).h E φ a w hr
    · exact h.elim⟩
  | .block id c, hB, p, K, st, h => ⟨fun E φ a w hr => by
    refine wp_block (Go.wp_mono ((xc_sat hT hmx c hB _ _ st h).h E φ a w hr) ?_)
    rintro e a' w' ⟨st', φ', h1, h2, h3⟩
    cases e with
    | exit j =>
      simp only [Exit.inBlock]
      by_cases hj : j = id
      · subst hj
        simp only [blockK, Nat.beq_refl, cond_true] at h1
        rw [if_pos rfl]
        exact ⟨st', φ', h1, h2, h3⟩
      · have hb : Nat.beq j id = false := by
          cases hq : Nat.beq j id with
          | true => exact absurd (Nat.eq_of_beq_eq_true hq) hj
          | false => rfl
        simp only [blockK, hb, cond_false] at h1
        rw [if_neg hj]
        exact ⟨st', φ', h1, h2, h3⟩
    | _ => exact ⟨st', φ', h1, h2, h3⟩⟩
theorem least_of' {p : Nat → Prop} (h : ∃ g, p g) : ∃ g, p g ∧ ∀ g', p g' → g ≤ g' := by
  obtain ⟨g, hg⟩ := h
  induction g using Nat.strongRecOn with
  | _ g ih =>
    by_cases hx : ∃ g', g' < g ∧ p g'
    · obtain ⟨g', hlt, hp⟩ := hx; exact ih g' hlt hp
    · exact ⟨g, hg, fun g' hp => Nat.le_of_not_lt fun hlt => hx ⟨g', hlt, hp⟩⟩
theorem wp_loop_ghost {c : Code} {Q : Exit → Act → World → Prop} {a : Act} {w : World} (J : Nat → Act → World → Prop) (h0 : ∃ g, J g a w)
    (round : ∀ g a w, J g a w → c.wp P (Exit.then (fun a' w' => ∃ g', g' < g ∧ J g' a' w') Q) a w) : (Code.loop c).wp P Q a w := by
  classical
  let μ : Act → World → Nat := fun a w => if h : ∃ g, J g a w then Classical.choose (least_of' h) else 0
  have hμ : ∀ a w, (h : ∃ g, J g a w) → J (μ a w) a w ∧ ∀ g', J g' a w → μ a w ≤ g' := by
    intro a w h
    have e : μ a w = Classical.choose (least_of' h) := dif_pos h
    rw [e]; exact Classical.choose_spec (least_of' h)
  refine wp_loop (fun a w => ∃ g, J g a w) μ h0 ?_
  intro a w hx
  refine Go.wp_mono (round _ a w (hμ a w hx).1) fun e a' w' h => ?_
  cases e with
  | normal =>
    obtain ⟨g', hlt, hj⟩ := h
    exact ⟨⟨g', hj⟩, Nat.lt_of_le_of_lt ((hμ _ _ ⟨g', hj⟩).2 g' hj) hlt⟩
  | _ => exact h
def VV.le (x y : VV) : Prop := ∀ (w : World) (E : Prot) (m : Option Phi) (v : Value), V w E m x v → V w E m y v
theorem VV.le_refl (x : VV) : VV.le x x := fun _ _ _ _ h => h
theorem VV.le_nil {fz : Bool} {n : Nat} {f : Nat → List VV} : VV.le .nl (.sl fz 0 n f) := by
  intro w E m v h
  rw [h.nl_inv]
  exact .nil (Nat.zero_le _)
def leL : List VV → List VV → Prop
  | [], [] => True
  | x :: xs, y :: ys => VV.le x y ∧ leL xs ys
  | _, _ => False
theorem leL_refl : ∀ (l : List VV), leL l l
  | [] => trivial
  | x :: xs => ⟨VV.le_refl x, leL_refl xs⟩
theorem leL_at : ∀ {l l' : List VV}, leL l l' → l.length = l'.length ∧ ∀ (j : Nat) y, l'[j]? = some y → ∃ x, l[j]? = some x ∧ VV.le x y
  | [], [], _ => ⟨rfl, fun j y h => by simp at h⟩
  | x :: l, y :: l', h => by
    obtain ⟨h1, h2⟩ := leL_at h.2
    refine ⟨by simp [h1], fun j z hz => ?_⟩
    match j, hz with
    | 0, hz => simp only [List.getElem?_cons_zero, Option.some.injEq] at hz; subst hz; exact ⟨x, rfl, h.1⟩
    | j + 1, hz => exact h2 j z hz
theorem VV.le_sl {fz : Bool} {n s s' : Nat} {f f' : Nat → List VV} (hs : s = s' ∨ n = 0) (h : ∀ i, i < n → leL (f i) (f' i)) : VV.le (.sl fz n s f) (.sl fz n s' f') := by
  intro w E m v hv
  obtain ⟨a, cap, rfl, h1, h2, h3⟩ := hv.sl_inv
  refine V.sl_mk h1 h2 fun hn => ?_
  obtain rfl := hs.resolve_right (by omega)
  obtain ⟨b, off, e, k1, k2, k3, u, k4, k5⟩ := h3 hn
  refine ⟨b, off, e, k1, k2, fun i hi => by rw [← (leL_at (h i hi)).1]; exact k3 i hi, u, fun i j y hi hy => ?_, fun i j y hi hy => ?_⟩
  · obtain ⟨x, hx, _⟩ := (leL_at (h i hi)).2 j y hy
    exact k4 i j x hi hx
  · obtain ⟨x, hx, hle⟩ := (leL_at (h i hi)).2 j y hy
    exact hle _ _ _ _ (k5 i j x hi hx)
theorem VV.le_agg {l l' : List VV} (h : leL l l') : VV.le (.agg l) (.agg l') := by
  intro w E m v hv
  obtain ⟨vs, rfl, h1, h2⟩ := hv.agg_inv
  obtain ⟨k1, k2⟩ := leL_at h
  exact .agg (h1.trans k1) fun j y hy => let ⟨x, hx, hle⟩ := k2 j y hy; hle _ _ _ _ (h2 j x hx)
theorem VV.le_tup {l l' : List VV} (h : leL l l') : VV.le (.tup l) (.tup l') := by
  intro w E m v hv
  cases hv with | tup h1 h2 =>
  obtain ⟨k1, k2⟩ := leL_at h
  exact .tup (h1.trans k1) fun j y hy => let ⟨x, hx, hle⟩ := k2 j y hy; hle _ _ _ _ (h2 j x hx)
def Ob.le (o o' : Ob) : Prop := ∀ (w : World) (E : Prot) (φ : Phi) (p : Pl), ObV w E φ o p → ObV w E φ o' p
theorem Ob.le_refl (o : Ob) : Ob.le o o := fun _ _ _ _ h => h
theorem Ob.le_box {l l' : List VV} (h : leL l l') : Ob.le (.box l) (.box l') := by
  intro w E φ p hp
  cases p with
  | arr => exact hp.elim
  | box b =>
    obtain ⟨c, ty, h1, h2⟩ := hp
    obtain ⟨k1, k2⟩ := leL_at h
    exact ⟨c, ty, h1, h2.1.trans k1, fun j y hy => let ⟨x, hx, hle⟩ := k2 j y hy; hle _ _ _ _ (h2.2 j x hx)⟩
theorem Ob.le_arr {fr : Bool} {g n s : Nat} {f f' : Nat → List VV} (h : ∀ i, i < n → leL (f i) (f' i)) : Ob.le (.arr fr g n s f) (.arr fr g n s f') := by
  intro w E φ p hp
  cases p with
  | box b => exact hp.elim
  | arr g' n' hd =>
    obtain ⟨rfl, rfl, hrow⟩ := hp
    refine ⟨rfl, rfl, ?_⟩
    match hd, hrow with
    | none, hrow => exact hrow
    | some (b, cap), hrow =>
      obtain ⟨c, ty, h1, h2, h3, h4, h5, h6, h7⟩ := hrow
      refine ⟨c, ty, h1, h2, h3, h4, fun i hi => by rw [← (leL_at (h i hi)).1]; exact h5 i hi, fun i j y hi hy => ?_, h7⟩
      obtain ⟨x, hx, hle⟩ := (leL_at (h i hi)).2 j y hy
      cases fr with
      | true => exact hle _ _ _ _ (h6 i j x hi hx)
      | false => exact hle _ _ _ _ (h6 i j x hi hx)
def leO : List Ob → List Ob → Prop
  | [], [] => True
  | o :: os, o' :: os' => Ob.le o o' ∧ leO os os'
  | _, _ => False
theorem leO_at : ∀ {l l' : List Ob}, leO l l' → l.length = l'.length ∧ ∀ (j : Nat), Ob.le (obsH l j) (obsH l' j)
  | [], [], _ => ⟨rfl, fun j => Ob.le_refl _⟩
  | x :: l, y :: l', h => by
    obtain ⟨h1, h2⟩ := leO_at h.2
    refine ⟨by simp [h1], fun j => ?_⟩
    match j with
    | 0 => exact h.1
    | j + 1 => exact h2 j
theorem HRel.le {l l' : List Ob} (h : HRel E (obsH l) φ w) (hl : leO l l') : HRel E (obsH l') φ w :=
  ⟨h.sub, fun id p e => (leO_at hl).2 id _ _ _ _ (h.ob id p e), h.inj, h.free⟩
def leT : List (Nat × VV) → List (Nat × VV) → Prop
  | [], [] => True
  | (i, x) :: l, (j, y) :: l' => (i = j ∧ VV.le x y) ∧ leT l l'
  | _, _ => False
theorem leT_refl : ∀ (l : List (Nat × VV)), leT l l
  | [] => trivial
  | (_, x) :: xs => ⟨⟨rfl, VV.le_refl x⟩, leT_refl xs⟩
theorem leT_look : ∀ {l l' : List (Nat × VV)}, leT l l' → ∀ t, VV.le (lookT t l) (lookT t l')
  | [], [], _, _ => VV.le_refl _
  | (i, x) :: l, (j, y) :: l', h, t => by
    obtain ⟨⟨rfl, h1⟩, h2⟩ := h
    simp only [lookT]
    cases Nat.beq t i with
    | true => exact h1
    | false => exact leT_look h2 t
theorem Sat.le {p : List Nat} {c : Code} {K : Exit → St → Prop} {l l' : List (Nat × VV)} {hs hs' : List Ob} (h1 : leT l l') (h2 : leO hs hs') (h : Sat P N b p c K (mkSt l' hs')) : Sat P N b p c K (mkSt l hs) :=
  ⟨fun E φ a w hr => h.h E φ a w ⟨hr.sz, hr.df, hr.old, fun t => leT_look h1 _ _ _ _ _ (hr.tm t), hr.hp.le h2, fun id hid => hr.fr id (by
    show hs.length ≤ id
    rw [(leO_at h2).1]; exact hid), fun id hid => hr.lv id (by
    show id < hs.length
    rw [(leO_at h2).1]; exact hid)⟩⟩
theorem lookT_set {t : Nat} {x y : VV} : ∀ {l : List (Nat × VV)} {k : Nat}, l[k]? = some (t, x) → ∀ i, lookT i (l.set k (t, y)) = lookT i l ∨ (lookT i l = x ∧ lookT i (l.set k (t, y)) = y)
  | [], k, h, i => by simp at h
  | (j, z) :: l, 0, h, i => by
    simp only [List.getElem?_cons_zero, Option.some.injEq, Prod.mk.injEq] at h
    obtain ⟨rfl, rfl⟩ := h
    simp only [List.set_cons_zero, lookT]
    cases Nat.beq i j with
    | true => exact .inr ⟨rfl, rfl⟩
    | false => exact .inl rfl
  | (j, z) :: l, k + 1, h, i => by
    simp only [List.set_cons_succ, lookT]
    cases Nat.beq i j with
    | true => exact .inl rfl
    | false => exact lookT_set (l := l) (k := k) h i
theorem Sat.own {p : List Nat} {c : Code} {K : Exit → St → Prop} {l : List (Nat × VV)} {hs : List Ob} (k t sz : Nat) (f : Nat → List VV) (hk : l[k]? = some (t, .nl)) (h : Sat P N b p c K (mkSt (l.set k (t, .ow hs.length 0 0)) (hs ++ [.arr true 0 0 sz f]))) : Sat P N b p c K (mkSt l hs) := by
  refine ⟨fun E φ a w hr => ?_⟩
  have hnone : φ hs.length = none := hr.fr _ (Nat.le_refl _)
  have hroom : Room w [Pl.arr 0 0 none] w := Room.one (Below.refl _ _) fun k hk => by obtain ⟨_, e'⟩ := hk; cases e'
  have hidn : ∀ i, i < [Ob.arr true 0 0 sz f].length → φ (hs.length + i) = none := fun i hi => by
    simp only [List.length_cons, List.length_nil, Nat.zero_add, Nat.lt_one_iff] at hi
    subst hi; exact hnone
  have hnews : News w E φ hs.length [Ob.arr true 0 0 sz f] [Pl.arr 0 0 none] w := News.one hroom ⟨rfl, rfl, rfl⟩
  have hext := hnews.ext hidn
  have hat : addP φ hs.length [Pl.arr 0 0 none] hs.length = some (.arr 0 0 none) := addP_at (i := 0) rfl
  have hlt : ∀ id, φ id ≠ none → id < hs.length := fun id hn => by
    rcases Nat.lt_or_ge id hs.length with h' | h'
    · exact h'
    · exact absurd (hr.fr id h') hn
  refine Go.wp_mono (h.h E (addP φ hs.length [Pl.arr 0 0 none]) a w ⟨hr.sz, hr.df, hr.old.ext hext, fun t' => ?_, ?_, fun id hid => ?_, fun id hid => ?_⟩) fun e a' w' ⟨st', φ', h1, h2, h3⟩ => ⟨st', φ', h1, h2, (Fr.of_ext hext).trans h3⟩
  · show V w _ _ (lookT t' _) _
    have hv : V w _ _ (lookT t' l) _ := hr.tm t'
    rcases lookT_set (y := .ow hs.length 0 0) hk t' with e | ⟨e1, e2⟩
    · rw [e]; exact hv.ext hext
    · rw [e2]
      rw [e1] at hv
      rw [hv.nl_inv]
      exact .ow hat (Nat.le_refl _) (hd0 := none) ⟨rfl, rfl⟩ fun _ => ⟨rfl, Nat.le_refl _⟩
  · refine hr.hp.news hr.old.lt hnews hidn (fun k hk => ?_) fun i o ho => ?_
    · have := hlt k hk
      show obsH (hs ++ _) k = obsH hs k
      simp [obsH, List.getElem?_append_left this]
    · show obsH (hs ++ _) (hs.length + i) = o
      unfold obsH
      rw [List.getD_eq_getElem?_getD, List.getElem?_append_right (by omega), show hs.length + i - hs.length = i by omega, ho]
      rfl
  · have hid' : (hs ++ [Ob.arr true 0 0 sz f]).length ≤ id := hid
    simp only [List.length_append, List.length_cons, List.length_nil] at hid'
    rw [addP_out (.inr (by simp; omega))]
    exact hr.fr id (by show hs.length ≤ id; omega)
  · have hid' : id < (hs ++ [Ob.arr true 0 0 sz f]).length := hid
    simp only [List.length_append, List.length_cons, List.length_nil] at hid'
    by_cases he : id = hs.length
    · subst he; rw [hat]; simp
    · rw [addP_out (.inl (by omega))]
      exact hr.lv id (by show id < hs.length; omega)
structure StLe (st st' : St) : Prop where
  t : ∀ t, VV.le (st.t t) (st'.t t)
  H : ∀ id, Ob.le (st.H id) (st'.H id)
  nx : st.nx = st'.nx
theorem StLe.refl (st : St) : StLe st st := ⟨fun _ => VV.le_refl _, fun _ => Ob.le_refl _, rfl⟩
theorem StLe.mk' {l l' : List (Nat × VV)} {hs hs' : List Ob} (h1 : leT l l') (h2 : leO hs hs') : StLe (mkSt l hs) (mkSt l' hs') := ⟨leT_look h1, (leO_at h2).2, (leO_at h2).1⟩
theorem leL_eq {l l' : List VV} (h : l = l') : leL l l' := by subst h; exact leL_refl l
theorem VV.le_eq {x y : VV} (h : x = y) : VV.le x y := by subst h; exact VV.le_refl x
theorem Rel.le {st' : St} (h : Rel N E st φ a w) (hl : StLe st st') : Rel N E st' φ a w :=
  ⟨h.sz, h.df, h.old, fun t => hl.t t _ _ _ _ (h.tm t), ⟨h.hp.sub, fun id p e => hl.H id _ _ _ _ (h.hp.ob id p e), h.hp.inj, h.hp.free⟩, fun id hid => h.fr id (by rw [hl.nx]; exact hid), fun id hid => h.lv id (by rw [hl.nx]; exact hid)⟩
def Cv (st st' : St) : Prop := ∀ (N : Nat) (E : Prot) (φ : Phi) (a : Act) (w : World), Rel N E st φ a w → ∃ φ', Rel N E st' φ' a w ∧ Ext w φ w φ'
theorem StLe.cv {st st' : St} (h : StLe st st') : Cv st st' := fun _ _ φ _ w hr => ⟨φ, hr.le h, Ext.refl w φ⟩
theorem Cv.trans {st st' st'' : St} (h : Cv st st') (k : Cv st' st'') : Cv st st'' := fun N E φ a w hr =>
  let ⟨φ1, r1, e1⟩ := h N E φ a w hr
  let ⟨φ2, r2, e2⟩ := k N E φ1 a w r1
  ⟨φ2, r2, e1.trans e2⟩
theorem Sat.cv {p : List Nat} {c : Code} {K : Exit → St → Prop} {st st' : St} (h : Cv st st') (k : Sat P N b p c K st') : Sat P N b p c K st :=
  ⟨fun E φ a w hr =>
    let ⟨_, r1, e1⟩ := h N E φ a w hr
    Go.wp_mono (k.h E _ a w r1) fun _ _ _ ⟨st', φ', h1, h2, h3⟩ => ⟨st', φ', h1, h2, (Fr.of_ext e1).trans h3⟩⟩
theorem Cv.ownBox {l : List (Nat × VV)} {hs : List Ob} {cs : List VV} (i j sz : Nat) (f : Nat → List VV) (hi : hs[i]? = some (.box cs)) (hj : cs[j]? = some .nl) :
    Cv (mkSt l hs) (mkSt l (hs.set i (.box (cs.set j (.ow hs.length 0 0))) ++ [.arr true 0 0 sz f])) := by
  intro N E φ a w hr
  have hnone : φ hs.length = none := hr.fr _ (Nat.le_refl _)
  have hroom : Room w [Pl.arr 0 0 none] w := Room.one (Below.refl _ _) fun k hk => by obtain ⟨_, e'⟩ := hk; cases e'
  have hidn : ∀ i, i < [Ob.arr true 0 0 sz f].length → φ (hs.length + i) = none := fun i hi => by
    simp only [List.length_cons, List.length_nil, Nat.zero_add, Nat.lt_one_iff] at hi
    subst hi; exact hnone
  have hnews : News w E φ hs.length [Ob.arr true 0 0 sz f] [Pl.arr 0 0 none] w := News.one hroom ⟨rfl, rfl, rfl⟩
  have hext := hnews.ext hidn
  have hat : addP φ hs.length [Pl.arr 0 0 none] hs.length = some (.arr 0 0 none) := addP_at (i := 0) rfl
  have hil : i < hs.length := (List.getElem?_eq_some_iff.1 hi).1
  have hlt : ∀ id, φ id ≠ none → id < hs.length := fun id hn => by
    rcases Nat.lt_or_ge id hs.length with h' | h'
    · exact h'
    · exact absurd (hr.fr id h') hn
  have hp := hr.hp.news (H' := obsH (hs ++ [.arr true 0 0 sz f])) hr.old.lt hnews hidn (fun k hk => by
    have := hlt k hk
    show obsH (hs ++ _) k = obsH hs k
    simp [obsH, List.getElem?_append_left this]) fun i o ho => by
    show obsH (hs ++ _) (hs.length + i) = o
    unfold obsH
    rw [List.getD_eq_getElem?_getD, List.getElem?_append_right (by omega), show hs.length + i - hs.length = i by omega, ho]
    rfl
  refine ⟨addP φ hs.length [Pl.arr 0 0 none], ⟨hr.sz, hr.df, hr.old.ext hext, fun t => V.ext (hr.tm t) hext, ⟨hp.sub, fun id p e => ?_, hp.inj, hp.free⟩, fun id hid => ?_, fun id hid => ?_⟩, hext⟩
  · have hob := hp.ob id p e
    show ObV w E _ (obsH (hs.set i _ ++ _) id) p
    by_cases he : id = i
    · subst he
      have e1 : obsH (hs ++ [Ob.arr true 0 0 sz f]) id = .box cs := by simp [obsH, List.getElem?_append_left hil, hi]
      have e2 : obsH (hs.set id (.box (cs.set j (.ow hs.length 0 0))) ++ [Ob.arr true 0 0 sz f]) id = .box (cs.set j (.ow hs.length 0 0)) := by
        simp [obsH, List.getElem?_append_left, hil]
      rw [e1] at hob
      rw [e2]
      cases p with
      | arr => exact hob.elim
      | box b =>
        obtain ⟨c, ty, h1, h2⟩ := hob
        refine ⟨c, ty, h1, by simp [h2.1], fun k x hx => ?_⟩
        rw [List.getElem?_set] at hx
        split at hx
        · rename_i hjk
          subst hjk
          split at hx
          · simp only [Option.some.injEq] at hx
            subst hx
            have := h2.2 j _ hj
            rw [this.nl_inv]
            exact .ow hat (Nat.le_refl _) (hd0 := none) ⟨rfl, rfl⟩ fun _ => ⟨rfl, Nat.le_refl _⟩
          · cases hx
        · exact h2.2 k x hx
    · have e1 : obsH (hs.set i (.box (cs.set j (.ow hs.length 0 0))) ++ [Ob.arr true 0 0 sz f]) id = obsH (hs ++ [Ob.arr true 0 0 sz f]) id := by
        rcases Nat.lt_or_ge id hs.length with h' | h'
        · simp [obsH, List.getElem?_append_left, h', List.getElem_set_ne (Ne.symm he)]
        · simp [obsH, List.getElem?_append_right, h']
      rw [e1]; exact hob
  · have hid' : (hs.set i (.box (cs.set j (.ow hs.length 0 0))) ++ [Ob.arr true 0 0 sz f]).length ≤ id := hid
    simp only [List.length_append, List.length_set, List.length_cons, List.length_nil] at hid'
    rw [addP_out (.inr (by simp; omega))]
    exact hr.fr id (by show hs.length ≤ id; omega)
  · have hid' : id < (hs.set i (.box (cs.set j (.ow hs.length 0 0))) ++ [Ob.arr true 0 0 sz f]).length := hid
    simp only [List.length_append, List.length_set, List.length_cons, List.length_nil] at hid'
    by_cases he : id = hs.length
    · subst he; rw [hat]; simp
    · rw [addP_out (.inl (by omega))]
      exact hr.lv id (by show id < hs.length; omega)
def Up (J : St → Prop) (st : St) : Prop := ∃ st', Cv st st' ∧ J st'
theorem Up.mk {J : St → Prop} {l l' : List (Nat × VV)} {hs hs' : List Ob} (h1 : leT l l') (h2 : leO hs hs') (h : J (mkSt l' hs')) : Up J (mkSt l hs) := ⟨_, (StLe.mk' h1 h2).cv, h⟩
theorem Up.of {J : St → Prop} {st : St} (h : J st) : Up J st := ⟨st, (StLe.refl st).cv, h⟩
theorem Up.cv {J : St → Prop} {st st' : St} (h : Cv st st') (k : Up J st') : Up J st := let ⟨_, k1, k2⟩ := k; ⟨_, h.trans k1, k2⟩
theorem sat_loop (hT : TOk P T) (hmx : P.follows .mixedOrders = true) {lc : Code} (c : Code) {K : Exit → St → Prop} {st : St} {p : List Nat} (Sh : Shs) (L : Ann) (keep : List Nat) (J : Nat → St → Prop) (hlc : lc = .loop c) (hB : regsB N c = true) (hJ : ∃ g, Up (J g) st)
    (round : ∀ g st, J g st → xc P T Sh N L (0 :: p) c (loopK L.base keep (fun st' => ∃ g', g' < g ∧ Up (J g') st') K) st) : Sat P N L.base p lc K st := by
  subst hlc
  refine ⟨fun E φ a w hr => ?_⟩
  obtain ⟨g0, st0, hle0, hg0⟩ := hJ
  obtain ⟨φ0, hr0, he0⟩ := hle0 N E φ a w hr
  refine wp_loop_ghost (fun g a' w' => ∃ st' φ', J g st' ∧ Rel N E st' φ' a' w' ∧ Fr L.base w φ w' φ') ⟨g0, st0, φ0, hg0, hr0, Fr.of_ext he0⟩ ?_
  rintro g a' w' ⟨st', φ', h1, h2, h3⟩
  refine Go.wp_mono ((xc_sat hT hmx c hB _ _ st' (round g st' h1)).h E φ' a' w' h2) ?_
  rintro e a'' w'' ⟨st'', φ'', g1, g2, g3⟩
  cases e with
  | normal =>
    simp only [loopK] at g1
    cases hq : okF L.base keep st'' with
    | false => rw [hq] at g1; exact g1.elim
    | true =>
      rw [hq] at g1
      obtain ⟨g', k2, st1, hle1, k3⟩ := g1
      obtain ⟨φ3, r3, f3⟩ := g2.forget hq
      obtain ⟨φ4, r4, e4⟩ := hle1 _ _ _ _ _ r3
      exact ⟨g', k2, st1, φ4, k3, r4, h3.trans (g3.trans (f3.trans (Fr.of_ext e4)))⟩
  | _ => exact ⟨st'', φ'', g1, g2, h3.trans g3⟩
theorem wp_scope_ghost' {c rest : Code} {Q : Exit → Act → World → Prop} {a : Act} {w : World} (l : Nat) (J : Nat → Act → World → Prop) (hf : findLabel c l = some rest)
    (first : c.wp P (Exit.jump l (fun a w => ∃ g, J g a w) Q) a w)
    (pass : ∀ g a w, J g a w → rest.wp P (Exit.jump l (fun a' w' => ∃ g', g' < g ∧ J g' a' w') Q) a w) : (Code.scope c).wp P Q a w := by
  classical
  let μ : Act → World → Nat := fun a w => if h : ∃ g, J g a w then Classical.choose (least_of' h) else 0
  have hμ : ∀ a w, (h : ∃ g, J g a w) → J (μ a w) a w ∧ ∀ g', J g' a w → μ a w ≤ g' := by
    intro a w h
    have e : μ a w = Classical.choose (least_of' h) := dif_pos h
    rw [e]; exact Classical.choose_spec (least_of' h)
  refine wp_scope_jumps l (fun a w => ∃ g, J g a w) μ hf first ?_
  intro a w hx
  refine Go.wp_mono (pass _ a w (hμ a w hx).1) fun e a' w' h => ?_
  cases e with
  | goto l' =>
    obtain ⟨h1, g', hlt, hj⟩ := h
    exact ⟨h1, ⟨g', hj⟩, Nat.lt_of_le_of_lt ((hμ _ _ ⟨g', hj⟩).2 g' hj) hlt⟩
  | _ => exact h
theorem sat_scope (hT : TOk P T) (hmx : P.follows .mixedOrders = true) {lc : Code} (c rest : Code) {K : Exit → St → Prop} {st : St} {p : List Nat} (Sh : Shs) (L : Ann) (keep : List Nat) (l : Nat) (J : Nat → St → Prop) (hlc : lc = .scope c) (hf : findLabel c l = some rest) (hB : regsB N c = true) (hB' : regsB N rest = true)
    (first : xc P T Sh N L (0 :: p) c (jumpK l L.base keep (fun st' => ∃ g, Up (J g) st') K) st)
    (pass : ∀ g st, J g st → xc P T Sh N L (1 :: p) rest (jumpK l L.base keep (fun st' => ∃ g', g' < g ∧ Up (J g') st') K) st) : Sat P N L.base p lc K st := by
  subst hlc
  refine ⟨fun E φ a w hr => ?_⟩
  have conv : ∀ (J1 : St → Prop) (J2 : Act → World → Prop) (φ1 : Phi) (w1 : World), Fr L.base w φ w1 φ1 → (∀ st' φ' a' w', J1 st' → Rel N E st' φ' a' w' → Fr L.base w φ w' φ' → J2 a' w') → ∀ e a' w', (∃ st' φ', jumpK l L.base keep J1 K e st' ∧ Rel N E st' φ' a' w' ∧ Fr L.base w1 φ1 w' φ') →
      Exit.jump l J2 (fun e a' w' => ∃ st' φ', K e st' ∧ Rel N E st' φ' a' w' ∧ Fr L.base w φ w' φ') e a' w' := by
    rintro J1 J2 φ1 w1 hf1 hJ e a' w' ⟨st', φ', g1, g2, g3⟩
    cases e with
    | goto l' =>
      simp only [jumpK] at g1
      cases hq : (Nat.beq l' l && okF L.base keep st') with
      | false => rw [hq] at g1; exact g1.elim
      | true =>
        rw [hq] at g1
        rw [Bool.and_eq_true] at hq
        obtain ⟨φ3, r3, f3⟩ := g2.forget hq.2
        exact ⟨Nat.eq_of_beq_eq_true hq.1, hJ _ φ3 _ _ g1 r3 (hf1.trans (g3.trans f3))⟩
    | _ => exact ⟨st', φ', g1, g2, hf1.trans g3⟩
  refine wp_scope_ghost' l (fun g a' w' => ∃ st' φ', J g st' ∧ Rel N E st' φ' a' w' ∧ Fr L.base w φ w' φ') hf ?_ ?_
  · exact Go.wp_mono ((xc_sat hT hmx c hB _ _ st first).h E φ a w hr) (conv _ _ φ w (Fr.refl _ _ _) fun st' φ' a' w' ⟨g, st1, hle, hg⟩ h2 h3 => let ⟨φ4, r4, e4⟩ := hle _ _ _ _ _ h2; ⟨g, st1, φ4, hg, r4, h3.trans (Fr.of_ext e4)⟩)
  · rintro g a' w' ⟨st', φ', h1, h2, h3⟩
    exact Go.wp_mono ((xc_sat hT hmx rest hB' _ _ st' (pass g st' h1)).h E φ' a' w' h2) (conv _ _ φ' w' h3 fun st' φ' a' w' ⟨g', hlt, st1, hle, hg⟩ h2 h3 => let ⟨φ4, r4, e4⟩ := hle _ _ _ _ _ h2; ⟨g', hlt, st1, φ4, hg, r4, h3.trans (Fr.of_ext e4)⟩)
end
end
section
def St.init (hs : List Ob) (xs : List VV) : St := { t := fun i => xs.getD i .dead, H := obsH hs, nx := hs.length }
def vres1 (T : TypeId → TE) (st : St) : ResultVar → Option VV
  | .tmp t => some (st.t t)
  | .cell p t => match vload T st t (st.t p) with
    | { val := x, new := _, put := _, chk := [] } => some x
    | _ => none
def vresL (T : TypeId → TE) (st : St) : List ResultVar → Option (List VV)
  | [] => some []
  | r :: rs => match vres1 T st r, vresL T st rs with
    | some x, some xs => some (x :: xs)
    | _, _ => none
def vresults (T : TypeId → TE) (st : St) (rs : List ResultVar) : Option VV :=
  match vresL T st rs with
  | some [x] => some x
  | some xs => some (.tup xs)
  | none => none
def outOb (b : Nat) (st : St) (x : VV) : Option (List Ob × VV) :=
  bif okOut st b (outIds st b (refsF 8 x)) then some ((outIds st b (refsF 8 x)).map (lendOb st (outIds st b (refsF 8 x))), lendV st (outIds st b (refsF 8 x)) x) else none
def outSt (T : TypeId → TE) (pub : Bool) (b : Nat) (rs : List ResultVar) (st : St) : Option (List Ob × VV) :=
  match vresults T st rs with
  | some x =>
    bif pub then
      match pubF st.H (st.nx + 4) x with
      | some (y, ids) => outOb b { st with H := goneIds ids st.H } y
      | none => none
    else outOb b st x
  | none => none
def retK (T : TypeId → TE) (pub : Bool) (b : Nat) (rs : List ResultVar) (hs : List Ob) (r : VV) : Exit → St → Prop
  | .normal, st | .ret, st => match outSt T pub b rs st with
    | some (hs', r') => leO hs' hs ∧ VV.le r' r
    | none => False
  | _, _ => False
section
variable {P : Program} {T : TypeId → TE} {Sh : Shs} {N b : Nat} {L : Ann} {w : World} {E : Prot} {φ : Phi} {st : St} {a : Act}
theorem vres1_ok (hT : TOk P T) (h : Rel N E st φ a w) {r : ResultVar} {x : VV} (hr : vres1 T st r = some x) :
    ∃ v, (match r with | .tmp t => pure (a.tmps.getD t undef) | .cell p t => do loadVar t (← asAddr (a.tmps.getD p undef)) : Sem Value).run P w = .ok v w ∧ V w (E.up φ) (some φ) x v := by
  cases r with
  | tmp t =>
    simp only [vres1, Option.some.injEq] at hr
    subst hr
    exact ⟨_, rfl, h.tm t⟩
  | cell p t =>
    simp only [vres1] at hr
    split at hr
    · rename_i y n u hl
      simp only [Option.some.injEq] at hr
      subst hr
      have hp := h.tm p
      obtain ⟨v, e1, e2⟩ := s_load (P := P) hT h.hp (fun _ _ => rfl) hp (t := t) (by rw [hl]; intro p hp; simp at hp)
      rw [hl] at e2
      refine ⟨v, ?_, e2⟩
      have haddr : ∃ ad, a.tmps.getD p undef = .pointer (some ad) := by
        generalize a.tmps.getD p undef = vp at hp
        generalize st.t p = z at hp hl
        cases z with
        | bp id off => obtain ⟨b, _, e⟩ := hp.bp_inv; exact ⟨_, e⟩
        | ep id gen sz i o => obtain ⟨_, _, _, b, _, _, e, _⟩ := hp.ep_inv; exact ⟨_, e⟩
        | tp cs => obtain ⟨b, off, e, _⟩ := hp.tp_inv; exact ⟨_, e⟩
        | _ => simp [vload, Res.bad] at hl
      obtain ⟨ad, e⟩ := haddr
      rw [e] at e1
      simp only [e, asAddr, Sem.run_bind, Sem.run_pure, Result.andThen_ok]
      simpa [Instr.loadAt, Instr.sureAddr] using e1
    · cases hr
theorem vresL_ok (hT : TOk P T) (h : Rel N E st φ a w) : ∀ (rs : List ResultVar) (xs : List VV), vresL T st rs = some xs →
    ∃ vs : List Value, (rs.mapM (fun r => match r with | .tmp t => pure (a.tmps.getD t undef) | .cell p t => do loadVar t (← asAddr (a.tmps.getD p undef)) : ResultVar → Sem Value)).run P w = .ok vs w ∧ Says w (E.up φ) (some φ) xs vs.toArray
  | [], xs, hx => by
    simp only [vresL, Option.some.injEq] at hx
    subst hx
    exact ⟨[], rfl, rfl, fun j x h => by simp at h⟩
  | r :: rs, xs, hx => by
    simp only [vresL] at hx
    split at hx
    · rename_i x xs' h1 h2
      simp only [Option.some.injEq] at hx
      subst hx
      obtain ⟨v, e1, e2⟩ := vres1_ok hT h h1
      obtain ⟨vs, g1, g2⟩ := vresL_ok hT h rs xs' h2
      refine ⟨v :: vs, ?_, by simp [← g2.1], fun j y hy => ?_⟩
      · rw [List.mapM_cons]
        simp only [Sem.run_bind, e1, g1, Result.andThen_ok, Sem.run_pure]
      · match j, hy with
        | 0, hy => simp only [List.getElem?_cons_zero, Option.some.injEq] at hy; subst hy; exact e2
        | j + 1, hy =>
          have := g2.2 j y hy
          simpa [Array.getD_eq_getD_getElem?] using this
    · cases hx
theorem vresults_ok (hT : TOk P T) (h : Rel N E st φ a w) {fn : Func} {r : VV} (hr : vresults T st fn.results.toList = some r) : ∃ v, (results fn a.tmps).run P w = .ok v w ∧ V w (E.up φ) (some φ) r v := by
  unfold vresults at hr
  cases hx : vresL T st fn.results.toList with
  | none => rw [hx] at hr; cases hr
  | some xs =>
    obtain ⟨vs, g1, g2⟩ := vresL_ok hT h _ xs hx
    have hrun : (results fn a.tmps).run P w = .ok (if h : vs.toArray.size = 1 then vs.toArray[0] else .tuple vs.toArray) w := by
      unfold results
      rw [Array.mapM_eq_mapM_toList, Sem.run_bind, Sem.run_map]
      have key : ∀ (r : Result (List Value)), r = .ok vs w → ((r.andThen fun a w' => Result.ok a.toArray w').andThen fun a w' => Sem.run P (pure (if h : a.size = 1 then a[0] else Value.tuple a)) w') = .ok (if h : vs.toArray.size = 1 then vs.toArray[0] else .tuple vs.toArray) w := by rintro _ rfl; rfl
      exact key _ g1
    refine ⟨_, hrun, ?_⟩
    rw [hx] at hr
    match xs, hr, g2 with
    | [], hr, g2 =>
      simp only [Option.some.injEq] at hr
      subst hr
      have h0 : vs.toArray.size = 0 := g2.1
      rw [dif_neg (by omega)]
      exact .tup g2.1 g2.2
    | [x], hr, g2 =>
      simp only [Option.some.injEq] at hr
      subst hr
      have h0 : vs.toArray.size = 1 := g2.1
      rw [dif_pos h0]
      have := g2.2 0 x rfl
      simp only [Array.getD] at this
      rw [dif_pos (by omega)] at this
      exact this
    | x :: y :: xs, hr, g2 =>
      simp only [Option.some.injEq] at hr
      subst hr
      have h0 : vs.toArray.size = xs.length + 2 := by rw [g2.1]; simp
      rw [dif_neg (by omega)]
      exact .tup g2.1 g2.2
def fnB (fn : Func) (n : Nat) : Bool := fn.body.isSome && regsB fn.ntmps (fn.body.getD .skip) && !(fn.name == "runtime.NumGoroutine") && Nat.ble n fn.ntmps
def bodyOf (fn : Func) : Code := fn.body.getD .skip
theorem outOb_ok (h : HRel E st.H φ w) (hlv : ∀ id, id < st.nx → φ id ≠ none) {x : VV} {v : Value} (hx : V w (E.up φ) (some φ) x v) {hs : List Ob} {r : VV} (ho : outOb b st x = some (hs, r)) :
    ∃ φ', HRel E (obsH hs) φ' w ∧ Fr b w φ w φ' ∧ (∀ id, φ' id ≠ none ↔ id < hs.length) ∧ V w (E.up φ') (some φ') r v := by
  unfold outOb at ho
  generalize outIds st b (refsF 8 x) = ids at ho
  cases hk : okOut st b ids with
  | false => rw [hk] at ho; cases ho
  | true =>
    rw [hk] at ho
    simp only [cond_true, Option.some.injEq, Prod.mk.injEq] at ho
    obtain ⟨rfl, rfl⟩ := ho
    obtain ⟨hk1, hk2⟩ := okOut_iff hk
    refine ⟨lendP ids φ, h.lend hk1 (fun _ h => .inl h) (fun _ h => .inl h) h.sub (fun j id e => by simp [obsH, e]), lend_fr hk2, fun id => ?_, relF_ok (lend_reloc h (fun _ h => .inl h) fun _ h => .inl h) _ _ _ hx⟩
    rw [List.length_map]
    exact lend_there hk1 hlv id
theorem outSt_ok (hT : TOk P T) (h : Rel N E st φ a w) {fn : Func} {pub : Bool} {hs : List Ob} {r : VV} (ho : outSt T pub b fn.results.toList st = some (hs, r)) :
    ∃ v φ', (results fn a.tmps).run P w = .ok v w ∧ HRel E (obsH hs) φ' w ∧ Fr b w φ w φ' ∧ (∀ id, φ' id ≠ none ↔ id < hs.length) ∧ V w (E.up φ') (some φ') r v := by
  unfold outSt at ho
  split at ho
  · rename_i x hx
    obtain ⟨v, h1, h2⟩ := vresults_ok hT h hx
    cases pub with
    | false =>
      obtain ⟨φ', k1, k2, k3, k4⟩ := outOb_ok h.hp h.lv h2 ho
      exact ⟨v, φ', h1, k1, k2, k3, k4⟩
    | true =>
      simp only [cond_true] at ho
      split at ho
      · rename_i y ids hp
        have h3 := pubF_ok (ids := ids) h.hp _ x y v ids h2 hp fun _ h => h
        obtain ⟨φ', k1, k2, k3, k4⟩ := outOb_ok (st := { st with H := goneIds ids st.H }) (h.hp.gone (ids := ids)) (fun id hid e => h.lv id hid (goneP_none.1 e)) (V.held (V.unhold h3)) ho
        exact ⟨v, φ', h1, k1, (Fr.of_ext goneP_ext).trans k2, k3, k4⟩
      · cases ho
  · cases ho
def fnGoal (P : Program) (T : TypeId → TE) (Sh : Shs) (L : Ann) (pub : Bool) (fn : Func) (hs : List Ob) (xs : List VV) (hs' : List Ob) (r : VV) : Prop :=
  xc P T Sh fn.ntmps L [] (bodyOf fn) (retK T pub L.base fn.results.toList hs' r) (St.init hs xs)
theorem vspec_of (hT : TOk P T) (hmx : P.follows .mixedOrders = true) {f : FuncId} {fn : Func} {hs : List Ob} {xs : List VV} {hs' : List Ob} {r : VV} (Sh : Shs) (L : Ann) (pub : Bool) (hf : P.funcs[f]? = some fn)
    (hfn : fnB fn xs.length = true) (hb : L.base = hs.length) (h : fnGoal P T Sh L pub fn hs xs hs' r) : VSpec P f hs xs hs' r := by
  unfold fnGoal bodyOf at h
  unfold fnB at hfn
  simp only [Bool.and_eq_true, Bool.not_eq_true'] at hfn
  obtain ⟨⟨⟨hb1, hB⟩, hn⟩, hx⟩ := hfn
  obtain ⟨c, hbd⟩ := Option.isSome_iff_exists.1 hb1
  rw [hbd, Option.getD_some] at h hB
  refine ⟨⟨fn, hf, by rw [hbd]; rfl, hn⟩, fun w E φ vs hz hH hφ hs1 => ?_⟩
  have hxl := Nat.le_of_ble_eq_true hx
  have hrel : Rel fn.ntmps E (St.init hs xs) φ { tmps := vs ++ Array.replicate (fn.ntmps - vs.size) undef, defers := [] } w := by
    refine ⟨?_, rfl, hz, fun t => ?_, hH, fun id hid => ?_, fun id hid => (hφ id).2 hid⟩
    · simp [hs1.1]; omega
    · show V w _ _ (xs.getD t .dead) _
      cases hq : xs[t]? with
      | none => rw [List.getD_eq_getElem?_getD, hq]; exact .dead
      | some x =>
        have ht : t < vs.size := by rw [hs1.1]; exact (List.getElem?_eq_some_iff.1 hq).1
        rw [List.getD_eq_getElem?_getD, hq]
        have := hs1.2 t x hq
        have e : (vs ++ Array.replicate (fn.ntmps - vs.size) undef).getD t undef = vs.getD t undef := by
          simp [Array.getD_eq_getD_getElem?, Array.getElem?_append_left ht]
        rw [e]
        exact this
    · have hid' : hs.length ≤ id := hid
      exact Classical.byContradiction fun hn => by have := (hφ id).1 hn; omega
  refine calls_of_wp hf hbd (Go.wp_mono ((xc_sat hT hmx c hB _ _ _ h).h E φ _ w hrel) ?_)
  rintro e a' w' ⟨st', φ', h1, h2, h3⟩
  have key : (match outSt T pub L.base fn.results.toList st' with
    | some (hs'', r') => leO hs'' hs' ∧ VV.le r' r
    | none => False) → a'.defers = [] ∧ ∃ v, (results fn a'.tmps).run P w' = .ok v w' ∧ ∃ v' φ'', Ending.returned v = .returned v' ∧ HRel E (obsH hs') φ'' w' ∧ Fr hs.length w φ w' φ'' ∧ (∀ id, φ'' id ≠ none ↔ id < hs'.length) ∧ V w' (E.up φ'') (some φ'') r v' := by
    intro hres
    split at hres
    · rename_i hs'' r' ho
      obtain ⟨v, φ'', g1, g2, g3, g4, g5⟩ := outSt_ok hT h2 ho
      have hl := (leO_at hres.1).1
      refine ⟨h2.df, v, g1, v, φ'', rfl, g2.le hres.1, ?_, fun id => by rw [← hl]; exact g4 id, hres.2 _ _ _ _ g5⟩
      rw [← hb]
      exact h3.trans g3
    · exact hres.elim
  cases e with
  | normal => exact key h1
  | ret => exact key h1
  | _ => exact h1.elim
theorem VSpec.le {f : FuncId} {hs hs' hs1 hs2 : List Ob} {xs xs1 : List VV} {r r' : VV} (h : VSpec P f hs xs hs' r) (h1 : leO hs1 hs) (h2 : leL xs1 xs) (h3 : leO hs' hs2) (h4 : VV.le r r') : VSpec P f hs1 xs1 hs2 r' := by
  refine ⟨h.callable, fun w E φ vs hz hH hφ hs0 => ?_⟩
  obtain ⟨k1, k2⟩ := leL_at h2
  have hl1 := (leO_at h1).1
  have hl3 := (leO_at h3).1
  refine (h.call w E φ vs hz (hH.le h1) (fun id => by rw [← hl1]; exact hφ id) ⟨hs0.1.trans k1, fun j y hy => let ⟨x, hx, hle⟩ := k2 j y hy; hle _ _ _ _ (hs0.2 j x hx)⟩).mono ?_
  rintro e w' ⟨v, φ', e1, g1, g2, g3, g4⟩
  exact ⟨v, φ', e1, g1.le h3, by rw [hl1]; exact g2, fun id => by rw [← hl3]; exact g3 id, h4 _ _ _ _ g4⟩
end
end
section
structure Ctx where
  P : Program
  T : TypeId → TE
  Sh : Shs
  N : Nat
  L : Ann
  code : Code
  p0 : List Nat
  K0 : Exit → St → Prop
def Ctx.goal (c : Ctx) (st : St) : Prop := xc c.P c.T c.Sh c.N c.L c.p0 c.code c.K0 st
def Ctx.sub (c : Ctx) (rel : List Nat) : Code := subC rel c.code
def Ctx.k (c : Ctx) (rel : List Nat) : Exit → St → Prop := kontC c.P c.T c.Sh c.N c.L rel c.p0 c.code c.K0
def Ctx.at (c : Ctx) (rel : List Nat) : List Nat := rel.reverse ++ c.p0
def SatC (c : Ctx) (rel : List Nat) (st : St) : Prop := Sat c.P c.N c.L.base (c.at rel) (c.sub rel) (c.k rel) st
def Ctx.loop (c : Ctx) (rel : List Nat) (J : St → Prop) : Ctx :=
  { c with code := subC (rel ++ [0]) c.code, p0 := 0 :: c.at rel, K0 := loopK c.L.base (c.L.keep (c.at rel)) J (c.k rel) }
def Ctx.first (c : Ctx) (rel : List Nat) (l : Nat) (J : St → Prop) : Ctx :=
  { c with code := subC (rel ++ [0]) c.code, p0 := 0 :: c.at rel, K0 := jumpK l c.L.base (c.L.keep (c.at rel)) J (c.k rel) }
def Ctx.pass (c : Ctx) (rel : List Nat) (l : Nat) (J : St → Prop) : Ctx :=
  { c with code := (findLabel (subC (rel ++ [0]) c.code) l).getD .skip, p0 := 1 :: c.at rel, K0 := jumpK l c.L.base (c.L.keep (c.at rel)) J (c.k rel) }
def Ctx.cut (c : Ctx) (rel : List Nat) : Ctx := { c with code := subC rel c.code, p0 := c.at rel, K0 := c.k rel }
def fnCtx (P : Program) (T : TypeId → TE) (Sh : Shs) (L : Ann) (pub : Bool) (fn : Func) (hs' : List Ob) (r : VV) : Ctx :=
  ⟨P, T, Sh, fn.ntmps, L, bodyOf fn, [], retK T pub L.base fn.results.toList hs' r⟩
theorem satC_loop {c : Ctx} (hT : TOk c.P c.T) (hmx : c.P.follows .mixedOrders = true) {rel : List Nat} {st : St} (J : Nat → St → Prop) (hl : c.sub rel = .loop (subC (rel ++ [0]) c.code)) (hB : regsB c.N (subC (rel ++ [0]) c.code) = true) (hJ : ∃ g, Up (J g) st)
    (round : ∀ g st, J g st → (c.loop rel fun st' => ∃ g', g' < g ∧ Up (J g') st').goal st) : SatC c rel st :=
  sat_loop (L := c.L) (p := c.at rel) (K := c.k rel) hT hmx _ c.Sh (c.L.keep (c.at rel)) J hl hB hJ round
theorem satC_scope {c : Ctx} (hT : TOk c.P c.T) (hmx : c.P.follows .mixedOrders = true) {rel : List Nat} {st : St} (l : Nat) (J : Nat → St → Prop) (hl : c.sub rel = .scope (subC (rel ++ [0]) c.code)) (hf : (findLabel (subC (rel ++ [0]) c.code) l).isSome = true)
    (hB : regsB c.N (subC (rel ++ [0]) c.code) = true) (hB' : regsB c.N ((findLabel (subC (rel ++ [0]) c.code) l).getD .skip) = true)
    (first : (c.first rel l fun st' => ∃ g, Up (J g) st').goal st) (pass : ∀ g st, J g st → (c.pass rel l fun st' => ∃ g', g' < g ∧ Up (J g') st').goal st) : SatC c rel st := by
  obtain ⟨rest, hr⟩ := Option.isSome_iff_exists.1 hf
  have e : (findLabel (subC (rel ++ [0]) c.code) l).getD .skip = rest := by rw [hr]; rfl
  refine sat_scope (L := c.L) (p := c.at rel) (K := c.k rel) hT hmx _ rest c.Sh (c.L.keep (c.at rel)) l J hl hr hB (by rw [← e]; exact hB') first fun g st h => ?_
  rw [← e]
  exact pass g st h
theorem SatC.le {c : Ctx} {rel : List Nat} {l l' : List (Nat × VV)} {hs hs' : List Ob} (h1 : leT l l') (h2 : leO hs hs') (h : SatC c rel (mkSt l' hs')) : SatC c rel (mkSt l hs) := Sat.le h1 h2 h
theorem SatC.own {c : Ctx} {rel : List Nat} {l : List (Nat × VV)} {hs : List Ob} (k t sz : Nat) (f : Nat → List VV) (hk : l[k]? = some (t, .nl)) (h : SatC c rel (mkSt (l.set k (t, .ow hs.length 0 0)) (hs ++ [.arr true 0 0 sz f]))) : SatC c rel (mkSt l hs) := Sat.own k t sz f hk h
structure Asks (A : Prop) : Prop where
  out : A
theorem Asks.raw {A Q : Prop} (e : A = Q) (h : Q) : Asks A := ⟨e.mpr h⟩
theorem vspec_raw {P : Program} {T : TypeId → TE} (hT : TOk P T) (hmx : P.follows .mixedOrders = true) {f : FuncId} {fn : Func} {hs : List Ob} {xs : List VV} {hs' : List Ob} {r : VV} {Sh : Shs} {L : Ann} {pub : Bool} {Q : Prop} (hf : P.funcs[f]? = some fn)
    (hfn : fnB fn xs.length = true) (hb : L.base = hs.length) (e : (fnCtx P T Sh L pub fn hs' r).goal (St.init hs xs) = Q) (h : Q) : VSpec P f hs xs hs' r :=
  vspec_of hT hmx Sh L pub hf hfn hb (e.mpr h)
theorem cut_raw {c : Ctx} (hT : TOk c.P c.T) (hmx : c.P.follows .mixedOrders = true) {rel : List Nat} {st : St} {Q : Prop} (hB : regsB c.N (subC rel c.code) = true) (e : (c.cut rel).goal st = Q) (h : Q) : SatC c rel st :=
  xc_sat (L := c.L) hT hmx _ hB _ _ _ (e.mpr h)
theorem loop_raw {c : Ctx} (hT : TOk c.P c.T) (hmx : c.P.follows .mixedOrders = true) {rel : List Nat} {st : St} (J : Nat → St → Prop) (hl : c.sub rel = .loop (subC (rel ++ [0]) c.code)) (hB : regsB c.N (subC (rel ++ [0]) c.code) = true) (hJ : ∃ g, Up (J g) st)
    (round : ∀ g st, J g st → Asks ((c.loop rel fun st' => ∃ g', g' < g ∧ Up (J g') st').goal st)) : SatC c rel st :=
  satC_loop hT hmx J hl hB hJ fun g st h => (round g st h).out
theorem scope_raw {c : Ctx} (hT : TOk c.P c.T) (hmx : c.P.follows .mixedOrders = true) {rel : List Nat} {st : St} (l : Nat) (J : Nat → St → Prop) (hl : c.sub rel = .scope (subC (rel ++ [0]) c.code)) (hf : (findLabel (subC (rel ++ [0]) c.code) l).isSome = true)
    (hB : regsB c.N (subC (rel ++ [0]) c.code) = true) (hB' : regsB c.N ((findLabel (subC (rel ++ [0]) c.code) l).getD .skip) = true)
    (first : Asks ((c.first rel l fun st' => ∃ g, Up (J g) st').goal st)) (pass : ∀ g st, J g st → Asks ((c.pass rel l fun st' => ∃ g', g' < g ∧ Up (J g') st').goal st)) : SatC c rel st :=
  satC_scope hT hmx l J hl hf hB hB' first.out fun g st h => (pass g st h).out
end
section
section
variable {w : World} {E : Prot} {m : Option Phi} {v : Value}
theorem V.unmap {φ : Phi} (hφ : ∀ id, φ id = none) {x : VV} (h : V w E (some φ) x v) : V w E none x v := by
  generalize hm : some φ = m0 at h
  induction h with
  | dead => exact .dead
  | sc => exact .sc
  | nl => exact .nl
  | nil h => exact .nil h
  | sl u h1 h2 h3 h4 h5 h6 h7 _ => exact .sl u h1 h2 h3 h4 h5 h6 h7
  | tp u h1 h2 h3 h4 _ => exact .tp u h1 h2 h3 h4
  | bp h => obtain rfl := Option.some.inj hm; rw [hφ] at h; cases h
  | ow h => obtain rfl := Option.some.inj hm; rw [hφ] at h; cases h
  | ep h => obtain rfl := Option.some.inj hm; rw [hφ] at h; cases h
  | agg h1 h2 ih => exact .agg h1 fun j x hx => ih j x hx hm
  | tup h1 h2 ih => exact .tup h1 fun j x hx => ih j x hx hm
  | fn h1 h2 ih => exact .fn h1 fun j x hx => ih j x hx hm
  | er h => exact .er h
theorem Says.cons_inv {x : VV} {xs : List VV} {vs : Array Value} (h : Says w E m (x :: xs) vs) : ∃ u us, vs = #[u] ++ us ∧ V w E m x u ∧ Says w E m xs us := by
  obtain ⟨l⟩ := vs
  match l, h with
  | [], h => have := h.1; simp at this
  | u :: l, h =>
    refine ⟨u, l.toArray, by simp, h.2 0 x rfl, by have := h.1; simpa using this, fun j y hy => ?_⟩
    have := h.2 (j + 1) y hy
    simpa [Array.getD_eq_getD_getElem?] using this
theorem Says.nil_inv {vs : Array Value} (h : Says w E m [] vs) : vs = #[] := by
  have := h.1; exact Array.eq_empty_of_size_eq_zero (by simpa using this)
theorem V.agg2_inv {x y : VV} (h : V w E m (.agg [x, y]) v) : ∃ a b, v = .agg #[a, b] ∧ V w E m x a ∧ V w E m y b := by
  obtain ⟨vs, rfl, h1, h2⟩ := h.agg_inv
  obtain ⟨l⟩ := vs
  match l, h1, h2 with
  | [a, b], _, h2 => exact ⟨a, b, rfl, h2 0 x rfl, h2 1 y rfl⟩
theorem v_tup2 {x y : VV} {a b : Value} (h1 : V w E m x a) (h2 : V w E m y b) : V w E m (.tup [x, y]) (.tuple #[a, b]) := by
  refine .tup rfl fun j z hz => ?_
  match j, hz with
  | 0, hz => simp only [List.getElem?_cons_zero, Option.some.injEq] at hz; subst hz; exact h1
  | 1, hz => simp only [List.getElem?_cons_succ, List.getElem?_cons_zero, Option.some.injEq] at hz; subst hz; exact h2
  | j + 2, hz => simp at hz
end
theorem VSpec.hand {P : Program} {f : FuncId} {xs : List VV} {r : VV} (hc : Callable P f)
    (h : ∀ (w : World) (E : Prot) (vs : Array Value), (∀ k, E.fz k → k < w.heap.size) → LibAt w → (∀ k, k ∈ libB → k < w.heap.size) → (∀ k, E.br k → E.fz k) → Says w E none xs vs → Calls P f vs w fun e w' => ∃ v, e = .returned v ∧ V w' E none r v ∧ Below w.heap.size w w') : VSpec P f [] xs [] r := by
  refine ⟨hc, fun w E φ vs hz hH hφ hs => ?_⟩
  have hnone : ∀ id, φ id = none := fun id => Classical.byContradiction fun hn => by have := (hφ id).1 hn; simp at this
  refine (h w (E.up φ) vs ?_ hz.lib.at' hz.lib.lt ?_ ⟨hs.1, fun j x hx => (hs.2 j x hx).unmap hnone⟩).mono ?_
  · rintro k (hk | hk)
    · exact hz.lt k hk
    · exact hH.lt hk
  · exact fun k hk => hk.imp (hH.sub k) fun h => h
  · rintro e w' ⟨v, rfl, hV, hB⟩
    exact ⟨v, φ, rfl, hH.below hB, Fr.of_ext (Ext.of_below hB), hφ, hV.held⟩
theorem VSpec.start {P : Program} {f : FuncId} {xs : List VV} {r : VV} (h : VSpec P f [] xs [] r) {w : World} {vs : Array Value} (hL : LibAt w) (hB : ∀ k, k ∈ libB → k < w.heap.size) (hs : Says w ⟨fun _ => False, fun _ => False⟩ none xs vs) :
    Calls P f vs w fun e w' => ∃ v, e = .returned v ∧ Below w.heap.size w w' ∧ V w' ⟨fun _ => False, fun _ => False⟩ none r v := by
  have hno : ∀ k, ¬ Own (fun _ => none : Phi) k := by
    rintro k ⟨id, hb⟩
    obtain ⟨p, hp, _⟩ := blk_iff.1 hb
    cases hp
  refine (h.call w ⟨fun _ => False, fun _ => False⟩ (fun _ => none) vs ⟨fun _ h => h.elim, hL, hB, fun k _ ho => hno k ho⟩ ⟨fun _ h => h, fun id p e => (by cases e), fun i j k hb => (hno k ⟨i, hb⟩).elim, fun k hk => (hno k hk).elim⟩ (fun id => by simp) ⟨hs.1, fun j x hx => ?_⟩).mono ?_
  · exact ((hs.2 j x hx).held).less (fun k hk => hk.elim (fun h => h) (hno k)) fun k hk => hk.elim (fun h => h) (hno k)
  · rintro e w' ⟨v, φ', rfl, _, h2, h3, h4⟩
    have hnone : ∀ id, φ' id = none := fun id => Classical.byContradiction fun hn => by have := (h3 id).1 hn; simp at this
    refine ⟨v, rfl, ⟨h2.os, h2.tape, h2.output, h2.size, fun k hk => h2.block k hk (hno k)⟩, (h4.unmap hnone).less (fun _ h => h.elim) fun _ h => h.elim⟩
end
end Go.Proofs.YtiaebjpcgjkhoaaGreatDoor
namespace Go.Proofs.YtiaebjpcgjkhoaaGreatDoor
open Go.RowKit
def intV (n : Int) : VV := .sc (.int .i64 n)
def boolV (b : Bool) : VV := .sc (.bool b)
def strV (s : ByteArray) : VV := .sc (.string s)
structure Ev {α : Type} (p : Pkg α) (enc : α → List VV) (wf : α → Prop) : Prop where
  ok : ∀ {w : World} {E : Prot} {m : Option Phi} {cs : List Value} {x : α}, (∀ k, ¬ E.fz k) → p.mu x ≤ 1048576 → Is p w cs x → cs.length = (enc x).length ∧ (∀ (j : Nat) (y : VV), (enc x)[j]? = some y → V w E m y (cs.getD j undef)) ∧ wf x
namespace Ev
def wInt (k : IntKind) (n : Int) : Prop := (Lit.int k n).wf = true
theorem imp {α : Type} {p : Pkg α} {e e' : α → List VV} {wf wf' : α → Prop} (h : Ev p e wf) (he : ∀ x, e x = e' x) (hw : ∀ x, wf x → wf' x) : Ev p e' wf' := ⟨fun {w E m cs x} hE hm k => by
  obtain ⟨h1, h2, h3⟩ := h.ok (E := E) (m := m) hE hm k
  rw [← he x]
  exact ⟨h1, h2, hw x h3⟩⟩
theorem int (k : IntKind) : Ev (Pkg.int k) (fun n => [.sc (.int k n)]) (wInt k) := ⟨fun {w E m cs x} _ _ h => by
  obtain ⟨rfl, hw⟩ := is_int.1 h
  refine ⟨rfl, fun j y hy => ?_, hw⟩
  match j, hy with
  | 0, hy => simp only [List.getElem?_cons_zero, Option.some.injEq] at hy; subst hy; exact .sc
  | j + 1, hy => simp at hy⟩
theorem bool : Ev Pkg.bool (fun b => [.sc (.bool b)]) (fun _ => True) := ⟨fun {w E m cs x} _ _ h => by
  obtain rfl := is_bool.1 h
  refine ⟨rfl, fun j y hy => ?_, trivial⟩
  match j, hy with
  | 0, hy => simp only [List.getElem?_cons_zero, Option.some.injEq] at hy; subst hy; exact .sc
  | j + 1, hy => simp at hy⟩
theorem str : Ev Pkg.str (fun b => [.sc (.string b)]) (fun b => b.size ≤ 1048576) := ⟨fun {w E m cs x} _ hm h => by
  obtain ⟨rfl, hs⟩ := is_str.1 h
  have hm' : x.size + 1 ≤ 1048576 := hm
  refine ⟨rfl, fun j y hy => ?_, by omega⟩
  match j, hy with
  | 0, hy => simp only [List.getElem?_cons_zero, Option.some.injEq] at hy; subst hy; exact .sc
  | j + 1, hy => simp at hy⟩
theorem unit : Ev Pkg.unit (fun _ => []) (fun _ => True) := ⟨fun {w E m cs x} _ _ h => by
  obtain rfl := is_unit.1 h
  exact ⟨rfl, fun j y hy => by simp at hy, trivial⟩⟩
theorem cons {α β : Type} {p : Pkg α} {q : Pkg β} {e1 : α → List VV} {e2 : β → List VV} {w1 : α → Prop} {w2 : β → Prop} {n : Nat} (h1 : Ev p e1 w1) (h2 : Ev q e2 w2) : Ev (Pkg.cons n p q) (fun y => e1 y.1 ++ e2 y.2) (fun y => w1 y.1 ∧ w2 y.2) := ⟨fun {w E m cs x} hE hm h => by
  obtain ⟨a, b, rfl, ha, k1, k2⟩ := is_cons.1 h
  have hm' : p.mu x.1 + q.mu x.2 ≤ 1048576 := hm
  obtain ⟨l1, v1, f1⟩ := h1.ok (E := E) (m := m) hE (by omega) k1
  obtain ⟨l2, v2, f2⟩ := h2.ok (E := E) (m := m) hE (by omega) k2
  refine ⟨by simp [l1, l2], fun j y hy => ?_, f1, f2⟩
  by_cases hj : j < (e1 x.1).length
  · rw [List.getElem?_append_left hj] at hy
    have := v1 j y hy
    rw [List.getD_eq_getElem?_getD, List.getElem?_append_left (by omega), ← List.getD_eq_getElem?_getD]
    exact this
  · rw [List.getElem?_append_right (by omega)] at hy
    have := v2 _ y hy
    rw [List.getD_eq_getElem?_getD, List.getElem?_append_right (by omega), l1, ← List.getD_eq_getElem?_getD]
    exact this⟩
theorem via {α β : Type} {p : Pkg α} {e : α → List VV} {wf : α → Prop} (f : β → α) (h : Ev p e wf) : Ev (Pkg.via f p) (fun y => e (f y)) (fun y => wf (f y)) := ⟨fun {w E m cs x} hE hm k => h.ok hE (by have hm' : p.mu (f x) + 1 ≤ 1048576 := hm; omega) (is_via.1 k)⟩
theorem mem_sum {α : Type} {μ : α → Nat} : ∀ {l : List α} {y : α}, y ∈ l → μ y ≤ Rd.sum μ l
  | x :: l, y, h => by
    rcases List.mem_cons.1 h with rfl | h
    · simp only [Rd.sum]; omega
    · have := mem_sum (μ := μ) h; simp only [Rd.sum]; omega
  | [], _, h => by cases h
theorem len_sum {α : Type} {μ : α → Nat} (h1 : ∀ x, 1 ≤ μ x) : ∀ (l : List α), l.length ≤ Rd.sum μ l
  | [] => by simp
  | x :: l => by have := len_sum h1 l; have := h1 x; simp only [Rd.sum, List.length_cons]; omega
theorem one_sum {α : Type} {μ : α → Nat} : ∀ (l : List α), 1 ≤ Rd.sum μ l
  | [] => by simp [Rd.sum]
  | x :: l => by have := one_sum (μ := μ) l; simp only [Rd.sum]; omega
theorem slice {α : Type} {p : Pkg α} {e : α → List VV} {wf : α → Prop} {size bytes : Nat} (d : α) (h : Ev p e wf) (hl : ∀ x, (e x).length = size) (hp : ∀ x, 1 ≤ p.mu x) : Ev (Pkg.slice size bytes p) (fun l => [.sl true l.length size fun i => e (l.getD i d)]) (fun l => l.length ≤ 1048576 ∧ ∀ y ∈ l, wf y) := ⟨fun {w E m cs x} hE hmu k => by
  have hmu' : Rd.sum p.mu x ≤ 1048576 := hmu
  have hmem : ∀ y ∈ x, p.mu y ≤ 1048576 := fun y hy => Nat.le_trans (mem_sum hy) hmu'
  obtain ⟨v, rfl⟩ : ∃ v, cs = [v] := by
    obtain ⟨ao, cap, e', _⟩ := k
    exact ⟨_, e'⟩
  obtain ⟨ao, cap, rfl, k1, k2, k3⟩ := is_slice k
  refine ⟨rfl, fun j y hy => ?_, Nat.le_trans (len_sum hp x) hmu', fun y hy => ?_⟩
  · match j, hy with
    | 0, hy =>
      simp only [List.getElem?_cons_zero, Option.some.injEq] at hy
      subst hy
      refine V.sl_mk k1 k2 fun hp => ?_
      obtain ⟨b, off, rfl, hb, hel⟩ := k3 hp
      have hat : ∀ i, i < x.length → ∃ es : List Value, es.length = size ∧ (∀ k, k < size → w.cell? ⟨b, off + i * size + k, none⟩ = es[k]?) ∧ Is p w es (x.getD i d) := fun i hi => hel i (x.getD i d) (by simp [List.getD, hi])
      refine ⟨b, off, rfl, hb, hE b, fun i _ => hl _, fun i j => (w.cell? ⟨b, off + i * size + j, none⟩).getD undef, fun i j y hi hy => ?_, fun i j y hi hy => ?_⟩
      · obtain ⟨es, h4, h5, h6⟩ := hat i hi
        have hj : j < size := by rw [← hl (x.getD i d)]; exact (List.getElem?_eq_some_iff.1 hy).1
        show w.cell? ⟨b, off + i * size + j, none⟩ = some ((w.cell? ⟨b, off + i * size + j, none⟩).getD undef)
        have h7 : w.cell? ⟨b, off + i * size + j, none⟩ = some (es[j]'(by omega)) := by rw [h5 j hj, List.getElem?_eq_getElem (by omega)]
        rw [h7]; rfl
      · obtain ⟨es, h4, h5, h6⟩ := hat i hi
        have hj : j < size := by rw [← hl (x.getD i d)]; exact (List.getElem?_eq_some_iff.1 hy).1
        have hi' : x.getD i d ∈ x := by simp [List.getD, hi]
        have := (h.ok (E := E.at true) (m := none) (fun k => hE k) (hmem _ hi') h6).2.1 j y hy
        rw [List.getD_eq_getElem?_getD, ← h5 j hj] at this
        exact this
    | j + 1, hy => simp at hy
  · have hm := hmem y hy
    obtain ⟨i, hi, rfl⟩ := List.mem_iff_getElem.1 hy
    obtain ⟨b, off, e', hb, hel⟩ := k3 (by omega)
    obtain ⟨es, _, _, hx⟩ := hel i x[i] (List.getElem?_eq_getElem hi)
    exact (h.ok (E := E) (m := m) hE hm hx).2.2⟩
theorem agg {α : Type} {p : Pkg α} {e : α → List VV} {wf : α → Prop} (h : Ev p e wf) {w : World} {E : Prot} {m : Option Phi} {cs : Array Value} {x : α} (hE : ∀ k, ¬ E.fz k) (hm : p.mu x ≤ 1048576) (k : Is p w cs.toList x) : V w E m (.agg (e x)) (.agg cs) ∧ wf x := by
  obtain ⟨h1, h2, h3⟩ := h.ok (E := E) (m := m) hE hm k
  refine ⟨.agg (by simpa using h1) fun j y hy => ?_, h3⟩
  have := h2 j y hy
  simpa [Array.getD_eq_getD_getElem?, List.getD_eq_getElem?_getD] using this
theorem one {α : Type} {p : Pkg α} {e : α → VV} {wf : α → Prop} (h : Ev p (fun x => [e x]) wf) {w : World} {E : Prot} {m : Option Phi} {v : Value} {x : α} (hE : ∀ k, ¬ E.fz k) (hm : p.mu x ≤ 1048576) (k : Is p w [v] x) : V w E m (e x) v ∧ wf x := by
  obtain ⟨h1, h2, h3⟩ := h.ok (E := E) (m := m) hE hm k
  exact ⟨h2 0 (e x) rfl, h3⟩
end Ev
end Go.Proofs.YtiaebjpcgjkhoaaGreatDoor
namespace Go.Proofs.YtiaebjpcgjkhoaaGreatDoor
open Go.RowKit
instance : Inhabited D.Type := ⟨⟨0, false⟩⟩
def enc_Type (x : D.Type) : List VV := [intV x.Bits, boolV x.Signed]
structure wf_Type (x : D.Type) : Prop where
  Bits : Ev.wInt .i64 x.Bits
  Signed : True
theorem ev_Type : Ev p_Type enc_Type wf_Type := (Ev.via (fun x : D.Type => (x.Bits, x.Signed, ())) (Ev.cons (Ev.int .i64) (Ev.cons Ev.bool Ev.unit))).imp (fun _ => rfl) fun _ ⟨h0, h1, _⟩ => ⟨h0, h1⟩
def encL_Type (fz : Bool) (l : List D.Type) : VV := .sl fz l.length 2 fun i => enc_Type (l.getD i default)
def wfL_Type (l : List D.Type) : Prop := l.length ≤ 1048576 ∧ ∀ y ∈ l, wf_Type y
theorem evL_Type : Ev (Pkg.slice 2 16 p_Type) (fun l => [encL_Type true l]) wfL_Type := Ev.slice default ev_Type (fun _ => rfl) (fun _ => Nat.succ_le_succ (Nat.zero_le _))
instance : Inhabited D.Shape := ⟨⟨0, []⟩⟩
def enc_Shape (x : D.Shape) : List VV := [intV x.Room, encL_Type true x.Fields]
structure wf_Shape (x : D.Shape) : Prop where
  Room : Ev.wInt .i64 x.Room
  Fields : wfL_Type x.Fields
theorem ev_Shape : Ev p_Shape enc_Shape wf_Shape := (Ev.via (fun x : D.Shape => (x.Room, x.Fields, ())) (Ev.cons (Ev.int .i64) (Ev.cons evL_Type Ev.unit))).imp (fun _ => rfl) fun _ ⟨h0, h1, _⟩ => ⟨h0, h1⟩
def encL_Int (fz : Bool) (l : List Int) : VV := .sl fz l.length 1 fun i => [intV (l.getD i 0)]
def wfL_Int (l : List Int) : Prop := l.length ≤ 1048576 ∧ ∀ y ∈ l, Ev.wInt .i64 y
theorem evL_Int : Ev (Pkg.slice 1 8 (Pkg.int .i64)) (fun l => [encL_Int true l]) wfL_Int := Ev.slice 0 (Ev.int .i64) (fun _ => rfl) (fun _ => Nat.le_refl _)
instance : Inhabited D.Stmt := ⟨⟨0, 0, 0, 0, [], [], ⟨#[]⟩⟩⟩
def enc_Stmt (x : D.Stmt) : List VV := [intV x.Kind, intV x.A, intV x.B, intV x.N, encL_Int true x.Args, encL_Int true x.Match, strV x.Text]
structure wf_Stmt (x : D.Stmt) : Prop where
  Kind : Ev.wInt .i64 x.Kind
  A : Ev.wInt .i64 x.A
  B : Ev.wInt .i64 x.B
  N : Ev.wInt .i64 x.N
  Args : wfL_Int x.Args
  Match : wfL_Int x.Match
  Text : (x.Text).size ≤ 1048576
theorem ev_Stmt : Ev p_Stmt enc_Stmt wf_Stmt := (Ev.via (fun x : D.Stmt => (x.Kind, x.A, x.B, x.N, x.Args, x.Match, x.Text, ())) (Ev.cons (Ev.int .i64) (Ev.cons (Ev.int .i64) (Ev.cons (Ev.int .i64) (Ev.cons (Ev.int .i64) (Ev.cons evL_Int (Ev.cons evL_Int (Ev.cons Ev.str Ev.unit)))))))).imp (fun _ => rfl) fun _ ⟨h0, h1, h2, h3, h4, h5, h6, _⟩ => ⟨h0, h1, h2, h3, h4, h5, h6⟩
instance : Inhabited D.Trans := ⟨⟨default, 0, 0⟩⟩
def enc_Trans (x : D.Trans) : List VV := [intV x.S.Kind, intV x.S.A, intV x.S.B, intV x.S.N, encL_Int true x.S.Args, encL_Int true x.S.Match, strV x.S.Text, intV x.To, intV x.Line]
structure wf_Trans (x : D.Trans) : Prop where
  S : wf_Stmt x.S
  To : Ev.wInt .i64 x.To
  Line : Ev.wInt .i64 x.Line
theorem ev_Trans : Ev p_Trans enc_Trans wf_Trans := (Ev.via (fun x : D.Trans => (x.S, x.To, x.Line, ())) (Ev.cons ev_Stmt (Ev.cons (Ev.int .i64) (Ev.cons (Ev.int .i64) Ev.unit)))).imp (fun _ => rfl) fun _ ⟨h0, h1, h2, _⟩ => ⟨h0, h1, h2⟩
def encL_Trans (fz : Bool) (l : List D.Trans) : VV := .sl fz l.length 9 fun i => enc_Trans (l.getD i default)
def wfL_Trans (l : List D.Trans) : Prop := l.length ≤ 1048576 ∧ ∀ y ∈ l, wf_Trans y
theorem evL_Trans : Ev (Pkg.slice 9 112 p_Trans) (fun l => [encL_Trans true l]) wfL_Trans := Ev.slice default ev_Trans (fun _ => rfl) (fun _ => Nat.succ_le_succ (Nat.zero_le _))
def encL_Transs (fz : Bool) (l : List (List D.Trans)) : VV := .sl fz l.length 1 fun i => [encL_Trans true (l.getD i [])]
def wfL_Transs (l : List (List D.Trans)) : Prop := l.length ≤ 1048576 ∧ ∀ y ∈ l, wfL_Trans y
theorem evL_Transs : Ev (Pkg.slice 1 24 (Pkg.slice 9 112 p_Trans)) (fun l => [encL_Transs true l]) wfL_Transs := Ev.slice [] evL_Trans (fun _ => rfl) (fun _ => Ev.one_sum _)
instance : Inhabited D.Loc := ⟨⟨[], [], false, false, false, false, false⟩⟩
def enc_Loc (x : D.Loc) : List VV := [encL_Trans true x.Out, encL_Transs true x.Esc, boolV x.Atomic, boolV x.Dstep, boolV x.End, boolV x.Accept, boolV x.Progress]
structure wf_Loc (x : D.Loc) : Prop where
  Out : wfL_Trans x.Out
  Esc : wfL_Transs x.Esc
  Atomic : True
  Dstep : True
  End : True
  Accept : True
  Progress : True
theorem ev_Loc : Ev p_Loc enc_Loc wf_Loc := (Ev.via (fun x : D.Loc => (x.Out, x.Esc, x.Atomic, x.Dstep, x.End, x.Accept, x.Progress, ())) (Ev.cons evL_Trans (Ev.cons evL_Transs (Ev.cons Ev.bool (Ev.cons Ev.bool (Ev.cons Ev.bool (Ev.cons Ev.bool (Ev.cons Ev.bool Ev.unit)))))))).imp (fun _ => rfl) fun _ ⟨h0, h1, h2, h3, h4, h5, h6, _⟩ => ⟨h0, h1, h2, h3, h4, h5, h6⟩
def encL_Loc (fz : Bool) (l : List D.Loc) : VV := .sl fz l.length 7 fun i => enc_Loc (l.getD i default)
def wfL_Loc (l : List D.Loc) : Prop := l.length ≤ 1048576 ∧ ∀ y ∈ l, wf_Loc y
theorem evL_Loc : Ev (Pkg.slice 7 56 p_Loc) (fun l => [encL_Loc true l]) wfL_Loc := Ev.slice default ev_Loc (fun _ => rfl) (fun _ => Nat.succ_le_succ (Nat.zero_le _))
instance : Inhabited D.Proc := ⟨⟨⟨#[]⟩, 0, [], [], [], 0, 0, 0, 0, 0⟩⟩
def enc_Proc (x : D.Proc) : List VV := [strV x.Name, intV x.Params, encL_Type true x.Frame, encL_Int true x.Init, encL_Loc true x.Locs, intV x.Start, intV x.Final, intV x.Active, intV x.Prio, intV x.Provided]
structure wf_Proc (x : D.Proc) : Prop where
  Name : (x.Name).size ≤ 1048576
  Params : Ev.wInt .i64 x.Params
  Frame : wfL_Type x.Frame
  Init : wfL_Int x.Init
  Locs : wfL_Loc x.Locs
  Start : Ev.wInt .i64 x.Start
  Final : Ev.wInt .i64 x.Final
  Active : Ev.wInt .i64 x.Active
  Prio : Ev.wInt .i64 x.Prio
  Provided : Ev.wInt .i64 x.Provided
theorem ev_Proc : Ev p_Proc enc_Proc wf_Proc := (Ev.via (fun x : D.Proc => (x.Name, x.Params, x.Frame, x.Init, x.Locs, x.Start, x.Final, x.Active, x.Prio, x.Provided, ())) (Ev.cons Ev.str (Ev.cons (Ev.int .i64) (Ev.cons evL_Type (Ev.cons evL_Int (Ev.cons evL_Loc (Ev.cons (Ev.int .i64) (Ev.cons (Ev.int .i64) (Ev.cons (Ev.int .i64) (Ev.cons (Ev.int .i64) (Ev.cons (Ev.int .i64) Ev.unit))))))))))).imp (fun _ => rfl) fun _ ⟨h0, h1, h2, h3, h4, h5, h6, h7, h8, h9, _⟩ => ⟨h0, h1, h2, h3, h4, h5, h6, h7, h8, h9⟩
instance : Inhabited D.Dim := ⟨⟨0, 0, 0⟩⟩
def enc_Dim (x : D.Dim) : List VV := [intV x.I, intV x.Len, intV x.Stride]
structure wf_Dim (x : D.Dim) : Prop where
  I : Ev.wInt .i64 x.I
  Len : Ev.wInt .i64 x.Len
  Stride : Ev.wInt .i64 x.Stride
theorem ev_Dim : Ev p_Dim enc_Dim wf_Dim := (Ev.via (fun x : D.Dim => (x.I, x.Len, x.Stride, ())) (Ev.cons (Ev.int .i64) (Ev.cons (Ev.int .i64) (Ev.cons (Ev.int .i64) Ev.unit)))).imp (fun _ => rfl) fun _ ⟨h0, h1, h2, _⟩ => ⟨h0, h1, h2⟩
def encL_Dim (fz : Bool) (l : List D.Dim) : VV := .sl fz l.length 3 fun i => enc_Dim (l.getD i default)
def wfL_Dim (l : List D.Dim) : Prop := l.length ≤ 1048576 ∧ ∀ y ∈ l, wf_Dim y
theorem evL_Dim : Ev (Pkg.slice 3 24 p_Dim) (fun l => [encL_Dim true l]) wfL_Dim := Ev.slice default ev_Dim (fun _ => rfl) (fun _ => Nat.succ_le_succ (Nat.zero_le _))
instance : Inhabited D.Var := ⟨⟨0, 0, 0, 0, []⟩⟩
def enc_Var (x : D.Var) : List VV := [intV x.Scope, intV x.Slot, intV x.Who, intV x.Type_, encL_Dim true x.Dims]
structure wf_Var (x : D.Var) : Prop where
  Scope : Ev.wInt .i64 x.Scope
  Slot : Ev.wInt .i64 x.Slot
  Who : Ev.wInt .i64 x.Who
  Type_ : Ev.wInt .i64 x.Type_
  Dims : wfL_Dim x.Dims
theorem ev_Var : Ev p_Var enc_Var wf_Var := (Ev.via (fun x : D.Var => (x.Scope, x.Slot, x.Who, x.Type_, x.Dims, ())) (Ev.cons (Ev.int .i64) (Ev.cons (Ev.int .i64) (Ev.cons (Ev.int .i64) (Ev.cons (Ev.int .i64) (Ev.cons evL_Dim Ev.unit)))))).imp (fun _ => rfl) fun _ ⟨h0, h1, h2, h3, h4, _⟩ => ⟨h0, h1, h2, h3, h4⟩
instance : Inhabited D.Expr := ⟨⟨0, 0, 0, 0, 0, default, [], []⟩⟩
def enc_Expr (x : D.Expr) : List VV := [intV x.Op, intV x.N, intV x.A, intV x.B, intV x.C, intV x.V.Scope, intV x.V.Slot, intV x.V.Who, intV x.V.Type_, encL_Dim true x.V.Dims, encL_Int true x.Args, encL_Int true x.Match]
structure wf_Expr (x : D.Expr) : Prop where
  Op : Ev.wInt .i64 x.Op
  N : Ev.wInt .i64 x.N
  A : Ev.wInt .i64 x.A
  B : Ev.wInt .i64 x.B
  C : Ev.wInt .i64 x.C
  V : wf_Var x.V
  Args : wfL_Int x.Args
  Match : wfL_Int x.Match
theorem ev_Expr : Ev p_Expr enc_Expr wf_Expr := (Ev.via (fun x : D.Expr => (x.Op, x.N, x.A, x.B, x.C, x.V, x.Args, x.Match, ())) (Ev.cons (Ev.int .i64) (Ev.cons (Ev.int .i64) (Ev.cons (Ev.int .i64) (Ev.cons (Ev.int .i64) (Ev.cons (Ev.int .i64) (Ev.cons ev_Var (Ev.cons evL_Int (Ev.cons evL_Int Ev.unit))))))))).imp (fun _ => rfl) fun _ ⟨h0, h1, h2, h3, h4, h5, h6, h7, _⟩ => ⟨h0, h1, h2, h3, h4, h5, h6, h7⟩
def encL_Shape (fz : Bool) (l : List D.Shape) : VV := .sl fz l.length 2 fun i => enc_Shape (l.getD i default)
def wfL_Shape (l : List D.Shape) : Prop := l.length ≤ 1048576 ∧ ∀ y ∈ l, wf_Shape y
theorem evL_Shape : Ev (Pkg.slice 2 32 p_Shape) (fun l => [encL_Shape true l]) wfL_Shape := Ev.slice default ev_Shape (fun _ => rfl) (fun _ => Nat.succ_le_succ (Nat.zero_le _))
def encL_Proc (fz : Bool) (l : List D.Proc) : VV := .sl fz l.length 10 fun i => enc_Proc (l.getD i default)
def wfL_Proc (l : List D.Proc) : Prop := l.length ≤ 1048576 ∧ ∀ y ∈ l, wf_Proc y
theorem evL_Proc : Ev (Pkg.slice 10 136 p_Proc) (fun l => [encL_Proc true l]) wfL_Proc := Ev.slice default ev_Proc (fun _ => rfl) (fun _ => Nat.succ_le_succ (Nat.zero_le _))
def encL_Expr (fz : Bool) (l : List D.Expr) : VV := .sl fz l.length 12 fun i => enc_Expr (l.getD i default)
def wfL_Expr (l : List D.Expr) : Prop := l.length ≤ 1048576 ∧ ∀ y ∈ l, wf_Expr y
theorem evL_Expr : Ev (Pkg.slice 12 144 p_Expr) (fun l => [encL_Expr true l]) wfL_Expr := Ev.slice default ev_Expr (fun _ => rfl) (fun _ => Nat.succ_le_succ (Nat.zero_le _))
instance : Inhabited D.Model := ⟨⟨[], [], [], [], [], 0, []⟩⟩
def enc_Model (x : D.Model) : List VV := [encL_Type true x.Globals, encL_Int true x.Init, encL_Shape true x.Shapes, encL_Int true x.Chans, encL_Proc true x.Procs, intV x.Claim, encL_Expr true x.Exprs]
structure wf_Model (x : D.Model) : Prop where
  Globals : wfL_Type x.Globals
  Init : wfL_Int x.Init
  Shapes : wfL_Shape x.Shapes
  Chans : wfL_Int x.Chans
  Procs : wfL_Proc x.Procs
  Claim : Ev.wInt .i64 x.Claim
  Exprs : wfL_Expr x.Exprs
theorem ev_Model : Ev p_Model enc_Model wf_Model := (Ev.via (fun x : D.Model => (x.Globals, x.Init, x.Shapes, x.Chans, x.Procs, x.Claim, x.Exprs, ())) (Ev.cons evL_Type (Ev.cons evL_Int (Ev.cons evL_Shape (Ev.cons evL_Int (Ev.cons evL_Proc (Ev.cons (Ev.int .i64) (Ev.cons evL_Expr Ev.unit)))))))).imp (fun _ => rfl) fun _ ⟨h0, h1, h2, h3, h4, h5, h6, _⟩ => ⟨h0, h1, h2, h3, h4, h5, h6⟩
def encL_Ints (fz : Bool) (l : List (List Int)) : VV := .sl fz l.length 1 fun i => [encL_Int true (l.getD i [])]
def wfL_Ints (l : List (List Int)) : Prop := l.length ≤ 1048576 ∧ ∀ y ∈ l, wfL_Int y
theorem evL_Ints : Ev (Pkg.slice 1 24 (Pkg.slice 1 8 (Pkg.int .i64))) (fun l => [encL_Ints true l]) wfL_Ints := Ev.slice [] evL_Int (fun _ => rfl) (fun _ => Ev.one_sum _)
instance : Inhabited D.Chan := ⟨⟨0, []⟩⟩
def enc_Chan (x : D.Chan) : List VV := [intV x.Shape, encL_Ints true x.Queue]
structure wf_Chan (x : D.Chan) : Prop where
  Shape : Ev.wInt .i64 x.Shape
  Queue : wfL_Ints x.Queue
theorem ev_Chan : Ev p_Chan enc_Chan wf_Chan := (Ev.via (fun x : D.Chan => (x.Shape, x.Queue, ())) (Ev.cons (Ev.int .i64) (Ev.cons evL_Ints Ev.unit))).imp (fun _ => rfl) fun _ ⟨h0, h1, _⟩ => ⟨h0, h1⟩
instance : Inhabited D.Process := ⟨⟨0, 0, 0, []⟩⟩
def enc_Process (x : D.Process) : List VV := [intV x.Type_, intV x.Loc, intV x.Prio, encL_Int true x.Frame]
structure wf_Process (x : D.Process) : Prop where
  Type_ : Ev.wInt .i64 x.Type_
  Loc : Ev.wInt .i64 x.Loc
  Prio : Ev.wInt .i64 x.Prio
  Frame : wfL_Int x.Frame
theorem ev_Process : Ev p_Process enc_Process wf_Process := (Ev.via (fun x : D.Process => (x.Type_, x.Loc, x.Prio, x.Frame, ())) (Ev.cons (Ev.int .i64) (Ev.cons (Ev.int .i64) (Ev.cons (Ev.int .i64) (Ev.cons evL_Int Ev.unit))))).imp (fun _ => rfl) fun _ ⟨h0, h1, h2, h3, _⟩ => ⟨h0, h1, h2, h3⟩
def encL_Chan (fz : Bool) (l : List D.Chan) : VV := .sl fz l.length 2 fun i => enc_Chan (l.getD i default)
def wfL_Chan (l : List D.Chan) : Prop := l.length ≤ 1048576 ∧ ∀ y ∈ l, wf_Chan y
theorem evL_Chan : Ev (Pkg.slice 2 32 p_Chan) (fun l => [encL_Chan true l]) wfL_Chan := Ev.slice default ev_Chan (fun _ => rfl) (fun _ => Nat.succ_le_succ (Nat.zero_le _))
def encL_Process (fz : Bool) (l : List D.Process) : VV := .sl fz l.length 4 fun i => enc_Process (l.getD i default)
def wfL_Process (l : List D.Process) : Prop := l.length ≤ 1048576 ∧ ∀ y ∈ l, wf_Process y
theorem evL_Process : Ev (Pkg.slice 4 48 p_Process) (fun l => [encL_Process true l]) wfL_Process := Ev.slice default ev_Process (fun _ => rfl) (fun _ => Nat.succ_le_succ (Nat.zero_le _))
instance : Inhabited D.State := ⟨⟨[], [], [], 0, 0, 0⟩⟩
def enc_State (x : D.State) : List VV := [encL_Int true x.Globals, encL_Chan true x.Chans, encL_Process true x.Procs, intV x.Last, intV x.Alone, intV x.Claim]
structure wf_State (x : D.State) : Prop where
  Globals : wfL_Int x.Globals
  Chans : wfL_Chan x.Chans
  Procs : wfL_Process x.Procs
  Last : Ev.wInt .i64 x.Last
  Alone : Ev.wInt .i64 x.Alone
  Claim : Ev.wInt .i64 x.Claim
theorem ev_State : Ev p_State enc_State wf_State := (Ev.via (fun x : D.State => (x.Globals, x.Chans, x.Procs, x.Last, x.Alone, x.Claim, ())) (Ev.cons evL_Int (Ev.cons evL_Chan (Ev.cons evL_Process (Ev.cons (Ev.int .i64) (Ev.cons (Ev.int .i64) (Ev.cons (Ev.int .i64) Ev.unit))))))).imp (fun _ => rfl) fun _ ⟨h0, h1, h2, h3, h4, h5, _⟩ => ⟨h0, h1, h2, h3, h4, h5⟩
def encL_Bool (fz : Bool) (l : List Bool) : VV := .sl fz l.length 1 fun i => [boolV (l.getD i false)]
def wfL_Bool (l : List Bool) : Prop := l.length ≤ 1048576 ∧ ∀ y ∈ l, True
theorem evL_Bool : Ev (Pkg.slice 1 1 Pkg.bool) (fun l => [encL_Bool true l]) wfL_Bool := Ev.slice false Ev.bool (fun _ => rfl) (fun _ => Nat.le_refl _)
instance : Inhabited D.Env := ⟨⟨default, default, 0, false, []⟩⟩
def enc_Env (x : D.Env) : List VV := [encL_Type true x.M.Globals, encL_Int true x.M.Init, encL_Shape true x.M.Shapes, encL_Int true x.M.Chans, encL_Proc true x.M.Procs, intV x.M.Claim, encL_Expr true x.M.Exprs, encL_Int true x.S.Globals, encL_Chan true x.S.Chans, encL_Process true x.S.Procs, intV x.S.Last, intV x.S.Alone, intV x.S.Claim, intV x.Pid, boolV x.Timeout, encL_Bool true x.Able]
structure wf_Env (x : D.Env) : Prop where
  M : wf_Model x.M
  S : wf_State x.S
  Pid : Ev.wInt .i64 x.Pid
  Timeout : True
  Able : wfL_Bool x.Able
theorem ev_Env : Ev p_Env enc_Env wf_Env := (Ev.via (fun x : D.Env => (x.M, x.S, x.Pid, x.Timeout, x.Able, ())) (Ev.cons ev_Model (Ev.cons ev_State (Ev.cons (Ev.int .i64) (Ev.cons Ev.bool (Ev.cons evL_Bool Ev.unit)))))).imp (fun _ => rfl) fun _ ⟨h0, h1, h2, h3, h4, _⟩ => ⟨h0, h1, h2, h3, h4⟩
end Go.Proofs.YtiaebjpcgjkhoaaGreatDoor
namespace Go.Proofs.YtiaebjpcgjkhoaaGreatDoor
open Go.RowKit
def allI (n : Nat) (f : Nat → Bool) : Bool := (List.range n).all f
def badI (n : Nat) (f : Nat → Bool) : Int :=
  match (List.range n).find? fun i => !f i with
  | some i => (i : Int)
  | none => -1
theorem allI_iff {n : Nat} {f : Nat → Bool} : allI n f = true ↔ ∀ i, i < n → f i = true := by simp [allI]
theorem allI_no {n k : Nat} {f : Nat → Bool} (hk : k < n) (h : f k = false) : allI n f = false := by
  cases ha : allI n f with
  | false => rfl
  | true => have := allI_iff.1 ha k hk; rw [h] at this; cases this
theorem badI_none {n : Nat} {f : Nat → Bool} (h : ∀ i, i < n → f i = true) : badI n f = -1 := by
  unfold badI
  split
  · rename_i i hi
    have h1 := List.find?_some hi
    have h2 := List.mem_of_find?_eq_some hi
    rw [h i (List.mem_range.1 h2)] at h1; cases h1
  · rfl
theorem badI_some {n k : Nat} {f : Nat → Bool} (h : ∀ i, i < k → f i = true) (hk : k < n) (hf : f k = false) : badI n f = k := by
  unfold badI
  split
  · rename_i i hi
    rw [List.find?_range_eq_some] at hi
    obtain ⟨h1, h2, h3⟩ := hi
    by_cases hik : i < k
    · rw [h i hik] at h1; cases h1
    · by_cases hki : k < i
      · have := h3 k hki; rw [hf] at this; cases this
      · congr 1; omega
  · rename_i hi
    rw [List.find?_eq_none] at hi
    have := hi k (List.mem_range.2 hk)
    rw [hf] at this; simp at this
theorem badI_cases {n : Nat} {f : Nat → Bool} : (badI n f = -1 ∧ ∀ i, i < n → f i = true) ∨ (∃ k, k < n ∧ badI n f = (k : Int) ∧ f k = false) := by
  unfold badI
  split
  · rename_i i hi
    refine .inr ⟨i, List.mem_range.1 (List.mem_of_find?_eq_some hi), rfl, ?_⟩
    simpa using List.find?_some hi
  · rename_i hi
    rw [List.find?_eq_none] at hi
    exact .inl ⟨rfl, fun i h => by simpa using hi i (List.mem_range.2 h)⟩
def typP (t : D.Type) : Bool := decide (1 ≤ t.Bits) && (decide (t.Bits ≤ 32) && (!t.Signed || (decide (t.Bits = 16) || decide (t.Bits = 32))))
def fitsP (t : D.Type) (v : Int) : Bool :=
  typP t && bif t.Signed then decide (-(2 ^ (t.Bits - 1).toNat) ≤ v) && decide (v < 2 ^ (t.Bits - 1).toNat) else decide (0 ≤ v) && decide (v < 2 ^ t.Bits.toNat)
def dimBad (d : D.Dim) : Bool := decide (d.Len < 1) || (decide (1073741824 < d.Len - 1) || (decide (d.Stride < 0) || decide (1073741824 < d.Stride)))
def reachL : Int → List D.Dim → Int
  | n, [] => n
  | n, d :: l => bif dimBad d then 0 else reachL (n + (d.Len - 1) * d.Stride) l
def reachP (v : D.Var) : Int := bif decide (v.Slot < 0) || (decide (1073741824 < v.Slot) || decide (4 < v.Dims.length)) then 0 else reachL (v.Slot + 1) v.Dims
def typesP (t : List D.Type) (init : List Int) : Int := badI t.length fun i => fitsP (t.getD i default) (init.getD i 0)
def shapeP (s : D.Shape) : Bool := decide (0 ≤ s.Room) && decide (s.Room ≤ 16) && decide (1 ≤ s.Fields.length) && decide (s.Fields.length ≤ 8) && allI s.Fields.length fun i => typP (s.Fields.getD i default)
def procP (m : D.Model) (n : Int) : Bool := decide (0 ≤ n) && decide (n < m.Procs.length) && decide (n ≠ m.Claim)
def inP (at' x : Int) : Bool := decide (0 ≤ x) && decide (x < at')
def belowP (at' : Int) (l : List Int) : Bool := allI l.length fun i => inP at' (l.getD i 0)
def dimP (at' : Int) (d : D.Dim) : Bool := inP at' d.I && decide (1 ≤ d.Len) && decide (d.Len ≤ 128) && decide (0 ≤ d.Stride) && decide (d.Stride ≤ 128)
def variableP (m : D.Model) (at' : Int) (v : D.Var) : Bool :=
  decide (0 ≤ v.Scope) && decide (v.Scope ≤ 2) && decide (0 ≤ v.Slot) && decide (v.Slot ≤ 128) && decide (v.Dims.length ≤ 4) &&
  (bif decide (v.Scope = 2) then inP at' v.Who && procP m v.Type_ else decide (v.Who = -1) && decide (v.Type_ = -1)) && allI v.Dims.length fun i => dimP at' (v.Dims.getD i default)
def partsP (op : Int) : Nat := if op = 1 ∨ op = 2 ∨ op = 31 ∨ op = 32 ∨ op = 33 ∨ op = 34 ∨ op = 35 ∨ op = 39 then 0 else if op = 24 then 3 else if 6 ≤ op ∧ op ≤ 23 then 2 else 1
def exAt (m : D.Model) (k : Int) : D.Expr := m.Exprs.getD k.toNat default
def matchP (m : D.Model) (a k : Int) : Bool := decide (-1 ≤ k) && decide (k ≤ 1) && !(decide (k = 0) && decide ((exAt m a).Op ≠ 2))
def matchedP (m : D.Model) (at' : Int) (args mt : List Int) : Bool :=
  decide (1 ≤ args.length) && decide (args.length ≤ 8) && decide (mt.length = args.length) && belowP at' args && allI mt.length fun i => matchP m (args.getD i 0) (mt.getD i 0)
def locsOf (m : D.Model) (n : Int) : List D.Loc := (m.Procs.getD n.toNat default).Locs
def placesP (m : D.Model) (x : D.Expr) : Bool := decide (0 ≤ x.N) && decide (x.N < 1073741824) && procP m x.N && decide (1 ≤ x.Args.length) && belowP (locsOf m x.N).length x.Args
def partP (at' : Int) (op : Int) (i : Nat) (p : Int) : Bool := bif decide (i < partsP op) then inP at' p else decide (p = -1)
def exprP (m : D.Model) (at' : Int) : Bool :=
  let x := exAt m at'
  decide (1 ≤ x.Op) && decide (x.Op ≤ 39) && (partP at' x.Op 0 x.A && partP at' x.Op 1 x.B && partP at' x.Op 2 x.C) &&
  (if x.Op = 1 then fitsP ⟨32, true⟩ x.N else if x.Op = 2 then variableP m at' x.V else if x.Op = 30 then matchedP m at' x.Args x.Match && (decide (x.N = 0) || decide (x.N = 1))
   else if x.Op = 38 then placesP m x else if x.Op = 39 then decide (0 ≤ x.N) && decide (x.N < 1073741824) && procP m x.N && decide ((x.Args.length : Int) = (m.Procs.getD x.N.toNat default).Params) && belowP at' x.Args else true)
def heldP (x : D.Expr) : List Int :=
  [x.A, x.B, x.C].take (partsP x.Op) ++ ((if x.Op = 30 ∨ x.Op = 39 then x.Args else []) ++ (if x.Op = 2 then (if x.V.Scope = 2 then [x.V.Who] else []) ++ x.V.Dims.map D.Dim.I else []))
def waysP (l : D.Loc) : List (List D.Trans) := l.Out :: l.Esc
def frameP (p : D.Proc) : Bool :=
  decide (p.Frame.length ≤ 128) && decide (p.Init.length = p.Frame.length) && decide (typesP p.Frame p.Init < 0) && decide (0 ≤ p.Params) && decide (p.Params ≤ p.Frame.length) && decide (0 ≤ p.Active) && decide (p.Active ≤ 16) && decide (1 ≤ p.Prio) && decide (p.Prio ≤ 255)
def waysOk (n : Nat) (many : Nat) (k : Nat) : List (List D.Trans) → Option Nat
  | [] => some many
  | w :: r => bif decide (0 < k) && decide (w.length = 0) then none else bif decide (1024 < many + w.length) then none
      else bif allI w.length (fun i => inP n (w.getD i default).To) then waysOk n (many + w.length) (k + 1) r else none
def locBad (final : Int) (i : Nat) (l : D.Loc) : Bool := decide (8 < l.Esc.length) || (l.Dstep && l.Atomic) || (decide ((i : Int) = final) && decide (0 < l.Out.length + l.Esc.length))
def locsOk (n : Nat) (final : Int) (many : Nat) (i : Nat) : List D.Loc → Bool
  | [] => true
  | l :: r => bif locBad final i l then false else match waysOk n many 0 (waysP l) with
    | some many' => locsOk n final many' (i + 1) r
    | none => false
def graphP (p : D.Proc) : Bool :=
  decide (1 ≤ p.Locs.length) && decide (p.Locs.length ≤ 256) && inP p.Locs.length p.Start && inP p.Locs.length p.Final && locsOk p.Locs.length p.Final 0 0 p.Locs
def plainLoc (l : D.Loc) : Bool := decide (l.Esc.length = 0) && !l.Atomic && !l.Dstep
def claimedP (p : D.Proc) : Bool :=
  decide (p.Frame.length = 0) && decide (p.Params ≤ 0) && decide (p.Active ≤ 0) && decide (p.Provided = -1) && allI p.Locs.length fun i => plainLoc (p.Locs.getD i default)
def emptyP (s : D.Stmt) (args n text : Bool) : Bool := (!args || decide (s.Args.length + s.Match.length = 0)) && (!n || decide (s.N = 0)) && (!text || decide (s.Text.size = 0))
def placeP (m : D.Model) (a : Int) : Bool := inP m.Exprs.length a
def targetP (m : D.Model) (a : Int) : Bool := placeP m a && decide ((exAt m a).Op = 2) && decide ((exAt m a).V.Scope ≠ 2)
def takenP (m : D.Model) (s : D.Stmt) : Bool := matchedP m m.Exprs.length s.Args s.Match && allI s.Match.length fun i => !decide (s.Match.getD i 0 = 0) || targetP m (s.Args.getD i 0)
def statementP (m : D.Model) (s : D.Stmt) : Bool :=
  if s.Kind = 1 ∨ s.Kind = 3 then placeP m s.A && decide (s.B = -1) && emptyP s true true true
  else if s.Kind = 2 then targetP m s.A && placeP m s.B && emptyP s true true true
  else if s.Kind = 4 then decide (s.A = -1) && decide (s.B = -1) && belowP m.Exprs.length s.Args && decide (s.Match.length = 0) && decide (s.Text.size ≤ 256) && decide (s.N = 0)
  else if s.Kind = 5 then placeP m s.A && decide (s.B = -1) && decide (1 ≤ s.Args.length) && decide (s.Args.length ≤ 8) && belowP m.Exprs.length s.Args && decide (s.Match.length = 0) && (decide (s.N = 0) || decide (s.N = 1)) && decide (s.Text.size = 0)
  else if s.Kind = 6 then placeP m s.A && decide (s.B = -1) && takenP m s && decide (0 ≤ s.N) && decide (s.N ≤ 3) && decide (s.Text.size = 0)
  else if s.Kind = 7 ∨ s.Kind = 8 then decide (s.A = -1) && decide (s.B = -1) && emptyP s true true true
  else if s.Kind = 9 then targetP m s.A && decide (s.B = -1) && decide (0 ≤ s.N) && decide (s.N < m.Shapes.length) && emptyP s true false true
  else false
def slotsP (m : D.Model) (i : Int) (v : D.Var) : Int :=
  if v.Scope = 0 then m.Globals.length else if v.Scope = 1 then (m.Procs.getD i.toNat default).Frame.length else (m.Procs.getD v.Type_.toNat default).Frame.length
def useBad (m : D.Model) (i run k : Int) : Bool :=
  let x := exAt m k
  (decide (x.Op = 39) && decide (k ≠ run)) || (decide (i = m.Claim) && (decide (x.Op = 31) || (decide (x.Op = 39) || (decide (x.Op = 2) && decide (x.V.Scope = 1))))) || (decide (x.Op = 2) && decide (slotsP m i x.V < reachP x.V))
def usesL (m : D.Model) (i run : Int) : Nat → List Bool → List Int → Bool
  | _, _, [] => true
  | 0, _, _ => true
  | g + 1, seen, k :: r => bif seen.getD k.toNat false then usesL m i run g seen r else bif useBad m i run k then false else usesL m i run g (seen.set k.toNat true) (r ++ heldP (exAt m k))
def load (m : D.Model) (seen : List Bool) : Nat := ((List.range m.Exprs.length).map fun k => bif seen.getD k false then 0 else (heldP (m.Exprs.getD k default)).length).sum
def noneSeen (m : D.Model) : List Bool := List.replicate m.Exprs.length false
def usesP (m : D.Model) (i : Int) (list : List Int) (run : Int) : Bool := usesL m i run (list.length + load m (noneSeen m) + 1) (noneSeen m) list
def wayP (m : D.Model) (i : Int) (s : D.Stmt) : Bool :=
  statementP m s && !(decide (i = m.Claim) && (decide (s.Kind ≠ 1) && (decide (s.Kind ≠ 3) && (decide (s.Kind ≠ 7) && decide (s.Kind ≠ 8))))) &&
  usesP m i (s.Args ++ ((if 0 ≤ s.A then [s.A] else []) ++ (if 0 ≤ s.B then [s.B] else []))) (if s.Kind = 1 then s.A else if s.Kind = 2 then s.B else -1)
def transP (m : D.Model) (i : Int) (w : List D.Trans) : Bool := allI w.length fun k => wayP m i (w.getD k default).S
def locP (m : D.Model) (i : Int) (l : D.Loc) : Bool := allI (waysP l).length fun k => transP m i ((waysP l).getD k [])
def procAllP (m : D.Model) (i : Int) : Bool :=
  let p := m.Procs.getD i.toNat default
  (allI p.Locs.length fun k => locP m i (p.Locs.getD k default)) && (decide (p.Provided < 0) || usesP m i [p.Provided] (-1))
def hadL : List Bool → List Int → Option (List Bool)
  | had, [] => some had
  | had, p :: r => bif had.getD p.toNat false then none else hadL (had.set p.toNat true) r
def exprsL (m : D.Model) : Nat → Nat → List Bool → Int
  | 0, _, _ => -1
  | g + 1, i, had => bif exprP m i then (match hadL had (heldP (m.Exprs.getD i default)) with
    | some had' => exprsL m g (i + 1) had'
    | none => i) else i
def shapesP (m : D.Model) : Int := badI m.Shapes.length fun i => shapeP (m.Shapes.getD i default)
def chansP (m : D.Model) : Int := badI m.Chans.length fun i => inP m.Shapes.length (m.Chans.getD i 0)
def exprsP (m : D.Model) : Int := exprsL m m.Exprs.length 0 (noneSeen m)
def tablesP (m : D.Model) : Int × Int :=
  bif decide (128 < m.Globals.length) || !decide (m.Init.length = m.Globals.length) then (1, -1)
  else bif decide (0 ≤ typesP m.Globals m.Init) then (1, typesP m.Globals m.Init)
  else bif decide (32 < m.Shapes.length) || decide (32 < m.Chans.length) then (2, -1)
  else bif decide (0 ≤ shapesP m) then (2, shapesP m)
  else bif decide (0 ≤ chansP m) then (2, chansP m)
  else bif decide (m.Procs.length < 1) || (decide (16 < m.Procs.length) || (decide (m.Claim < -1) || (decide ((m.Procs.length : Int) ≤ m.Claim) || decide (4096 < m.Exprs.length)))) then (3, -1)
  else bif decide (0 ≤ exprsP m) then (3, exprsP m) else (0, 0)
def frameBad (m : D.Model) (i : Nat) : Bool :=
  let p := m.Procs.getD i default
  !frameP p || (!graphP p || (decide (p.Provided < -1) || (decide ((m.Exprs.length : Int) ≤ p.Provided) || (decide ((i : Int) = m.Claim) && !claimedP p))))
def framesP (m : D.Model) : Int := badI m.Procs.length fun i => !frameBad m i
def manyP (m : D.Model) (k : Nat) : Int := ((m.Procs.take k).map D.Proc.Active).sum
def procsP (m : D.Model) : Int := badI m.Procs.length fun i => procAllP m i
def checkP (m : D.Model) : Int × Int × Int :=
  bif decide (0 < (tablesP m).1) then (40, tablesP m) else bif decide (0 ≤ framesP m) then (40, 4, framesP m) else bif decide (16 < manyP m m.Procs.length) then (40, 5, -1)
  else bif decide (0 ≤ procsP m) then (40, 6, procsP m) else (0, 0, 0)
end Go.Proofs.YtiaebjpcgjkhoaaGreatDoor
namespace Go.Proofs.YtiaebjpcgjkhoaaGreatDoor
open Go.RowKit
theorem inP_iff {a x : Int} : inP a x = true ↔ 0 ≤ x ∧ x < a := by simp [inP]
theorem getD_in {α : Type} {l : List α} {i : Nat} {d : α} (h : i < l.length) : l.getD i d ∈ l := by simp [List.getD, h]
theorem allL_iff {α : Type} {l : List α} {d : α} {f : α → Bool} : allI l.length (fun i => f (l.getD i d)) = true ↔ ∀ x ∈ l, f x = true := by
  rw [allI_iff]
  refine ⟨fun h x hx => ?_, fun h i hi => h _ (getD_in hi)⟩
  obtain ⟨i, hi, rfl⟩ := List.mem_iff_getElem.1 hx
  have := h i hi
  simpa [List.getD, hi] using this
theorem belowP_iff {a : Int} {l : List Int} : belowP a l = true ↔ ∀ x ∈ l, 0 ≤ x ∧ x < a := by
  unfold belowP
  rw [allL_iff (f := fun x => inP a x)]
  exact ⟨fun h x hx => inP_iff.1 (h x hx), fun h x hx => inP_iff.2 (h x hx)⟩
theorem parts_le (op : Int) : partsP op ≤ 3 := by unfold partsP; split <;> (try split) <;> (try split) <;> omega
theorem held_in {m : D.Model} {i : Int} (h : exprP m i = true) : ∀ p ∈ heldP (exAt m i), 0 ≤ p ∧ p < i := by
  unfold exprP at h
  simp only [Bool.and_eq_true] at h
  obtain ⟨⟨⟨_, _⟩, ⟨hA, hB⟩, hC⟩, hO⟩ := h
  generalize exAt m i = x at *
  intro p hp
  unfold heldP at hp
  simp only [List.mem_append] at hp
  rcases hp with hp | hp | hp
  · have h3 := parts_le x.Op
    unfold partP at hA hB hC
    rcases (show partsP x.Op = 0 ∨ partsP x.Op = 1 ∨ partsP x.Op = 2 ∨ partsP x.Op = 3 by omega) with e | e | e | e <;> rw [e] at hp hA hB hC <;> simp [inP] at hp hA hB hC
    · subst hp; omega
    · rcases hp with rfl | rfl <;> omega
    · rcases hp with rfl | rfl | rfl <;> omega
  · split at hp
    · rename_i h30
      rcases h30 with h30 | h39
      · rw [if_neg (by omega), if_neg (by omega), if_pos h30] at hO
        simp only [Bool.and_eq_true, matchedP] at hO
        exact belowP_iff.1 hO.1.1.2 p hp
      · rw [if_neg (by omega), if_neg (by omega), if_neg (by omega), if_neg (by omega), if_pos h39] at hO
        simp only [Bool.and_eq_true] at hO
        exact belowP_iff.1 hO.2 p hp
    · cases hp
  · split at hp
    · rename_i h2
      rw [if_neg (by omega), if_pos h2] at hO
      simp only [Bool.and_eq_true, variableP] at hO
      obtain ⟨⟨_, hW⟩, hD⟩ := hO
      simp only [List.mem_append] at hp
      rcases hp with hp | hp
      · split at hp
        · rename_i hs
          simp only [List.mem_singleton] at hp
          subst hp
          simp only [hs, decide_true, cond_true, Bool.and_eq_true] at hW
          exact inP_iff.1 hW.1
        · cases hp
      · obtain ⟨d, hd, rfl⟩ := List.mem_map.1 hp
        have := (allL_iff (f := fun d => dimP i d)).1 hD d hd
        simp only [dimP, Bool.and_eq_true] at this
        exact inP_iff.1 this.1.1.1.1
    · cases hp
theorem load_sum {m : D.Model} {seen : List Bool} {k : Nat} (hk : seen.getD k false = false) (hs : k < seen.length) : ∀ (l : List Nat), l.Nodup →
    (l.map fun j => bif seen.getD j false then 0 else (heldP (m.Exprs.getD j default)).length).sum = (l.map fun j => bif (seen.set k true).getD j false then 0 else (heldP (m.Exprs.getD j default)).length).sum + (if k ∈ l then (heldP (m.Exprs.getD k default)).length else 0)
  | [], _ => rfl
  | j :: l, hn => by
    have ih := load_sum (m := m) hk hs l (List.nodup_cons.1 hn).2
    have hj := (List.nodup_cons.1 hn).1
    simp only [List.map_cons, List.sum_cons, ih]
    by_cases hjk : k = j
    · subst hjk
      have h1 : (seen.set k true).getD k false = true := by simp [List.getD, hs]
      rw [h1, hk, if_neg hj, if_pos (List.mem_cons_self ..)]
      simp only [cond_true, cond_false]; omega
    · have h1 : (seen.set k true).getD j false = seen.getD j false := by simp [List.getD, hjk]
      have h2 : (k ∈ j :: l) = (k ∈ l) := by simp [hjk]
      rw [h1]
      simp only [h2]; omega
theorem load_set {m : D.Model} {seen : List Bool} {k : Nat} (hk : seen.getD k false = false) (hs : k < seen.length) (hm : seen.length = m.Exprs.length) : load m seen = load m (seen.set k true) + (heldP (m.Exprs.getD k default)).length := by
  unfold load
  rw [load_sum hk hs _ List.nodup_range, if_pos (List.mem_range.2 (by omega))]
theorem held_len {x : D.Expr} (h1 : x.Args.length ≤ 1048576) (h2 : x.V.Dims.length ≤ 1048576) : (heldP x).length ≤ 2097156 := by
  unfold heldP
  simp only [List.length_append, List.length_take, List.length_cons, List.length_nil]
  split <;> split <;> (try split) <;> simp <;> omega
theorem load_le {m : D.Model} (h : ∀ x ∈ m.Exprs, x.Args.length ≤ 1048576 ∧ x.V.Dims.length ≤ 1048576) (seen : List Bool) : load m seen ≤ m.Exprs.length * 2097156 := by
  unfold load
  have : ∀ (l : List Nat), (∀ j ∈ l, j < m.Exprs.length) → (l.map fun k => bif seen.getD k false then 0 else (heldP (m.Exprs.getD k default)).length).sum ≤ l.length * 2097156 := by
    intro l
    induction l with
    | nil => intro _; simp
    | cons j l ih =>
      intro hl
      have h1 := ih fun i hi => hl i (List.mem_cons_of_mem _ hi)
      have h2 := h _ (getD_in (d := default) (hl j (List.mem_cons_self ..)))
      have h3 := held_len h2.1 h2.2
      simp only [List.map_cons, List.sum_cons, List.length_cons]
      cases seen.getD j false <;> simp only [cond_true, cond_false] <;> omega
  have h1 := this (List.range m.Exprs.length) fun j hj => List.mem_range.1 hj
  simpa using h1
end Go.Proofs.YtiaebjpcgjkhoaaGreatDoor
namespace Go.Proofs.YtiaebjpcgjkhoaaGreatDoor
open Go.RowKit
theorem wrap_id {n : Int} (h1 : -9223372036854775808 ≤ n) (h2 : n ≤ 9223372036854775807) : IntKind.i64.wrap n = n := IntWalk.i64_in n ⟨h1, h2⟩
theorem wrap_succ {k : Nat} (h : k ≤ 4611686018427387904) : IntKind.i64.wrap ((k : Int) + 1) = ((k + 1 : Nat) : Int) := by rw [wrap_id (by omega) (by omega)]; omega
theorem getD_mem {α : Type} {l : List α} {i : Nat} {d : α} (h : i < l.length) : l.getD i d ∈ l := by simp [List.getD, h]
theorem loop_idx {c : Ctx} (hT : TOk c.P c.T) (hmx : c.P.follows .mixedOrders = true) {rel : List Nat} (n : Nat) (S : Nat → St) (I : Nat → Prop) (hl : c.sub rel = .loop (subC (rel ++ [0]) c.code)) (hB : regsB c.N (subC (rel ++ [0]) c.code) = true) (h0 : I 0)
    (round : ∀ k, k ≤ n → I k → ∀ J : St → Prop, (∀ st', k < n → I (k + 1) → Up (fun s => s = S (k + 1)) st' → J st') → Asks ((c.loop rel J).goal (S k))) : SatC c rel (S 0) := by
  refine loop_raw hT hmx (fun g st => ∃ k, k ≤ n ∧ g = n - k ∧ I k ∧ st = S k) hl hB ⟨n, Up.of ⟨0, Nat.zero_le _, rfl, h0, rfl⟩⟩ ?_
  rintro g st ⟨k, hk, rfl, hI, rfl⟩
  refine round k hk hI _ fun st' hlt hI' hup => ⟨n - (k + 1), by omega, ?_⟩
  obtain ⟨s', hc, hs⟩ := hup
  exact ⟨s', hc, k + 1, hlt, rfl, hI', hs⟩
end Go.Proofs.YtiaebjpcgjkhoaaGreatDoor
namespace Go.Proofs.YtiaebjpcgjkhoaaGreatDoor
open Go.RowKit
def tb1 : TE := ⟨.fn, 1, 8, [.sc .nilFunc], false⟩
def tb2 : TE := ⟨.int .i64, 1, 8, [.sc (.int .i64 0)], false⟩
def tb3 : TE := ⟨.int .i64, 1, 8, [.sc (.int .i64 0)], false⟩
def tb4 : TE := ⟨.bool, 1, 1, [.sc (.bool false)], false⟩
def tb5 : TE := ⟨.int .u8, 1, 1, [.sc (.int .u8 0)], false⟩
def tb6 : TE := ⟨.int .u8, 1, 1, [.sc (.int .u8 0)], false⟩
def tb7 : TE := ⟨.agg [(0, 2), (1, 3), (2, 4), (3, 6)], 4, 24, [.sc (.int .i64 0), .sc (.int .i64 0), .sc (.bool false), .sc (.int .u8 0)], true⟩
def tb8 : TE := ⟨.agg [(0, 2), (1, 3), (2, 4), (3, 6)], 4, 24, [.sc (.int .i64 0), .sc (.int .i64 0), .sc (.bool false), .sc (.int .u8 0)], true⟩
def tb9 : TE := ⟨.str, 1, 16, [.sc (.string ByteArray.empty)], false⟩
def tb10 : TE := ⟨.str, 1, 16, [.sc (.string ByteArray.empty)], false⟩
def tb11 : TE := ⟨.str, 1, 16, [.sc (.string ByteArray.empty)], false⟩
def tb12 : TE := ⟨.int .u64, 1, 8, [.sc (.int .u64 0)], false⟩
def tb13 : TE := ⟨.agg [(0, 9), (1, 12)], 2, 24, [.sc (.string ByteArray.empty), .sc (.int .u64 0)], false⟩
def tb14 : TE := ⟨.agg [(0, 9), (1, 12)], 2, 24, [.sc (.string ByteArray.empty), .sc (.int .u64 0)], false⟩
def tb15 : TE := ⟨.ptr, 1, 8, [.sc (.pointer none)], false⟩
def tb16 : TE := ⟨.ptr, 1, 8, [.sc (.pointer none)], false⟩
def tb17 : TE := ⟨.ptr, 1, 8, [.sc (.pointer none)], false⟩
def tb18 : TE := ⟨.agg [(0, 17)], 1, 8, [.sc (.pointer none)], false⟩
def tb19 : TE := ⟨.agg [(0, 17)], 1, 8, [.sc (.pointer none)], false⟩
def tb20 : TE := ⟨.ifc, 1, 16, [.sc .nilIface], false⟩
def tb21 : TE := ⟨.int .i32, 1, 4, [.sc (.int .i32 0)], false⟩
def tb22 : TE := ⟨.sl 114, 1, 24, [.nl], false⟩
def tb23 : TE := ⟨.sl 2, 1, 24, [.nl], false⟩
def tb24 : TE := ⟨.sl 82, 1, 24, [.nl], false⟩
def tb25 : TE := ⟨.sl 3, 1, 24, [.nl], false⟩
def tb26 : TE := ⟨.sl 63, 1, 24, [.nl], false⟩
def tb27 : TE := ⟨.sl 122, 1, 24, [.nl], false⟩
def tb28 : TE := ⟨.agg [(0, 22), (1, 23), (2, 24), (3, 25), (4, 26), (5, 3), (6, 27)], 7, 152, [.nl, .nl, .nl, .nl, .nl, .sc (.int .i64 0), .nl], false⟩
def tb29 : TE := ⟨.agg [(0, 22), (1, 23), (2, 24), (3, 25), (4, 26), (5, 3), (6, 27)], 7, 152, [.nl, .nl, .nl, .nl, .nl, .sc (.int .i64 0), .nl], false⟩
def tb30 : TE := ⟨.sl 80, 1, 24, [.nl], false⟩
def tb31 : TE := ⟨.sl 50, 1, 24, [.nl], false⟩
def tb32 : TE := ⟨.agg [(0, 23), (1, 30), (2, 31), (3, 3), (4, 3), (5, 3)], 6, 96, [.nl, .nl, .nl, .sc (.int .i64 0), .sc (.int .i64 0), .sc (.int .i64 0)], false⟩
def tb33 : TE := ⟨.agg [(0, 23), (1, 30), (2, 31), (3, 3), (4, 3), (5, 3)], 6, 96, [.nl, .nl, .nl, .sc (.int .i64 0), .sc (.int .i64 0), .sc (.int .i64 0)], false⟩
def tb34 : TE := ⟨.sl 4, 1, 24, [.nl], false⟩
def tb35 : TE := ⟨.agg [(0, 29), (7, 33), (13, 3), (14, 4), (15, 34)], 16, 288, [.nl, .nl, .nl, .nl, .nl, .sc (.int .i64 0), .nl, .nl, .nl, .nl, .sc (.int .i64 0), .sc (.int .i64 0), .sc (.int .i64 0), .sc (.int .i64 0), .sc (.bool false), .nl], false⟩
def tb36 : TE := ⟨.agg [(0, 29), (7, 33), (13, 3), (14, 4), (15, 34)], 16, 288, [.nl, .nl, .nl, .nl, .nl, .sc (.int .i64 0), .nl, .nl, .nl, .nl, .sc (.int .i64 0), .sc (.int .i64 0), .sc (.int .i64 0), .sc (.int .i64 0), .sc (.bool false), .nl], false⟩
def tb37 : TE := ⟨.fn, 1, 8, [.sc .nilFunc], false⟩
def tb38 : TE := ⟨.fn, 1, 8, [.sc .nilFunc], false⟩
def tb39 : TE := ⟨.sl 46, 1, 24, [.nl], false⟩
def tb40 : TE := ⟨.int .i64, 1, 8, [.sc (.int .i64 0)], false⟩
def tb42 : TE := ⟨.fn, 1, 8, [.sc .nilFunc], false⟩
def tb44 : TE := ⟨.fn, 1, 8, [.sc .nilFunc], false⟩
def tb45 : TE := ⟨.agg [(0, 3), (1, 3), (2, 3), (3, 3), (4, 3), (5, 40)], 6, 48, [.sc (.int .i64 0), .sc (.int .i64 0), .sc (.int .i64 0), .sc (.int .i64 0), .sc (.int .i64 0), .sc (.int .i64 0)], true⟩
def tb46 : TE := ⟨.agg [(0, 3), (1, 3), (2, 3), (3, 3), (4, 3), (5, 40)], 6, 48, [.sc (.int .i64 0), .sc (.int .i64 0), .sc (.int .i64 0), .sc (.int .i64 0), .sc (.int .i64 0), .sc (.int .i64 0)], true⟩
def tb47 : TE := ⟨.fn, 1, 8, [.sc .nilFunc], false⟩
def tb48 : TE := ⟨.fn, 1, 8, [.sc .nilFunc], false⟩
def tb49 : TE := ⟨.agg [(0, 3), (1, 3), (2, 3), (3, 23)], 4, 48, [.sc (.int .i64 0), .sc (.int .i64 0), .sc (.int .i64 0), .nl], false⟩
def tb50 : TE := ⟨.agg [(0, 3), (1, 3), (2, 3), (3, 23)], 4, 48, [.sc (.int .i64 0), .sc (.int .i64 0), .sc (.int .i64 0), .nl], false⟩
def tb51 : TE := ⟨.fn, 1, 8, [.sc .nilFunc], false⟩
def tb52 : TE := ⟨.sl 57, 1, 24, [.nl], false⟩
def tb53 : TE := ⟨.fn, 1, 8, [.sc .nilFunc], false⟩
def tb54 : TE := ⟨.agg [(0, 3), (1, 3), (2, 3), (3, 3), (4, 25), (5, 25), (6, 9)], 7, 96, [.sc (.int .i64 0), .sc (.int .i64 0), .sc (.int .i64 0), .sc (.int .i64 0), .nl, .nl, .sc (.string ByteArray.empty)], false⟩
def tb55 : TE := ⟨.agg [(0, 3), (1, 3), (2, 3), (3, 3), (4, 25), (5, 25), (6, 9)], 7, 96, [.sc (.int .i64 0), .sc (.int .i64 0), .sc (.int .i64 0), .sc (.int .i64 0), .nl, .nl, .sc (.string ByteArray.empty)], false⟩
def tb56 : TE := ⟨.agg [(0, 55), (7, 3), (8, 3)], 9, 112, [.sc (.int .i64 0), .sc (.int .i64 0), .sc (.int .i64 0), .sc (.int .i64 0), .nl, .nl, .sc (.string ByteArray.empty), .sc (.int .i64 0), .sc (.int .i64 0)], false⟩
def tb57 : TE := ⟨.agg [(0, 55), (7, 3), (8, 3)], 9, 112, [.sc (.int .i64 0), .sc (.int .i64 0), .sc (.int .i64 0), .sc (.int .i64 0), .nl, .nl, .sc (.string ByteArray.empty), .sc (.int .i64 0), .sc (.int .i64 0)], false⟩
def tb58 : TE := ⟨.sl 52, 1, 24, [.nl], false⟩
def tb59 : TE := ⟨.agg [(0, 52), (1, 58), (2, 4), (3, 4), (4, 4), (5, 4), (6, 4)], 7, 56, [.nl, .nl, .sc (.bool false), .sc (.bool false), .sc (.bool false), .sc (.bool false), .sc (.bool false)], false⟩
def tb60 : TE := ⟨.agg [(0, 52), (1, 58), (2, 4), (3, 4), (4, 4), (5, 4), (6, 4)], 7, 56, [.nl, .nl, .sc (.bool false), .sc (.bool false), .sc (.bool false), .sc (.bool false), .sc (.bool false)], false⟩
def tb61 : TE := ⟨.sl 60, 1, 24, [.nl], false⟩
def tb62 : TE := ⟨.agg [(0, 9), (1, 3), (2, 22), (3, 23), (4, 61), (5, 3), (6, 3), (7, 3), (8, 3), (9, 3)], 10, 136, [.sc (.string ByteArray.empty), .sc (.int .i64 0), .nl, .nl, .nl, .sc (.int .i64 0), .sc (.int .i64 0), .sc (.int .i64 0), .sc (.int .i64 0), .sc (.int .i64 0)], false⟩
def tb63 : TE := ⟨.agg [(0, 9), (1, 3), (2, 22), (3, 23), (4, 61), (5, 3), (6, 3), (7, 3), (8, 3), (9, 3)], 10, 136, [.sc (.string ByteArray.empty), .sc (.int .i64 0), .nl, .nl, .nl, .sc (.int .i64 0), .sc (.int .i64 0), .sc (.int .i64 0), .sc (.int .i64 0), .sc (.int .i64 0)], false⟩
def tb65 : TE := ⟨.fn, 1, 8, [.sc .nilFunc], false⟩
def tb66 : TE := ⟨.fn, 1, 8, [.sc .nilFunc], false⟩
def tb67 : TE := ⟨.fn, 1, 8, [.sc .nilFunc], false⟩
def tb68 : TE := ⟨.fn, 1, 8, [.sc .nilFunc], false⟩
def tb69 : TE := ⟨.fn, 1, 8, [.sc .nilFunc], false⟩
def tb70 : TE := ⟨.fn, 1, 8, [.sc .nilFunc], false⟩
def tb71 : TE := ⟨.fn, 1, 8, [.sc .nilFunc], false⟩
def tb72 : TE := ⟨.fn, 1, 8, [.sc .nilFunc], false⟩
def tb73 : TE := ⟨.fn, 1, 8, [.sc .nilFunc], false⟩
def tb75 : TE := ⟨.fn, 1, 8, [.sc .nilFunc], false⟩
def tb76 : TE := ⟨.ptr, 1, 8, [.sc (.pointer none)], false⟩
def tb77 : TE := ⟨.fn, 1, 8, [.sc .nilFunc], false⟩
def tb78 : TE := ⟨.sl 83, 1, 24, [.nl], false⟩
def tb79 : TE := ⟨.agg [(0, 3), (1, 78)], 2, 32, [.sc (.int .i64 0), .nl], false⟩
def tb80 : TE := ⟨.agg [(0, 3), (1, 78)], 2, 32, [.sc (.int .i64 0), .nl], false⟩
def tb81 : TE := ⟨.agg [(0, 3), (1, 22)], 2, 32, [.sc (.int .i64 0), .nl], false⟩
def tb82 : TE := ⟨.agg [(0, 3), (1, 22)], 2, 32, [.sc (.int .i64 0), .nl], false⟩
def tb83 : TE := ⟨.sl 2, 1, 24, [.nl], false⟩
def tb84 : TE := ⟨.fn, 1, 8, [.sc .nilFunc], false⟩
def tb85 : TE := ⟨.fn, 1, 8, [.sc .nilFunc], false⟩
def tb86 : TE := ⟨.fn, 1, 8, [.sc .nilFunc], false⟩
def tb87 : TE := ⟨.fn, 1, 8, [.sc .nilFunc], false⟩
def tb89 : TE := ⟨.fn, 1, 8, [.sc .nilFunc], false⟩
def tb90 : TE := ⟨.fn, 1, 8, [.sc .nilFunc], false⟩
def tb91 : TE := ⟨.sl 95, 1, 24, [.nl], false⟩
def tb92 : TE := ⟨.fn, 1, 8, [.sc .nilFunc], false⟩
def tb93 : TE := ⟨.sl 97, 1, 24, [.nl], false⟩
def tb94 : TE := ⟨.agg [(0, 4), (1, 40), (2, 93)], 3, 40, [.sc (.bool false), .sc (.int .i64 0), .nl], false⟩
def tb95 : TE := ⟨.agg [(0, 4), (1, 40), (2, 93)], 3, 40, [.sc (.bool false), .sc (.int .i64 0), .nl], false⟩
def tb96 : TE := ⟨.agg [(0, 3), (1, 3), (2, 3)], 3, 24, [.sc (.int .i64 0), .sc (.int .i64 0), .sc (.int .i64 0)], true⟩
def tb97 : TE := ⟨.agg [(0, 3), (1, 3), (2, 3)], 3, 24, [.sc (.int .i64 0), .sc (.int .i64 0), .sc (.int .i64 0)], true⟩
def tb98 : TE := ⟨.fn, 1, 8, [.sc .nilFunc], false⟩
def tb99 : TE := ⟨.fn, 1, 8, [.sc .nilFunc], false⟩
def tb100 : TE := ⟨.fn, 1, 8, [.sc .nilFunc], false⟩
def tb101 : TE := ⟨.fn, 1, 8, [.sc .nilFunc], false⟩
def tb102 : TE := ⟨.fn, 1, 8, [.sc .nilFunc], false⟩
def tb104 : TE := ⟨.fn, 1, 8, [.sc .nilFunc], false⟩
def tb105 : TE := ⟨.fn, 1, 8, [.sc .nilFunc], false⟩
def tb106 : TE := ⟨.fn, 1, 8, [.sc .nilFunc], false⟩
def tb108 : TE := ⟨.fn, 1, 8, [.sc .nilFunc], false⟩
def tb109 : TE := ⟨.fn, 1, 8, [.sc .nilFunc], false⟩
def tb110 : TE := ⟨.fn, 1, 8, [.sc .nilFunc], false⟩
def tb111 : TE := ⟨.fn, 1, 8, [.sc .nilFunc], false⟩
def tb112 : TE := ⟨.fn, 1, 8, [.sc .nilFunc], false⟩
def tb113 : TE := ⟨.agg [(0, 3), (1, 4)], 2, 16, [.sc (.int .i64 0), .sc (.bool false)], true⟩
def tb114 : TE := ⟨.agg [(0, 3), (1, 4)], 2, 16, [.sc (.int .i64 0), .sc (.bool false)], true⟩
def tb116 : TE := ⟨.fn, 1, 8, [.sc .nilFunc], false⟩
def tb117 : TE := ⟨.fn, 1, 8, [.sc .nilFunc], false⟩
def tb118 : TE := ⟨.sl 194, 1, 24, [.nl], false⟩
def tb119 : TE := ⟨.agg [(0, 3), (1, 3), (2, 3), (3, 3), (4, 118)], 5, 56, [.sc (.int .i64 0), .sc (.int .i64 0), .sc (.int .i64 0), .sc (.int .i64 0), .nl], false⟩
def tb120 : TE := ⟨.agg [(0, 3), (1, 3), (2, 3), (3, 3), (4, 118)], 5, 56, [.sc (.int .i64 0), .sc (.int .i64 0), .sc (.int .i64 0), .sc (.int .i64 0), .nl], false⟩
def tb121 : TE := ⟨.agg [(0, 3), (1, 2), (2, 3), (3, 3), (4, 3), (5, 120), (10, 25), (11, 25)], 12, 144, [.sc (.int .i64 0), .sc (.int .i64 0), .sc (.int .i64 0), .sc (.int .i64 0), .sc (.int .i64 0), .sc (.int .i64 0), .sc (.int .i64 0), .sc (.int .i64 0), .sc (.int .i64 0), .nl, .nl, .nl], false⟩
def tb122 : TE := ⟨.agg [(0, 3), (1, 2), (2, 3), (3, 3), (4, 3), (5, 120), (10, 25), (11, 25)], 12, 144, [.sc (.int .i64 0), .sc (.int .i64 0), .sc (.int .i64 0), .sc (.int .i64 0), .sc (.int .i64 0), .sc (.int .i64 0), .sc (.int .i64 0), .sc (.int .i64 0), .sc (.int .i64 0), .nl, .nl, .nl], false⟩
def tb124 : TE := ⟨.fn, 1, 8, [.sc .nilFunc], false⟩
def tb125 : TE := ⟨.fn, 1, 8, [.sc .nilFunc], false⟩
def tb126 : TE := ⟨.ptr, 1, 8, [.sc (.pointer none)], false⟩
def tb127 : TE := ⟨.sl 5, 1, 24, [.nl], false⟩
def tb128 : TE := ⟨.agg [(0, 126), (1, 127)], 2, 32, [.sc (.pointer none), .nl], false⟩
def tb129 : TE := ⟨.agg [(0, 126), (1, 127)], 2, 32, [.sc (.pointer none), .nl], false⟩
def tb130 : TE := ⟨.fn, 1, 8, [.sc .nilFunc], false⟩
def tb131 : TE := ⟨.ifc, 1, 16, [.sc .nilIface], false⟩
def tb132 : TE := ⟨.ifc, 1, 16, [.sc .nilIface], false⟩
def tb134 : TE := ⟨.fn, 1, 8, [.sc .nilFunc], false⟩
def tb135 : TE := ⟨.fn, 1, 8, [.sc .nilFunc], false⟩
def tb136 : TE := ⟨.fn, 1, 8, [.sc .nilFunc], false⟩
def tb137 : TE := ⟨.int .u64, 1, 8, [.sc (.int .u64 0)], false⟩
def tb138 : TE := ⟨.int .u32, 1, 4, [.sc (.int .u32 0)], false⟩
def tb139 : TE := ⟨.fn, 1, 8, [.sc .nilFunc], false⟩
def tb140 : TE := ⟨.fn, 1, 8, [.sc .nilFunc], false⟩
def tb141 : TE := ⟨.fn, 1, 8, [.sc .nilFunc], false⟩
def tb142 : TE := ⟨.fn, 1, 8, [.sc .nilFunc], false⟩
def tb144 : TE := ⟨.fn, 1, 8, [.sc .nilFunc], false⟩
def tb146 : TE := ⟨.fn, 1, 8, [.sc .nilFunc], false⟩
def tb147 : TE := ⟨.fn, 1, 8, [.sc .nilFunc], false⟩
def tb149 : TE := ⟨.fn, 1, 8, [.sc .nilFunc], false⟩
def tb151 : TE := ⟨.fn, 1, 8, [.sc .nilFunc], false⟩
def tb153 : TE := ⟨.fn, 1, 8, [.sc .nilFunc], false⟩
def tb154 : TE := ⟨.fn, 1, 8, [.sc .nilFunc], false⟩
def tb156 : TE := ⟨.fn, 1, 8, [.sc .nilFunc], false⟩
def tb157 : TE := ⟨.fn, 1, 8, [.sc .nilFunc], false⟩
def tb158 : TE := ⟨.fn, 1, 8, [.sc .nilFunc], false⟩
def tb160 : TE := ⟨.fn, 1, 8, [.sc .nilFunc], false⟩
def tb161 : TE := ⟨.fn, 1, 8, [.sc .nilFunc], false⟩
def tb162 : TE := ⟨.fn, 1, 8, [.sc .nilFunc], false⟩
def tb163 : TE := ⟨.fn, 1, 8, [.sc .nilFunc], false⟩
def tb164 : TE := ⟨.fn, 1, 8, [.sc .nilFunc], false⟩
def tb165 : TE := ⟨.fn, 1, 8, [.sc .nilFunc], false⟩
def tb166 : TE := ⟨.fn, 1, 8, [.sc .nilFunc], false⟩
def tb167 : TE := ⟨.ptr, 1, 8, [.sc (.pointer none)], false⟩
def tb168 : TE := ⟨.fn, 1, 8, [.sc .nilFunc], false⟩
def tb170 : TE := ⟨.fn, 1, 8, [.sc .nilFunc], false⟩
def tb171 : TE := ⟨.fn, 1, 8, [.sc .nilFunc], false⟩
def tb172 : TE := ⟨.fn, 1, 8, [.sc .nilFunc], false⟩
def tb173 : TE := ⟨.fn, 1, 8, [.sc .nilFunc], false⟩
def tb174 : TE := ⟨.fn, 1, 8, [.sc .nilFunc], false⟩
def tb175 : TE := ⟨.fn, 1, 8, [.sc .nilFunc], false⟩
def tb176 : TE := ⟨.fn, 1, 8, [.sc .nilFunc], false⟩
def tb177 : TE := ⟨.fn, 1, 8, [.sc .nilFunc], false⟩
def tb178 : TE := ⟨.fn, 1, 8, [.sc .nilFunc], false⟩
def tb179 : TE := ⟨.ptr, 1, 8, [.sc (.pointer none)], false⟩
def tb180 : TE := ⟨.agg [(0, 29)], 7, 152, [.nl, .nl, .nl, .nl, .nl, .sc (.int .i64 0), .nl], false⟩
def tb181 : TE := ⟨.agg [(0, 29)], 7, 152, [.nl, .nl, .nl, .nl, .nl, .sc (.int .i64 0), .nl], false⟩
def tb182 : TE := ⟨.fn, 1, 8, [.sc .nilFunc], false⟩
def tb183 : TE := ⟨.fn, 1, 8, [.sc .nilFunc], false⟩
def tb184 : TE := ⟨.fn, 1, 8, [.sc .nilFunc], false⟩
def tb185 : TE := ⟨.fn, 1, 8, [.sc .nilFunc], false⟩
def tb186 : TE := ⟨.fn, 1, 8, [.sc .nilFunc], false⟩
def tb187 : TE := ⟨.fn, 1, 8, [.sc .nilFunc], false⟩
def tb188 : TE := ⟨.fn, 1, 8, [.sc .nilFunc], false⟩
def tb189 : TE := ⟨.fn, 1, 8, [.sc .nilFunc], false⟩
def tb190 : TE := ⟨.fn, 1, 8, [.sc .nilFunc], false⟩
def tb191 : TE := ⟨.fn, 1, 8, [.sc .nilFunc], false⟩
def tb192 : TE := ⟨.fn, 1, 8, [.sc .nilFunc], false⟩
def tb193 : TE := ⟨.agg [(0, 3), (1, 3), (2, 3)], 3, 24, [.sc (.int .i64 0), .sc (.int .i64 0), .sc (.int .i64 0)], true⟩
def tb194 : TE := ⟨.agg [(0, 3), (1, 3), (2, 3)], 3, 24, [.sc (.int .i64 0), .sc (.int .i64 0), .sc (.int .i64 0)], true⟩
def tb195 : TE := ⟨.fn, 1, 8, [.sc .nilFunc], false⟩
def tb196 : TE := ⟨.fn, 1, 8, [.sc .nilFunc], false⟩
def tb197 : TE := ⟨.fn, 1, 8, [.sc .nilFunc], false⟩
def tb198 : TE := ⟨.fn, 1, 8, [.sc .nilFunc], false⟩
def tb199 : TE := ⟨.fn, 1, 8, [.sc .nilFunc], false⟩
def tb201 : TE := ⟨.fn, 1, 8, [.sc .nilFunc], false⟩
def tb202 : TE := ⟨.fn, 1, 8, [.sc .nilFunc], false⟩
def tb203 : TE := ⟨.arr 24 5, 24, 24, [.sc (.int .u8 0), .sc (.int .u8 0), .sc (.int .u8 0), .sc (.int .u8 0), .sc (.int .u8 0), .sc (.int .u8 0), .sc (.int .u8 0), .sc (.int .u8 0), .sc (.int .u8 0), .sc (.int .u8 0), .sc (.int .u8 0), .sc (.int .u8 0), .sc (.int .u8 0), .sc (.int .u8 0), .sc (.int .u8 0), .sc (.int .u8 0), .sc (.int .u8 0), .sc (.int .u8 0), .sc (.int .u8 0), .sc (.int .u8 0), .sc (.int .u8 0), .sc (.int .u8 0), .sc (.int .u8 0), .sc (.int .u8 0)], false⟩
def tb204 : TE := ⟨.fn, 1, 8, [.sc .nilFunc], false⟩
def tb205 : TE := ⟨.fn, 1, 8, [.sc .nilFunc], false⟩
def tb207 : TE := ⟨.fn, 1, 8, [.sc .nilFunc], false⟩
def tb208 : TE := ⟨.fn, 1, 8, [.sc .nilFunc], false⟩
def tb209 : TE := ⟨.fn, 1, 8, [.sc .nilFunc], false⟩
def tb210 : TE := ⟨.fn, 1, 8, [.sc .nilFunc], false⟩
def tb211 : TE := ⟨.fn, 1, 8, [.sc .nilFunc], false⟩
def tb212 : TE := ⟨.fn, 1, 8, [.sc .nilFunc], false⟩
def tb213 : TE := ⟨.fn, 1, 8, [.sc .nilFunc], false⟩
def tb214 : TE := ⟨.fn, 1, 8, [.sc .nilFunc], false⟩
def tb215 : TE := ⟨.fn, 1, 8, [.sc .nilFunc], false⟩
def tb216 : TE := ⟨.fn, 1, 8, [.sc .nilFunc], false⟩
def tb217 : TE := ⟨.fn, 1, 8, [.sc .nilFunc], false⟩
def tb218 : TE := ⟨.fn, 1, 8, [.sc .nilFunc], false⟩
def tb219 : TE := ⟨.fn, 1, 8, [.sc .nilFunc], false⟩
def tb220 : TE := ⟨.fn, 1, 8, [.sc .nilFunc], false⟩
def tb221 : TE := ⟨.fn, 1, 8, [.sc .nilFunc], false⟩
def tb222 : TE := ⟨.fn, 1, 8, [.sc .nilFunc], false⟩
def tb223 : TE := ⟨.fn, 1, 8, [.sc .nilFunc], false⟩
def tb224 : TE := ⟨.fn, 1, 8, [.sc .nilFunc], false⟩
def tb225 : TE := ⟨.arr 20 137, 20, 160, [.sc (.int .u64 0), .sc (.int .u64 0), .sc (.int .u64 0), .sc (.int .u64 0), .sc (.int .u64 0), .sc (.int .u64 0), .sc (.int .u64 0), .sc (.int .u64 0), .sc (.int .u64 0), .sc (.int .u64 0), .sc (.int .u64 0), .sc (.int .u64 0), .sc (.int .u64 0), .sc (.int .u64 0), .sc (.int .u64 0), .sc (.int .u64 0), .sc (.int .u64 0), .sc (.int .u64 0), .sc (.int .u64 0), .sc (.int .u64 0)], false⟩
def tb226 : TE := ⟨.arr 65 5, 65, 65, [.sc (.int .u8 0), .sc (.int .u8 0), .sc (.int .u8 0), .sc (.int .u8 0), .sc (.int .u8 0), .sc (.int .u8 0), .sc (.int .u8 0), .sc (.int .u8 0), .sc (.int .u8 0), .sc (.int .u8 0), .sc (.int .u8 0), .sc (.int .u8 0), .sc (.int .u8 0), .sc (.int .u8 0), .sc (.int .u8 0), .sc (.int .u8 0), .sc (.int .u8 0), .sc (.int .u8 0), .sc (.int .u8 0), .sc (.int .u8 0), .sc (.int .u8 0), .sc (.int .u8 0), .sc (.int .u8 0), .sc (.int .u8 0), .sc (.int .u8 0), .sc (.int .u8 0), .sc (.int .u8 0), .sc (.int .u8 0), .sc (.int .u8 0), .sc (.int .u8 0), .sc (.int .u8 0), .sc (.int .u8 0), .sc (.int .u8 0), .sc (.int .u8 0), .sc (.int .u8 0), .sc (.int .u8 0), .sc (.int .u8 0), .sc (.int .u8 0), .sc (.int .u8 0), .sc (.int .u8 0), .sc (.int .u8 0), .sc (.int .u8 0), .sc (.int .u8 0), .sc (.int .u8 0), .sc (.int .u8 0), .sc (.int .u8 0), .sc (.int .u8 0), .sc (.int .u8 0), .sc (.int .u8 0), .sc (.int .u8 0), .sc (.int .u8 0), .sc (.int .u8 0), .sc (.int .u8 0), .sc (.int .u8 0), .sc (.int .u8 0), .sc (.int .u8 0), .sc (.int .u8 0), .sc (.int .u8 0), .sc (.int .u8 0), .sc (.int .u8 0), .sc (.int .u8 0), .sc (.int .u8 0), .sc (.int .u8 0), .sc (.int .u8 0), .sc (.int .u8 0)], false⟩
def tb227 : TE := ⟨.int .u64, 1, 8, [.sc (.int .u64 0)], false⟩
def tb228 : TE := ⟨.fn, 1, 8, [.sc .nilFunc], false⟩
def tb229 : TE := ⟨.arr 3 3, 3, 24, [.sc (.int .i64 0), .sc (.int .i64 0), .sc (.int .i64 0)], false⟩
def tb230 : TE := ⟨.fn, 1, 8, [.sc .nilFunc], false⟩
def tb231 : TE := ⟨.fn, 1, 8, [.sc .nilFunc], false⟩
def tb232 : TE := ⟨.fn, 1, 8, [.sc .nilFunc], false⟩
def tb233 : TE := ⟨.fn, 1, 8, [.sc .nilFunc], false⟩
def tb234 : TE := ⟨.fn, 1, 8, [.sc .nilFunc], false⟩
def tb235 : TE := ⟨.fn, 1, 8, [.sc .nilFunc], false⟩
def tb236 : TE := ⟨.fn, 1, 8, [.sc .nilFunc], false⟩
def tb237 : TE := ⟨.fn, 1, 8, [.sc .nilFunc], false⟩
def tb238 : TE := ⟨.fn, 1, 8, [.sc .nilFunc], false⟩
def tb239 : TE := ⟨.fn, 1, 8, [.sc .nilFunc], false⟩
def tb240 : TE := ⟨.fn, 1, 8, [.sc .nilFunc], false⟩
def tb241 : TE := ⟨.fn, 1, 8, [.sc .nilFunc], false⟩
def tb242 : TE := ⟨.fn, 1, 8, [.sc .nilFunc], false⟩
def tb243 : TE := ⟨.arr 32 5, 32, 32, [.sc (.int .u8 0), .sc (.int .u8 0), .sc (.int .u8 0), .sc (.int .u8 0), .sc (.int .u8 0), .sc (.int .u8 0), .sc (.int .u8 0), .sc (.int .u8 0), .sc (.int .u8 0), .sc (.int .u8 0), .sc (.int .u8 0), .sc (.int .u8 0), .sc (.int .u8 0), .sc (.int .u8 0), .sc (.int .u8 0), .sc (.int .u8 0), .sc (.int .u8 0), .sc (.int .u8 0), .sc (.int .u8 0), .sc (.int .u8 0), .sc (.int .u8 0), .sc (.int .u8 0), .sc (.int .u8 0), .sc (.int .u8 0), .sc (.int .u8 0), .sc (.int .u8 0), .sc (.int .u8 0), .sc (.int .u8 0), .sc (.int .u8 0), .sc (.int .u8 0), .sc (.int .u8 0), .sc (.int .u8 0)], false⟩
def tb244 : TE := ⟨.arr 64 5, 64, 64, [.sc (.int .u8 0), .sc (.int .u8 0), .sc (.int .u8 0), .sc (.int .u8 0), .sc (.int .u8 0), .sc (.int .u8 0), .sc (.int .u8 0), .sc (.int .u8 0), .sc (.int .u8 0), .sc (.int .u8 0), .sc (.int .u8 0), .sc (.int .u8 0), .sc (.int .u8 0), .sc (.int .u8 0), .sc (.int .u8 0), .sc (.int .u8 0), .sc (.int .u8 0), .sc (.int .u8 0), .sc (.int .u8 0), .sc (.int .u8 0), .sc (.int .u8 0), .sc (.int .u8 0), .sc (.int .u8 0), .sc (.int .u8 0), .sc (.int .u8 0), .sc (.int .u8 0), .sc (.int .u8 0), .sc (.int .u8 0), .sc (.int .u8 0), .sc (.int .u8 0), .sc (.int .u8 0), .sc (.int .u8 0), .sc (.int .u8 0), .sc (.int .u8 0), .sc (.int .u8 0), .sc (.int .u8 0), .sc (.int .u8 0), .sc (.int .u8 0), .sc (.int .u8 0), .sc (.int .u8 0), .sc (.int .u8 0), .sc (.int .u8 0), .sc (.int .u8 0), .sc (.int .u8 0), .sc (.int .u8 0), .sc (.int .u8 0), .sc (.int .u8 0), .sc (.int .u8 0), .sc (.int .u8 0), .sc (.int .u8 0), .sc (.int .u8 0), .sc (.int .u8 0), .sc (.int .u8 0), .sc (.int .u8 0), .sc (.int .u8 0), .sc (.int .u8 0), .sc (.int .u8 0), .sc (.int .u8 0), .sc (.int .u8 0), .sc (.int .u8 0), .sc (.int .u8 0), .sc (.int .u8 0), .sc (.int .u8 0), .sc (.int .u8 0)], false⟩
def tb245 : TE := ⟨.agg [(0, 17), (1, 17), (2, 17), (3, 9)], 4, 40, [.sc (.pointer none), .sc (.pointer none), .sc (.pointer none), .sc (.string ByteArray.empty)], false⟩
def tb246 : TE := ⟨.agg [(0, 17), (1, 17), (2, 17), (3, 9)], 4, 40, [.sc (.pointer none), .sc (.pointer none), .sc (.pointer none), .sc (.string ByteArray.empty)], false⟩
def tb247 : TE := ⟨.arr 0 16, 0, 0, [], false⟩
def tb248 : TE := ⟨.agg [(0, 247)], 0, 0, [], false⟩
def tb249 : TE := ⟨.agg [(0, 247)], 0, 0, [], false⟩
def tb250 : TE := ⟨.fn, 1, 8, [.sc .nilFunc], false⟩
def tb251 : TE := ⟨.int .u8, 1, 1, [.sc (.int .u8 0)], false⟩
def tb252 : TE := ⟨.int .u8, 1, 1, [.sc (.int .u8 0)], false⟩
def tb253 : TE := ⟨.fn, 1, 8, [.sc .nilFunc], false⟩
def tb254 : TE := ⟨.int .i32, 1, 4, [.sc (.int .i32 0)], false⟩
def tb255 : TE := ⟨.int .i32, 1, 4, [.sc (.int .i32 0)], false⟩
def tb256 : TE := ⟨.agg [(0, 12), (1, 12), (2, 138), (3, 251), (4, 5), (5, 5), (6, 252), (7, 253), (8, 167), (9, 254), (10, 255)], 11, 48, [.sc (.int .u64 0), .sc (.int .u64 0), .sc (.int .u32 0), .sc (.int .u8 0), .sc (.int .u8 0), .sc (.int .u8 0), .sc (.int .u8 0), .sc .nilFunc, .sc (.pointer none), .sc (.int .i32 0), .sc (.int .i32 0)], false⟩
def tb257 : TE := ⟨.agg [(0, 12), (1, 12), (2, 138), (3, 251), (4, 5), (5, 5), (6, 252), (7, 253), (8, 167), (9, 254), (10, 255)], 11, 48, [.sc (.int .u64 0), .sc (.int .u64 0), .sc (.int .u32 0), .sc (.int .u8 0), .sc (.int .u8 0), .sc (.int .u8 0), .sc (.int .u8 0), .sc .nilFunc, .sc (.pointer none), .sc (.int .i32 0), .sc (.int .i32 0)], false⟩
def tbNo : TE := ⟨.other, 0, 0, [], false⟩
def tb (t : TypeId) : TE := bif Nat.blt t 258 then (bif Nat.blt t 129 then (bif Nat.blt t 64 then (bif Nat.blt t 32 then (bif Nat.blt t 16 then (bif Nat.blt t 8 then (bif Nat.blt t 4 then (bif Nat.blt t 2 then (bif Nat.blt t 1 then tbNo else tb1) else (bif Nat.blt t 3 then tb2 else tb3)) else (bif Nat.blt t 6 then (bif Nat.blt t 5 then tb4 else tb5) else (bif Nat.blt t 7 then tb6 else tb7))) else (bif Nat.blt t 12 then (bif Nat.blt t 10 then (bif Nat.blt t 9 then tb8 else tb9) else (bif Nat.blt t 11 then tb10 else tb11)) else (bif Nat.blt t 14 then (bif Nat.blt t 13 then tb12 else tb13) else (bif Nat.blt t 15 then tb14 else tb15)))) else (bif Nat.blt t 24 then (bif Nat.blt t 20 then (bif Nat.blt t 18 then (bif Nat.blt t 17 then tb16 else tb17) else (bif Nat.blt t 19 then tb18 else tb19)) else (bif Nat.blt t 22 then (bif Nat.blt t 21 then tb20 else tb21) else (bif Nat.blt t 23 then tb22 else tb23))) else (bif Nat.blt t 28 then (bif Nat.blt t 26 then (bif Nat.blt t 25 then tb24 else tb25) else (bif Nat.blt t 27 then tb26 else tb27)) else (bif Nat.blt t 30 then (bif Nat.blt t 29 then tb28 else tb29) else (bif Nat.blt t 31 then tb30 else tb31))))) else (bif Nat.blt t 48 then (bif Nat.blt t 40 then (bif Nat.blt t 36 then (bif Nat.blt t 34 then (bif Nat.blt t 33 then tb32 else tb33) else (bif Nat.blt t 35 then tb34 else tb35)) else (bif Nat.blt t 38 then (bif Nat.blt t 37 then tb36 else tb37) else (bif Nat.blt t 39 then tb38 else tb39))) else (bif Nat.blt t 44 then (bif Nat.blt t 42 then (bif Nat.blt t 41 then tb40 else tbNo) else (bif Nat.blt t 43 then tb42 else tbNo)) else (bif Nat.blt t 46 then (bif Nat.blt t 45 then tb44 else tb45) else (bif Nat.blt t 47 then tb46 else tb47)))) else (bif Nat.blt t 56 then (bif Nat.blt t 52 then (bif Nat.blt t 50 then (bif Nat.blt t 49 then tb48 else tb49) else (bif Nat.blt t 51 then tb50 else tb51)) else (bif Nat.blt t 54 then (bif Nat.blt t 53 then tb52 else tb53) else (bif Nat.blt t 55 then tb54 else tb55))) else (bif Nat.blt t 60 then (bif Nat.blt t 58 then (bif Nat.blt t 57 then tb56 else tb57) else (bif Nat.blt t 59 then tb58 else tb59)) else (bif Nat.blt t 62 then (bif Nat.blt t 61 then tb60 else tb61) else (bif Nat.blt t 63 then tb62 else tb63)))))) else (bif Nat.blt t 96 then (bif Nat.blt t 80 then (bif Nat.blt t 72 then (bif Nat.blt t 68 then (bif Nat.blt t 66 then (bif Nat.blt t 65 then tbNo else tb65) else (bif Nat.blt t 67 then tb66 else tb67)) else (bif Nat.blt t 70 then (bif Nat.blt t 69 then tb68 else tb69) else (bif Nat.blt t 71 then tb70 else tb71))) else (bif Nat.blt t 76 then (bif Nat.blt t 74 then (bif Nat.blt t 73 then tb72 else tb73) else (bif Nat.blt t 75 then tbNo else tb75)) else (bif Nat.blt t 78 then (bif Nat.blt t 77 then tb76 else tb77) else (bif Nat.blt t 79 then tb78 else tb79)))) else (bif Nat.blt t 88 then (bif Nat.blt t 84 then (bif Nat.blt t 82 then (bif Nat.blt t 81 then tb80 else tb81) else (bif Nat.blt t 83 then tb82 else tb83)) else (bif Nat.blt t 86 then (bif Nat.blt t 85 then tb84 else tb85) else (bif Nat.blt t 87 then tb86 else tb87))) else (bif Nat.blt t 92 then (bif Nat.blt t 90 then (bif Nat.blt t 89 then tbNo else tb89) else (bif Nat.blt t 91 then tb90 else tb91)) else (bif Nat.blt t 94 then (bif Nat.blt t 93 then tb92 else tb93) else (bif Nat.blt t 95 then tb94 else tb95))))) else (bif Nat.blt t 112 then (bif Nat.blt t 104 then (bif Nat.blt t 100 then (bif Nat.blt t 98 then (bif Nat.blt t 97 then tb96 else tb97) else (bif Nat.blt t 99 then tb98 else tb99)) else (bif Nat.blt t 102 then (bif Nat.blt t 101 then tb100 else tb101) else (bif Nat.blt t 103 then tb102 else tbNo))) else (bif Nat.blt t 108 then (bif Nat.blt t 106 then (bif Nat.blt t 105 then tb104 else tb105) else (bif Nat.blt t 107 then tb106 else tbNo)) else (bif Nat.blt t 110 then (bif Nat.blt t 109 then tb108 else tb109) else (bif Nat.blt t 111 then tb110 else tb111)))) else (bif Nat.blt t 120 then (bif Nat.blt t 116 then (bif Nat.blt t 114 then (bif Nat.blt t 113 then tb112 else tb113) else (bif Nat.blt t 115 then tb114 else tbNo)) else (bif Nat.blt t 118 then (bif Nat.blt t 117 then tb116 else tb117) else (bif Nat.blt t 119 then tb118 else tb119))) else (bif Nat.blt t 124 then (bif Nat.blt t 122 then (bif Nat.blt t 121 then tb120 else tb121) else (bif Nat.blt t 123 then tb122 else tbNo)) else (bif Nat.blt t 126 then (bif Nat.blt t 125 then tb124 else tb125) else (bif Nat.blt t 127 then tb126 else (bif Nat.blt t 128 then tb127 else tb128)))))))) else (bif Nat.blt t 193 then (bif Nat.blt t 161 then (bif Nat.blt t 145 then (bif Nat.blt t 137 then (bif Nat.blt t 133 then (bif Nat.blt t 131 then (bif Nat.blt t 130 then tb129 else tb130) else (bif Nat.blt t 132 then tb131 else tb132)) else (bif Nat.blt t 135 then (bif Nat.blt t 134 then tbNo else tb134) else (bif Nat.blt t 136 then tb135 else tb136))) else (bif Nat.blt t 141 then (bif Nat.blt t 139 then (bif Nat.blt t 138 then tb137 else tb138) else (bif Nat.blt t 140 then tb139 else tb140)) else (bif Nat.blt t 143 then (bif Nat.blt t 142 then tb141 else tb142) else (bif Nat.blt t 144 then tbNo else tb144)))) else (bif Nat.blt t 153 then (bif Nat.blt t 149 then (bif Nat.blt t 147 then (bif Nat.blt t 146 then tbNo else tb146) else (bif Nat.blt t 148 then tb147 else tbNo)) else (bif Nat.blt t 151 then (bif Nat.blt t 150 then tb149 else tbNo) else (bif Nat.blt t 152 then tb151 else tbNo))) else (bif Nat.blt t 157 then (bif Nat.blt t 155 then (bif Nat.blt t 154 then tb153 else tb154) else (bif Nat.blt t 156 then tbNo else tb156)) else (bif Nat.blt t 159 then (bif Nat.blt t 158 then tb157 else tb158) else (bif Nat.blt t 160 then tbNo else tb160))))) else (bif Nat.blt t 177 then (bif Nat.blt t 169 then (bif Nat.blt t 165 then (bif Nat.blt t 163 then (bif Nat.blt t 162 then tb161 else tb162) else (bif Nat.blt t 164 then tb163 else tb164)) else (bif Nat.blt t 167 then (bif Nat.blt t 166 then tb165 else tb166) else (bif Nat.blt t 168 then tb167 else tb168))) else (bif Nat.blt t 173 then (bif Nat.blt t 171 then (bif Nat.blt t 170 then tbNo else tb170) else (bif Nat.blt t 172 then tb171 else tb172)) else (bif Nat.blt t 175 then (bif Nat.blt t 174 then tb173 else tb174) else (bif Nat.blt t 176 then tb175 else tb176)))) else (bif Nat.blt t 185 then (bif Nat.blt t 181 then (bif Nat.blt t 179 then (bif Nat.blt t 178 then tb177 else tb178) else (bif Nat.blt t 180 then tb179 else tb180)) else (bif Nat.blt t 183 then (bif Nat.blt t 182 then tb181 else tb182) else (bif Nat.blt t 184 then tb183 else tb184))) else (bif Nat.blt t 189 then (bif Nat.blt t 187 then (bif Nat.blt t 186 then tb185 else tb186) else (bif Nat.blt t 188 then tb187 else tb188)) else (bif Nat.blt t 191 then (bif Nat.blt t 190 then tb189 else tb190) else (bif Nat.blt t 192 then tb191 else tb192)))))) else (bif Nat.blt t 225 then (bif Nat.blt t 209 then (bif Nat.blt t 201 then (bif Nat.blt t 197 then (bif Nat.blt t 195 then (bif Nat.blt t 194 then tb193 else tb194) else (bif Nat.blt t 196 then tb195 else tb196)) else (bif Nat.blt t 199 then (bif Nat.blt t 198 then tb197 else tb198) else (bif Nat.blt t 200 then tb199 else tbNo))) else (bif Nat.blt t 205 then (bif Nat.blt t 203 then (bif Nat.blt t 202 then tb201 else tb202) else (bif Nat.blt t 204 then tb203 else tb204)) else (bif Nat.blt t 207 then (bif Nat.blt t 206 then tb205 else tbNo) else (bif Nat.blt t 208 then tb207 else tb208)))) else (bif Nat.blt t 217 then (bif Nat.blt t 213 then (bif Nat.blt t 211 then (bif Nat.blt t 210 then tb209 else tb210) else (bif Nat.blt t 212 then tb211 else tb212)) else (bif Nat.blt t 215 then (bif Nat.blt t 214 then tb213 else tb214) else (bif Nat.blt t 216 then tb215 else tb216))) else (bif Nat.blt t 221 then (bif Nat.blt t 219 then (bif Nat.blt t 218 then tb217 else tb218) else (bif Nat.blt t 220 then tb219 else tb220)) else (bif Nat.blt t 223 then (bif Nat.blt t 222 then tb221 else tb222) else (bif Nat.blt t 224 then tb223 else tb224))))) else (bif Nat.blt t 241 then (bif Nat.blt t 233 then (bif Nat.blt t 229 then (bif Nat.blt t 227 then (bif Nat.blt t 226 then tb225 else tb226) else (bif Nat.blt t 228 then tb227 else tb228)) else (bif Nat.blt t 231 then (bif Nat.blt t 230 then tb229 else tb230) else (bif Nat.blt t 232 then tb231 else tb232))) else (bif Nat.blt t 237 then (bif Nat.blt t 235 then (bif Nat.blt t 234 then tb233 else tb234) else (bif Nat.blt t 236 then tb235 else tb236)) else (bif Nat.blt t 239 then (bif Nat.blt t 238 then tb237 else tb238) else (bif Nat.blt t 240 then tb239 else tb240)))) else (bif Nat.blt t 249 then (bif Nat.blt t 245 then (bif Nat.blt t 243 then (bif Nat.blt t 242 then tb241 else tb242) else (bif Nat.blt t 244 then tb243 else tb244)) else (bif Nat.blt t 247 then (bif Nat.blt t 246 then tb245 else tb246) else (bif Nat.blt t 248 then tb247 else tb248))) else (bif Nat.blt t 253 then (bif Nat.blt t 251 then (bif Nat.blt t 250 then tb249 else tb250) else (bif Nat.blt t 252 then tb251 else tb252)) else (bif Nat.blt t 255 then (bif Nat.blt t 254 then tb253 else tb254) else (bif Nat.blt t 256 then tb255 else (bif Nat.blt t 257 then tb256 else tb257))))))))) else tbNo
def tbRows : List Nat := [1, 2, 3, 4, 5, 6, 7, 8, 9, 10, 11, 12, 13, 14, 15, 16, 17, 18, 19, 20, 21, 22, 23, 24, 25, 26, 27, 28, 29, 30, 31, 32, 33, 34, 35, 36, 37, 38, 39, 40, 42, 44, 45, 46, 47, 48, 49, 50, 51, 52, 53, 54, 55, 56, 57, 58, 59, 60, 61, 62, 63, 65, 66, 67, 68, 69, 70, 71, 72, 73, 75, 76, 77, 78, 79, 80, 81, 82, 83, 84, 85, 86, 87, 89, 90, 91, 92, 93, 94, 95, 96, 97, 98, 99, 100, 101, 102, 104, 105, 106, 108, 109, 110, 111, 112, 113, 114, 116, 117, 118, 119, 120, 121, 122, 124, 125, 126, 127, 128, 129, 130, 131, 132, 134, 135, 136, 137, 138, 139, 140, 141, 142, 144, 146, 147, 149, 151, 153, 154, 156, 157, 158, 160, 161, 162, 163, 164, 165, 166, 167, 168, 170, 171, 172, 173, 174, 175, 176, 177, 178, 179, 180, 181, 182, 183, 184, 185, 186, 187, 188, 189, 190, 191, 192, 193, 194, 195, 196, 197, 198, 199, 201, 202, 203, 204, 205, 207, 208, 209, 210, 211, 212, 213, 214, 215, 216, 217, 218, 219, 220, 221, 222, 223, 224, 225, 226, 227, 228, 229, 230, 231, 232, 233, 234, 235, 236, 237, 238, 239, 240, 241, 242, 243, 244, 245, 246, 247, 248, 249, 250, 251, 252, 253, 254, 255, 256, 257]
theorem tb_rows : tbRows.map tb = tbRows.map (tabOf Tryz.prog) := by kernel_rfl
theorem tb_holes : ((List.range 258).all fun t => tbRows.contains t || (match (tb t).k with | .other => true | _ => false)) = true := by kernel_rfl
theorem tb_ok : TOk Tryz.prog tb := by
  refine ⟨fun t => ?_⟩
  by_cases ht : t < 258
  · have h := List.all_eq_true.1 tb_holes t (List.mem_range.2 ht)
    rw [Bool.or_eq_true] at h
    rcases h with h | h
    · left
      have hm : t ∈ tbRows := by simpa using h
      obtain ⟨i, hi, rfl⟩ := List.getElem_of_mem hm
      have e := congrArg (·[i]?) tb_rows
      simpa [hi] using e
    · right
      generalize (tb t).k = k at h
      cases k <;> first | rfl | cases h
  · right
    have hb : Nat.blt t 258 = false := by
      cases hq : Nat.blt t 258 with
      | true => exact absurd (Nat.le_of_ble_eq_true hq) ht
      | false => rfl
    unfold tb
    rw [hb]
    rfl
theorem mixed : Tryz.prog.follows .mixedOrders = true := by kernel_rfl
end Go.Proofs.YtiaebjpcgjkhoaaGreatDoor
