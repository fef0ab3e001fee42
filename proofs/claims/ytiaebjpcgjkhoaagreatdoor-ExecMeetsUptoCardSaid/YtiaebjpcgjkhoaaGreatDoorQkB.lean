/-
  Texts, joined: VjB, Enc, EncGood, GoodP, GdQ, VjIdx, VjTab, GdS, GdA.
-/
import Derived.Test.YtiaebjpcgjkhoaaGreatDoorQkA
import Derived.Laws.BytesString
import Derived.ScopeJumps
import Derived.IntWalk
import Derived.Test.YtiaebjpcgjkhoaaGreatDoorProg
import Derived.KernelRfl
namespace Go.Proofs.YtiaebjpcgjkhoaaGreatDoor
open Go.RowKit
section
structure NS (nb : Bool) (ri : Nat → Option Nat) (rg : Nat → Nat → Option Nat) (E1 : AU) (φ1 : Phi) (E2 : AU) (φ2 : Phi) : Prop where
  fz : ∀ k, E2.fz k → E1.fz k
  br : nb = false → ∀ k, E2.br k → E1.br k
  bx : ∀ id i b, ri id = some i → φ1 id = some (.box b) → φ2 i = some (.box b)
  ar : ∀ id i gen g c len hd, ri id = some i → rg id gen = some g → φ1 id = some (.arr c len hd) → gen ≤ c → ∃ c2, φ2 i = some (.arr c2 len hd) ∧ g ≤ c2 ∧ (g = c2 → gen = c)
def D5 (og : Nat → Nat) : Pl → Pl
  | .box b => .box b
  | .arr c n hd => .arr (og c) n hd
theorem KQ {og : Nat → Nat} {p : Pl} {k : Nat} : PlB (D5 og p) k ↔ PlB p k := by cases p <;> exact Iff.rfl
section
variable {w : World} {nb : Bool} {ri : Nat → Option Nat} {rg : Nat → Nat → Option Nat} {og : Nat → Nat} {E1 E2 : AU} {φ1 φ2 : Phi}
theorem EL (h : NS nb ri rg E1 φ1 E2 φ2) : ∀ (k : Nat) (x : VV) (v : Value), V w E1 (some φ1) x v → V w E2 (some φ2) (Jj nb ri rg k x) v
  | 0, _, _, _ => .dead
  | k + 1, x, v, hv => by
    have memc : ∀ {x : VV}, V w E1 (some φ1) x v → x.mem = true → V w E2 (some φ2) x v := fun hv hm =>
      (hv.mem (E' := ⟨E1.fz, E2.br⟩) (m' := some φ2) hm rfl).less h.fz fun _ h => h
    have rec' : ∀ (cs : List VV) (vs : Array Value), vs.size = cs.length → (∀ (j : Nat) x, cs[j]? = some x → V w E1 (some φ1) x (vs.getD j undef)) →
        vs.size = (cs.map (Jj nb ri rg k)).length ∧ ∀ (j : Nat) x, (cs.map (Jj nb ri rg k))[j]? = some x → V w E2 (some φ2) x (vs.getD j undef) := by
      intro cs vs h1 h2
      refine ⟨by simp [h1], fun j x hx => ?_⟩
      rw [List.getElem?_map] at hx
      obtain ⟨y, hy, rfl⟩ := Option.map_eq_some_iff.1 hx
      exact EL h k y _ (h2 j y hy)
    cases x with
    | dead => exact .dead
    | sc u => exact memc hv rfl
    | nl => exact memc hv rfl
    | er b => exact memc hv rfl
    | sl fz n sz f =>
      cases fz with
      | true => exact memc hv rfl
      | false =>
        cases nb with
        | true => exact .dead
        | false => exact (hv.lies (m' := some φ2) rfl).less h.fz (h.br rfl)
    | tp cs =>
      cases nb with
      | true => exact .dead
      | false =>
        obtain ⟨b, off, rfl, h1, h2, u, h3, h4⟩ := hv.tp_inv
        exact .tp u h1 (fun e => h2 (h.br rfl _ e)) h3 fun j x hx => (h4 j x hx).less h.fz (h.br rfl)
    | bp id off =>
      obtain ⟨b, hb, rfl⟩ := hv.bp_inv
      simp only [Jj]
      cases hq : ri id with
      | none => exact .dead
      | some i => exact .bp (h.bx id i b hq hb)
    | ow id gen n =>
      obtain ⟨c, len, hd, hd0, hph, hg, h0, hcur⟩ := hv.ow_inv
      simp only [Jj]
      cases hq : ri id with
      | none => exact .dead
      | some i =>
        cases hq2 : rg id gen with
        | none => exact .dead
        | some g =>
          obtain ⟨c2, a1, a2, a3⟩ := h.ar id i gen g c len hd hq hq2 hph hg
          exact .ow a1 a2 h0 fun e => hcur (a3 e)
    | ep id gen sz r o =>
      obtain ⟨c, len, hd, b, hph, hg, rfl, hcur⟩ := hv.ep_inv
      simp only [Jj]
      cases hq : ri id with
      | none => exact .dead
      | some i =>
        cases hq2 : rg id gen with
        | none => exact .dead
        | some g =>
          obtain ⟨c2, a1, a2, a3⟩ := h.ar id i gen g c len hd hq hq2 hph hg
          exact .ep a1 a2 fun e => hcur (a3 e)
    | agg cs =>
      obtain ⟨vs, rfl, h1, h2⟩ := hv.agg_inv
      obtain ⟨g1, g2⟩ := rec' cs vs h1 h2
      exact .agg g1 g2
    | tup cs =>
      cases hv with | tup h1 h2 =>
      obtain ⟨g1, g2⟩ := rec' cs _ h1 h2
      exact .tup g1 g2
    | fn g cs =>
      cases hv with | fn h1 h2 =>
      obtain ⟨g1, g2⟩ := rec' cs _ h1 h2
      exact .fn g1 g2
theorem Ji (h : NS nb ri rg (E1.up φ1) φ1 (E2.up φ2) φ2) {o : Ob} {p : Pl} (ho : ObV w E1 φ1 o p) : ObV w E2 φ2 (Qu nb ri rg og o) (D5 og p) := by
  cases o with
  | box cs =>
    cases p with
    | arr => exact ho.elim
    | box b =>
      obtain ⟨c, ty, h1, h2⟩ := ho
      refine ⟨c, ty, h1, by simp [h2.1], fun j x hx => ?_⟩
      rw [List.getElem?_map] at hx
      obtain ⟨y, hy, rfl⟩ := Option.map_eq_some_iff.1 hx
      exact EL h _ y _ (h2.2 j y hy)
  | gone g =>
    cases p with
    | box b => exact ho.elim
    | arr c n hd => obtain ⟨rfl, rfl⟩ := ho; exact ⟨rfl, rfl⟩
  | arr fr g n sz f =>
    cases p with
    | box b => exact ho.elim
    | arr c n' hd =>
      obtain ⟨rfl, rfl, hrow⟩ := ho
      have key : ∀ (f' : Nat → List VV), (∀ i, i < n → (f' i).length = (f i).length) → (∀ (i j : Nat) (x : VV), i < n → (f' i)[j]? = some x → ∀ u, (∀ y, (f i)[j]? = some y → Gb w E1 φ1 fr y u) → Gb w E2 φ2 fr x u) → H8 w E2 φ2 fr n sz f' hd := by
        intro f' hl hc
        match hd, hrow with
        | none, hrow => exact hrow
        | some (b, cap), hrow =>
          obtain ⟨cs, ty, h1, h2, h3, h4, h5, h6, h7⟩ := hrow
          exact ⟨cs, ty, h1, h2, h3, h4, fun i hi => (hl i hi).trans (h5 i hi), fun i j x hi hx => hc i j x hi hx _ fun y hy => h6 i j y hi hy, h7⟩
      cases fr with
      | true => exact ⟨rfl, rfl, key f (fun _ _ => rfl) fun i j x _ hx u hu => V.less (hu x hx) h.fz fun _ h => h⟩
      | false =>
        refine ⟨rfl, rfl, key _ (fun i hi => by simp [Qq, hi]) fun i j x hi hx u hu => ?_⟩
        simp only [Qq, List.getD_eq_getElem?_getD, List.getElem?_map, List.getElem?_range hi, Option.map_some, Option.getD_some] at hx
        obtain ⟨y, hy, rfl⟩ := Option.map_eq_some_iff.1 hx
        exact EL h _ y _ (hu y hy)
end
theorem C9 : ∀ {ids : List Nat} {id j : Nat}, idx ids id = some j → ids[j]? = some id
  | [], _, _, h => by cases h
  | i :: is, id, j, h => by
    simp only [idx] at h
    cases hq : Nat.beq i id with
    | true =>
      rw [hq] at h
      simp only [cond_true, Option.some.injEq] at h
      subst h
      rw [Nat.eq_of_beq_eq_true hq]; rfl
    | false =>
      rw [hq] at h
      simp only [cond_false, Option.map_eq_some_iff] at h
      obtain ⟨j', hj, rfl⟩ := h
      have := C9 hj
      simpa using this
theorem Er {nx : Nat} : ∀ {ids : List Nat}, Fa nx ids = true → ∀ (j : Nat) id, ids[j]? = some id → id < nx
  | [], _, j, id, h => by simp at h
  | i :: is, hk, j, id, h => by
    simp only [Fa, Bool.and_eq_true] at hk
    match j, h with
    | 0, h => simp only [List.getElem?_cons_zero, Option.some.injEq] at h; subst h; exact Nat.le_of_ble_eq_true hk.1.1
    | j + 1, h => exact Er hk.2 j id h
theorem IC {nx : Nat} : ∀ {ids : List Nat}, Fa nx ids = true → ∀ (j : Nat) id, ids[j]? = some id → idx ids id = some j
  | [], _, j, id, h => by simp at h
  | i :: is, hk, j, id, h => by
    simp only [Fa, Bool.and_eq_true] at hk
    match j, h with
    | 0, h => simp only [List.getElem?_cons_zero, Option.some.injEq] at h; subst h; simp [idx]
    | j + 1, h =>
      have h' : is[j]? = some id := h
      have hne : i ≠ id := by
        rintro rfl
        have := GY hk.1.2
        rw [UL.2 (List.mem_of_getElem? h')] at this
        cases this
      simp only [idx, BT hne, cond_false, IC hk.2 j id h', Option.map_some]
theorem QZ {ids : List Nat} {id : Nat} (h : idx ids id = none) : ∀ j : Nat, ids[j]? ≠ some id := by
  intro j hj
  induction ids generalizing j with
  | nil => simp at hj
  | cons i is ih =>
    simp only [idx] at h
    cases hq : Nat.beq i id with
    | true => rw [hq] at h; cases h
    | false =>
      rw [hq] at h
      simp only [cond_false, Option.map_eq_none_iff] at h
      match j, hj with
      | 0, hj => simp only [List.getElem?_cons_zero, Option.some.injEq] at hj; subst hj; simp at hq
      | j + 1, hj => exact ih h j hj
def MO (ids : List Nat) (φ : Phi) (k : Nat) : Prop := ∃ id, idx ids id = none ∧ Blk φ id k
def DA (ids : List Nat) (φ : Phi) : Phi := fun j => (ids[j]?).bind fun id => (φ id).map (D5 fun _ => 0)
section
variable {w : World} {E E' : AU} {φ : Phi} {st : St} {ids : List Nat} {Hc : Nat → Ob}
theorem Gl {j : Nat} {p : Pl} (h : DA ids φ j = some p) : ∃ id q, ids[j]? = some id ∧ φ id = some q ∧ p = D5 (fun _ => 0) q := by
  unfold DA at h
  cases hq : ids[j]? with
  | none => rw [hq] at h; cases h
  | some id =>
    rw [hq] at h
    simp only [Option.bind_some, Option.map_eq_some_iff] at h
    obtain ⟨q, hq, rfl⟩ := h
    exact ⟨id, q, rfl, hq, rfl⟩
theorem Fd {j id : Nat} (h : ids[j]? = some id) : DA ids φ j = (φ id).map (D5 fun _ => 0) := by unfold DA; rw [h]; rfl
theorem HR {j k : Nat} : Blk (DA ids φ) j k ↔ ∃ id, ids[j]? = some id ∧ Blk φ id k := by
  constructor
  · intro h
    obtain ⟨p, hp, hb⟩ := AJ.1 h
    obtain ⟨id, q, h1, h2, rfl⟩ := Gl hp
    exact ⟨id, h1, AJ.2 ⟨q, h2, KQ.1 hb⟩⟩
  · rintro ⟨id, h1, h2⟩
    obtain ⟨q, hq, hb⟩ := AJ.1 h2
    exact AJ.2 ⟨D5 (fun _ => 0) q, by rw [Fd h1, hq]; rfl, KQ.2 hb⟩
theorem FY {k : Nat} : Own (DA ids φ) k ↔ ∃ (j : Nat) (id : Nat), ids[j]? = some id ∧ Blk φ id k :=
  ⟨fun ⟨j, h⟩ => let ⟨id, h1, h2⟩ := HR.1 h; ⟨j, id, h1, h2⟩, fun ⟨j, id, h1, h2⟩ => ⟨j, HR.2 ⟨id, h1, h2⟩⟩⟩
theorem E6 {k : Nat} : Own φ k ↔ MO ids φ k ∨ Own (DA ids φ) k := by
  rw [FY]
  constructor
  · rintro ⟨id, h⟩
    cases hq : idx ids id with
    | none => exact .inl ⟨id, hq, h⟩
    | some j => exact .inr ⟨j, id, C9 hq, h⟩
  · rintro (⟨id, _, h⟩ | ⟨j, id, _, h⟩)
    · exact ⟨id, h⟩
    · exact ⟨id, h⟩
theorem HRel.gen (h : HRel E Hc φ w) {id c len : Nat} {hd : Option (Nat × Nat)} (e : φ id = some (.arr c len hd)) : (Hc id).gen = c := by
  have := h.ob id _ e
  cases hq : Hc id with
  | box cs => rw [hq] at this; exact this.elim
  | arr fr g n sz f => rw [hq] at this; exact this.1
  | gone g => rw [hq] at this; exact this.1
theorem Gk (h : HRel E st.H φ w) (h1 : ∀ k, E'.fz k → E.fz k ∨ MO ids φ k) (h2 : ∀ k, E'.br k → E.br k ∨ MO ids φ k) :
    NS false (idx ids) (UP st) (E.up φ) φ (E'.up (DA ids φ)) (DA ids φ) := by
  refine ⟨?_, fun _ => ?_, fun id i b hi hb => ?_, fun id i gen g c len hd hi hg hph hgc => ?_⟩
  · rintro k (hk1 | hk1)
    · exact (h1 k hk1).imp (fun h => h) fun h => E6.2 (.inl h)
    · exact .inr (E6.2 (.inr hk1))
  · rintro k (hk1 | hk1)
    · exact (h2 k hk1).imp (fun h => h) fun h => E6.2 (.inl h)
    · exact .inr (E6.2 (.inr hk1))
  · rw [Fd (C9 hi), hb]; rfl
  · have hgen := h.gen hph
    unfold UP at hg
    rw [hgen] at hg
    cases hq : Nat.beq gen c with
    | false => rw [hq] at hg; cases hg
    | true =>
      rw [hq] at hg
      simp only [cond_true, Option.some.injEq] at hg
      subst hg
      exact ⟨0, by rw [Fd (C9 hi), hph]; rfl, Nat.le_refl _, fun _ => Nat.eq_of_beq_eq_true hq⟩
theorem HRel.lend (h : HRel E st.H φ w) (hk : Fa st.nx ids = true) (h1 : ∀ k, E'.fz k → E.fz k ∨ MO ids φ k) (h2 : ∀ k, E'.br k → E.br k ∨ MO ids φ k) (h3 : ∀ k, E'.br k → E'.fz k) {H' : Nat → Ob} (hH : ∀ (j id : Nat), ids[j]? = some id → H' j = G5 st ids id) :
    HRel E' H' (DA ids φ) w := by
  refine ⟨h3, fun j p e => ?_, fun i j k hi hj => ?_, fun k hk1 hf => ?_⟩
  · obtain ⟨id, q, e1, e2, rfl⟩ := Gl e
    rw [hH j id e1]
    exact Ji (Gk h h1 h2) (h.ob id q e2)
  · obtain ⟨a, ha1, ha2⟩ := HR.1 hi
    obtain ⟨b, hb1, hb2⟩ := HR.1 hj
    obtain rfl := h.inj a b k ha2 hb2
    have e1 := IC hk i a ha1
    have e2 := IC hk j a hb1
    rw [e1] at e2
    simpa using e2
  · obtain ⟨j, id, e1, e2⟩ := FY.1 hk1
    rcases h1 k hf with hf | ⟨id', e3, e4⟩
    · exact h.free k ⟨id, e2⟩ hf
    · obtain rfl := h.inj id id' k e2 e4
      exact QZ e3 j e1
end
end
section
def PlK : Pl → Pl → Prop
  | .box b, q => q = .box b
  | .arr _ _ _, q => ∃ c n hd, q = .arr c n hd
theorem PlK.refl (p : Pl) : PlK p p := by cases p with
  | box b => rfl
  | arr c n hd => exact ⟨c, n, hd, rfl⟩
theorem PlK.trans {p q r : Pl} (h : PlK p q) (k : PlK q r) : PlK p r := by
  cases p with
  | box b => simp only [PlK] at h; subst h; exact k
  | arr c n hd => obtain ⟨_, _, _, rfl⟩ := h; exact k
theorem F8.kind {p q : Pl} (h : F8 p q) : PlK p q := by
  cases p with
  | box b => exact h
  | arr c n hd => obtain ⟨c', n', hd', e, _⟩ := h; exact ⟨c', n', hd', e⟩
structure Fr (b : Nat) (w : World) (φ : Phi) (w' : World) (φ' : Phi) : Prop where
  os : w'.os = w.os
  tape : w'.tape = w.tape
  output : w'.output = w.output
  size : w.heap.size ≤ w'.heap.size
  block : ∀ k, k < w.heap.size → ¬ Own φ k → w'.heap[k]? = w.heap[k]?
  new : ∀ k, Own φ' k → Own φ k ∨ w.heap.size ≤ k
  kind : ∀ id p, id < b → φ id = some p → ∃ p', φ' id = some p' ∧ PlK p p'
theorem Fr.refl (b : Nat) (w : World) (φ : Phi) : Fr b w φ w φ := ⟨rfl, rfl, rfl, Nat.le_refl _, fun _ _ _ => rfl, fun _ h => .inl h, fun _ p _ h => ⟨p, h, PlK.refl p⟩⟩
theorem Fr.of_ext {b : Nat} {w w' : World} {φ φ' : Phi} (h : Ext w φ w' φ') : Fr b w φ w' φ' :=
  ⟨h.os, h.tape, h.output, h.size, h.block, h.new, fun id p _ e => let ⟨p', e', hp⟩ := h.up id p e; ⟨p', e', hp.kind⟩⟩
theorem Fr.trans {b : Nat} {w w' w'' : World} {φ φ' φ'' : Phi} (h : Fr b w φ w' φ') (k : Fr b w' φ' w'' φ'') : Fr b w φ w'' φ'' where
  os := k.os.trans h.os
  tape := k.tape.trans h.tape
  output := k.output.trans h.output
  size := Nat.le_trans h.size k.size
  block := fun b hb hn => (k.block b (Nat.lt_of_lt_of_le hb h.size) fun e => by
    rcases h.new b e with e | e
    · exact hn e
    · omega).trans (h.block b hb hn)
  new := fun b e => by
    rcases k.new b e with e | e
    · exact h.new b e
    · exact .inr (Nat.le_trans h.size e)
  kind := fun id p hb e => by
    obtain ⟨q, e1, h1⟩ := h.kind id p hb e
    obtain ⟨r, e2, h2⟩ := k.kind id q hb e1
    exact ⟨r, e2, h1.trans h2⟩
def JH (P : Program) (f : FuncId) : Prop := ∃ fn, P.funcs[f]? = some fn ∧ fn.body.isNone = false ∧ (fn.name == "runtime.NumGoroutine") = false
def BK (hs : List Ob) : Nat → Ob := fun id => hs.getD id (.gone 0)
structure Ae (P : Program) (f : FuncId) (hs : List Ob) (xs : List VV) (hs' : List Ob) (r : VV) : Prop where
  callable : JH P f
  call : ∀ (w : World) (E : AU) (φ : Phi) (vs : Array Value), Old E φ w → HRel E (BK hs) φ w → (∀ id, φ id ≠ none ↔ id < hs.length) → CY w (E.up φ) (some φ) xs vs →
    Calls P f vs w fun e w' => ∃ v φ', e = .returned v ∧ HRel E (BK hs') φ' w' ∧ Fr hs.length w φ w' φ' ∧ (∀ id, φ' id ≠ none ↔ id < hs'.length) ∧ V w' (E.up φ') (some φ') r v
def GD (P : Program) (O : Orc) : Prop := ∀ f hs xs, (∀ p ∈ (O.run f hs xs).2, p) → Ae P f hs xs (O.run f hs xs).1.1 (O.run f hs xs).1.2
theorem Mp {nb : Bool} {st : St} {ids : List Nat} : ∀ {os : List Ob} {j0 j : Nat}, (Fk nb st ids j0 os)[j]? = (os[j]?).map (O8 nb st ids (j0 + j))
  | [], _, _ => by simp [Fk]
  | o :: os, j0, 0 => by simp [Fk]
  | o :: os, j0, j + 1 => by
    simp only [Fk, List.getElem?_cons_succ]
    rw [Mp, show j0 + 1 + j = j0 + (j + 1) by omega]
theorem H1 {nb : Bool} {st : St} {ids : List Nat} : ∀ {os : List Ob} {j0 : Nat}, (Fk nb st ids j0 os).length = os.length
  | [], _ => rfl
  | o :: os, j0 => by simp [Fk, H1]
def CL (P : Program) (E : AU) (φ : Phi) (nx : Nat) (obs : List Ob) (x : VV) (o : Oper) (a : Act) (w : World) : Prop :=
  ∀ (K : Act → World → Prop) (Q : Exit → Act → World → Prop), (∀ v w' pls, Dt w E φ nx obs pls w' → V w' (E.up (Ci φ nx pls)) (some (Ci φ nx pls)) x v → K (a.put o.dst v) w') → o.wp P a w K Q
theorem CL.of {P : Program} {E : AU} {φ : Phi} {nx : Nat} {obs : List Ob} {x : VV} {a : Act} {w : World} {o : Oper} {S : Sem Value} (he : execOp a.eval o = (do pure (.value (← S)) : Sem Next))
    (h : ∃ v w' pls, S.run P w = .ok v w' ∧ Dt w E φ nx obs pls w' ∧ V w' (E.up (Ci φ nx pls)) (some (Ci φ nx pls)) x v) : CL P E φ nx obs x o a w := by
  obtain ⟨v, w', pls, hr, h1, h2⟩ := h
  intro K Q hK
  unfold Oper.wp
  rw [he, Sem.run_bind, hr]
  exact hK v w' pls h1 h2
theorem CL.quiet {P : Program} {E : AU} {φ : Phi} {nx : Nat} {x : VV} {a : Act} {w : World} {o : Oper} {S : Sem Value} (he : execOp a.eval o = (do pure (.value (← S)) : Sem Next))
    (h : ∃ v, S.run P w = .ok v w ∧ V w (E.up φ) (some φ) x v) : CL P E φ nx [] x o a w := by
  obtain ⟨v, hr, h2⟩ := h
  exact CL.of he ⟨v, w, [], hr, Dt.none (Below.refl _ _), by rw [Ey]; exact h2⟩
section
variable {P : Program} {T : TypeId → TE} {O : Orc} {w : World} {E : AU} {φ : Phi} {st : St} {Hc : Nat → Ob} {a : Act}
theorem TO {o : Oper} {c : Call} {f : Operand} {g : FuncId} {vs : Array Value} (ho : o.op = .call c) (hf : c.callee = .value f) (hv : a.eval f = .func (.func g) #[] vs) (hc : JH P g)
    {K : Act → World → Prop} {Q : Exit → Act → World → Prop} {R : Ending → World → Prop} (hcall : Calls P g (c.args.map a.eval ++ vs) w R) (hK : ∀ e w', R e w' → ∃ v, e = .returned v ∧ K (a.put o.dst v) w') : o.wp P a w K Q := by
  obtain ⟨fn, hfn, hb, hnm⟩ := hc
  have hrun : (execOp a.eval o).run P w = .ok (.enter g (c.args.map a.eval ++ vs)) w := by
    unfold execOp
    rw [ho]
    simp only [resolve, hf, hv, Deferred.ofValue, Sem.run_bind, Sem.run_pure, Result.andThen_ok, invoke, callFunc, run_program, hfn, hnm, hb, Bool.false_eq_true, if_false, Array.empty_append]
  unfold Oper.wp
  rw [hrun, Oper.upon_enter]
  refine hcall.mono ?_
  intro e w' h
  obtain ⟨v, rfl, hk⟩ := hK e w' h
  exact hk
theorem AaV {c : Call} {caps : List VV} {vs : Array Value} {R : VV → Value → Prop} (h2 : ∀ y ∈ c.args.toList, R (st.val y) (a.eval y)) (e1 : vs.size = caps.length) (e2 : ∀ (j : Nat) x, caps[j]? = some x → R x (vs.getD j undef)) :
    (c.args.map a.eval ++ vs).size = (c.args.toList.map st.val ++ caps).length ∧ ∀ (j : Nat) x, (c.args.toList.map st.val ++ caps)[j]? = some x → R x ((c.args.map a.eval ++ vs).getD j undef) := by
  refine ⟨by simp [e1], fun j x hx => ?_⟩
  by_cases hj : j < c.args.size
  · rw [List.getElem?_append_left (by simpa using hj)] at hx
    rw [List.getElem?_map] at hx
    obtain ⟨z, hz, rfl⟩ := Option.map_eq_some_iff.1 hx
    have := h2 z (List.mem_of_getElem? hz)
    have hz' : c.args[j] = z := by have := (List.getElem?_eq_some_iff.1 hz).2; simpa using this
    have e : (c.args.map a.eval ++ vs).getD j undef = a.eval z := by
      simp [Array.getD, hj, hz', show j < c.args.size + vs.size by omega]
    rw [e]; exact this
  · rw [List.getElem?_append_right (by simp; omega)] at hx
    have := e2 _ x hx
    have hjl := (List.getElem?_eq_some_iff.1 hx).1
    simp at hjl this
    have e : (c.args.map a.eval ++ vs).getD j undef = vs[j - c.args.size]'(by omega) := by
      simp [Array.getD, Array.getElem_append, hj, show j < c.args.size + vs.size by omega]
    rw [e]
    rw [Array.getElem?_eq_getElem (by omega)] at this
    exact this
theorem WK {ids : List Nat} {j g c : Nat} (h : g ≤ c) : FW st ids j g ≤ FW st ids j c ∧ (FW st ids j g = FW st ids j c → g = c) := by
  unfold FW
  cases ids[j]? with
  | some id => exact ⟨by show (st.H id).gen + 1 + g ≤ (st.H id).gen + 1 + c; omega, fun e => by have e' : (st.H id).gen + 1 + g = (st.H id).gen + 1 + c := e; omega⟩
  | none => exact ⟨h, fun e => e⟩
theorem Yy {og : Nat → Nat} (h : ∀ g, og g = g) (p : Pl) : D5 og p = p := by cases p <;> simp [D5, h]
theorem Xv {w' : World} {φ2 : Phi} {os : List Ob} {r : VV} {v : Value} {nx : Nat} (hnx : nx = st.nx) (hid : ∀ i, i < os.length → φ (nx + i) = none)
    (h1 : HRel (E.up φ).lend (BK os) φ2 w') (h2 : Fr 0 w (fun _ => none) w' φ2) (h3 : ∀ id, φ2 id ≠ none ↔ id < os.length) (h4 : V w' ((E.up φ).lend.up φ2) (some φ2) r v) :
    ∃ pls, Dt w E φ nx (Fk true st [] 0 os) pls w' ∧ V w' (E.up (Ci φ nx pls)) (some (Ci φ nx pls)) (U0 true st [] r) v := by
  subst hnx
  let pls : List Pl := (List.range os.length).map fun j => (φ2 j).getD (.box 0)
  have hpls : ∀ (j : Nat) p, pls[j]? = some p ↔ φ2 j = some p := by
    intro j p
    show ((List.range os.length).map fun j => (φ2 j).getD (.box 0))[j]? = some p ↔ _
    rw [List.getElem?_map]
    by_cases hj : j < os.length
    · obtain ⟨q, hq⟩ := Option.ne_none_iff_exists'.1 ((h3 j).2 hj)
      simp [hj, hq]
    · have : φ2 j = none := Classical.byContradiction fun h => hj ((h3 j).1 h)
      simp [hj, this]
  have hlen : pls.length = os.length := by simp [pls]
  have hnone : ∀ k, ¬ Own (fun _ => none : Phi) k := by
    rintro k ⟨id, hb⟩
    obtain ⟨p, hp, _⟩ := AJ.1 hb
    cases hp
  have hroom : Room w pls w' := by
    refine ⟨⟨h2.os, h2.tape, h2.output, h2.size, fun k hk => h2.block k hk (hnone k)⟩, fun i p k hi hb => ?_, fun i j p q k hi hj hpb hqb => ?_⟩
    · exact (h2.new k ⟨i, AJ.2 ⟨p, (hpls i p).1 hi, hb⟩⟩).resolve_left (hnone k)
    · exact h1.inj i j k (AJ.2 ⟨p, (hpls i p).1 hi, hpb⟩) (AJ.2 ⟨q, (hpls j q).1 hj, hqb⟩)
  have hid' : ∀ i, i < pls.length → φ (st.nx + i) = none := fun i hi => hid i (by rw [← hlen]; exact hi)
  have hrel : NS true (fun j => some (EH st [] j)) (fun j g => some (FW st [] j g)) ((E.up φ).lend.up φ2) φ2 (E.up (Ci φ st.nx pls)) (Ci φ st.nx pls) := by
    have hout : ∀ j, EH st [] j = st.nx + j := fun j => by simp [EH]
    refine ⟨?_, fun e => Bool.noConfusion e, fun id i b hi hb => ?_, fun id i gen g c len hd hi hg hph hgc => ?_⟩
    · rintro k (hk | hk)
      · exact .inl (.inl hk)
      · rcases (hroom.own hid').1 hk with hk | ⟨i, p, hi, hb⟩
        · exact .inl (.inr hk)
        · exact .inr ⟨i, AJ.2 ⟨p, (hpls i p).1 hi, hb⟩⟩
    · simp only [Option.some.injEq] at hi
      rw [← hi, hout]
      exact Dh ((hpls id _).2 hb)
    · simp only [Option.some.injEq] at hi hg
      rw [← hi, hout]
      have hg' : g = gen := by rw [← hg]; rfl
      subst hg'
      exact ⟨c, Dh ((hpls id _).2 hph), hgc, fun e => e⟩
  refine ⟨pls, ⟨hroom, by rw [hlen, H1], fun i o p hi hp => ?_⟩, EL hrel _ _ _ h4⟩
  rw [Mp] at hi
  obtain ⟨o', ho', rfl⟩ := Option.map_eq_some_iff.1 hi
  have hob := h1.ob i p ((hpls i p).1 hp)
  have hoo : BK os i = o' := by simp [BK, ho']
  rw [hoo] at hob
  have := Ji (og := FW st [] (0 + i)) hrel hob
  rw [Yy (og := FW st [] (0 + i)) fun g => rfl] at this
  exact this
end
end
section
section
variable {P : Program} {T : TypeId → TE} {O : Orc} {w : World} {E : AU} {φ : Phi} {st : St} {Hc : Nat → Ob} {a : Act} {ids : List Nat}
def KA (E : AU) (ids : List Nat) (φ : Phi) : AU := ⟨fun k => E.fz k ∨ MO ids φ k, fun k => E.br k ∨ MO ids φ k⟩
def Ew (st : St) (ids : List Nat) (n : Nat) (φ φ2 : Phi) : Phi := fun k =>
  match idx ids k with
  | some j => (φ2 j).map (D5 (FW st ids j))
  | none => if st.nx ≤ k ∧ k < st.nx + (n - ids.length) then (φ2 (k - st.nx + ids.length)).map (D5 (FW st ids (k - st.nx + ids.length))) else φ k
theorem Jp {j id : Nat} (h : ids[j]? = some id) : EH st ids j = id := by unfold EH; rw [h]
theorem LZ {j : Nat} (h : ids.length ≤ j) : EH st ids j = st.nx + (j - ids.length) := by
  unfold EH
  rw [List.getElem?_eq_none h]
theorem AbW (hk : Fa st.nx ids = true) {k : Nat} (h : st.nx ≤ k) : idx ids k = none := by
  cases hq : idx ids k with
  | none => rfl
  | some j => have := Er hk j k (C9 hq); omega
theorem Zz (hk : Fa st.nx ids = true) {n j : Nat} {φ2 : Phi} (hj : j < n) : Ew st ids n φ φ2 (EH st ids j) = (φ2 j).map (D5 (FW st ids j)) := by
  unfold Ew
  rcases Nat.lt_or_ge j ids.length with h | h
  · have e : ids[j]? = some ids[j] := List.getElem?_eq_getElem h
    rw [Jp e, IC hk j _ e]
  · rw [LZ h, AbW hk (by omega)]
    simp only
    rw [if_pos (by omega), show st.nx + (j - ids.length) - st.nx + ids.length = j by omega]
theorem NR {n k : Nat} {φ2 : Phi} {p : Pl} (h : Ew st ids n φ φ2 k = some p) :
    (∃ j q, k = EH st ids j ∧ φ2 j = some q ∧ p = D5 (FW st ids j) q) ∨ (idx ids k = none ∧ φ k = some p ∧ ¬ (st.nx ≤ k ∧ k < st.nx + (n - ids.length))) := by
  unfold Ew at h
  cases hq : idx ids k with
  | some j =>
    rw [hq] at h
    obtain ⟨q, e1, e2⟩ := Option.map_eq_some_iff.1 h
    exact .inl ⟨j, q, (Jp (C9 hq)).symm, e1, e2.symm⟩
  | none =>
    rw [hq] at h
    simp only at h
    split at h
    · rename_i hc
      obtain ⟨q, e1, e2⟩ := Option.map_eq_some_iff.1 h
      exact .inl ⟨_, q, by rw [LZ (by omega)]; omega, e1, e2.symm⟩
    · rename_i hc; exact .inr ⟨rfl, h, hc⟩
theorem Xu (hH : HRel E st.H φ w) (hfr : ∀ id, st.nx ≤ id → φ id = none) (hlv : ∀ id, id < st.nx → φ id ≠ none) (hk : Fa st.nx ids = true) {w' : World} {φ2 : Phi} {os : List Ob} {r : VV} {v : Value} (hlen : ids.length ≤ os.length)
    (h1 : HRel (KA E ids φ) (BK os) φ2 w') (h2 : Fr ids.length w (DA ids φ) w' φ2) (h3 : ∀ id, φ2 id ≠ none ↔ id < os.length) (h4 : V w' ((KA E ids φ).up φ2) (some φ2) r v) {H' : Nat → Ob} (hH' : ∀ j, j < os.length → H' (EH st ids j) = O8 false st ids j (BK os j))
    (hH'' : ∀ k, k < st.nx → idx ids k = none → H' k = st.H k) :
    ∃ φ', HRel E H' φ' w' ∧ Ext w φ w' φ' ∧ (∀ id, φ' id ≠ none ↔ φ id ≠ none ∨ (st.nx ≤ id ∧ id < st.nx + (os.length - ids.length))) ∧ V w' (E.up φ') (some φ') (U0 false st ids r) v := by
  refine ⟨Ew st ids os.length φ φ2, ?_⟩
  have hat : ∀ {j : Nat}, j < os.length → Ew st ids os.length φ φ2 (EH st ids j) = (φ2 j).map (D5 (FW st ids j)) := fun hj => Zz hk hj
  have hlt2 : ∀ {j : Nat} {q : Pl}, φ2 j = some q → j < os.length := fun e => (h3 _).1 (by rw [e]; simp)
  have hltφ : ∀ {k : Nat} {p : Pl}, φ k = some p → k < st.nx := by
    intro k p e
    rcases Nat.lt_or_ge k st.nx with h | h
    · exact h
    · rw [hfr k h] at e; cases e
  have hblk : ∀ {i k : Nat}, Blk (Ew st ids os.length φ φ2) i k → (∃ j, i = EH st ids j ∧ j < os.length ∧ Blk φ2 j k) ∨ (idx ids i = none ∧ Blk φ i k) := by
    intro i k hb
    obtain ⟨p, hp, hpb⟩ := AJ.1 hb
    rcases NR hp with ⟨j, q, e1, e2, rfl⟩ | ⟨e1, e2, _⟩
    · exact .inl ⟨j, e1, hlt2 e2, AJ.2 ⟨q, e2, KQ.1 hpb⟩⟩
    · exact .inr ⟨e1, AJ.2 ⟨p, e2, hpb⟩⟩
  have hblk' : ∀ {j k : Nat}, Blk φ2 j k → Blk (Ew st ids os.length φ φ2) (EH st ids j) k := by
    intro j k hb
    obtain ⟨p, hp, hpb⟩ := AJ.1 hb
    exact AJ.2 ⟨_, by rw [hat (hlt2 hp), hp]; rfl, KQ.2 hpb⟩
  have hblk'' : ∀ {i k : Nat}, idx ids i = none → Blk φ i k → Blk (Ew st ids os.length φ φ2) i k := by
    intro i k hi hb
    obtain ⟨p, hp, hpb⟩ := AJ.1 hb
    have := hltφ hp
    refine AJ.2 ⟨p, ?_, hpb⟩
    unfold Ew
    rw [hi]
    simp only
    rw [if_neg (by omega), hp]
  have apart : ∀ {j i k : Nat}, Blk φ2 j k → idx ids i = none → Blk φ i k → False := fun h5 h6 h7 => h1.free _ ⟨_, h5⟩ (.inr ⟨_, h6, h7⟩)
  have hown : ∀ {k : Nat}, Own (Ew st ids os.length φ φ2) k ↔ Own φ2 k ∨ MO ids φ k := by
    intro k
    constructor
    · rintro ⟨i, hb⟩
      rcases hblk hb with ⟨j, _, _, hb⟩ | ⟨hi, hb⟩
      · exact .inl ⟨j, hb⟩
      · exact .inr ⟨i, hi, hb⟩
    · rintro (⟨j, hb⟩ | ⟨i, hi, hb⟩)
      · exact ⟨_, hblk' hb⟩
      · exact ⟨i, hblk'' hi hb⟩
  have hrel : NS false (fun j => some (EH st ids j)) (fun j g => some (FW st ids j g)) ((KA E ids φ).up φ2) φ2 (E.up (Ew st ids os.length φ φ2)) (Ew st ids os.length φ φ2) := by
    refine ⟨?_, fun _ => ?_, fun id i b hi hb => ?_, fun id i gen g c len hd hi hg hph hgc => ?_⟩
    · rintro k (hk1 | hk1)
      · exact .inl (.inl hk1)
      · rcases hown.1 hk1 with h | h
        · exact .inr h
        · exact .inl (.inr h)
    · rintro k (hk1 | hk1)
      · exact .inl (.inl hk1)
      · rcases hown.1 hk1 with h | h
        · exact .inr h
        · exact .inl (.inr h)
    · simp only [Option.some.injEq] at hi
      rw [← hi, hat (hlt2 hb), hb]; rfl
    · simp only [Option.some.injEq] at hi hg
      subst hi; subst hg
      obtain ⟨m1, m2⟩ := WK (st := st) (ids := ids) (j := id) hgc
      exact ⟨_, by rw [hat (hlt2 hph), hph]; rfl, m1, m2⟩
  have hext : Ext w φ w' (Ew st ids os.length φ φ2) := by
    refine ⟨h2.os, h2.tape, h2.output, h2.size, fun k hk1 hn => h2.block k hk1 fun h => hn (E6.2 (.inr h)), fun id p e => ?_, fun k hk1 => ?_⟩
    · cases hq : idx ids id with
      | none =>
        have := hltφ e
        refine ⟨p, ?_, F8.refl p⟩
        unfold Ew
        rw [hq]
        simp only
        rw [if_neg (by omega), e]
      | some j =>
        have hj := C9 hq
        have hjl : j < ids.length := (List.getElem?_eq_some_iff.1 hj).1
        obtain ⟨p2, e2, hp2⟩ := h2.kind j (D5 (fun _ => 0) p) hjl (by rw [Fd hj, e]; rfl)
        refine ⟨D5 (FW st ids j) p2, ?_, ?_⟩
        · have := hat (j := j) (by omega)
          rw [Jp hj, e2] at this
          exact this
        · cases p with
          | box b => simp only [D5, PlK] at hp2; subst hp2; rfl
          | arr c n hd =>
            obtain ⟨c', n', hd', rfl⟩ := hp2
            have hg := hH.gen e
            have : FW st ids j c' = c + 1 + c' := by unfold FW; rw [hj]; simp only [hg]
            exact ⟨_, _, _, rfl, by omega, fun e' => by omega⟩
    · rcases hown.1 hk1 with h | ⟨i, hi, hb⟩
      · exact (h2.new k h).imp (fun h => E6.2 (.inr h)) fun h => h
      · exact .inl ⟨i, hb⟩
  refine ⟨⟨hH.sub, fun k p e => ?_, fun i j k hi hj => ?_, fun k hk1 hf => ?_⟩, hext, fun id => ?_, EL hrel _ _ _ h4⟩
  · rcases NR e with ⟨j, q, rfl, e2, rfl⟩ | ⟨e1, e2, _⟩
    · rw [hH' j (hlt2 e2)]
      exact Ji hrel (h1.ob j q e2)
    · rw [hH'' k (hltφ e2) e1]
      refine (hH.ob k p e2).ext hext fun b hb hlt => h2.block b hlt ?_
      intro ho
      obtain ⟨j, id', a1, a2⟩ := FY.1 ho
      have := hH.inj k id' b (AJ.2 ⟨p, e2, hb⟩) a2
      subst this
      exact QZ e1 j a1
  · rcases hblk hi with ⟨i', rfl, _, hb1⟩ | ⟨hi1, hb1⟩ <;> rcases hblk hj with ⟨j', rfl, _, hb2⟩ | ⟨hj1, hb2⟩
    · rw [h1.inj i' j' k hb1 hb2]
    · exact (apart hb1 hj1 hb2).elim
    · exact (apart hb2 hi1 hb1).elim
    · exact hH.inj i j k hb1 hb2
  · rcases hown.1 hk1 with h | ⟨i, hi, hb⟩
    · exact h1.free k h (.inl hf)
    · exact hH.free k ⟨i, hb⟩ hf
  · constructor
    · intro hn
      cases hq : idx ids id with
      | some j => exact .inl (hlv id (Er hk j id (C9 hq)))
      | none =>
        unfold Ew at hn
        rw [hq] at hn
        simp only at hn
        split at hn
        · rename_i hc; exact .inr hc
        · exact .inl hn
    · intro hn
      unfold Ew
      cases hq : idx ids id with
      | some j =>
        have hj := C9 hq
        have hjl : j < ids.length := (List.getElem?_eq_some_iff.1 hj).1
        have := (h3 j).2 (by omega)
        simpa using this
      | none =>
        simp only
        split
        · have := (h3 (id - st.nx + ids.length)).2 (by omega)
          simpa using this
        · rename_i hc; exact hn.resolve_right hc
theorem AbL (hO : GD P O) (hH : HRel E Hc φ w) (hHc : ∀ id, id < st.nx → Hc id = st.H id) (hz : Old E φ w) {o : Oper} {c : Call} {f : Operand} (ho : o.op = .call c) (hf : c.callee = .value f)
    (h1 : V w (E.up φ) (some φ) (st.val f) (a.eval f)) (h2 : ∀ y ∈ c.args.toList, V w (E.up φ) (some φ) (st.val y) (a.eval y)) (hc : ∀ p ∈ (FQ O st (st.val f) (c.args.toList.map st.val)).chk, p) :
    ((FQ O st (st.val f) (c.args.toList.map st.val)).put = none ∧ ((∀ i, i < (FQ O st (st.val f) (c.args.toList.map st.val)).new.length → φ (st.nx + i) = none) →
        CL P E φ st.nx (FQ O st (st.val f) (c.args.toList.map st.val)).new (FQ O st (st.val f) (c.args.toList.map st.val)).val o a w)) ∨
    (∃ H', (FQ O st (st.val f) (c.args.toList.map st.val)).put = some H' ∧ ((∀ id, st.nx ≤ id → φ id = none) → (∀ id, id < st.nx → φ id ≠ none) → HRel E st.H φ w →
        TN P E φ (GG H' st.nx (FQ O st (st.val f) (c.args.toList.map st.val)).new) st.nx (st.nx + (FQ O st (st.val f) (c.args.toList.map st.val)).new.length) (FQ O st (st.val f) (c.args.toList.map st.val)).val o a w)) := by
  generalize hx : st.val f = x at *
  unfold FQ at hc ⊢
  cases hask : Z5 O.lend st x (c.args.toList.map st.val) with
  | none => rw [hask] at hc; exact Al hc
  | some q =>
    obtain ⟨g, ids, hs, xs⟩ := q
    rw [hask] at hc
    simp only at hc ⊢
    unfold Z5 at hask
    split at hask
    · rename_i g' caps
      generalize hv : a.eval f = vf at h1
      cases h1 with | fn e1 e2 =>
      rename_i vs
      obtain ⟨l1, l2⟩ := AaV (c := c) (st := st) (a := a) (R := V w (E.up φ) (some φ)) h2 e1 e2
      cases hld : O.lend g' with
      | false =>
        rw [hld] at hask
        simp only [cond_false] at hask
        split at hask
        · rename_i xs' hsn
          simp only [Option.some.injEq, Prod.mk.injEq] at hask
          obtain ⟨rfl, rfl, rfl, rfl⟩ := hask
          generalize hrun : O.run g' [] xs' = q at hc ⊢
          obtain ⟨⟨os, r⟩, ck⟩ := q
          simp only [hld] at hc ⊢
          have hb : C6 st false [] os r = { val := U0 true st [] r, new := Fk true st [] 0 os, put := none } := by simp [C6, Nat.ble]
          rw [hb] at hc ⊢
          refine .inl ⟨rfl, fun hid => ?_⟩
          simp only [Res.also, List.nil_append] at hc hid ⊢
          have hsp := hO g' [] xs' (by rw [hrun]; exact hc)
          rw [hrun] at hsp
          obtain ⟨m1, m2⟩ := CI hsn
          have hHlt : ∀ {k : Nat}, Own φ k → k < w.heap.size := fun h => hH.lt h
          have hnil : DA [] φ = fun _ => none := by funext j; simp [DA]
          have hHc' : HRel ((E.up φ).lend) (BK []) (DA [] φ) w := by
            refine ⟨fun k h => h.elim, fun j p e => ?_, fun i j k h => ?_, fun k h => ?_⟩
            · rw [hnil] at e; cases e
            · rw [hnil] at h; obtain ⟨p, hp, _⟩ := AJ.1 h; cases hp
            · rw [hnil] at h; obtain ⟨j, h⟩ := h; obtain ⟨p, hp, _⟩ := AJ.1 h; cases hp
          have hcall := hsp.call w (E.up φ).lend (DA [] φ) (c.args.map a.eval ++ vs) ⟨(by
              rintro k (hk | hk)
              · exact hz.lt k hk
              · exact hHlt hk), hz.lib.at', hz.lib.lt, fun k _ ho => by rw [hnil] at ho; obtain ⟨j, ho⟩ := ho; obtain ⟨p, hp, _⟩ := AJ.1 ho; cases hp⟩ hHc' (fun id => by rw [hnil]; simp) ⟨by rw [l1, m1], fun j y hy => by
              obtain ⟨x, hx, hxy⟩ := m2 j y hy
              have := LF (H := st.Hg) hH (fun id => by
                unfold St.Hg
                cases hq : Nat.blt id st.nx with
                | false => exact .inl rfl
                | true => exact .inr (hHc id (Nat.le_of_ble_eq_true hq)).symm) _ x y _ (l2 j x hx) hxy
              refine (this.held (m := some (DA [] φ))).less ?_ ?_
              · rintro k (hk | hk)
                · exact hk
                · rw [hnil] at hk; obtain ⟨j, h⟩ := hk; obtain ⟨p, hp, _⟩ := AJ.1 h; cases hp
              · rintro k (hk | hk)
                · exact hk
                · rw [hnil] at hk; obtain ⟨j, h⟩ := hk; obtain ⟨p, hp, _⟩ := AJ.1 h; cases hp⟩
          intro K Q hK
          refine TO ho hf hv hsp.callable hcall ?_
          rintro e w' ⟨v, φ2, rfl, k1, k2, k3, k4⟩
          refine ⟨v, rfl, ?_⟩
          rw [hnil] at k2
          obtain ⟨pls, n1, n2⟩ := Xv (st := st) rfl (fun i hi => hid i (by rw [H1]; exact hi)) k1 k2 k3 k4
          exact hK v w' pls n1 n2
        · cases hask
      | true =>
        rw [hld] at hask
        simp only [cond_true] at hask
        generalize LU st 64 ((c.args.toList.map st.val ++ caps).flatMap (GB 8)) [] = is at hask
        cases hok : Fa st.nx is with
        | false => rw [hok] at hask; cases hask
        | true =>
          rw [hok] at hask
          simp only [cond_true, Option.some.injEq, Prod.mk.injEq] at hask
          obtain ⟨rfl, rfl, rfl, rfl⟩ := hask
          generalize hrun : O.run g' (is.map (G5 st is)) ((c.args.toList.map st.val ++ caps).map (QW st is)) = q at hc ⊢
          obtain ⟨⟨os, r⟩, ck⟩ := q
          simp only [hld] at hc ⊢
          unfold C6 at hc ⊢
          cases hle : Nat.ble is.length os.length with
          | false => rw [hle] at hc; exact (hc False (by simp [Res.bad, Res.also])).elim
          | true =>
            rw [hle] at hc
            simp only [cond_true, Bool.not_true] at hc ⊢
            have hlen := Nat.le_of_ble_eq_true hle
            refine .inr ⟨_, rfl, fun hfr hlv hHs => ?_⟩
            simp only [Res.also, List.nil_append] at hc ⊢
            have hsp := hO g' _ _ (by rw [hrun]; exact hc)
            rw [hrun] at hsp
            have hE1 : ∀ k, (KA E is φ).fz k → E.fz k ∨ MO is φ k := fun _ h => h
            have hE2 : ∀ k, (KA E is φ).br k → E.br k ∨ MO is φ k := fun _ h => h
            have hHc' := hHs.lend (E' := KA E is φ) hok hE1 hE2 (fun k h => h.imp (hHs.sub k) fun h => h) (H' := BK (is.map (G5 st is))) (fun j id e => by simp [BK, e])
            have hrl := Gk (E' := KA E is φ) hHs hE1 hE2
            have hcall := hsp.call w (KA E is φ) (DA is φ) (c.args.map a.eval ++ vs) ⟨(by
                rintro k (hk | ⟨id, _, hk⟩)
                · exact hz.lt k hk
                · exact hHs.lt ⟨id, hk⟩), hz.lib.at', hz.lib.lt, fun k hk ho => hz.lib.out k hk ((FY.1 ho).elim fun _ h => h.elim fun id h => ⟨id, h.2⟩)⟩ hHc' (fun j => by
                rw [List.length_map]
                constructor
                · intro h
                  obtain ⟨p, hp⟩ := Option.ne_none_iff_exists'.1 h
                  obtain ⟨id, _, e1, _⟩ := Gl hp
                  exact (List.getElem?_eq_some_iff.1 e1).1
                · intro h
                  have e1 : is[j]? = some is[j] := List.getElem?_eq_getElem h
                  rw [Fd e1]
                  have := hlv _ (Er hok j _ e1)
                  simpa using this) ⟨by rw [l1]; simp, fun j y hy => by
                rw [List.getElem?_map] at hy
                obtain ⟨x, hx, rfl⟩ := Option.map_eq_some_iff.1 hy
                exact EL hrl _ _ _ (l2 j x hx)⟩
            intro K Q hK
            refine TO ho hf hv hsp.callable hcall ?_
            rintro e w' ⟨v, φ2, rfl, k1, k2, k3, k4⟩
            refine ⟨v, rfl, ?_⟩
            rw [List.length_map] at k2
            have hnl : ((Fk false st is 0 os).drop is.length).length = os.length - is.length := by rw [List.length_drop, H1]
            obtain ⟨φ', p1, p2, p3, p4⟩ := Xu hHs hfr hlv hok hlen k1 k2 k3 k4 (H' := GG (fun k => match idx is k with
              | some j => (Fk false st is 0 os).getD j (.gone 0)
              | none => st.H k) st.nx ((Fk false st is 0 os).drop is.length)) (fun j hj => by
                have hoj : os[j]? = some os[j] := List.getElem?_eq_getElem hj
                have hbj : (Fk false st is 0 os)[j]? = some (O8 false st is j (BK os j)) := by
                  rw [Mp, Nat.zero_add, hoj]; simp [BK, hoj]
                rcases Nat.lt_or_ge j is.length with h | h
                · have e : is[j]? = some is[j] := List.getElem?_eq_getElem h
                  rw [Jp e, Hq (.inl (Er hok j _ e)), IC hok j _ e]
                  simp only [List.getD, hbj, Option.getD_some]
                · rw [LZ h]
                  refine U3 ?_
                  rw [List.getElem?_drop, show is.length + (j - is.length) = j by omega]
                  exact hbj) (fun k hk hi => by rw [Hq (.inl hk), hi])
            exact hK v w' φ' p1 p2 (by rw [hnl]; exact p3) p4
    · cases hask
end
end
section
section
variable {P : Program} {T : TypeId → TE} {O : Orc} {w : World} {E : AU} {φ : Phi} {st : St} {Hc : Nat → Ob} {a : Act}
def ZG (w : World) (E : AU) (φ : Phi) (st : St) (a : Act) : Op → Prop
  | .pick c x y => V w (E.up φ) (some φ) (st.val c) (a.eval c) ∧ (a.eval c = .bool true → V w (E.up φ) (some φ) (st.val x) (a.eval x)) ∧ (a.eval c = .bool false → V w (E.up φ) (some φ) (st.val y) (a.eval y))
  | op => ∀ y ∈ op.operands.toList, V w (E.up φ) (some φ) (st.val y) (a.eval y)
theorem QE {ps : Array (Nat × Operand)} (h : ∀ y ∈ (ps.toList.map (·.2)), V w (E.up φ) (some φ) (st.val y) (a.eval y)) :
    (ps.toList.map fun p => (p.1, st.val p.2)).length = (ps.map fun (i, x) => (i, a.eval x)).toList.length ∧ ∀ (j : Nat) p q, (ps.toList.map fun p => (p.1, st.val p.2))[j]? = some p → (ps.map fun (i, x) => (i, a.eval x)).toList[j]? = some q → p.1 = q.1 ∧ V w (E.up φ) (some φ) p.2 q.2 := by
  refine ⟨by simp, fun j p q hp hq => ?_⟩
  rw [List.getElem?_map] at hp
  rw [Array.toList_map, List.getElem?_map] at hq
  obtain ⟨z, hz, rfl⟩ := Option.map_eq_some_iff.1 hp
  rw [hz] at hq
  simp only [Option.map_some, Option.some.injEq] at hq
  subst hq
  exact ⟨rfl, h _ (List.mem_map.2 ⟨z, List.mem_of_getElem? hz, rfl⟩)⟩
theorem PD {xs : List VV} {ts : List TypeId} (hc : ∀ p ∈ (TW T xs ts).chk, p) : ∃ x t, xs = [x] ∧ ts = [t] :=
  match xs, ts, hc with
  | [x], [t], _ => ⟨x, t, rfl, rfl⟩
  | [], _, hc => Al hc
  | _ :: _ :: _, _, hc => Al hc
  | [_], [], hc => Al hc
  | [_], _ :: _ :: _, hc => Al hc
theorem PE {xs : List VV} {ts : List TypeId} (hc : ∀ p ∈ (Lp T st xs ts).chk, p) : ∃ x y t, xs = [x, y] ∧ ts = [t, t] := by
  unfold Lp at hc
  split at hc
  · rename_i x y t t'
    cases hq : Nat.beq t t' with
    | false => rw [hq] at hc; exact Al hc
    | true => have := Nat.eq_of_beq_eq_true hq; subst this; exact ⟨x, y, t, rfl, rfl⟩
  · exact Al hc
theorem M2 {b : Bool} {xs : List VV} (hc : ∀ p ∈ (vmm b xs).chk, p) : ∃ k x y, xs = [.sc (.int k x), .sc (.int k y)] := by
  unfold vmm at hc
  split at hc
  · rename_i k x k' y
    cases hq : decide (k = k') with
    | false => rw [hq] at hc; exact Al hc
    | true => have := of_decide_eq_true hq; subst this; exact ⟨k, x, y, rfl⟩
  · exact Al hc
theorem R2 {β : Type} {f : Operand → β} {args : Array Operand} {x y : β} (h : args.toList.map f = [x, y]) : ∃ u v, args = #[u, v] ∧ f u = x ∧ f v = y := by
  have hl : args.toList.length = 2 := by have := congrArg List.length h; simpa using this
  match hm : args.toList, hl with
  | [u, v], _ =>
    rw [hm] at h
    simp only [List.map_cons, List.map_nil, List.cons.injEq, and_true] at h
    exact ⟨u, v, Array.ext' (by simpa using hm), h.1, h.2⟩
theorem Wz {t : TypeId} {n : Nat} {ps : List (Nat × VV)} : (Ca T st t n ps).put = none := by
  unfold Ca
  split
  · generalize (_ && _ : Bool) = q
    cases q with
    | false => rfl
    | true =>
      simp only [cond_true]
      split
      · rename_i cs _
        cases cs.all VV.one <;> rfl
      · rfl
  · rfl
theorem WR {t : TypeId} {n : Nat} {ps : List (Nat × VV)} (hc : ∀ p ∈ (Ca T st t n ps).chk, p) : (Ca T st t n ps).new.length ≠ 0 := by
  revert hc
  unfold Ca
  split
  · generalize (_ && _ : Bool) = q
    cases q with
    | false => intro hc; exact Al hc
    | true =>
      simp only [cond_true]
      split
      · rename_i cs _
        cases cs.all VV.one with
        | false => intro hc; exact Al hc
        | true => intro _ h; cases h
      · intro hc; exact Al hc
  · intro hc; exact Al hc
theorem YB {t : TypeId} {x y : VV} : (Kr T st t x y).put = none := by
  unfold Kr
  split
  · generalize (_ && _ : Bool) = q; cases q <;> rfl
  · rfl
theorem Wx {t : TypeId} {zx zy : VV} (hc : ∀ p ∈ (FI T st t zx zy).chk, p) : ∃ H', (FI T st t zx zy).put = some H' := by
  revert hc
  unfold FI
  split
  · rename_i id off
    generalize (_ && _ : Bool) = q
    cases q with
    | false => intro hc; exact Al hc
    | true =>
      simp only [cond_true]
      split
      · cases Nat.ble (off + zy.cells.length) (List.length _) with
        | false => intro hc; exact Al hc
        | true => intro _; exact ⟨_, rfl⟩
      · intro hc; exact Al hc
  · generalize (_ && _ : Bool) = q
    cases q with
    | false => intro hc; exact Al hc
    | true =>
      simp only [cond_true]
      split
      · split
        · generalize (_ && _ : Bool) = q
          cases q with
          | false => intro hc; exact Al hc
          | true => intro _; exact ⟨_, rfl⟩
        · intro hc; exact Al hc
      · intro hc; exact Al hc
  · intro hc; exact Al hc
theorem SX {t : TypeId} {zx zy : VV} (hc : ∀ p ∈ (DP T st t zx zy).chk, p) : ∃ H', (DP T st t zx zy).put = some H' := by
  revert hc
  unfold DP
  split
  · generalize (_ && _ : Bool) = q
    cases q with
    | false => intro hc; exact Al hc
    | true =>
      simp only [cond_true]
      split
      · split
        · intro _; exact ⟨_, rfl⟩
        · generalize (_ && _ : Bool) = q
          cases q with
          | false => intro hc; exact Al hc
          | true =>
            simp only [cond_true]
            split
            · generalize (_ && _ : Bool) = q
              cases q with
              | false => intro hc; exact Al hc
              | true => intro _; exact ⟨_, rfl⟩
            · generalize (_ && _ : Bool) = q
              cases q with
              | false => intro hc; exact Al hc
              | true =>
                simp only [cond_true]
                split
                · generalize (_ && _ : Bool) = q
                  cases q with
                  | false => intro hc; exact Al hc
                  | true => intro _; exact ⟨_, rfl⟩
                · intro hc; exact Al hc
            · intro hc; exact Al hc
        · intro hc; exact Al hc
      · intro hc; exact Al hc
  · intro hc; exact Al hc
theorem AeP {b : Bool} {k : IntKind} {x y : Int} : ∃ v, ((bif b then Builtin.max_ #[] 0 #[.int k x, .int k y] else Builtin.min_ #[] 0 #[.int k x, .int k y]) : Sem Value).run P w = .ok v w ∧ V w E (some φ) (vmm b [.sc (.int k x), .sc (.int k y)]).val v := by
  cases b with
  | true =>
    refine ⟨.int k (max x y), ?_, ?_⟩
    · have : (if y > x then y else x) = max x y := by split <;> omega
      simp [Builtin.max_, Builtin.max2, this]
    · simp only [vmm, decide_true, cond_true, Res.ok]; exact .sc
  | false =>
    refine ⟨.int k (min x y), ?_, ?_⟩
    · have : (if y < x then y else x) = min x y := by split <;> omega
      simp [Builtin.min_, Builtin.min2, this]
    · simp only [vmm, decide_true, cond_true, cond_false, Res.ok]; exact .sc
theorem Yr (hT : TOk P T) (hH : HRel E Hc φ w) (hHc : ∀ id, id < st.nx → Hc id = st.H id) {t : TypeId} {x : VV} {vx : Value} (hx : V w (E.up φ) (some φ) x vx) (hc : ∀ p ∈ (GL T st t x).chk, p) :
    ∃ v, (Instr.loadAt t vx).run P w = .ok v w ∧ V w (E.up φ) (some φ) (GL T st t x).val v := by
  cases x with
  | bp id off =>
    simp only [GL] at hc ⊢
    cases hq : Nat.blt id st.nx with
    | false => rw [hq] at hc; exact Al hc
    | true =>
      rw [hq] at hc
      simp only [cond_true] at hc ⊢
      obtain ⟨b, hb, e⟩ := hx.bp_inv
      have hob := hH.ob id _ hb
      rw [hHc id (Nat.le_of_ble_eq_true hq)] at hob
      cases hHi : st.H id with
      | arr => rw [hHi] at hc; exact Al hc
      | gone => rw [hHi] at hc; exact Al hc
      | box cs =>
        rw [hHi] at hob hc
        obtain ⟨c, ty, h2, h3⟩ := hob
        rw [e]
        refine Sn hT (u := fun j => c.getD (off + j) undef) (fun j x hx => ?_) (fun j x hx => ?_) hc
        · rw [List.getElem?_drop] at hx
          exact EO h2 (by rw [h3.1]; exact (List.getElem?_eq_some_iff.1 hx).1)
        · rw [List.getElem?_drop] at hx
          exact h3.2 _ x hx
  | ep id gen sz i o =>
    simp only [GL] at hc ⊢
    cases hq : Nat.blt id st.nx with
    | false => rw [hq] at hc; exact Al hc
    | true =>
      rw [hq] at hc
      simp only [cond_true] at hc ⊢
      obtain ⟨c, len, hd, b, hph, hg, e, hcur⟩ := hx.ep_inv
      have hob := hH.ob id _ hph
      rw [hHc id (Nat.le_of_ble_eq_true hq)] at hob
      cases hHi : st.H id with
      | box cs => rw [hHi] at hc; exact Al hc
      | gone => rw [hHi] at hc; exact Al hc
      | arr fr g n s f =>
        rw [hHi] at hob hc
        obtain ⟨rfl, rfl, hrow⟩ := hob
        simp only at hc ⊢
        cases hq2 : (Nat.beq gen g && Nat.beq s sz) with
        | false => rw [hq2] at hc; exact Al hc
        | true =>
          rw [hq2] at hc
          simp only [cond_true] at hc ⊢
          rw [Bool.and_eq_true] at hq2
          have hsz := Nat.eq_of_beq_eq_true hq2.2
          subst hsz
          obtain ⟨hil, cap, rfl⟩ := hcur (Nat.eq_of_beq_eq_true hq2.1)
          obtain ⟨cs, ty, h1, h2, h3, h4, h5, h6, h7⟩ := hrow
          rw [e]
          have hj : ∀ (j : Nat) y, ((f i).drop o)[j]? = some y → (f i)[o + j]? = some y ∧ i * s + o + j < cs.size := by
            intro j y hy
            rw [List.getElem?_drop] at hy
            have := (List.getElem?_eq_some_iff.1 hy).1
            rw [h5 i hil] at this
            have h8 : (i + 1) * s ≤ cap * s := Nat.mul_le_mul_right _ (by omega)
            rw [Nat.add_mul] at h8
            exact ⟨hy, by rw [h2]; omega⟩
          refine Sn hT (u := fun j => cs.getD (i * s + o + j) undef) (fun j y hy => EO h1 (hj j y hy).2) (fun j y hy => ?_) hc
          have := (h6 i (o + j) y hil (hj j y hy).1).held
          rw [← Nat.add_assoc] at this
          exact this
  | tp cs =>
    simp only [GL] at hc ⊢
    obtain ⟨b, off, e, h1, h2, u, h3, h4⟩ := hx.tp_inv
    rw [e]
    exact Sn hT h3 (fun j x hx => (h4 j x hx).held) hc
  | _ => exact Al hc
theorem Rn {vs : Array Value} {cs : List VV} {ty : TypeId} (hid : φ st.nx = none) (hs : CY w (E.up φ) (some φ) cs vs) :
    Dt w E φ st.nx [.box cs] [.box w.heap.size] (w.alloc (.cells vs ty)) ∧ V (w.alloc (.cells vs ty)) (E.up (Ci φ st.nx [.box w.heap.size])) (some (Ci φ st.nx [.box w.heap.size])) (.bp st.nx 0) (.pointer (some ⟨w.heap.size, 0, none⟩)) := by
  have hroom : Room w [.box w.heap.size] (w.alloc (.cells vs ty)) := Room.one ((Below.refl _ w).alloc (Nat.le_refl _) _) fun k hk => by simp only [PlB] at hk; omega
  have hext := hroom.ext (φ := φ) (nx := st.nx) fun i hi => by
    simp only [List.length_cons, List.length_nil, Nat.zero_add, Nat.lt_one_iff] at hi
    subst hi; exact hid
  exact ⟨Dt.one hroom ⟨vs, ty, heap_alloc_new _ _, hs.ext hext⟩, .bp (Dh (i := 0) rfl)⟩
theorem Yp {src dst e : TypeId} (hs : P.underlying src = some (.slice e)) (he : P.underlying e = some (.int .u8)) (hd : P.underlying dst = some .string) {b off n cap : Nat} {f : Nat → List VV} {u : Nat → Value} {E' : AU} {m : Option Phi}
    (h2 : ∀ i x, i < n → (f i)[0]? = some x → w.cell? ⟨b, off + i, none⟩ = some (u i)) (h3 : ∀ i x, i < n → (f i)[0]? = some x → V w E' m x (u i)) (hc : ∀ p ∈ (Pz n f).chk, p) :
    ∃ v, (convert src dst (.slice (some ⟨b, off, none⟩) n cap)).run P w = .ok v w ∧ V w (E.up φ) (some φ) (Pz n f).val v := by
  have hb : ∀ i, i < n → Ti (f i) = true := fun i hi => List.all_eq_true.1 (hc (((List.range n).all fun i => Ti (f i)) = true) (by unfold Pz; exact List.mem_cons_self ..)) i (List.mem_range.2 hi)
  refine ⟨_, ?_, .sc⟩
  rw [run_convert_bytes_string w src dst e _ n cap hs he hd]
  have hl := run_loadCells_list (P := P) w ⟨b, off, none⟩ (((List.range n).map fun i => Abd (f i)).map (Value.int .u8)) (fun j v hj => by
    rw [List.getElem?_map, List.getElem?_map] at hj
    obtain ⟨_, hk, rfl⟩ := Option.map_eq_some_iff.1 hj
    obtain ⟨i, hk', rfl⟩ := Option.map_eq_some_iff.1 hk
    have hi : i = j ∧ j < n := by
      rw [List.getElem?_eq_some_iff] at hk'
      obtain ⟨h, e⟩ := hk'
      simp at h e
      exact ⟨e.symm, h⟩
    obtain ⟨rfl, hi⟩ := hi
    have := hb i hi
    match hf : f i, this with
    | [.sc (.int .u8 k)], _ =>
      have e1 := h2 i _ hi (by rw [hf]; rfl)
      have e2 := (h3 i _ hi (by rw [hf]; rfl)).sc_inv
      have : (⟨b, off, none⟩ : Addr).add i = ⟨b, off + i, none⟩ := by unfold Addr.add; split <;> simp_all
      rw [this, e1, e2]; rfl)
  simp only [List.length_map, List.length_range] at hl
  rw [run_bytesToString w _ n cap _ hl]
  rfl
theorem Aam (hT : TOk P T) (hH : HRel E Hc φ w) (hHc : ∀ id, id < st.nx → Hc id = st.H id) {s d : TypeId} {x : VV} {vx : Value} (hx : V w (E.up φ) (some φ) x vx) (hc : ∀ p ∈ (N4 T st s d x).chk, p) :
    ∃ v, (convert s d vx).run P w = .ok v w ∧ V w (E.up φ) (some φ) (N4 T st s d x).val v := by
  unfold N4 at hc ⊢
  split at hc
  · rename_i e hs hd
    split at hc
    · rename_i id gen n he
      cases hq : Nat.blt id st.nx with
      | false => rw [hq] at hc; exact Al hc
      | true =>
        rw [hq] at hc
        simp only [cond_true] at hc ⊢
        obtain ⟨c, len, hd', hd0, hph, hg, h0, hcur⟩ := hx.ow_inv
        have hob := hH.ob id _ hph
        rw [hHc id (Nat.le_of_ble_eq_true hq)] at hob
        split at hc
        · rename_i g _ sz f hHi
          rw [hHi] at hob
          obtain ⟨rfl, rfl, hrow⟩ := hob
          cases hq2 : (Nat.beq gen g && Nat.beq sz 1) with
          | false => rw [hq2] at hc; exact Al hc
          | true =>
            rw [hq2] at hc
            simp only [cond_true] at hc ⊢
            rw [Bool.and_eq_true] at hq2
            obtain rfl := Nat.eq_of_beq_eq_true hq2.1
            obtain rfl := Nat.eq_of_beq_eq_true hq2.2
            obtain ⟨rfl, hn⟩ := hcur rfl
            match hd0, h0, hrow with
            | none, h0, _ =>
              obtain ⟨rfl, rfl⟩ := h0
              refine ⟨_, ?_, .sc⟩
              rw [run_convert_bytes_string w s d e _ 0 0 (hT.sl hs) (hT.int he) (hT.str hd)]
              rfl
            | some (b, cap), h0, hrow =>
              obtain ⟨rfl, _⟩ := h0
              obtain ⟨cs, ty, k1, k2, k3, k4, k5, k6, k7⟩ := hrow
              refine Yp (off := 0) (u := fun i => cs.getD (i * 1 + 0) undef) (hT.sl hs) (hT.int he) (hT.str hd) (fun i x hi hx => ?_) (fun i x hi hx => (k6 i 0 x (by omega) hx).held) hc
              have := EO k1 (k := 0 + i) (by omega)
              simpa using this
        · exact Al hc
    · rename_i fz n sz f he
      cases hq2 : (Nat.beq sz 1) with
      | false => rw [hq2] at hc; exact Al hc
      | true =>
        rw [hq2] at hc
        simp only [cond_true] at hc ⊢
        obtain rfl := Nat.eq_of_beq_eq_true hq2
        obtain ⟨a, cap, rfl, _, _, h4⟩ := hx.sl_inv
        rcases Nat.eq_zero_or_pos n with rfl | hp
        · refine ⟨.string ByteArray.empty, ?_, .sc⟩
          rw [run_convert_bytes_string w s d e _ 0 cap (hT.sl hs) (hT.int he) (hT.str hd)]
          cases a with
          | none => rfl
          | some a =>
            have hl := run_loadCells_list (P := P) w a [] (fun j v hj => by simp at hj)
            exact run_bytesToString w a 0 cap [] hl
        · obtain ⟨b, off, rfl, _, _, h5, u, h6, h7⟩ := h4 hp
          exact Yp (u := fun i => u i 0) (hT.sl hs) (hT.int he) (hT.str hd) (fun i x hi hx => by have := h6 i 0 x hi hx; simpa using this) (fun i x hi hx => h7 i 0 x hi hx) hc
    · rename_i he
      rw [hx.nl_inv]
      refine ⟨_, ?_, .sc⟩
      rw [run_convert_bytes_string w s d e _ 0 0 (hT.sl hs) (hT.int he) (hT.str hd)]
      rfl
    · exact Al hc
  · exact AbK hT hx hc
theorem Lm (hT : TOk P T) (hH : HRel E Hc φ w) (hz : Old E φ w) {o : Oper} {t : TypeId} {n : Nat} {ps : Array (Nat × Operand)} (hop : o.op = .buildSlice t n ps) (hr : ZG w E φ st a (.buildSlice t n ps)) {R : Res}
    (hR : R = bif O.gd then Ln T t n (ps.toList.map fun p => (p.1, st.val p.2)) else Ca T st t n (ps.toList.map fun p => (p.1, st.val p.2))) (hc : ∀ p ∈ R.chk, p) :
    (R.put = none ∧ ((∀ i, i < R.new.length → φ (st.nx + i) = none) → CL P E φ st.nx R.new R.val o a w)) ∨
    (∃ H', R.put = some H' ∧ ((∀ id, st.nx ≤ id → φ id = none) → (∀ id, id < st.nx → φ id ≠ none) → HRel E st.H φ w →
      TN P E φ (GG H' st.nx R.new) st.nx (st.nx + R.new.length) R.val o a w)) := by
  have hp := QE (st := st) (a := a) (φ := φ) (E := E) (w := w) (ps := ps) (by have hr' : ∀ y ∈ (Op.buildSlice t n ps).operands.toList, V w (E.up φ) (some φ) (st.val y) (a.eval y) := hr; simpa [Op.operands] using hr')
  refine .inl ?_
  cases hgd : O.gd with
  | true =>
    rw [hgd, cond_true] at hR
    obtain ⟨h1, h2, v, w', h3, h4, h5⟩ := AbJ hT (fun k hk => hk.elim (hz.lt k) fun ho => hH.lt ho) hp.1 hp.2 (by rw [hR] at hc; exact hc)
    rw [← hR] at h1 h2 h5
    rw [h1]
    refine ⟨h2, fun _ => CL.of (S := Instr.buildSlice t n (ps.map fun (i, x) => (i, a.eval x))) (by unfold execOp; rw [hop]) ?_⟩
    exact ⟨v, w', [], h3, Dt.none h4, by rw [Ey]; exact h5⟩
  | false =>
    rw [hgd, cond_false] at hR
    subst hR
    refine ⟨Wz, fun hid => CL.of (S := Instr.buildSlice t n (ps.map fun (i, x) => (i, a.eval x))) (by unfold execOp; rw [hop]) ?_⟩
    have hnew := WR hc
    exact (Ov hT (by have := hid 0 (by omega); simpa using this) hp.1 hp.2 hc).2
theorem RW (hT : TOk P T) (hO : GD P O) (hH : HRel E Hc φ w) (hHc : ∀ id, id < st.nx → Hc id = st.H id) (hz : Old E φ w) {o : Oper} (hr : ZG w E φ st a o.op) (hc : ∀ p ∈ (vop T O st o.op).chk, p) :
    ((vop T O st o.op).put = none ∧ ((∀ i, i < (vop T O st o.op).new.length → φ (st.nx + i) = none) → CL P E φ st.nx (vop T O st o.op).new (vop T O st o.op).val o a w)) ∨
    (∃ H', (vop T O st o.op).put = some H' ∧ ((∀ id, st.nx ≤ id → φ id = none) → (∀ id, id < st.nx → φ id ≠ none) → HRel E st.H φ w →
      TN P E φ (GG H' st.nx (vop T O st o.op).new) st.nx (st.nx + (vop T O st o.op).new.length) (vop T O st o.op).val o a w)) := by
  cases hop : o.op <;> rw [hop] at hr hc <;> simp only [vop] at hc ⊢
  case move x => exact .inl ⟨rfl, fun _ => CL.quiet (S := pure (a.eval x)) (by unfold execOp; rw [hop]; rfl) ⟨_, rfl, hr x (by simp [Op.operands])⟩⟩
  case assign x => exact .inl ⟨rfl, fun _ => CL.quiet (S := pure (a.eval x)) (by unfold execOp; rw [hop]; rfl) ⟨_, rfl, hr x (by simp [Op.operands])⟩⟩
  case pick c x y => exact .inl ⟨rfl, fun _ => CL.quiet (by unfold execOp; rw [hop]; simp only [pure_bind, bind_assoc]) (AbH hr.1 hr.2.1 hr.2.2 hc)⟩
  case binOp op t x y t' =>
    obtain ⟨v, h1, h2⟩ := AbM (w := w) hT (ox := x) (oy := y) (hr x (by simp [Op.operands])) (hr y (by simp [Op.operands])) (fun c e => by rw [e]; rfl) hc
    exact .inl ⟨rfl, fun _ => CL.quiet (by unfold execOp; rw [hop]) ⟨v, h1, h2⟩⟩
  case unOp op t x => exact .inl ⟨rfl, fun _ => CL.quiet (by unfold execOp; rw [hop]) (Agu (hr x (by simp [Op.operands])) hc)⟩
  case fieldAddr s x f => exact .inl ⟨rfl, fun _ => CL.quiet (by unfold execOp; rw [hop]) (V6 hT (hr x (by simp [Op.operands])) hc)⟩
  case field s x f => exact .inl ⟨rfl, fun _ => CL.quiet (by unfold execOp; rw [hop]) (Aal hT (hr x (by simp [Op.operands])) hc)⟩
  case indexAddr t x i => exact .inl ⟨rfl, fun _ => CL.quiet (by unfold execOp; rw [hop]) (V5 hT (hr x (by simp [Op.operands])) (hr i (by simp [Op.operands])) (fun k hk => hk.imp (hH.sub k) fun h => h) hc)⟩
  case index t x i => exact .inl ⟨rfl, fun _ => CL.quiet (by unfold execOp; rw [hop]) (Aak hT (hr x (by simp [Op.operands])) (hr i (by simp [Op.operands])) hc)⟩
  case extract x i => exact .inl ⟨rfl, fun _ => CL.quiet (by unfold execOp; rw [hop]) (V7 (hr x (by simp [Op.operands])) hc)⟩
  case convert s d x => exact .inl ⟨rfl, fun _ => CL.quiet (by unfold execOp; rw [hop]) (Aam hT hH hHc (hr x (by simp [Op.operands])) hc)⟩
  case load t x => exact .inl ⟨rfl, fun _ => CL.quiet (by unfold execOp; rw [hop]) (Yr hT hH hHc (hr x (by simp [Op.operands])) hc)⟩
  case slice t x lo hi mx =>
    cases mx with
    | some _ => exact Al hc
    | none =>
      refine .inl ⟨rfl, fun _ => CL.quiet (S := Instr.sliceAt t (a.eval x) (lo.map a.eval) (hi.map a.eval) none) (by unfold execOp; rw [hop]; rfl) (Aai hT (hr x (by simp [Op.operands])) ?_ ?_ hc)⟩
      · cases lo with
        | none => trivial
        | some l => exact hr l (by simp [Op.operands])
      · cases hi with
        | none => trivial
        | some l => exact hr l (by simp [Op.operands])
  case build t ps =>
    have hp := QE (st := st) (a := a) (φ := φ) (E := E) (w := w) (ps := ps) (by have hr' : ∀ y ∈ (Op.build t ps).operands.toList, V w (E.up φ) (some φ) (st.val y) (a.eval y) := hr; simpa [Op.operands] using hr')
    exact .inl ⟨rfl, fun _ => CL.quiet (by unfold execOp; rw [hop]) (Aan hT hp.1 hp.2 hc)⟩
  case buildSlice t n ps => exact Lm hT hH hz hop hr rfl hc
  case makeSlice t n m =>
    exact .inl ⟨YB, fun _ => CL.of (S := Instr.makeSlice t (a.eval n) (a.eval m)) (by unfold execOp; rw [hop]) (AbI hT (hr n (by simp [Op.operands])) (hr m (by simp [Op.operands])) hc).2⟩
  case nilCheck x =>
    have hx := hr x (by simp [Op.operands])
    refine .inl ⟨rfl, fun _ => ?_⟩
    intro K Q hK
    have run : ∀ v, ((∃ b, v = .pointer (some b)) ∨ ∃ g cs, v = .func (.func g) #[] cs) → a.eval x = v → (execOp a.eval o).run P w = .ok (.value v) w := by
      rintro v (⟨b, rfl⟩ | ⟨g, cs, rfl⟩) e <;> (unfold execOp; rw [hop]; simp only [e]; rfl)
    have key : (execOp a.eval o).run P w = .ok (.value (a.eval x)) w ∧ V w (E.up φ) (some φ) (Ace (st.val x)).val (a.eval x) := by
      generalize st.val x = z at hx hc ⊢
      cases z with
      | bp id off =>
        obtain ⟨b, hb, e2⟩ := hx.bp_inv
        exact ⟨run _ (.inl ⟨_, e2⟩) rfl, hx⟩
      | ep id gen sz i off =>
        obtain ⟨_, _, _, b, _, _, e2, _⟩ := hx.ep_inv
        exact ⟨run _ (.inl ⟨_, e2⟩) rfl, hx⟩
      | tp cs =>
        obtain ⟨b, off, e2, _⟩ := hx.tp_inv
        exact ⟨run _ (.inl ⟨_, e2⟩) rfl, hx⟩
      | fn g cs =>
        cases g with
        | func g =>
          refine ⟨run _ (.inr ?_) rfl, hx⟩
          generalize a.eval x = v at hx
          cases hx with | fn h1 h2 => exact ⟨g, _, rfl⟩
        | _ => exact Al hc
      | _ => exact Al hc
    unfold Oper.wp
    rw [key.1]
    exact hK _ w [] (Dt.none (Below.refl _ _)) (by rw [Ey]; exact key.2)
  case makeFunc f first caps =>
    cases hq : first.isEmpty with
    | false => rw [hq] at hc; exact Al hc
    | true =>
      have h0 : first = #[] := by simpa using hq
      subst h0
      refine .inl ⟨rfl, fun _ => ?_⟩
      refine CL.quiet (S := Instr.makeFunc f ((#[] : Array Operand).map a.eval) (caps.map a.eval)) (by unfold execOp; rw [hop]) ⟨.func f #[] (caps.map a.eval), by simp [Instr.makeFunc], ?_⟩
      show V w (E.up φ) (some φ) (.fn f (caps.toList.map st.val)) _
      refine .fn (by simp) fun j y hy => ?_
      rw [List.getElem?_map] at hy
      obtain ⟨z, hz, rfl⟩ := Option.map_eq_some_iff.1 hy
      have hm := hr z (by simp [Op.operands]; exact Array.mem_toList_iff.1 (List.mem_of_getElem? hz))
      obtain ⟨hj, rfl⟩ := List.getElem?_eq_some_iff.1 hz
      have e : (caps.map a.eval).getD j undef = a.eval caps.toList[j] := by
        have : j < caps.size := by simpa using hj
        simp [Array.getD, this]
      rw [e]; exact hm
  case box e x =>
    cases hq : I4 (st.val x) with
    | false => rw [hq] at hc; exact Al hc
    | true =>
      simp only [cond_true]
      refine .inl ⟨by trivial, fun hid => ?_⟩
      intro K Q hK
      unfold Oper.wp execOp
      rw [hop]
      simp only [Instr.box, newVar, newRow, Sem.run_bind, Sem.run_pure, Result.andThen_ok, run_newObj]
      obtain ⟨n1, n2⟩ := Rn (ty := e) (by have := hid 0 (by simp); simpa using this) ((hr x (by simp [Op.operands])).cells hq)
      exact hK _ _ _ n1 n2
  case alloc e =>
    cases hq : (T e).k.known with
    | false => rw [hq] at hc; exact Al hc
    | true =>
      simp only [cond_true]
      obtain ⟨ie, z, hie, hs, hz', hzz⟩ := hT.size (BO hq)
      refine .inl ⟨by trivial, fun hid => ?_⟩
      intro K Q hK
      unfold Oper.wp execOp
      rw [hop]
      simp only [Instr.alloc, zeroValue, typeInfo, newVar, newRow, Sem.run_bind, Sem.run_pure, Result.andThen_ok, run_program, hie, hz', run_newObj]
      obtain ⟨n1, n2⟩ := Rn (ty := e) (E := E) (st := st) (vs := z.cells) (cs := z.cells.toList.map litVV) (by have := hid 0 (by simp); simpa using this) (CY.zero z.cells)
      rw [hzz] at hK
      exact hK _ _ _ n1 n2
  case store t x y =>
    obtain ⟨H', hH'⟩ := Wx hc
    refine .inr ⟨H', hH', fun _ _ hHs => ?_⟩
    obtain ⟨H2, h1, h2, h3, h4⟩ := Aah hT hHs hz.lt hop (hr x (by simp [Op.operands])) (hr y (by simp [Op.operands])) hc
    rw [hH'] at h1
    simp only [Option.some.injEq] at h1
    subst h1
    rw [h2, h3]
    intro K Q hK
    refine h4 K Q fun v w' φ' g1 g2 g3 g4 => hK v w' φ' (by simpa [GG] using g1) g2 (fun id => ?_) g4
    rw [g3]
    refine ⟨fun h => h.imp (fun h => h) fun h => by omega, fun h => h.imp (fun h => h) fun h => ?_⟩
    simp only [List.length_nil] at h
    omega
  case call c =>
    cases hcl : c.callee with
    | value f =>
      rw [hcl] at hc
      exact AbL hO hH hHc hz hop hcl (hr f (by simp [Op.operands, Call.operands, hcl])) (fun y hy => hr y (by simp [Op.operands, Call.operands, hcl]; right; simpa using hy)) hc
    | invoke r n => rw [hcl] at hc; exact Al hc
    | builtin b =>
      rw [hcl] at hc
      cases b <;> try exact Al hc
      case append =>
        replace hc : ∀ p ∈ (Lp T st (c.args.toList.map st.val) c.argTypes.toList).chk, p := hc
        obtain ⟨x', y', t, e1, e2⟩ := PE hc
        obtain ⟨x, y, hargs, rfl, rfl⟩ := R2 e1
        have htys : c.argTypes = #[t, t] := Array.ext' (by simpa using e2)
        have hx := hr x (by simp [Op.operands, Call.operands, hcl, hargs])
        have hy := hr y (by simp [Op.operands, Call.operands, hcl, hargs])
        have hv : Lp T st (c.args.toList.map st.val) c.argTypes.toList = DP T st t (st.val x) (st.val y) := by rw [e1, e2]; simp [Lp]
        show ((Lp T st (c.args.toList.map st.val) c.argTypes.toList).put = none ∧ _) ∨ _
        rw [hv] at hc ⊢
        obtain ⟨H', hH'⟩ := SX hc
        refine .inr ⟨H', hH', fun hfr hlv hHs => ?_⟩
        obtain ⟨H2, h1, h2⟩ := Ys (ty := o.type) hT hHs hz.lt hfr hx hy hc
        rw [hH'] at h1
        simp only [Option.some.injEq] at h1
        subst h1
        refine TN.of (S := Builtin.append_ #[t, t] o.type #[a.eval x, a.eval y]) ?_ h2
        unfold execOp
        rw [hop]
        simp only [resolve, hcl, hargs, htys, invoke, builtin, List.map_toArray, List.map_cons, List.map_nil, pure_bind]
      case len =>
        refine .inl ⟨rfl, fun _ => ?_⟩
        replace hc : ∀ p ∈ (TW T (c.args.toList.map st.val) c.argTypes.toList).chk, p := hc
        show CL P E φ st.nx [] (TW T (c.args.toList.map st.val) c.argTypes.toList).val o a w
        have shape : ∃ x t, c.args = #[x] ∧ c.argTypes = #[t] := by
          obtain ⟨x', t, e1, e2⟩ := PD hc
          have hl : c.args.toList.length = 1 := by have := congrArg List.length e1; simpa using this
          match hm : c.args.toList, hl with
          | [x], _ => exact ⟨x, t, Array.ext' (by simpa using hm), Array.ext' (by simpa using e2)⟩
        obtain ⟨x, t, hargs, htys⟩ := shape
        have hx := hr x (by simp [Op.operands, Call.operands, hcl, hargs])
        rw [hargs, htys] at hc ⊢
        obtain ⟨v, h1, h2⟩ := AeQ (w := w) (ty := o.type) hT hx hc
        intro K Q hK
        unfold Oper.wp execOp
        rw [hop]
        simp only [resolve, hcl, hargs, htys, Sem.run_bind, Sem.run_pure, Result.andThen_ok, invoke, builtin, List.map_toArray, List.map_cons, List.map_nil, h1]
        exact hK v w [] (Dt.none (Below.refl _ _)) (by rw [Ey]; exact h2)
      case max =>
        refine .inl ⟨rfl, fun _ => ?_⟩
        replace hc : ∀ p ∈ (vmm true (c.args.toList.map st.val)).chk, p := hc
        show CL P E φ st.nx [] (vmm true (c.args.toList.map st.val)).val o a w
        obtain ⟨k, x', y', e1⟩ := M2 hc
        obtain ⟨x, y, hargs, e2, e3⟩ := R2 e1
        have hx := hr x (by simp [Op.operands, Call.operands, hcl, hargs])
        have hy := hr y (by simp [Op.operands, Call.operands, hcl, hargs])
        rw [e2] at hx
        rw [e3] at hy
        rw [e1]
        intro K Q hK
        unfold Oper.wp execOp
        rw [hop]
        obtain ⟨v, h1, h2⟩ := AeP (P := P) (w := w) (E := E.up φ) (φ := φ) (b := true) (k := k) (x := x') (y := y')
        simp only [cond_true] at h1
        have h1' : (Builtin.max_ c.argTypes o.type #[.int k x', .int k y']).run P w = .ok v w := h1
        simp only [resolve, hcl, hargs, Sem.run_bind, Sem.run_pure, Result.andThen_ok, invoke, builtin, List.map_toArray, List.map_cons, List.map_nil, hx.sc_inv, hy.sc_inv, h1']
        exact hK v w [] (Dt.none (Below.refl _ _)) (by rw [Ey]; exact h2)
      case min =>
        refine .inl ⟨rfl, fun _ => ?_⟩
        replace hc : ∀ p ∈ (vmm false (c.args.toList.map st.val)).chk, p := hc
        show CL P E φ st.nx [] (vmm false (c.args.toList.map st.val)).val o a w
        obtain ⟨k, x', y', e1⟩ := M2 hc
        obtain ⟨x, y, hargs, e2, e3⟩ := R2 e1
        have hx := hr x (by simp [Op.operands, Call.operands, hcl, hargs])
        have hy := hr y (by simp [Op.operands, Call.operands, hcl, hargs])
        rw [e2] at hx
        rw [e3] at hy
        rw [e1]
        intro K Q hK
        unfold Oper.wp execOp
        rw [hop]
        obtain ⟨v, h1, h2⟩ := AeP (P := P) (w := w) (E := E.up φ) (φ := φ) (b := false) (k := k) (x := x') (y := y')
        simp only [cond_false] at h1
        have h1' : (Builtin.min_ c.argTypes o.type #[.int k x', .int k y']).run P w = .ok v w := h1
        simp only [resolve, hcl, hargs, Sem.run_bind, Sem.run_pure, Result.andThen_ok, invoke, builtin, List.map_toArray, List.map_cons, List.map_nil, hx.sc_inv, hy.sc_inv, h1']
        exact hK v w [] (Dt.none (Below.refl _ _)) (by rw [Ey]; exact h2)
  all_goals exact Al hc
end
end
section
def Res.base (r : Res) (st : St) : Nat → Ob :=
  match r.put with
  | some H' => H'
  | none => st.H
def St.after (st : St) (o : Oper) (r : Res) : St :=
  St.put { st with H := GG (r.base st) st.nx r.new, nx := st.nx + r.new.length } o.dst r.val
def Zw : VV → Option Bool
  | .sc (.bool b) => some b
  | _ => none
def Il (ops : Array Oper) (st : St) (pcs : List Bool) (o : Oper) : Option Bool :=
  match o.guard with
  | none => some true
  | some (j, want) =>
    match pcs[j]?, (ops[j]?).bind (·.dst) with
    | some p, some d =>
      match Zw (st.t d) with
      | some b => some (p && (b == want))
      | none => none
    | _, _ => none
def Xp : List Prop → Prop → Prop
  | [], K => K
  | p :: ps, K => p ∧ Xp ps K
def Mf (pc : Bool) : List Prop → Prop → Prop
  | [], K => K
  | p :: ps, K => (pc = true → p) ∧ Mf pc ps K
def GF (M : Array Nat) (i j : Nat) : Bool := (M.getD i 0).testBit j
def IB : Op → Bool
  | .load .. | .store .. | .alloc _ | .box .. | .buildSlice .. | .makeSlice .. | .convert .. => true
  | .call c => match c.callee with
    | .builtin .len | .builtin .max | .builtin .min => false
    | _ => true
  | _ => false
def tpB (st : St) : Op → Bool
  | .load _ a => match st.val a with
    | .tp _ => true
    | _ => false
  | _ => false
def CS (st : St) (op : Op) : Bool := IB op && !tpB st op
def Cg (st : St) : Op → Option Nat
  | .load _ a => match st.val a with
    | .bp id _ => bif Nat.blt id st.nx then some id else none
    | .ep id _ _ _ _ => bif Nat.blt id st.nx then some id else none
    | _ => none
  | _ => none
def Hu (ld : FuncId → Bool) (st : St) : Op → Option (FuncId × List Nat × List Ob × List VV)
  | .call c =>
    match c.callee with
    | .value f => Z5 ld st (st.val f) (c.args.toList.map st.val)
    | _ => none
  | _ => none
def X4 (st : St) : Op → Option (List Nat)
  | .store _ a _ => match st.val a with
    | .bp id _ => some [id]
    | _ => none
  | _ => none
def DR (ld : FuncId → Bool) (st : St) (op : Op) : Option (List Nat) :=
  match Hu ld st op with
  | some q => bif ld q.1 then some q.2.1 else none
  | none => X4 st op
structure Fl where
  p : Bool
  l : Bool
  s : Option Nat
  t : Option (List Nat)
def esc : Option Nat → Option (List Nat) → Bool
  | some id, some ids => !(ids.any (Nat.beq id))
  | _, _ => false
def TD (f g : Fl) : Bool := (g.p && f.l && !(esc f.s g.t)) || (g.l && f.p && !(esc g.s f.t))
def Res.flag (r : Res) (l : Bool) (s : Option Nat) (t : Option (List Nat)) : Fl := ⟨r.put.isSome, l, s, t⟩
def GC (dr : Bool) (ops : Array Oper) (fl : List Fl) (k : Nat) (g : Fl) : Bool := !dr || (List.range k).all fun s =>
  match fl[s]? with
  | some f => !(TD f g) || GF (Region.before ops) k s
  | none => false
def IX (T : TypeId → TE) (O : Nat → Orc) (dr : Bool) (ops : Array Oper) : Nat → List Oper → St → List Bool → List Fl → (St → Prop) → Prop
  | _, [], st, _, _, K => K st
  | k, o :: rest, st, pcs, fl, K =>
    match Il ops st pcs o with
    | none => False
    | some pc =>
      bif GC dr ops fl k ((vop T (O k) st o.op).flag (CS st o.op) (Cg st o.op) (DR (O k).lend st o.op)) then
        match o.guard, (vop T (O k) st o.op).new, (vop T (O k) st o.op).put with
        | none, _, _ => Xp (vop T (O k) st o.op).chk (IX T O dr ops (k + 1) rest (st.after o (vop T (O k) st o.op)) (pcs ++ [pc]) (fl ++ [(vop T (O k) st o.op).flag (CS st o.op) (Cg st o.op) (DR (O k).lend st o.op)]) K)
        | some _, [], none => Mf pc (vop T (O k) st o.op).chk (IX T O dr ops (k + 1) rest (st.after o (vop T (O k) st o.op)) (pcs ++ [pc]) (fl ++ [(vop T (O k) st o.op).flag (CS st o.op) (Cg st o.op) (DR (O k).lend st o.op)]) K)
        | _, _, _ => False
      else False
theorem Ha {K : Prop} : ∀ {l : List Prop}, Xp l K → (∀ p ∈ l, p) ∧ K
  | [], h => ⟨fun p hp => by simp at hp, h⟩
  | q :: l, h => by
    obtain ⟨h1, h2⟩ := Ha h.2
    refine ⟨fun p hp => ?_, h2⟩
    rcases List.mem_cons.1 hp with rfl | hp
    · exact h.1
    · exact h1 p hp
theorem Gt {pc : Bool} {K : Prop} : ∀ {l : List Prop}, Mf pc l K → (pc = true → ∀ p ∈ l, p) ∧ K
  | [], h => ⟨fun _ p hp => by simp at hp, h⟩
  | q :: l, h => by
    obtain ⟨h1, h2⟩ := Gt h.2
    refine ⟨fun hpc p hp => ?_, h2⟩
    rcases List.mem_cons.1 hp with rfl | hp
    · exact h.1 hpc
    · exact h1 hpc p hp
section
variable (T : TypeId → TE) (O : Nat → Orc) (ops : Array Oper) (st0 : St)
def AP : Nat → St × List Bool
  | 0 => (st0, [])
  | i + 1 =>
    match ops[i]? with
    | none => AP i
    | some o => ((AP i).1.after o (vop T (O i) (AP i).1 o.op), (AP i).2 ++ [(Il ops (AP i).1 (AP i).2 o).getD false])
def rPc (i : Nat) : Bool :=
  match ops[i]? with
  | none => false
  | some o => (Il ops (AP T O ops st0 i).1 (AP T O ops st0 i).2 o).getD false
def rR (i : Nat) : Res :=
  match ops[i]? with
  | none => .bad
  | some o => vop T (O i) (AP T O ops st0 i).1 o.op
def rL (i : Nat) : Bool :=
  match ops[i]? with
  | none => false
  | some o => CS (AP T O ops st0 i).1 o.op
def rSo (i : Nat) : Option Nat :=
  match ops[i]? with
  | none => none
  | some o => Cg (AP T O ops st0 i).1 o.op
def rTc (i : Nat) : Option (List Nat) :=
  match ops[i]? with
  | none => none
  | some o => DR (O i).lend (AP T O ops st0 i).1 o.op
def rFl (i : Nat) : Fl := (rR T O ops st0 i).flag (rL T O ops st0 i) (rSo T O ops st0 i) (rTc T O ops st0 i)
def rF (i : Nat) : List Fl := (List.range i).map fun j => rFl T O ops st0 j
end
section
variable {P : Program} {T : TypeId → TE} {O : Nat → Orc} {ops : Array Oper} {st0 : St}
theorem FS {i : Nat} {o : Oper} (ho : ops[i]? = some o) : (AP T O ops st0 (i + 1)).1 = (AP T O ops st0 i).1.after o (rR T O ops st0 i) ∧ (AP T O ops st0 (i + 1)).2 = (AP T O ops st0 i).2 ++ [rPc T O ops st0 i] := by
  simp only [AP, rR, rPc, ho]
  exact ⟨trivial, trivial⟩
theorem Qa : ∀ (i : Nat), i ≤ ops.size → (AP T O ops st0 i).2.length = i ∧ ∀ k, k < i → (AP T O ops st0 i).2[k]? = some (rPc T O ops st0 k)
  | 0, _ => ⟨rfl, fun k hk => by omega⟩
  | i + 1, hi => by
    obtain ⟨h1, h2⟩ := Qa i (by omega)
    have ho : ops[i]? = some (ops[i]'(by omega)) := by simp [show i < ops.size by omega]
    obtain ⟨_, e⟩ := FS (T := T) (O := O) (st0 := st0) ho
    rw [e]
    refine ⟨by simp [h1], fun k hk => ?_⟩
    by_cases hki : k < i
    · rw [List.getElem?_append_left (by omega)]; exact h2 k hki
    · obtain rfl : k = i := by omega
      rw [List.getElem?_append_right (by omega)]; simp [h1]
structure Hr (dr : Bool) (T : TypeId → TE) (O : Nat → Orc) (ops : Array Oper) (st0 : St) (i : Nat) (o : Oper) : Prop where
  pc : Il ops (AP T O ops st0 i).1 (AP T O ops st0 i).2 o = some (rPc T O ops st0 i)
  chk : rPc T O ops st0 i = true → ∀ p ∈ (rR T O ops st0 i).chk, p
  plain : o.guard ≠ none → (rR T O ops st0 i).new = [] ∧ (rR T O ops st0 i).put = none
  ord : dr = true → ∀ s, s < i → TD (rFl T O ops st0 s) (rFl T O ops st0 i) = true → GF (Region.before ops) i s = true
theorem MT {dr : Bool} {K : St → Prop} : ∀ (l : List Oper) (i : Nat), l = ops.toList.drop i → i ≤ ops.size → IX T O dr ops i l (AP T O ops st0 i).1 (AP T O ops st0 i).2 (rF T O ops st0 i) K →
    (∀ j o, i ≤ j → ops[j]? = some o → Hr dr T O ops st0 j o) ∧ K (AP T O ops st0 ops.size).1
  | [], i, hl, hi, h => by
    have hlen := congrArg List.length hl
    simp at hlen
    obtain rfl : i = ops.size := by omega
    refine ⟨fun j o hj ho => ?_, h⟩
    have := (Array.getElem?_eq_some_iff.1 ho).1
    omega
  | o :: rest, i, hl, hi, h => by
    have hlen := congrArg List.length hl
    simp at hlen
    have hi' : i < ops.size := by omega
    have ho : ops[i]? = some o := by
      have := congrArg (·[0]?) hl
      simp only [List.getElem?_cons_zero, List.getElem?_drop, Nat.add_zero] at this
      simpa using this.symm
    have hrest : rest = ops.toList.drop (i + 1) := by
      have := congrArg List.tail hl
      simpa using this
    obtain ⟨e1, e2⟩ := FS (T := T) (O := O) (st0 := st0) ho
    simp only [IX] at h
    split at h
    · exact h.elim
    · rename_i pc hpc
      have hp : rPc T O ops st0 i = pc := by simp only [rPc, ho, hpc, Option.getD_some]
      have hr : rR T O ops st0 i = vop T (O i) (AP T O ops st0 i).1 o.op := by simp only [rR, ho]
      have hL : (rR T O ops st0 i).flag (CS (AP T O ops st0 i).1 o.op) (Cg (AP T O ops st0 i).1 o.op) (DR (O i).lend (AP T O ops st0 i).1 o.op) = rFl T O ops st0 i := by simp only [rFl, rL, rSo, rTc, ho]
      rw [← hr, hL] at h
      have eF : rF T O ops st0 i ++ [rFl T O ops st0 i] = rF T O ops st0 (i + 1) := by
        unfold rF
        rw [List.range_succ, List.map_append]
        rfl
      cases hpu : GC dr ops (rF T O ops st0 i) i (rFl T O ops st0 i) with
      | false => rw [hpu] at h; exact h.elim
      | true =>
      rw [hpu] at h
      simp only [cond_true] at h
      have hord : dr = true → ∀ s, s < i → TD (rFl T O ops st0 s) (rFl T O ops st0 i) = true → GF (Region.before ops) i s = true := by
        intro hdr s hs hn
        unfold GC at hpu
        rw [hdr, Bool.not_true, Bool.false_or] at hpu
        have hx := List.all_eq_true.1 hpu s (List.mem_range.2 hs)
        have hf : (rF T O ops st0 i)[s]? = some (rFl T O ops st0 s) := by
          unfold rF
          rw [List.getElem?_map, List.getElem?_range hs]; rfl
        rw [hf] at hx
        simp only [hn] at hx
        simpa using hx
      have key : Hr dr T O ops st0 i o ∧ IX T O dr ops (i + 1) rest ((AP T O ops st0 i).1.after o (rR T O ops st0 i)) ((AP T O ops st0 i).2 ++ [pc]) (rF T O ops st0 (i + 1)) K := by
        rw [eF] at h
        split at h
        · rename_i hg
          obtain ⟨h1, h2⟩ := Ha h
          exact ⟨⟨by rw [hpc, hp], fun _ => h1, fun hn => absurd hg hn, hord⟩, h2⟩
        · rename_i hg hn hp2
          obtain ⟨h1, h2⟩ := Gt h
          exact ⟨⟨by rw [hpc, hp], fun hq => h1 (by rw [← hp]; exact hq), fun _ => ⟨hn, hp2⟩, hord⟩, h2⟩
        · exact h.elim
      obtain ⟨hg, hx⟩ := key
      rw [← hp, ← e1, ← e2] at hx
      obtain ⟨h3, h4⟩ := MT rest (i + 1) hrest hi' hx
      refine ⟨fun j oj hj hoj => ?_, h4⟩
      by_cases hji : j = i
      · subst hji
        rw [ho] at hoj
        simp only [Option.some.injEq] at hoj
        subst hoj
        exact hg
      · exact h3 j oj (by omega) hoj
theorem U2 (st : St) (o : Oper) (r : Res) (t : Nat) : (st.after o r).t t = if o.dst = some t then r.val else st.t t := by
  have h0 : ∀ (s : St) (d : Option Nat), (s.put d r.val).t t = if d = some t then r.val else s.t t := by
    intro s d
    cases d with
    | none => simp [St.put]
    | some d =>
      simp only [St.put]
      cases hq : Nat.beq t d with
      | true => have := Nat.eq_of_beq_eq_true hq; subst this; simp
      | false =>
        have hne : d ≠ t := by rintro rfl; simp at hq
        simp [hne]
  unfold St.after
  rw [h0]
theorem Je {t : Nat} : ∀ (i : Nat), i ≤ ops.size → (∀ j o, j < i → ops[j]? = some o → o.dst ≠ some t) → (AP T O ops st0 i).1.t t = st0.t t
  | 0, _, _ => rfl
  | i + 1, hi, h => by
    have ho : ops[i]? = some (ops[i]'(by omega)) := by simp [show i < ops.size by omega]
    rw [(FS ho).1, U2, if_neg (h i _ (by omega) ho)]
    exact Je i (by omega) fun j o hj => h j o (by omega)
theorem GR {t j : Nat} {oj : Oper} (hoj : ops[j]? = some oj) (hd : oj.dst = some t) : ∀ (i : Nat), i ≤ ops.size → j < i → (∀ k o, k < i → k ≠ j → ops[k]? = some o → o.dst ≠ some t) → (AP T O ops st0 i).1.t t = (rR T O ops st0 j).val
  | 0, _, hj, _ => by omega
  | i + 1, hi, hj, h => by
    have ho : ops[i]? = some (ops[i]'(by omega)) := by simp [show i < ops.size by omega]
    rw [(FS ho).1, U2]
    by_cases hji : j = i
    · subst hji
      rw [ho] at hoj
      simp only [Option.some.injEq] at hoj
      rw [hoj, if_pos hd]
    · rw [if_neg (h i _ (by omega) (by omega) ho)]
      exact GR hoj hd i (by omega) (by omega) fun k o hk => h k o (by omega)
end
end
section
def Jw (ops : Array Oper) : Nat → Nat → Nat → Bool
  | 0, _, _ => false
  | f + 1, i, j =>
    match (ops[j]?).bind (·.guard) with
    | none => true
    | some g =>
      match (ops[i]?).bind (·.guard) with
      | none => false
      | some h => h == g || Jw ops f h.1 j
def pickOk (ops : Array Oper) (n i : Nat) (c : Operand) (want : Bool) (j : Nat) : Bool :=
  match (ops[j]?).bind (·.guard), c with
  | some (k, w), .tmp t => w == want && (ops[k]?).bind (·.dst) == some t && Jw ops n i k && Nat.blt k i
  | _, _ => false
def rdB (ops : Array Oper) (M : Array Nat) (i : Nat) (ok : Nat → Bool) : Operand → Bool
  | .tmp t => (List.range ops.size).all fun j =>
    match ops[j]? with
    | some oj => !(oj.dst == some t) || Nat.beq j i || (bif Nat.blt j i then GF M i j && ok j else GF M j i)
    | none => true
  | _ => true
def SR (ops : Array Oper) (M : Array Nat) (i : Nat) : Op → Bool
  | .pick c x y => rdB ops M i (Jw ops ops.size i) c && rdB ops M i (fun j => Jw ops ops.size i j || pickOk ops ops.size i c true j) x && rdB ops M i (fun j => Jw ops ops.size i j || pickOk ops ops.size i c false j) y
  | op => op.operands.toList.all (rdB ops M i (Jw ops ops.size i))
def opB (ops : Array Oper) (M : Array Nat) (N i : Nat) (o : Oper) : Bool :=
  (o.after.toList.all fun e => !Region.binds .any e || Nat.blt e.on i) &&
  ((List.range ops.size).all fun j => !GF M i j || o.after.toList.any fun e => Region.binds .any e && (Nat.beq e.on j || GF M e.on j)) &&
  (match o.dst with
    | none => true
    | some d => Nat.blt d N && (List.range ops.size).all fun j => Nat.beq j i || !((ops[j]?).bind (·.dst) == some d)) &&
  (match o.guard with
    | none => true
    | some (k, _) => Nat.blt k i && GF M i k) &&
  SR ops M i o.op
def Aap (ops : Array Oper) (N : Nat) : Bool :=
  let M := Region.before ops
  (List.range ops.size).all fun i =>
    match ops[i]? with
    | some o => opB ops M N i o
    | none => false
def XB (ops : Array Oper) (M : Array Nat) (i : Nat) (ok : Nat → Bool) (y : Operand) : Prop :=
  ∀ t, y = .tmp t → ∀ (j : Nat) oj, ops[j]? = some oj → oj.dst = some t → j ≠ i → (j < i → GF M i j = true ∧ ok j = true) ∧ (i < j → GF M j i = true)
structure Ih (ops : Array Oper) (M : Array Nat) (N : Nat) : Prop where
  low : ∀ (i : Nat) o e, ops[i]? = some o → e ∈ o.after → Region.binds .any e = true → e.on < i
  mask : ∀ (i : Nat) o j, ops[i]? = some o → j < ops.size → GF M i j = true → ∃ e ∈ o.after, Region.binds .any e = true ∧ (e.on = j ∨ GF M e.on j = true)
  dst : ∀ (i : Nat) o d, ops[i]? = some o → o.dst = some d → d < N
  uniq : ∀ (i j : Nat) oi oj d, ops[i]? = some oi → ops[j]? = some oj → oi.dst = some d → oj.dst = some d → i = j
  guard : ∀ (i : Nat) o k w, ops[i]? = some o → o.guard = some (k, w) → k < i ∧ GF M i k = true
  reads : ∀ (i : Nat) o, ops[i]? = some o → (∀ c x y, o.op ≠ .pick c x y) → ∀ y ∈ o.op.operands.toList, XB ops M i (Jw ops ops.size i) y
  pick : ∀ (i : Nat) o c x y, ops[i]? = some o → o.op = .pick c x y → XB ops M i (Jw ops ops.size i) c ∧ XB ops M i (fun j => Jw ops ops.size i j || pickOk ops ops.size i c true j) x ∧ XB ops M i (fun j => Jw ops ops.size i j || pickOk ops ops.size i c false j) y
theorem UA {ops : Array Oper} {M : Array Nat} {i : Nat} {ok : Nat → Bool} {y : Operand} (h : rdB ops M i ok y = true) : XB ops M i ok y := by
  rintro t rfl j oj hj hd hne
  simp only [rdB, List.all_eq_true, List.mem_range] at h
  have := h j (Array.getElem?_eq_some_iff.1 hj).1
  rw [hj] at this
  simp only [hd, beq_self_eq_true, Bool.not_true, Bool.false_or] at this
  have hb : Nat.beq j i = false := by
    cases hq : Nat.beq j i with
    | true => exact absurd (Nat.eq_of_beq_eq_true hq) hne
    | false => rfl
  rw [hb, Bool.false_or] at this
  constructor
  · intro hlt
    have hl : Nat.blt j i = true := Nat.ble_eq_true_of_le hlt
    rw [hl, cond_true, Bool.and_eq_true] at this
    exact this
  · intro hlt
    have hl : Nat.blt j i = false := by
      cases hq : Nat.blt j i with
      | true => have := Nat.le_of_ble_eq_true hq; omega
      | false => rfl
    rw [hl, cond_false] at this
    exact this
theorem Yz {ops : Array Oper} {N : Nat} (h : Aap ops N = true) : Ih ops (Region.before ops) N := by
  have hop : ∀ (i : Nat) o, ops[i]? = some o → opB ops (Region.before ops) N i o = true := by
    intro i o ho
    have := List.all_eq_true.1 h i (List.mem_range.2 (Array.getElem?_eq_some_iff.1 ho).1)
    simp only [ho] at this
    exact this
  have split : ∀ (i : Nat) o, ops[i]? = some o → _ := fun i o ho => by
    have := hop i o ho
    unfold opB at this
    simp only [Bool.and_eq_true] at this
    exact this
  refine ⟨?_, ?_, ?_, ?_, ?_, ?_, ?_⟩
  · intro i o e ho he hb
    obtain ⟨⟨⟨⟨h1, _⟩, _⟩, _⟩, _⟩ := split i o ho
    have := List.all_eq_true.1 h1 e (by simpa using he)
    rw [hb] at this
    exact Nat.le_of_ble_eq_true (by simpa [Nat.blt] using this)
  · intro i o j ho hj hb
    obtain ⟨⟨⟨⟨_, h1⟩, _⟩, _⟩, _⟩ := split i o ho
    have := List.all_eq_true.1 h1 j (List.mem_range.2 hj)
    rw [hb, Bool.not_true, Bool.false_or, List.any_eq_true] at this
    obtain ⟨e, he, hq⟩ := this
    rw [Bool.and_eq_true, Bool.or_eq_true] at hq
    exact ⟨e, by simpa using he, hq.1, hq.2.imp Nat.eq_of_beq_eq_true id⟩
  · intro i o d ho hd
    obtain ⟨⟨⟨⟨_, _⟩, h1⟩, _⟩, _⟩ := split i o ho
    rw [hd] at h1
    simp only [Bool.and_eq_true] at h1
    exact Nat.le_of_ble_eq_true h1.1
  · intro i j oi oj d hi hj hdi hdj
    obtain ⟨⟨⟨⟨_, _⟩, h1⟩, _⟩, _⟩ := split i oi hi
    rw [hdi] at h1
    simp only [Bool.and_eq_true] at h1
    have := List.all_eq_true.1 h1.2 j (List.mem_range.2 (Array.getElem?_eq_some_iff.1 hj).1)
    rw [hj, Option.bind_some, hdj] at this
    simp only [beq_self_eq_true, Bool.not_true, Bool.or_false] at this
    exact (Nat.eq_of_beq_eq_true this).symm
  · intro i o k w ho hg
    obtain ⟨⟨⟨⟨_, _⟩, _⟩, h1⟩, _⟩ := split i o ho
    rw [hg] at h1
    simp only [Bool.and_eq_true] at h1
    exact ⟨Nat.le_of_ble_eq_true h1.1, h1.2⟩
  · intro i o ho hnp y hy
    obtain ⟨⟨⟨⟨_, _⟩, _⟩, _⟩, h1⟩ := split i o ho
    unfold SR at h1
    split at h1
    · rename_i c x y' e; exact absurd e (hnp c x y')
    · exact UA (List.all_eq_true.1 h1 y hy)
  · intro i o c x y ho hp
    obtain ⟨⟨⟨⟨_, _⟩, _⟩, _⟩, h1⟩ := split i o ho
    rw [hp] at h1
    simp only [SR, Bool.and_eq_true] at h1
    exact ⟨UA h1.1.1, UA h1.1.2, UA h1.2⟩
section
variable {ops : Array Oper} {M : Array Nat} {N : Nat}
def Kl (ops : Array Oper) (D : Nat → Bool) : Prop := ∀ (i : Nat) o e, ops[i]? = some o → D i = true → e ∈ o.after → Region.binds .any e = true → D e.on = true
theorem C2 (hR : Ih ops M N) {D : Nat → Bool} (hD : Kl ops D) : ∀ (i : Nat) o (j : Nat), ops[i]? = some o → (∀ e ∈ o.after, Region.binds .any e = true → D e.on = true) → j < ops.size → GF M i j = true → D j = true := by
  intro i
  induction i using Nat.strongRecOn with
  | _ i ih =>
    intro o j ho hdeps hj hb
    obtain ⟨e, he, hbd, hq⟩ := hR.mask i o j ho hj hb
    have hDe := hdeps e he hbd
    rcases hq with hq | hq
    · rw [← hq]; exact hDe
    · have hlt := hR.low i o e ho he hbd
      have hil := (Array.getElem?_eq_some_iff.1 ho).1
      have hoe : ops[e.on]? = some (ops[e.on]'(by omega)) := by simp [show e.on < ops.size by omega]
      exact ih e.on hlt _ j hoe (fun e' he' hb' => hD e.on _ e' hoe hDe he' hb') hj hq
end
end
section
section
variable {dr : Bool} {P : Program} {T : TypeId → TE} {O : Nat → Orc} {ops : Array Oper} {st0 : St} {M : Array Nat} {N : Nat} {E : AU} {w0 : World} {φ0 : Phi}
theorem St.put_nx (s : St) (d : Option Nat) (x : VV) : (s.put d x).nx = s.nx := by cases d <;> rfl
theorem St.put_H (s : St) (d : Option Nat) (x : VV) : (s.put d x).H = s.H := by cases d <;> rfl
theorem EK {i : Nat} {o : Oper} (ho : ops[i]? = some o) : (AP T O ops st0 (i + 1)).1.nx = (AP T O ops st0 i).1.nx + (rR T O ops st0 i).new.length ∧
    (AP T O ops st0 (i + 1)).1.H = GG ((rR T O ops st0 i).base (AP T O ops st0 i).1) (AP T O ops st0 i).1.nx (rR T O ops st0 i).new := by
  rw [(FS (T := T) (O := O) (st0 := st0) ho).1]
  unfold St.after
  rw [St.put_nx, St.put_H]
  exact ⟨rfl, rfl⟩
theorem Fy (i m : Nat) (him : i ≤ m) (hm : m ≤ ops.size) : (AP T O ops st0 i).1.nx ≤ (AP T O ops st0 m).1.nx := by
  induction m with
  | zero => (obtain rfl : i = 0 := (by omega)); exact Nat.le_refl _
  | succ m ih =>
    by_cases hi : i = m + 1
    · subst hi; exact Nat.le_refl _
    · have h1 := ih (by omega) (by omega)
      have ho : ops[m]? = some (ops[m]'(by omega)) := by simp [show m < ops.size by omega]
      rw [(EK (T := T) (O := O) (st0 := st0) ho).1]
      omega
theorem Hx (i m : Nat) (him : i ≤ m) (hm : m ≤ ops.size) (hp : ∀ s o, i ≤ s → s < m → ops[s]? = some o → (rR T O ops st0 s).put = none) :
    ∀ id, id < (AP T O ops st0 i).1.nx → (AP T O ops st0 m).1.H id = (AP T O ops st0 i).1.H id := by
  induction m with
  | zero => (obtain rfl : i = 0 := (by omega)); exact fun _ _ => rfl
  | succ m ih =>
    by_cases hi : i = m + 1
    · subst hi; exact fun _ _ => rfl
    · intro id hid
      have h2 := ih (by omega) (by omega) (fun s o hs1 hs2 => hp s o hs1 (by omega)) id hid
      have hnx := Fy (T := T) (O := O) (ops := ops) (st0 := st0) i m (by omega) (by omega)
      have ho : ops[m]? = some (ops[m]'(by omega)) := by simp [show m < ops.size by omega]
      rw [(EK (T := T) (O := O) (st0 := st0) ho).2, Hq (.inl (by omega))]
      unfold Res.base
      rw [hp m _ (by omega) (by omega) ho]
      exact h2
theorem Yu {i j : Nat} {o : Oper} {ob : Ob} (ho : ops[i]? = some o) (hn : (rR T O ops st0 i).new[j]? = some ob) :
    (AP T O ops st0 (i + 1)).1.H ((AP T O ops st0 i).1.nx + j) = ob := by
  rw [(EK (T := T) (O := O) (st0 := st0) ho).2]
  exact U3 hn
structure RI (P : Program) (T : TypeId → TE) (O : Nat → Orc) (ops : Array Oper) (st0 : St) (N : Nat) (E : AU) (w0 : World) (φ0 : Phi) (D : Nat → Bool) (φ : Phi) (a : Act) (w : World) : Prop where
  sz : a.tmps.size = N
  df : a.defers = []
  ext : Ext w0 φ0 w φ
  old : Old E φ w
  out : ∀ t, (∀ (i : Nat) o, ops[i]? = some o → D i = true → o.dst ≠ some t) → V w (E.up φ) (some φ) (st0.t t) (a.tmps.getD t undef)
  inn : ∀ (i : Nat) o t, ops[i]? = some o → D i = true → o.dst = some t → (rPc T O ops st0 i = true → V w (E.up φ) (some φ) (rR T O ops st0 i).val (a.tmps.getD t undef)) ∧ (rPc T O ops st0 i = false → a.tmps.getD t undef = undef)
  al : ∀ (i : Nat) o, ops[i]? = some o → D i = false → ∀ j, j < (rR T O ops st0 i).new.length → φ ((AP T O ops st0 i).1.nx + j) = none
  lv : ∀ id, id < st0.nx → φ id ≠ none
  nw : ∀ (i : Nat) o, ops[i]? = some o → D i = true → ∀ j, j < (rR T O ops st0 i).new.length → φ ((AP T O ops st0 i).1.nx + j) ≠ none
  st : ∃ m, m ≤ ops.size ∧ (∀ (s : Nat) o, ops[s]? = some o → (rR T O ops st0 s).put ≠ none → (D s = true ↔ s < m)) ∧ (m < ops.size → (rR T O ops st0 m).put ≠ none) ∧
    HRel E (AP T O ops st0 m).1.H φ w ∧ ∀ id, (AP T O ops st0 m).1.nx ≤ id → φ id = none
theorem LV (a : Act) (d : Option Nat) (v : Value) (t : Nat) (hd : ∀ k, d = some k → k < a.tmps.size) : (a.put d v).tmps.getD t undef = if d = some t then v else a.tmps.getD t undef := by
  cases d with
  | none => simp [Act.put]
  | some d =>
    have := hd d rfl
    simp only [Act.put, Array.getD_eq_getD_getElem?, Option.some.injEq]
    by_cases h : d = t
    · subst h; simp [this]
    · rw [Array.getElem?_setIfInBounds_ne h, if_neg h]
theorem Kv {op : Op} {st : St} (h : CS st op = false) : IB op = false ∨ ∃ t a cs, op = .load t a ∧ st.val a = .tp cs := by
  unfold CS at h
  cases hl : IB op with
  | false => exact .inl rfl
  | true =>
    rw [hl] at h
    have h' : tpB st op = true := by simpa using h
    unfold tpB at h'
    split at h'
    · rename_i t a
      split at h'
      · rename_i cs hv; exact .inr ⟨t, a, cs, rfl, hv⟩
      · cases h'
    · cases h'
theorem SW {O : Orc} {op : Op} {st : St} (h : IB op = false) : (vop T O st op).new = [] ∧ (vop T O st op).put = none := by
  cases op <;> first | exact ⟨rfl, rfl⟩ | cases h | skip
  case slice t x lo hi mx => cases mx <;> exact ⟨rfl, rfl⟩
  case call c =>
    simp only [vop, IB] at h ⊢
    cases hc : c.callee with
    | value f => rw [hc] at h; simp at h
    | invoke r n => exact ⟨rfl, rfl⟩
    | builtin b => cases b <;> first | exact ⟨rfl, rfl⟩ | (rw [hc] at h; simp at h)
theorem Nr {O : Orc} {op : Op} {st : St} (h : CS st op = false) : (vop T O st op).new = [] ∧ (vop T O st op).put = none := by
  rcases Kv h with h | ⟨t, a, cs, rfl, _⟩
  · exact SW h
  · exact ⟨rfl, rfl⟩
theorem Aaw {O : Orc} {op : Op} {st : St} (h : (vop T O st op).new.length ≠ 0 ∨ (vop T O st op).put ≠ none) : CS st op = true := by
  cases hq : CS st op with
  | true => rfl
  | false =>
    obtain ⟨h1, h2⟩ := Nr (T := T) (O := O) (st := st) hq
    rw [h1, h2] at h
    simp at h
theorem YA {O : Orc} {op : Op} {st : St} (h : IB op = false) (H : Nat → Ob) : vop T O { st with H := H } op = vop T O st op := by
  cases op <;> first | rfl | cases h | skip
  case slice t x lo hi mx => cases mx <;> rfl
  case call c =>
    simp only [vop, IB] at h ⊢
    cases hc : c.callee with
    | value f => rw [hc] at h; simp at h
    | invoke r n => rfl
    | builtin b => cases b <;> first | rfl | (rw [hc] at h; simp at h)
theorem Aaq {O : Orc} {op : Op} {st : St} (h : CS st op = false) (H : Nat → Ob) : vop T O { st with H := H } op = vop T O st op := by
  rcases Kv h with h | ⟨t, a, cs, rfl, hv⟩
  · exact YA h H
  · have hv' : St.val { st with H := H } a = .tp cs := by rw [← hv]; cases a <;> rfl
    simp only [vop, hv, hv', GL]
theorem JN {st : St} {op : Op} {id : Nat} (h : Cg st op = some id) : ∃ t a, op = .load t a ∧ id < st.nx ∧ ((∃ o, st.val a = .bp id o) ∨ ∃ g sz i o, st.val a = .ep id g sz i o) := by
  cases op <;> simp only [Cg, reduceCtorEq] at h
  rename_i t a
  split at h
  · rename_i j o hv
    cases hq : Nat.blt j st.nx with
    | false => rw [hq] at h; cases h
    | true =>
      rw [hq] at h
      simp only [cond_true, Option.some.injEq] at h
      subst h
      exact ⟨t, a, rfl, Nat.le_of_ble_eq_true hq, .inl ⟨o, hv⟩⟩
  · rename_i j g sz i o hv
    cases hq : Nat.blt j st.nx with
    | false => rw [hq] at h; cases h
    | true =>
      rw [hq] at h
      simp only [cond_true, Option.some.injEq] at h
      subst h
      exact ⟨t, a, rfl, Nat.le_of_ble_eq_true hq, .inr ⟨g, sz, i, o, hv⟩⟩
  · cases h
theorem P6 {O : Orc} {op : Op} {st : St} {id : Nat} (h : Cg st op = some id) : (vop T O st op).new = [] ∧ (vop T O st op).put = none := by
  obtain ⟨t, a, rfl, _⟩ := JN h
  exact ⟨rfl, rfl⟩
theorem Abw {O : Orc} {op : Op} {st : St} {id : Nat} (h : Cg st op = some id) {H : Nat → Ob} (hH : H id = st.H id) : vop T O { st with H := H } op = vop T O st op := by
  obtain ⟨t, a, rfl, _, hv⟩ := JN h
  have e : St.val { st with H := H } a = st.val a := by cases a <;> rfl
  rcases hv with ⟨o, hv⟩ | ⟨g, sz, i, o, hv⟩
  · simp only [vop, e, hv, GL, hH]
  · simp only [vop, e, hv, GL, hH]
def KC (st : St) (op : Op) : Bool := CS st op && (Cg st op).isNone
theorem AaC {O : Orc} {op : Op} {st : St} (h : (vop T O st op).new.length ≠ 0 ∨ (vop T O st op).put ≠ none) : KC st op = true := by
  unfold KC
  rw [Aaw h, Bool.true_and]
  cases hs : Cg st op with
  | none => rfl
  | some id =>
    obtain ⟨h1, h2⟩ := P6 (T := T) (O := O) hs
    rw [h1, h2] at h
    simp at h
theorem S4 (hdr : dr = true) (hG : ∀ (j : Nat) o, ops[j]? = some o → Hr dr T O ops st0 j o) {i s : Nat} {oi os : Oper} (hi : ops[i]? = some oi) (hp : (rR T O ops st0 i).put ≠ none) (hs : ops[s]? = some os) (hl : KC (AP T O ops st0 s).1 os.op = true) :
    (s < i → GF (Region.before ops) i s = true) ∧ (i < s → GF (Region.before ops) s i = true) := by
  unfold KC at hl
  rw [Bool.and_eq_true, Option.isNone_iff_eq_none] at hl
  have hL : rL T O ops st0 s = true := by simp only [rL, hs]; exact hl.1
  have hS : rSo T O ops st0 s = none := by simp only [rSo, hs]; exact hl.2
  have hP := Option.isSome_iff_ne_none.2 hp
  refine ⟨fun h => (hG i oi hi).ord hdr s h ?_, fun h => (hG s os hs).ord hdr i h ?_⟩
  · simp [TD, rFl, Res.flag, hP, hL, hS, esc]
  · simp [TD, rFl, Res.flag, hP, hL, hS, esc]
theorem QG (hdr : dr = true) (hG : ∀ (j : Nat) o, ops[j]? = some o → Hr dr T O ops st0 j o) {i s id : Nat} {oi os : Oper} (hi : ops[i]? = some oi) (hp : (rR T O ops st0 i).put ≠ none) (hs : ops[s]? = some os) (hl : CS (AP T O ops st0 s).1 os.op = true) (hso : Cg (AP T O ops st0 s).1 os.op = some id) :
    esc (some id) (rTc T O ops st0 i) = true ∨ ((s < i → GF (Region.before ops) i s = true) ∧ (i < s → GF (Region.before ops) s i = true)) := by
  have hL : rL T O ops st0 s = true := by simp only [rL, hs]; exact hl
  have hS : rSo T O ops st0 s = some id := by simp only [rSo, hs]; exact hso
  have hP := Option.isSome_iff_ne_none.2 hp
  cases he : esc (some id) (rTc T O ops st0 i) with
  | true => exact .inl rfl
  | false =>
    refine .inr ⟨fun h => (hG i oi hi).ord hdr s h ?_, fun h => (hG s os hs).ord hdr i h ?_⟩
    · simp [TD, rFl, Res.flag, hP, hL, hS, he]
    · simp [TD, rFl, Res.flag, hP, hL, hS, he]
theorem PA {T : TypeId → TE} {O : Orc} {st : St} {op : Op} {q : FuncId × List Nat × List Ob × List VV} (h : Hu O.lend st op = some q) :
    vop T O st op = (C6 st (O.lend q.1) q.2.1 (O.run q.1 q.2.2.1 q.2.2.2).1.1 (O.run q.1 q.2.2.1 q.2.2.2).1.2).also (O.run q.1 q.2.2.1 q.2.2.2).2 := by
  cases op <;> simp only [Hu, reduceCtorEq] at h
  rename_i c
  split at h
  · rename_i f hf
    simp only [vop, hf, FQ, h]
  · cases h
theorem UQ : ∀ {ids : List Nat} {id : Nat}, ids.any (Nat.beq id) = false → idx ids id = none
  | [], _, _ => rfl
  | i :: is, id, h => by
    simp only [List.any_cons, Bool.or_eq_false_iff] at h
    have hb : Nat.beq i id = false := by
      cases hq : Nat.beq i id with
      | false => rfl
      | true =>
        have := Nat.eq_of_beq_eq_true hq
        subst this
        have h1 := h.1
        simp at h1
    simp only [idx, hb, cond_false, UQ h.2, Option.map_none]
theorem XY {i id : Nat} (he : esc (some id) (rTc T O ops st0 i) = true) : (rR T O ops st0 i).base (AP T O ops st0 i).1 id = (AP T O ops st0 i).1.H id := by
  cases ho : ops[i]? with
  | none => simp only [rTc, ho, esc] at he; cases he
  | some o =>
    simp only [rTc, ho] at he
    simp only [rR, ho]
    unfold DR at he
    split at he
    · rename_i q hq
      cases hld : (O i).lend q.1 with
      | false => rw [hld] at he; simp [esc] at he
      | true =>
        rw [hld] at he
        simp only [cond_true, esc, Bool.not_eq_true'] at he
        rw [PA hq, hld]
        unfold Res.base Res.also C6
        cases hb : Nat.ble q.2.1.length ((O i).run q.1 q.2.2.1 q.2.2.2).1.1.length with
        | false => rfl
        | true =>
          simp only [cond_true, UQ he]
    · unfold X4 at he
      split at he
      · rename_i t a x hop
        split at he
        · rename_i id' off hv
          have hne : Nat.beq id id' = false := by
            simp only [esc, List.any_cons, List.any_nil, Bool.or_false, Bool.not_eq_true'] at he
            exact he
          rw [hop]
          simp only [vop, hv, FI, Res.base]
          cases (Nat.blt id' (AP T O ops st0 i).1.nx && (T t).k.known && Nat.beq ((AP T O ops st0 i).1.val x).cells.length (T t).sz && ((AP T O ops st0 i).1.val x).cells.all VV.one) with
          | false => rfl
          | true =>
            rw [cond_true]
            cases (AP T O ops st0 i).1.H id' with
            | box cs =>
              cases hb : Nat.ble (off + ((AP T O ops st0 i).1.val x).cells.length) cs.length with
              | false => simp only [hb, cond_false]; rfl
              | true => simp only [hb, cond_true, hne, cond_false]
            | _ => rfl
        · simp [esc] at he
      · simp [esc] at he
theorem LO {id : Nat} (i m : Nat) (him : i ≤ m) (hm : m ≤ ops.size) (hid : id < (AP T O ops st0 i).1.nx) (hp : ∀ s o, i ≤ s → s < m → ops[s]? = some o → (rR T O ops st0 s).put = none ∨ esc (some id) (rTc T O ops st0 s) = true) :
    (AP T O ops st0 m).1.H id = (AP T O ops st0 i).1.H id := by
  induction m with
  | zero => (obtain rfl : i = 0 := (by omega)); rfl
  | succ m ih =>
    by_cases hi : i = m + 1
    · subst hi; rfl
    · have h2 := ih (by omega) (by omega) (fun s o hs1 hs2 => hp s o hs1 (by omega))
      have hnx := Fy (T := T) (O := O) (ops := ops) (st0 := st0) i m (by omega) (by omega)
      have ho : ops[m]? = some (ops[m]'(by omega)) := by simp [show m < ops.size by omega]
      rw [(EK (T := T) (O := O) (st0 := st0) ho).2, Hq (.inl (by omega))]
      rcases hp m _ (by omega) (by omega) ho with h | h
      · unfold Res.base
        rw [h]
        exact h2
      · rw [XY h]; exact h2
end
end
section
section
variable {dr : Bool} {P : Program} {T : TypeId → TE} {O : Nat → Orc} {ops : Array Oper} {st0 : St} {M : Array Nat} {N : Nat} {E : AU} {w0 : World} {φ0 : Phi} {D : Nat → Bool} {φ : Phi} {a : Act} {w : World}
def Jn (D : Nat → Bool) (i : Nat) (j : Nat) : Bool := j == i || D j
theorem Dn {i j : Nat} : Jn D i j = true ↔ j = i ∨ D j = true := by simp [Jn]
section
variable (hR : Ih ops M N) (hG : ∀ (j : Nat) o, ops[j]? = some o → Hr dr T O ops st0 j o)
include hR hG
omit hR in
theorem KU {i : Nat} {o : Oper} (ho : ops[i]? = some o) (hg : o.guard = none) : rPc T O ops st0 i = true := by
  have := (hG i o ho).pc
  simp only [Il, hg, Option.some.injEq] at this
  exact this.symm
theorem KT {i k : Nat} {want : Bool} {o : Oper} (ho : ops[i]? = some o) (hg : o.guard = some (k, want)) :
    ∃ ok d b, ops[k]? = some ok ∧ ok.dst = some d ∧ (rR T O ops st0 k).val = .sc (.bool b) ∧ k < i ∧ rPc T O ops st0 i = (rPc T O ops st0 k && (b == want)) := by
  have hgd := (hG i o ho).pc
  obtain ⟨hki, _⟩ := hR.guard i o k want ho hg
  have hi := (Array.getElem?_eq_some_iff.1 ho).1
  have hok : ops[k]? = some (ops[k]'(by omega)) := by simp [show k < ops.size by omega]
  have hp := (Qa (T := T) (O := O) (ops := ops) (st0 := st0) i (by omega)).2 k hki
  simp only [Il, hg, hp, hok, Option.bind_some] at hgd
  split at hgd
  · rename_i p d e1 e2
    simp only [Option.some.injEq] at e1
    subst e1
    split at hgd
    · rename_i b hb
      simp only [Option.some.injEq] at hgd
      rw [GR hok e2 i (by omega) hki (fun k' o' _ hne ho' hd' => hne (hR.uniq k' k o' _ d ho' hok hd' e2))] at hb
      refine ⟨_, d, b, hok, e2, ?_, hki, hgd.symm⟩
      unfold Zw at hb
      split at hb
      · rename_i b' e3; simp only [Option.some.injEq] at hb; subst hb; exact e3
      · cases hb
    · cases hgd
  · cases hgd
theorem UT : ∀ (f i j : Nat), i < ops.size → j < ops.size → Jw ops f i j = true → rPc T O ops st0 i = true → rPc T O ops st0 j = true
  | 0, _, _, _, _, h, _ => by cases h
  | f + 1, i, j, hi, hj, h, hp => by
    have hoi : ops[i]? = some (ops[i]'hi) := by simp [hi]
    have hoj : ops[j]? = some (ops[j]'hj) := by simp [hj]
    simp only [Jw, hoi, hoj, Option.bind_some] at h
    split at h
    · rename_i hg; exact KU hG hoj hg
    · rename_i g hg
      split at h
      · cases h
      · rename_i h0 hg0
        rw [Bool.or_eq_true] at h
        obtain ⟨k, w1⟩ := h0
        obtain ⟨k2, w2⟩ := g
        obtain ⟨ok, d, b, h1, h2, h3, h4, h5⟩ := KT hR hG hoi hg0
        rcases h with h | h
        · have e : (k, w1) = (k2, w2) := by simpa using h
          simp only [Prod.mk.injEq] at e
          obtain ⟨rfl, rfl⟩ := e
          obtain ⟨ok', d', b', h1', h2', h3', h4', h5'⟩ := KT hR hG hoj hg
          rw [h3] at h3'
          simp only [VV.sc.injEq, Value.bool.injEq] at h3'
          subst h3'
          rw [h5', ← h5]; exact hp
        · rw [h5, Bool.and_eq_true] at hp
          exact UT f k j (by omega) hj h hp.1
end
theorem KR (hR : Ih ops M N) (hcl : Kl ops D) (h : RI P T O ops st0 N E w0 φ0 D φ a w) {i : Nat} {o : Oper} (ho : ops[i]? = some o) (hi : D i = false) (hdeps : ∀ e ∈ o.after, Region.binds .any e = true → D e.on = true)
    {ok : Nat → Bool} {y : Operand} (hrd : XB ops M i ok y) (hok : ∀ j, j < ops.size → ok j = true → rPc T O ops st0 j = true) : V w (E.up φ) (some φ) ((AP T O ops st0 i).1.val y) (a.eval y) := by
  have hil := (Array.getElem?_eq_some_iff.1 ho).1
  cases y with
  | const v => exact V.litC v
  | global g => exact .dead
  | func f => exact .fn rfl fun j x hx => by simp at hx
  | tmp t =>
    show V w _ _ ((AP T O ops st0 i).1.t t) (a.tmps.getD t undef)
    by_cases hex : ∃ j oj, ops[j]? = some oj ∧ oj.dst = some t ∧ j ≠ i
    · obtain ⟨j, oj, hj, hd, hne⟩ := hex
      have hjl := (Array.getElem?_eq_some_iff.1 hj).1
      obtain ⟨h1, h2⟩ := hrd t rfl j oj hj hd hne
      rcases Nat.lt_or_ge j i with hlt | hge
      · obtain ⟨hm, hk⟩ := h1 hlt
        have hDj := C2 hR hcl i o j ho hdeps hjl hm
        rw [GR hj hd i (by omega) hlt (fun k' o' _ hne' ho' hd' => hne' (hR.uniq k' j o' oj t ho' hj hd' hd))]
        exact (h.inn j oj t hj hDj hd).1 (hok j hjl hk)
      · have hgt : i < j := by omega
        have hm := h2 hgt
        have hDj : D j = false := by
          cases hq : D j with
          | false => rfl
          | true =>
            have := C2 hR hcl j oj i hj (fun e he hb => hcl j oj e hj hq he hb) hil hm
            rw [hi] at this; cases this
        rw [Je i (by omega) (fun k' o' hk' ho' hd' => by have := hR.uniq k' j o' oj t ho' hj hd' hd; omega)]
        exact h.out t fun k' o' ho' hD' hd' => by
          have := hR.uniq k' j o' oj t ho' hj hd' hd
          subst this
          rw [hDj] at hD'; cases hD'
    · have hno : ∀ (k' : Nat) o', ops[k']? = some o' → o'.dst = some t → k' = i := fun k' o' ho' hd' => Classical.byContradiction fun hne => hex ⟨k', o', ho', hd', hne⟩
      rw [Je i (by omega) (fun k' o' hk' ho' hd' => by have := hno k' o' ho' hd'; omega)]
      exact h.out t fun k' o' ho' hD' hd' => by
        have := hno k' o' ho' hd'
        subst this
        rw [hi] at hD'; cases hD'
theorem Vv (hR : Ih ops M N) (hG : ∀ (j : Nat) o, ops[j]? = some o → Hr dr T O ops st0 j o) (hcl : Kl ops D) (h : RI P T O ops st0 N E w0 φ0 D φ a w) {i : Nat} {o : Oper} (ho : ops[i]? = some o)
    (hdeps : ∀ e ∈ o.after, Region.binds .any e = true → D e.on = true) : Region.wanted o (yielded ops a.tmps) = rPc T O ops st0 i := by
  have hil := (Array.getElem?_eq_some_iff.1 ho).1
  unfold Region.wanted
  cases hg : o.guard with
  | none => simp only; exact (KU hG ho hg).symm
  | some g =>
    obtain ⟨k, want⟩ := g
    obtain ⟨ok, d, b, h1, h2, h3, h4, h5⟩ := KT hR hG ho hg
    have hDk := C2 hR hcl i o k ho hdeps (by omega) (hR.guard i o k want ho hg).2
    obtain ⟨g1, g2⟩ := h.inn k ok d h1 hDk h2
    have hd : d < a.tmps.size := by rw [h.sz]; exact hR.dst k ok d h1 h2
    have hget : a.tmps[d]? = some (a.tmps.getD d undef) := by simp [Array.getD, hd]
    simp only [yielded, h1, Option.bind_some, h2, hget]
    rw [h5]
    cases hp : rPc T O ops st0 k with
    | true =>
      have := g1 hp
      rw [h3] at this
      rw [this.sc_inv]
      simp only [Bool.true_and]
      cases b <;> cases want <;> rfl
    | false =>
      rw [g2 hp]
      rfl
end
end
section
section
variable {dr : Bool} {P : Program} {T : TypeId → TE} {O : Nat → Orc} {ops : Array Oper} {st0 : St} {M : Array Nat} {N : Nat} {E : AU} {w0 : World} {φ0 : Phi} {D : Nat → Bool} {φ : Phi} {a : Act} {w : World}
theorem RI.more (hR : Ih ops M N) (h : RI P T O ops st0 N E w0 φ0 D φ a w) {i : Nat} {o : Oper} (ho : ops[i]? = some o) {φ' : Phi} {w' : World} {v : Value} (he : Ext w φ w' φ')
    (hv1 : rPc T O ops st0 i = true → V w' (E.up φ') (some φ') (rR T O ops st0 i).val v) (hv2 : rPc T O ops st0 i = false → v = undef)
    (hphi : ∀ id, φ' id ≠ none ↔ φ id ≠ none ∨ ((AP T O ops st0 i).1.nx ≤ id ∧ id < (AP T O ops st0 i).1.nx + (rR T O ops st0 i).new.length))
    (hst : ∃ m, m ≤ ops.size ∧ (∀ (s : Nat) o, ops[s]? = some o → (rR T O ops st0 s).put ≠ none → (Jn D i s = true ↔ s < m)) ∧ (m < ops.size → (rR T O ops st0 m).put ≠ none) ∧
      HRel E (AP T O ops st0 m).1.H φ' w' ∧ ∀ id, (AP T O ops st0 m).1.nx ≤ id → φ' id = none) :
    RI P T O ops st0 N E w0 φ0 (Jn D i) φ' (a.put o.dst v) w' := by
  have hd : ∀ k, o.dst = some k → k < a.tmps.size := fun k hk => by rw [h.sz]; exact hR.dst i o k ho hk
  refine ⟨?_, ?_, h.ext.trans he, h.old.ext he, fun t ht => ?_, fun j oj t hj hD hdj => ?_, fun j oj hj hD jj hjj => ?_, fun id hid => (hphi id).2 (.inl (h.lv id hid)), fun j oj hj hD jj hjj => ?_, hst⟩
  · rw [← h.sz]; cases o.dst <;> simp [Act.put]
  · rw [← h.df]; cases o.dst <;> rfl
  · rw [LV a _ v t hd, if_neg (ht i o ho (Dn.2 (.inl rfl)))]
    exact (h.out t fun j oj hj hD => ht j oj hj (Dn.2 (.inr hD))).ext he
  · by_cases hji : j = i
    · subst hji
      rw [ho] at hj
      simp only [Option.some.injEq] at hj
      subst hj
      rw [LV a _ v t hd, if_pos hdj]
      exact ⟨hv1, hv2⟩
    · have hDj : D j = true := (Dn.1 hD).resolve_left hji
      have hne : o.dst ≠ some t := fun e => hji (hR.uniq j i oj o t hj ho hdj e)
      rw [LV a _ v t hd, if_neg hne]
      obtain ⟨h1, h2⟩ := h.inn j oj t hj hDj hdj
      exact ⟨fun hp => (h1 hp).ext he, h2⟩
  · have hne : j ≠ i := by rintro rfl; rw [Dn.2 (.inl rfl)] at hD; cases hD
    have hDj : D j = false := by
      cases hq : D j with
      | false => rfl
      | true => rw [Dn.2 (.inr hq)] at hD; cases hD
    have hjl := (Array.getElem?_eq_some_iff.1 hj).1
    have hil := (Array.getElem?_eq_some_iff.1 ho).1
    apply Classical.byContradiction
    intro hn
    rcases (hphi _).1 hn with h1 | ⟨h1, h2⟩
    · exact h1 (h.al j oj hj hDj jj hjj)
    · rcases Nat.lt_or_ge j i with hlt | hge
      · have a1 := (EK (T := T) (O := O) (st0 := st0) hj).1
        have a2 := Fy (T := T) (O := O) (ops := ops) (st0 := st0) (j + 1) i (by omega) (by omega)
        omega
      · have a1 := (EK (T := T) (O := O) (st0 := st0) ho).1
        have a2 := Fy (T := T) (O := O) (ops := ops) (st0 := st0) (i + 1) j (by omega) (by omega)
        omega
  · rcases Dn.1 hD with rfl | hDj
    · exact (hphi _).2 (.inr ⟨by omega, by omega⟩)
    · exact (hphi _).2 (.inl (h.nw j oj hj hDj jj hjj))
theorem RI.live (h : RI P T O ops st0 N E w0 φ0 D φ a w) {i : Nat} (hi : i ≤ ops.size) (hD : ∀ s o, s < i → ops[s]? = some o → KC (AP T O ops st0 s).1 o.op = true → D s = true) : ∀ id, id < (AP T O ops st0 i).1.nx → φ id ≠ none := by
  induction i with
  | zero => exact fun id hid => h.lv id hid
  | succ i ih =>
    intro id hid
    have ho : ops[i]? = some (ops[i]'(by omega)) := by simp [show i < ops.size by omega]
    have e := (EK (T := T) (O := O) (st0 := st0) ho).1
    rcases Nat.lt_or_ge id (AP T O ops st0 i).1.nx with hlt | hge
    · exact ih (by omega) (fun s o hs => hD s o (by omega)) id hlt
    · have hl : KC (AP T O ops st0 i).1 (ops[i]'(by omega)).op = true := by
        have hr : rR T O ops st0 i = vop T (O i) (AP T O ops st0 i).1 (ops[i]'(by omega)).op := by simp only [rR, ho]
        refine AaC (T := T) (O := O i) (st := (AP T O ops st0 i).1) (.inl ?_)
        rw [← hr]; omega
      have := h.nw i _ ho (hD i _ (by omega) ho hl) (id - (AP T O ops st0 i).1.nx) (by omega)
      rw [show (AP T O ops st0 i).1.nx + (id - (AP T O ops st0 i).1.nx) = id by omega] at this
      exact this
theorem OO : ∀ (n k : Nat), k + n = ops.size → ∃ m', k ≤ m' ∧ m' ≤ ops.size ∧ (∀ s, k ≤ s → s < m' → (rR T O ops st0 s).put = none) ∧ (m' < ops.size → (rR T O ops st0 m').put ≠ none)
  | 0, k, hk => ⟨k, Nat.le_refl _, by omega, fun s h1 h2 => by omega, fun h => by omega⟩
  | n + 1, k, hk => by
    by_cases hq : (rR T O ops st0 k).put = none
    · obtain ⟨m', a1, a2, a3, a4⟩ := OO n (k + 1) (by omega)
      refine ⟨m', by omega, a2, fun s h1 h2 => ?_, a4⟩
      by_cases hsk : s = k
      · subst hsk; exact hq
      · exact a3 s (by omega) h2
    · exact ⟨k, Nat.le_refl _, by omega, fun s h1 h2 => by omega, fun _ => hq⟩
theorem RI.step (hT : TOk P T) (hO : ∀ i, GD P (O i)) (hR : Ih ops (Region.before ops) N) (hG : ∀ (j : Nat) o, ops[j]? = some o → Hr dr T O ops st0 j o) (hcl : Kl ops D) (h : RI P T O ops st0 N E w0 φ0 D φ a w) {i : Nat} {o : Oper} (ho : ops[i]? = some o) (hi : D i = false)
    (hdeps : ∀ e ∈ o.after, Region.binds .any e = true → D e.on = true) (hsq : dr = false → ∀ s, s < ops.size → (D s = true ↔ s < i)) {K : Act → World → Prop} {Q : Exit → Act → World → Prop} (hK : ∀ φ' a' w', RI P T O ops st0 N E w0 φ0 (Jn D i) φ' a' w' → K a' w') : wpOp P ops Q i K a w := by
  have hil := (Array.getElem?_eq_some_iff.1 ho).1
  have hwant := Vv hR hG hcl h ho hdeps
  have hr : rR T O ops st0 i = vop T (O i) (AP T O ops st0 i).1 o.op := by simp only [rR, ho]
  unfold wpOp
  simp only [ho]
  rw [hwant]
  obtain ⟨m, hm, hput, hmp, hH, hfr⟩ := h.st
  have stay : (rR T O ops st0 i).put = none → ∀ (s : Nat) o', ops[s]? = some o' → (rR T O ops st0 s).put ≠ none → (Jn D i s = true ↔ s < m) := fun hnp s o' hs hp => by
    rw [Dn]
    constructor
    · rintro (rfl | hD)
      · exact absurd hnp hp
      · exact (hput s o' hs hp).1 hD
    · intro hlt; exact .inr ((hput s o' hs hp).2 hlt)
  have still : (rR T O ops st0 i).new = [] → ∀ id, φ id ≠ none ↔ φ id ≠ none ∨ ((AP T O ops st0 i).1.nx ≤ id ∧ id < (AP T O ops st0 i).1.nx + (rR T O ops st0 i).new.length) := fun hn id => by
    rw [hn]
    exact ⟨.inl, fun h => h.resolve_right (by simp only [List.length_nil]; omega)⟩
  cases hpc : rPc T O ops st0 i with
  | false =>
    simp only [Bool.false_eq_true, if_false]
    have hg : o.guard ≠ none := fun e => by rw [KU hG ho e] at hpc; cases hpc
    obtain ⟨hnn, hnp⟩ := (hG i o ho).plain hg
    exact hK φ _ _ (h.more hR ho (Ext.refl _ _) (fun e => by rw [hpc] at e; cases e) (fun _ => rfl) (still hnn) ⟨m, hm, stay hnp, hmp, hH, hfr⟩)
  | true =>
    simp only [if_true]
    refine .inl ?_
    have hchk := (hG i o ho).chk hpc
    have hreads : ∀ (H : Nat → Ob), ZG w E φ { (AP T O ops st0 i).1 with H := H } a o.op := by
      intro H
      have hgi : ∀ j, j < ops.size → Jw ops ops.size i j = true → rPc T O ops st0 j = true := fun j hj hg => UT hR hG _ i j hil hj hg hpc
      have hval : ∀ y, St.val { (AP T O ops st0 i).1 with H := H } y = (AP T O ops st0 i).1.val y := by intro y; cases y <;> rfl
      by_cases hpk : ∃ c x y, o.op = .pick c x y
      · obtain ⟨c, x, y, e⟩ := hpk
        obtain ⟨r1, r2, r3⟩ := hR.pick i o c x y ho e
        rw [e]
        have hc := KR hR hcl h ho hi hdeps r1 hgi
        have hpick : ∀ (want : Bool) j, a.eval c = .bool want → j < ops.size → (Jw ops ops.size i j || pickOk ops ops.size i c want j) = true → rPc T O ops st0 j = true := by
          intro want j hev hj hq
          rw [Bool.or_eq_true] at hq
          rcases hq with hq | hq
          · exact hgi j hj hq
          · unfold pickOk at hq
            split at hq
            · rename_i k w' t hgj
              simp only [Bool.and_eq_true] at hq
              obtain ⟨⟨⟨q1, q2⟩, q3⟩, q4⟩ := hq
              have hw' : w' = want := by simpa using q1
              subst hw'
              have hoj : ops[j]? = some (ops[j]'hj) := by simp [hj]
              rw [hoj, Option.bind_some] at hgj
              obtain ⟨ok, d, b, h1, h2, h3, h4, h5⟩ := KT hR hG hoj hgj
              rw [h1, Option.bind_some, h2] at q2
              have hdt : d = t := by simpa using q2
              subst hdt
              have hki := Nat.le_of_ble_eq_true q4
              have hpk := hgi k (by omega) q3
              have hv : (AP T O ops st0 i).1.val (.tmp d) = .sc (.bool b) := by
                show (AP T O ops st0 i).1.t d = _
                rw [GR h1 h2 i (by omega) hki (fun k' o' _ hne' ho' hd' => hne' (hR.uniq k' k o' ok d ho' h1 hd' h2))]
                exact h3
              rw [hv] at hc
              have hb := hc.sc_inv
              rw [hev] at hb
              simp only [Value.bool.injEq] at hb
              rw [h5, hpk, hb]
              simp
            · cases hq
        refine ⟨by rw [hval]; exact hc, fun hev => ?_, fun hev => ?_⟩
        · rw [hval]; exact KR hR hcl h ho hi hdeps r2 fun j hj hq => hpick true j hev hj hq
        · rw [hval]; exact KR hR hcl h ho hi hdeps r3 fun j hj hq => hpick false j hev hj hq
      · have hnp : ∀ c x y, o.op ≠ .pick c x y := fun c x y e => hpk ⟨c, x, y, e⟩
        have hall : ∀ y ∈ o.op.operands.toList, V w (E.up φ) (some φ) (St.val { (AP T O ops st0 i).1 with H := H } y) (a.eval y) := by
          intro y hy
          rw [hval]
          exact KR hR hcl h ho hi hdeps (hR.reads i o ho hnp y hy) hgi
        cases hop : o.op <;> first | (rw [hop] at hall; exact hall) | exact absurd hop (hnp _ _ _)
    cases hl : CS (AP T O ops st0 i).1 o.op with
    | false =>
      obtain ⟨hnn, hnp⟩ := Nr (T := T) (O := O i) (st := (AP T O ops st0 i).1) hl
      rw [← hr] at hnn hnp
      have hvop : vop T (O i) { (AP T O ops st0 i).1 with H := (AP T O ops st0 m).1.H } o.op = rR T O ops st0 i := by rw [Aaq hl, hr]
      have hok := RW (st := { (AP T O ops st0 i).1 with H := (AP T O ops st0 m).1.H }) hT (hO i) hH (fun _ _ => rfl) h.old (hreads _) (by rw [hvop]; exact hchk)
      rw [hvop] at hok
      rcases hok with ⟨_, hq⟩ | ⟨H', h1, _⟩
      · refine hq (fun j hj => by rw [hnn] at hj; simp at hj) _ _ fun v w' pls hn hV => ?_
        have hpl : pls = [] := List.eq_nil_of_length_eq_zero (by rw [hn.len, hnn]; rfl)
        subst hpl
        rw [Ey] at hV
        exact hK φ _ _ (h.more hR ho (Ext.of_below hn.below) (fun _ => hV) (fun e => by rw [hpc] at e; cases e) (still hnn) ⟨m, hm, stay hnp, hmp, hH.below hn.below, hfr⟩)
      · rw [hnp] at h1; cases h1
    | true =>
    cases hso : Cg (AP T O ops st0 i).1 o.op with
    | some id =>
      obtain ⟨hnn, hnp⟩ := P6 (T := T) (O := O i) hso
      rw [← hr] at hnn hnp
      have hid : φ id ≠ none ∧ id < (AP T O ops st0 i).1.nx := by
        obtain ⟨t, x, hop, hlt, hv⟩ := JN hso
        refine ⟨?_, hlt⟩
        have hx := hreads (AP T O ops st0 i).1.H
        rw [hop] at hx
        have hx' : V w (E.up φ) (some φ) ((AP T O ops st0 i).1.val x) (a.eval x) := hx x (by simp [Op.operands])
        rcases hv with ⟨off, hv⟩ | ⟨g, sz, j, off, hv⟩
        · rw [hv] at hx'
          obtain ⟨b, hb, _⟩ := hx'.bp_inv
          rw [hb]; simp
        · rw [hv] at hx'
          obtain ⟨c, len, hd, b, hb, _⟩ := hx'.ep_inv
          rw [hb]; simp
      have hidm : id < (AP T O ops st0 m).1.nx := by
        rcases Nat.lt_or_ge id (AP T O ops st0 m).1.nx with h' | h'
        · exact h'
        · exact absurd (hfr id h') hid.1
      have hsame : (AP T O ops st0 m).1.H id = (AP T O ops st0 i).1.H id := by
        rcases Nat.le_total i m with him | hmi
        · refine LO i m him hm hid.2 fun s os hs1 hs2 hs => ?_
          by_cases hq : (rR T O ops st0 s).put = none
          · exact .inl hq
          · have hDs := (hput s os hs hq).2 hs2
            have hsi : s ≠ i := by rintro rfl; exact hq hnp
            have hsl := (Array.getElem?_eq_some_iff.1 hs).1
            cases hdr : dr with
            | false => have := (hsq hdr s hsl).1 hDs; omega
            | true =>
              rcases QG hdr hG hs hq ho hl hso with h' | ⟨h', _⟩
              · exact .inr h'
              · have hb := h' (by omega)
                have := C2 hR hcl s os i hs (fun e he hb' => hcl s os e hs hDs he hb') hil hb
                rw [hi] at this; cases this
        · refine (LO m i hmi (Nat.le_of_lt hil) hidm fun s os hs1 hs2 hs => ?_).symm
          by_cases hq : (rR T O ops st0 s).put = none
          · exact .inl hq
          · have hDs : ¬ D s = true := fun hD => by have := (hput s os hs hq).1 hD; omega
            have hsl := (Array.getElem?_eq_some_iff.1 hs).1
            cases hdr : dr with
            | false => exact absurd ((hsq hdr s hsl).2 hs2) hDs
            | true =>
              rcases QG hdr hG hs hq ho hl hso with h' | ⟨_, h'⟩
              · exact .inr h'
              · exact absurd (C2 hR hcl i o s ho hdeps hsl (h' hs2)) hDs
      have hvop : vop T (O i) { (AP T O ops st0 i).1 with H := (AP T O ops st0 m).1.H } o.op = rR T O ops st0 i := by rw [Abw hso hsame, hr]
      have hok := RW (st := { (AP T O ops st0 i).1 with H := (AP T O ops st0 m).1.H }) hT (hO i) hH (fun _ _ => rfl) h.old (hreads _) (by rw [hvop]; exact hchk)
      rw [hvop] at hok
      rcases hok with ⟨_, hq⟩ | ⟨H', h1, _⟩
      · refine hq (fun j hj => by rw [hnn] at hj; simp at hj) _ _ fun v w' pls hn hV => ?_
        have hpl : pls = [] := List.eq_nil_of_length_eq_zero (by rw [hn.len, hnn]; rfl)
        subst hpl
        rw [Ey] at hV
        exact hK φ _ _ (h.more hR ho (Ext.of_below hn.below) (fun _ => hV) (fun e => by rw [hpc] at e; cases e) (still hnn) ⟨m, hm, stay hnp, hmp, hH.below hn.below, hfr⟩)
      · rw [hnp] at h1; cases h1
    | none =>
      have hhd : KC (AP T O ops st0 i).1 o.op = true := by unfold KC; rw [hl, hso]; rfl
      have him : i ≤ m := by
        rcases Nat.lt_or_ge m i with hlt | hge
        · exfalso
          have hml : m < ops.size := by omega
          have hom : ops[m]? = some (ops[m]'hml) := by simp [hml]
          have hpm := hmp hml
          have : D m = true := by
            cases hdr : dr with
            | false => exact (hsq hdr m hml).2 hlt
            | true => exact C2 hR hcl i o m ho hdeps (by omega) ((S4 hdr hG hom hpm ho hhd).2 hlt)
          have := (hput m _ hom hpm).1 this
          omega
        · exact hge
      have hnop : (rR T O ops st0 i).put = none → ∀ s o', i ≤ s → s < m → ops[s]? = some o' → (rR T O ops st0 s).put = none := by
        intro hip s o' hs1 hs2 hs
        apply Classical.byContradiction
        intro hq
        have hDs := (hput s o' hs hq).2 hs2
        by_cases hsi : s = i
        · subst hsi; exact hq hip
        · cases hdr : dr with
          | false => have := (hsq hdr s (by omega)).1 hDs; omega
          | true =>
            have hb := (S4 hdr hG hs hq ho hhd).1 (by omega)
            have := C2 hR hcl s o' i hs (fun e he hb' => hcl s o' e hs hDs he hb') hil hb
            rw [hi] at this; cases this
      have key : ∀ {Hc : Nat → Ob}, HRel E Hc φ w → (∀ id, id < (AP T O ops st0 i).1.nx → Hc id = (AP T O ops st0 i).1.H id) → _ := fun {Hc} hHc hk =>
        RW (st := (AP T O ops st0 i).1) (o := o) (a := a) (Hc := Hc) hT (hO i) hHc hk h.old (hreads _) (by rw [← hr]; exact hchk)
      by_cases hip : (rR T O ops st0 i).put = none
      · have hnop' := hnop hip
        have hkeep := Hx (T := T) (O := O) (st0 := st0) i m him hm hnop'
        have hok := key hH hkeep
        rw [← hr] at hok
        rcases hok with ⟨_, hq⟩ | ⟨H', h1, _⟩
        · have hal := h.al i o ho hi
          refine hq hal _ _ fun v w' pls hn hV => ?_
          have hext := hn.ext hal
          have hphi : ∀ id, Ci φ (AP T O ops st0 i).1.nx pls id ≠ none ↔ φ id ≠ none ∨ ((AP T O ops st0 i).1.nx ≤ id ∧ id < (AP T O ops st0 i).1.nx + (rR T O ops st0 i).new.length) := by
            intro id
            rw [← hn.len]
            by_cases hc : (AP T O ops st0 i).1.nx ≤ id ∧ id < (AP T O ops st0 i).1.nx + pls.length
            · refine ⟨fun _ => .inr hc, fun _ => ?_⟩
              unfold Ci
              rw [if_pos hc, List.getElem?_eq_getElem (by omega)]
              simp
            · unfold Ci
              rw [if_neg hc]
              exact ⟨.inl, fun h => h.resolve_right hc⟩
          have him1 : i + 1 ≤ m := by
            rcases Nat.lt_or_ge i m with hlt | hge
            · exact hlt
            · exfalso
              obtain rfl : i = m := by omega
              exact hmp hil hip
          have n4 := Hx (T := T) (O := O) (st0 := st0) (i + 1) m him1 hm (fun s o' hs1 hs2 hs => hnop' s o' (by omega) hs2 hs)
          have n5 := Fy (T := T) (O := O) (ops := ops) (st0 := st0) (i + 1) m him1 hm
          have n6 := (EK (T := T) (O := O) (st0 := st0) ho).1
          refine hK _ _ _ (h.more hR ho hext (fun _ => hV) (fun e => by rw [hpc] at e; cases e) hphi ⟨m, hm, stay hip, hmp, hH.news h.old.lt hn hal (fun _ _ => rfl) (fun j ob hj => ?_), fun k hk => ?_⟩)
          · have hjl := (List.getElem?_eq_some_iff.1 hj).1
            rw [n4 _ (by omega)]
            exact Yu ho hj
          · rw [CW (.inr (by rw [hn.len]; omega))]
            exact hfr k (by omega)
        · rw [hip] at h1; cases h1
      ·
        have hmi : m = i := by
          rcases Nat.lt_or_ge i m with hlt | hge
          · have := (hput i o ho hip).2 hlt; rw [hi] at this; cases this
          · omega
        subst hmi
        have hok := key hH (fun _ _ => rfl)
        rw [← hr] at hok
        rcases hok with ⟨h1, _⟩ | ⟨H', h1, hq⟩
        · exact absurd h1 hip
        have hlive := h.live hm (fun s o' hs hos hl' => by
          cases hdr : dr with
          | false => exact (hsq hdr s (by omega)).2 hs
          | true =>
            have := (S4 hdr hG ho hip hos hl').1 hs
            exact C2 hR hcl m o s ho hdeps (by omega) this)
        obtain ⟨m', hm1, hm2, hm3, hm4⟩ : ∃ m', m < m' ∧ m' ≤ ops.size ∧ (∀ s, m < s → s < m' → (rR T O ops st0 s).put = none) ∧ (m' < ops.size → (rR T O ops st0 m').put ≠ none) := by
          obtain ⟨m', a1, a2, a3, a4⟩ := OO (T := T) (O := O) (ops := ops) (st0 := st0) (ops.size - (m + 1)) (m + 1) (by omega)
          exact ⟨m', by omega, a2, fun s h1 h2 => a3 s (by omega) h2, a4⟩
        have n4 := Hx (T := T) (O := O) (st0 := st0) (m + 1) m' hm1 hm2 (fun s o' hs1 hs2 hs => hm3 s (by omega) hs2)
        have n5 := Fy (T := T) (O := O) (ops := ops) (st0 := st0) (m + 1) m' hm1 hm2
        obtain ⟨n6, n7⟩ := EK (T := T) (O := O) (st0 := st0) ho
        have hbase : (rR T O ops st0 m).base (AP T O ops st0 m).1 = H' := by unfold Res.base; rw [h1]
        rw [hbase] at n7
        refine hq hfr hlive hH _ _ fun v w' φ' g1 g2 g3 g4 => ?_
        have hin : ∀ k, φ' k ≠ none → k < (AP T O ops st0 (m + 1)).1.nx := by
          intro k hk
          rcases (g3 k).1 hk with h' | h'
          · rcases Nat.lt_or_ge k (AP T O ops st0 m).1.nx with h'' | h''
            · omega
            · exact absurd (hfr k h'') h'
          · omega
        refine hK _ _ _ (h.more hR ho g2 (fun _ => g4) (fun e => absurd e (by rw [hpc]; simp)) g3 ⟨m', hm2, fun s o' hs' hp => ?_, hm4, g1.congr fun k hk => ?_, fun k hk => ?_⟩)
        · rw [Dn]
          constructor
          · rintro (rfl | hD)
            · exact hm1
            · have := (hput s o' hs' hp).1 hD; omega
          · intro hlt
            by_cases hsm : s = m
            · exact .inl hsm
            · rcases Nat.lt_or_ge s m with h' | h'
              · exact .inr ((hput s o' hs' hp).2 h')
              · exact absurd (hm3 s (by omega) hlt) hp
        · rw [n4 k (hin k hk), n7]
        · apply Classical.byContradiction
          intro hk'
          have := hin k hk'
          omega
end
end
section
structure Rel (N : Nat) (E : AU) (st : St) (φ : Phi) (a : Act) (w : World) : Prop where
  sz : a.tmps.size = N
  df : a.defers = []
  old : Old E φ w
  tm : ∀ t, V w (E.up φ) (some φ) (st.t t) (a.tmps.getD t undef)
  hp : HRel E st.H φ w
  fr : ∀ id, st.nx ≤ id → φ id = none
  lv : ∀ id, id < st.nx → φ id ≠ none
def Xa (ops : Array Oper) : List Nat := ops.toList.filterMap fun o => bif o.guard.isSome then o.dst else none
def clr (ops : Array Oper) (st : St) : St :=
  match Xa ops with
  | [] => st
  | l => { st with t := fun i => bif l.any (Nat.beq i) then .dead else st.t i }
theorem Rel.drew {N : Nat} {E : AU} {st : St} {φ : Phi} {a : Act} {w : World} (h : Rel N E st φ a w) : Rel N E st φ a { w with drawn := w.drawn + 1 } ∧ Ext w φ { w with drawn := w.drawn + 1 } φ := by
  have he : Ext w φ { w with drawn := w.drawn + 1 } φ := ⟨rfl, rfl, rfl, Nat.le_refl _, fun _ _ _ => rfl, F9.refl φ, fun _ h => .inl h⟩
  exact ⟨⟨h.sz, h.df, h.old.ext he, fun t => (h.tm t).ext he, h.hp.same he fun _ _ => rfl, h.fr, h.lv⟩, he⟩
theorem NN {p q : Nat → Bool} (hpq : ∀ x, q x = true → p x = true) {i : Nat} (hp : p i = true) (hq : q i = false) : ∀ (l : List Nat), i ∈ l → l.countP q < l.countP p
  | [], h => by simp at h
  | x :: l, h => by
    have hle : l.countP q ≤ l.countP p := List.countP_mono_left fun x _ => hpq x
    rcases List.mem_cons.1 h with rfl | h
    · rw [List.countP_cons_of_neg (by simp [hq]), List.countP_cons_of_pos hp]; omega
    · have ih := NN hpq hp hq l h
      cases hx : q x with
      | true => rw [List.countP_cons_of_pos hx, List.countP_cons_of_pos (hpq x hx)]; omega
      | false =>
        rw [List.countP_cons_of_neg (by simp [hx])]
        cases hx' : p x with
        | true => rw [List.countP_cons_of_pos hx']; omega
        | false => rw [List.countP_cons_of_neg (by simp [hx'])]; exact ih
section
variable {dr : Bool} {P : Program} {T : TypeId → TE} {O : Nat → Orc} {ops : Array Oper} {st0 : St} {N : Nat} {E : AU} {w0 : World} {φ0 : Phi} {M : Array Nat}
theorem RI.start {a : Act} (h : Rel N E st0 φ0 a w0) : RI P T O ops st0 N E w0 φ0 (fun _ => false) φ0 a w0 := by
  obtain ⟨m, _, a2, a3, a4⟩ := OO (T := T) (O := O) (ops := ops) (st0 := st0) ops.size 0 (by omega)
  have n3 := Fy (T := T) (O := O) (ops := ops) (st0 := st0) 0 m (Nat.zero_le _) a2
  have n4 := Hx (T := T) (O := O) (ops := ops) (st0 := st0) 0 m (Nat.zero_le _) a2 (fun s o' hs1 hs2 hs => a3 s (by omega) hs2)
  refine ⟨h.sz, h.df, Ext.refl _ _, h.old, fun t _ => h.tm t, fun i o t _ hD => by (simp at hD), fun i o ho _ j hj => ?_, h.lv, fun i o _ hD => by (simp at hD), m, a2, fun s o ho hp => ?_, a4, ?_, fun id hid => h.fr id (Nat.le_trans n3 hid)⟩
  · have n5 := Fy (T := T) (O := O) (ops := ops) (st0 := st0) 0 i (Nat.zero_le _) (Nat.le_of_lt (Array.getElem?_eq_some_iff.1 ho).1)
    exact h.fr _ (Nat.le_trans n5 (Nat.le_add_right _ _))
  · constructor
    · intro h; simp at h
    · intro hlt; exact absurd (a3 s (by omega) hlt) hp
  · refine h.hp.congr fun k hk => n4 k ?_
    rcases Nat.lt_or_ge k st0.nx with h' | h'
    · exact h'
    · exact absurd (h.fr k h') hk
theorem RI.finish (hR : Ih ops M N) (hG : ∀ (j : Nat) o, ops[j]? = some o → Hr dr T O ops st0 j o) {D : Nat → Bool} (hD : ∀ i, i < ops.size → D i = true) {φ : Phi} {a : Act} {w : World} (h : RI P T O ops st0 N E w0 φ0 D φ a w) :
    Rel N E (clr ops (AP T O ops st0 ops.size).1) φ a w := by
  obtain ⟨m, hm, hput, hmp, hH, hfr⟩ := h.st
  have hmn : m = ops.size := by
    rcases Nat.lt_or_ge m ops.size with hlt | hge
    · have ho : ops[m]? = some (ops[m]'hlt) := by simp [hlt]
      have := (hput m _ ho (hmp hlt)).1 (hD m hlt)
      omega
    · omega
  subst hmn
  have hclr : (clr ops (AP T O ops st0 ops.size).1).H = (AP T O ops st0 ops.size).1.H ∧ (clr ops (AP T O ops st0 ops.size).1).nx = (AP T O ops st0 ops.size).1.nx := by unfold clr; split <;> exact ⟨rfl, rfl⟩
  have htm : ∀ t, (∀ (i : Nat) o, ops[i]? = some o → o.dst = some t → o.guard = none) → V w (E.up φ) (some φ) ((AP T O ops st0 ops.size).1.t t) (a.tmps.getD t undef) := by
    intro t ht
    by_cases hex : ∃ (i : Nat) (o : Oper), ops[i]? = some o ∧ o.dst = some t
    · obtain ⟨i, o, ho, hd⟩ := hex
      have hil := (Array.getElem?_eq_some_iff.1 ho).1
      rw [GR ho hd _ (Nat.le_refl _) hil (fun k o' _ hne ho' hd' => hne (hR.uniq k i o' o t ho' ho hd' hd))]
      exact (h.inn i o t ho (hD i hil) hd).1 (KU hG ho (ht i o ho hd))
    · rw [Je _ (Nat.le_refl _) (fun i (o : Oper) _ ho hd => hex ⟨i, o, ho, hd⟩)]
      exact h.out t fun i o ho _ hd => hex ⟨i, o, ho, hd⟩
  refine ⟨h.sz, h.df, h.old, fun t => ?_, by rw [hclr.1]; exact hH, by rw [hclr.2]; exact hfr, by rw [hclr.2]; exact h.live (Nat.le_refl _) fun s o hs _ _ => hD s hs⟩
  have hno : (Xa ops).any (Nat.beq t) = false → V w (E.up φ) (some φ) ((AP T O ops st0 ops.size).1.t t) (a.tmps.getD t undef) := by
    intro hno
    refine htm t fun i o ho hd => ?_
    cases hg : o.guard with
    | none => rfl
    | some g =>
      exfalso
      have hmem : t ∈ Xa ops := by
        unfold Xa
        rw [List.mem_filterMap]
        exact ⟨o, by have := Array.mem_of_getElem? ho; simpa using this, by simp [hg, hd]⟩
      have := List.any_eq_false.1 hno t hmem
      simp at this
  unfold clr
  split
  · rename_i hl; exact hno (by rw [hl]; rfl)
  · show V w _ _ (bif (Xa ops).any (Nat.beq t) then VV.dead else _) _
    cases hq : (Xa ops).any (Nat.beq t) with
    | true => exact .dead
    | false => exact hno hq
theorem Ab8 (hdr : dr = true) (hT : TOk P T) (hO : ∀ i, GD P (O i)) (hR : Ih ops (Region.before ops) N) (hG : ∀ (j : Nat) o, ops[j]? = some o → Hr dr T O ops st0 j o) {Q : Exit → Act → World → Prop}
    (hQ : ∀ D φ a w, (∀ i, i < ops.size → D i = true) → RI P T O ops st0 N E w0 φ0 D φ a w → Q .normal a w) :
    ∀ (fuel : Nat) (listed : Array Bool) (φ : Phi) (a : Act) (w : World), listed.size = ops.size → Kl ops (fun i => listed.getD i false) → (List.range ops.size).countP (fun i => !listed.getD i false) ≤ fuel →
      RI P T O ops st0 N E w0 φ0 (fun i => listed.getD i false) φ a w → wpAny P .any ops Q fuel listed a w := by
  have hnil : ∀ (listed : Array Bool), listed.size = ops.size → Region.ready .any ops listed = [] → ∀ i, i < ops.size → listed.getD i false = true := by
    intro listed hs hr i
    induction i using Nat.strongRecOn with
    | _ i ih =>
      intro hi
      cases hq : listed.getD i false with
      | true => rfl
      | false =>
        exfalso
        have ho : ops[i]? = some (ops[i]'hi) := by simp [hi]
        have hil : i < listed.size := by omega
        have : i ∈ Region.ready .any ops listed := mem_ready.2 ⟨by simp [Array.getD, hil] at hq ⊢; exact hq, _, ho, fun e he hb => ih e.on (hR.low i _ e ho he hb) (by have := hR.low i _ e ho he hb; omega)⟩
        rw [hr] at this
        simp at this
  intro fuel
  induction fuel with
  | zero =>
    intro listed φ a w hs hcl hc h
    have hall : ∀ i, i < ops.size → listed.getD i false = true := by
      intro i hi
      have := List.countP_eq_zero.1 (Nat.le_zero.1 hc) i (List.mem_range.2 hi)
      simpa using this
    refine ⟨?_, hQ _ φ a w hall h⟩
    rw [List.eq_nil_iff_forall_not_mem]
    intro j hj
    obtain ⟨h0, o, ho, _⟩ := mem_ready.1 hj
    have hjl : j < listed.size := by rw [hs]; exact (Array.getElem?_eq_some_iff.1 ho).1
    have := hall j (by omega)
    simp [Array.getD, hjl] at h0 this
    rw [h0] at this
    simp at this
  | succ fuel ih =>
    intro listed φ a w hs hcl hc h
    refine ⟨fun hr => hQ _ φ a w (hnil listed hs hr) h, fun i hi => ?_⟩
    obtain ⟨h0, o, ho, hdeps⟩ := mem_ready.1 hi
    have hil : i < ops.size := (Array.getElem?_eq_some_iff.1 ho).1
    have hif : listed.getD i false = false := by
      have : i < listed.size := by omega
      simp [Array.getD, this] at h0 ⊢; exact h0
    have hplus : (fun j => (listed.setIfInBounds i true).getD j false) = Jn (fun j => listed.getD j false) i := by
      funext j
      simp only [Jn]
      by_cases hji : j = i
      · subst hji; simp [Array.getD, show j < listed.size by omega]
      · rw [getD_set_ne false (Ne.symm hji)]; simp [hji]
    refine h.step hT hO hR hG hcl ho hif hdeps (fun e => by rw [hdr] at e; cases e) fun φ' a' w' h' => ih _ φ' a' w' (by simpa using hs) ?_ ?_ (by rw [hplus]; exact h')
    · rw [hplus]
      intro k ok e hk hD he hb
      rcases Dn.1 hD with rfl | hD
      · rw [ho] at hk
        simp only [Option.some.injEq] at hk
        subst hk
        exact Dn.2 (.inr (hdeps e he hb))
      · exact Dn.2 (.inr (hcl k ok e hk hD he hb))
    · have hlt := NN (p := fun j => !listed.getD j false) (q := fun j => !(listed.setIfInBounds i true).getD j false) (fun x hx => by
        have e : (listed.setIfInBounds i true).getD x false = Jn (fun j => listed.getD j false) i x := congrFun hplus x
        simp only [e, Jn, Bool.not_or, Bool.and_eq_true] at hx
        exact hx.2) (i := i) (by simp only [hif, Bool.not_false]) (by
          have e : (listed.setIfInBounds i true).getD i false = Jn (fun j => listed.getD j false) i i := congrFun hplus i
          simp only [e, Jn, beq_self_eq_true, Bool.true_or, Bool.not_true]) (List.range ops.size) (List.mem_range.2 hil)
      omega
theorem YH (hT : TOk P T) (hO : ∀ i, GD P (O i)) (hR : Ih ops (Region.before ops) N) (hG : ∀ (j : Nat) o, ops[j]? = some o → Hr dr T O ops st0 j o) {Q : Exit → Act → World → Prop}
    (hQ : ∀ D φ a w, (∀ i, i < ops.size → D i = true) → RI P T O ops st0 N E w0 φ0 D φ a w → Q .normal a w) :
    ∀ (n k : Nat) (φ : Phi) (a : Act) (w : World), k + n = ops.size → RI P T O ops st0 N E w0 φ0 (fun i => decide (i < k)) φ a w → wpOps P ops Q (List.range' k n) a w
  | 0, k, φ, a, w, hk, h => hQ _ φ a w (fun i hi => by simp; omega) h
  | n + 1, k, φ, a, w, hk, h => by
    rw [List.range'_succ, wpOps_cons]
    have ho : ops[k]? = some (ops[k]'(by omega)) := by simp [show k < ops.size by omega]
    have hcl : Kl ops (fun i => decide (i < k)) := by
      intro i o e hi hD he hb
      have := hR.low i o e hi he hb
      simp at hD ⊢; omega
    refine h.step hT hO hR hG hcl ho (by simp) (fun e he hb => by have := hR.low k _ e ho he hb; simpa using this) (fun _ s _ => by simp) fun φ' a' w' h' => YH hT hO hR hG hQ n (k + 1) φ' a' w' (by omega) ?_
    have e : (fun i => decide (i < k + 1)) = Jn (fun i => decide (i < k)) k := by
      funext i
      simp only [Jn]
      by_cases hik : i = k
      · subst hik; simp
      · have : (i < k + 1) ↔ i < k := by omega
        simp [this, hik]
    rw [e]; exact h'
theorem Ws (hT : TOk P T) (hO : ∀ i, GD P (O i)) (hmx : P.follows .mixedOrders = true) (hB : Aap ops N = true) {K : St → Prop} {id : Nat} {draw : Bool} {a : Act} (h : IX T O draw ops 0 ops.toList st0 [] [] fun st' => K (clr ops st')) (hrel : Rel N E st0 φ0 a w0) :
    (Code.region id ops draw).wp P (fun e a' w' => e = .normal ∧ ∃ st' φ', K st' ∧ Rel N E st' φ' a' w' ∧ Ext w0 φ0 w' φ') a w0 := by
  have hR := Yz hB
  obtain ⟨hG', hK⟩ := MT (T := T) (O := O) (st0 := st0) ops.toList 0 (by simp) (Nat.zero_le _) h
  have hG : ∀ (j : Nat) o, ops[j]? = some o → Hr draw T O ops st0 j o := fun j o => hG' j o (Nat.zero_le _)
  cases draw with
  | false =>
    refine wp_region ?_
    rw [List.range_eq_range']
    refine YH hT hO hR hG (fun D φ a w hD hI => ⟨rfl, _, φ, hK, hI.finish hR hG hD, hI.ext⟩) ops.size 0 φ0 a w0 (by omega) ?_
    have e : (fun i => decide (i < 0)) = fun _ => false := by funext i; simp
    rw [e]; exact RI.start hrel
  | true =>
    obtain ⟨hrel', hext⟩ := hrel.drew
    refine wp_region_any hmx ?_
    refine Ab8 rfl hT hO hR hG (w0 := { w0 with drawn := w0.drawn + 1 }) (φ0 := φ0) (fun D φ a w hD hI => ⟨rfl, _, φ, hK, hI.finish hR hG hD, hext.trans hI.ext⟩) ops.size _ φ0 a _ (by simp) ?_ ?_ ?_
    · intro i o e hi hD
      have h0 : (Array.replicate ops.size false).getD i false = false := by simp [Array.getD]
      exact absurd (h0.symm.trans hD) (by simp)
    · have := List.countP_le_length (p := fun i => !(Array.replicate ops.size false).getD i false) (l := List.range ops.size)
      simpa using this
    · have e : (fun i => (Array.replicate ops.size false).getD i false) = fun _ => false := by funext i; simp [Array.getD]
      rw [e]; exact RI.start hrel'
end
structure Shp where
  α : Type
  enc : α → List Ob × VV
  lend : Bool := false
abbrev Shs := FuncId → Shp
def Shs.ld (Sh : Shs) : FuncId → Bool := fun f => (Sh f).lend
def Fb (ld : FuncId → Bool) (g : Bool) : Orc := ⟨ld, fun _ _ _ => (([], .dead), [False]), g⟩
theorem L2 (ld : FuncId → Bool) (g : Bool) : (Fb ld g).lend = ld := rfl
def Kn (P : Program) (T : TypeId → TE) (Sh : Shs) (dr : Bool) (ops : Array Oper) : Nat → List Oper → St → List Bool → List Fl → (St → Prop) → Prop
  | _, [], st, _, _, K => K st
  | k, o :: rest, st, pcs, fl, K =>
    match Il ops st pcs o with
    | none => False
    | some pc =>
      match Hu Sh.ld st o.op, o.guard with
      | some q, none => ∃ y : (Sh q.1).α, Ae P q.1 q.2.2.1 q.2.2.2 ((Sh q.1).enc y).1 ((Sh q.1).enc y).2 ∧
          (bif GC dr ops fl k ((C6 st (Sh.ld q.1) q.2.1 ((Sh q.1).enc y).1 ((Sh q.1).enc y).2).flag (CS st o.op) (Cg st o.op) (DR Sh.ld st o.op)) then
            Xp (C6 st (Sh.ld q.1) q.2.1 ((Sh q.1).enc y).1 ((Sh q.1).enc y).2).chk
              (Kn P T Sh dr ops (k + 1) rest (st.after o (C6 st (Sh.ld q.1) q.2.1 ((Sh q.1).enc y).1 ((Sh q.1).enc y).2)) (pcs ++ [pc]) (fl ++ [(C6 st (Sh.ld q.1) q.2.1 ((Sh q.1).enc y).1 ((Sh q.1).enc y).2).flag (CS st o.op) (Cg st o.op) (DR Sh.ld st o.op)]) K) else False)
      | some q, some _ => ∃ y : (Sh q.1).α, (pc = true → Ae P q.1 q.2.2.1 q.2.2.2 ((Sh q.1).enc y).1 ((Sh q.1).enc y).2) ∧
          (bif GC dr ops fl k ((C6 st (Sh.ld q.1) q.2.1 ((Sh q.1).enc y).1 ((Sh q.1).enc y).2).flag (CS st o.op) (Cg st o.op) (DR Sh.ld st o.op)) then
          match (C6 st (Sh.ld q.1) q.2.1 ((Sh q.1).enc y).1 ((Sh q.1).enc y).2).new, (C6 st (Sh.ld q.1) q.2.1 ((Sh q.1).enc y).1 ((Sh q.1).enc y).2).put, (C6 st (Sh.ld q.1) q.2.1 ((Sh q.1).enc y).1 ((Sh q.1).enc y).2).chk with
          | [], none, [] => Kn P T Sh dr ops (k + 1) rest (st.after o (C6 st (Sh.ld q.1) q.2.1 ((Sh q.1).enc y).1 ((Sh q.1).enc y).2)) (pcs ++ [pc]) (fl ++ [(C6 st (Sh.ld q.1) q.2.1 ((Sh q.1).enc y).1 ((Sh q.1).enc y).2).flag (CS st o.op) (Cg st o.op) (DR Sh.ld st o.op)]) K
          | _, _, _ => False
          else False)
      | none, g =>
        bif GC dr ops fl k ((vop T (Fb Sh.ld g.isSome) st o.op).flag (CS st o.op) (Cg st o.op) (DR Sh.ld st o.op)) then
          match g, (vop T (Fb Sh.ld g.isSome) st o.op).new, (vop T (Fb Sh.ld g.isSome) st o.op).put with
          | none, _, _ => Xp (vop T (Fb Sh.ld g.isSome) st o.op).chk (Kn P T Sh dr ops (k + 1) rest (st.after o (vop T (Fb Sh.ld g.isSome) st o.op)) (pcs ++ [pc]) (fl ++ [(vop T (Fb Sh.ld g.isSome) st o.op).flag (CS st o.op) (Cg st o.op) (DR Sh.ld st o.op)]) K)
          | some _, [], none => Mf pc (vop T (Fb Sh.ld g.isSome) st o.op).chk (Kn P T Sh dr ops (k + 1) rest (st.after o (vop T (Fb Sh.ld g.isSome) st o.op)) (pcs ++ [pc]) (fl ++ [(vop T (Fb Sh.ld g.isSome) st o.op).flag (CS st o.op) (Cg st o.op) (DR Sh.ld st o.op)]) K)
          | _, _, _ => False
        else False
theorem Ll {T : TypeId → TE} {O : Orc} {st : St} {op : Op} {q : FuncId × List Nat × List Ob × List VV} (h : Hu O.lend st op = some q) :
    vop T O st op = (C6 st (O.lend q.1) q.2.1 (O.run q.1 q.2.2.1 q.2.2.2).1.1 (O.run q.1 q.2.2.1 q.2.2.2).1.2).also (O.run q.1 q.2.2.1 q.2.2.2).2 := by
  cases op <;> simp only [Hu, reduceCtorEq] at h
  rename_i c
  split at h
  · rename_i f hf
    simp only [vop, hf, FQ, h]
  · cases h
theorem K3 {K : Prop} : ∀ {l : List Prop}, (∀ p ∈ l, p) → K → Xp l K
  | [], _, hk => hk
  | p :: _, h, hk => ⟨h p (List.mem_cons_self ..), K3 (fun q hq => h q (List.mem_cons_of_mem _ hq)) hk⟩
theorem HZ {pc : Bool} {K : Prop} : ∀ {l : List Prop}, (pc = true → ∀ p ∈ l, p) → K → Mf pc l K
  | [], _, hk => hk
  | p :: _, h, hk => ⟨fun hpc => h hpc p (List.mem_cons_self ..), HZ (fun hpc q hq => h hpc q (List.mem_cons_of_mem _ hq)) hk⟩
theorem D9 {dr : Bool} {T : TypeId → TE} {O O' : Nat → Orc} {ops : Array Oper} {K : St → Prop} : ∀ (l : List Oper) (k : Nat) (st : St) (pcs : List Bool) (fl : List Fl), (∀ i, k ≤ i → O i = O' i) → IX T O dr ops k l st pcs fl K → IX T O' dr ops k l st pcs fl K
  | [], _, _, _, _, _, h => h
  | o :: rest, k, st, pcs, fl, he, h => by
    have e := he k (Nat.le_refl _)
    simp only [IX] at h ⊢
    split
    · rename_i hg; rw [hg] at h; exact h
    · rename_i pc hg
      rw [hg] at h
      simp only at h
      rw [← e]
      cases hpu : GC dr ops fl k ((vop T (O k) st o.op).flag (CS st o.op) (Cg st o.op) (DR (O k).lend st o.op)) with
      | false => rw [hpu] at h; exact h.elim
      | true =>
        rw [hpu] at h
        simp only [cond_true] at h ⊢
        split
        · rename_i hgd
          rw [hgd] at h
          simp only at h
          obtain ⟨h1, h2⟩ := Ha h
          exact K3 h1 (D9 rest (k + 1) _ _ _ (fun i hi => he i (by omega)) h2)
        · rename_i gd hgd hn hp
          rw [hgd, hn, hp] at h
          simp only at h
          obtain ⟨h1, h2⟩ := Gt h
          exact HZ h1 (D9 rest (k + 1) _ _ _ (fun i hi => he i (by omega)) h2)
        · rename_i x1 x2
          split at h
          · rename_i hgd; exact absurd hgd x1
          · rename_i gd hgd hn hp; exact absurd hp (x2 gd hgd hn)
          · exact h.elim
theorem EU {dr : Bool} {P : Program} {T : TypeId → TE} {Sh : Shs} {ops : Array Oper} {K : St → Prop} : ∀ (l : List Oper) (k : Nat) (st : St) (pcs : List Bool) (fl : List Fl), Kn P T Sh dr ops k l st pcs fl K →
    ∃ O : Nat → Orc, (∀ i, GD P (O i)) ∧ IX T O dr ops k l st pcs fl K
  | [], _, _, _, _, h => ⟨fun _ => Fb Sh.ld false, fun _ f hs xs h => (h False (by simp [Fb])).elim, h⟩
  | o :: rest, k, st, pcs, fl, h => by
    simp only [Kn] at h
    split at h
    · exact h.elim
    · rename_i pc hg
      have fin : ∀ (Ok : Orc), GD P Ok → ∀ (O' : Nat → Orc), (∀ i, GD P (O' i)) → ∃ O : Nat → Orc, (∀ i, GD P (O i)) ∧ O k = Ok ∧ ∀ i, k + 1 ≤ i → O' i = O i := by
        intro Ok h1 O' h2
        refine ⟨fun i => if i = k then Ok else O' i, fun i => ?_, if_pos rfl, fun i hi => (if_neg (by omega)).symm⟩
        show GD P (if i = k then Ok else O' i)
        split
        · exact h1
        · exact h2 i
      split at h
      · rename_i q hq hgd
        obtain ⟨y, hy, hk⟩ := h
        cases hpu : GC dr ops fl k ((C6 st (Sh.ld q.1) q.2.1 ((Sh q.1).enc y).1 ((Sh q.1).enc y).2).flag (CS st o.op) (Cg st o.op) (DR Sh.ld st o.op)) with
        | false => rw [hpu] at hk; exact hk.elim
        | true =>
          rw [hpu] at hk
          simp only [cond_true] at hk
          obtain ⟨hc1, hc2⟩ := Ha hk
          obtain ⟨O', h2, h3⟩ := EU rest (k + 1) _ _ _ hc2
          obtain ⟨O, o1, o2, o3⟩ := fin ⟨Sh.ld, fun f hs ys => ((Sh q.1).enc y, [Ae P f hs ys ((Sh q.1).enc y).1 ((Sh q.1).enc y).2]), false⟩ (fun f hs ys hp => hp _ (List.mem_cons_self ..)) O' h2
          refine ⟨O, o1, ?_⟩
          have ev : vop T (O k) st o.op = (C6 st (Sh.ld q.1) q.2.1 ((Sh q.1).enc y).1 ((Sh q.1).enc y).2).also [Ae P q.1 q.2.2.1 q.2.2.2 ((Sh q.1).enc y).1 ((Sh q.1).enc y).2] := by
            rw [o2]
            exact Ll (O := ⟨Sh.ld, fun f hs ys => ((Sh q.1).enc y, [Ae P f hs ys ((Sh q.1).enc y).1 ((Sh q.1).enc y).2]), false⟩) hq
          have ep : ∀ ps, GC dr ops fl k (((C6 st (Sh.ld q.1) q.2.1 ((Sh q.1).enc y).1 ((Sh q.1).enc y).2).also ps).flag (CS st o.op) (Cg st o.op) (DR Sh.ld st o.op)) = true := fun ps => hpu
          have el : (O k).lend = Sh.ld := by rw [o2]
          simp only [IX, hg, hgd, ev, el, ep, cond_true]
          refine K3 ?_ (D9 rest (k + 1) _ _ _ o3 h3)
          intro p hp
          rcases List.mem_append.1 hp with hp | hp
          · exact hc1 p hp
          · simp only [List.mem_singleton] at hp; subst hp; exact hy
      · rename_i q gd hq hgd
        obtain ⟨y, hy, hk⟩ := h
        cases hpu : GC dr ops fl k ((C6 st (Sh.ld q.1) q.2.1 ((Sh q.1).enc y).1 ((Sh q.1).enc y).2).flag (CS st o.op) (Cg st o.op) (DR Sh.ld st o.op)) with
        | false => rw [hpu] at hk; exact hk.elim
        | true =>
        rw [hpu] at hk
        simp only [cond_true] at hk
        split at hk
        · rename_i e1 e2 e3
          obtain ⟨O', h2, h3⟩ := EU rest (k + 1) _ _ _ hk
          obtain ⟨O, o1, o2, o3⟩ := fin ⟨Sh.ld, fun f hs ys => ((Sh q.1).enc y, [Ae P f hs ys ((Sh q.1).enc y).1 ((Sh q.1).enc y).2]), false⟩ (fun f hs ys hp => hp _ (List.mem_cons_self ..)) O' h2
          refine ⟨O, o1, ?_⟩
          have ev : vop T (O k) st o.op = (C6 st (Sh.ld q.1) q.2.1 ((Sh q.1).enc y).1 ((Sh q.1).enc y).2).also [Ae P q.1 q.2.2.1 q.2.2.2 ((Sh q.1).enc y).1 ((Sh q.1).enc y).2] := by
            rw [o2]
            exact Ll (O := ⟨Sh.ld, fun f hs ys => ((Sh q.1).enc y, [Ae P f hs ys ((Sh q.1).enc y).1 ((Sh q.1).enc y).2]), false⟩) hq
          have ep : ∀ ps, GC dr ops fl k (((C6 st (Sh.ld q.1) q.2.1 ((Sh q.1).enc y).1 ((Sh q.1).enc y).2).also ps).flag (CS st o.op) (Cg st o.op) (DR Sh.ld st o.op)) = true := fun ps => hpu
          have en : ∀ ps, ((C6 st (Sh.ld q.1) q.2.1 ((Sh q.1).enc y).1 ((Sh q.1).enc y).2).also ps).new = [] := fun _ => e1
          have eu : ∀ ps, ((C6 st (Sh.ld q.1) q.2.1 ((Sh q.1).enc y).1 ((Sh q.1).enc y).2).also ps).put = none := fun _ => e2
          have el : (O k).lend = Sh.ld := by rw [o2]
          simp only [IX, hg, hgd, ev, el, ep, cond_true, en, eu]
          refine HZ ?_ (D9 rest (k + 1) _ _ _ o3 h3)
          intro hpc p hp
          rcases List.mem_append.1 hp with hp | hp
          · rw [e3] at hp; simp at hp
          · simp only [List.mem_singleton] at hp; subst hp; exact hy hpc
        · exact hk.elim
      · rename_i hnt
        have bad : ∀ g, GD P (Fb Sh.ld g) := fun g f hs xs h => (h False (by simp [Fb])).elim
        generalize o.guard.isSome = gg at h
        cases hpu : GC dr ops fl k ((vop T (Fb Sh.ld gg) st o.op).flag (CS st o.op) (Cg st o.op) (DR Sh.ld st o.op)) with
        | false => rw [hpu] at h; exact h.elim
        | true =>
          rw [hpu] at h
          simp only [cond_true] at h
          split at h
          · rename_i hgd
            obtain ⟨h1, h2⟩ := Ha h
            obtain ⟨O', h3, h4⟩ := EU rest (k + 1) _ _ _ h2
            obtain ⟨O, o1, o2, o3⟩ := fin _ (bad gg) O' h3
            refine ⟨O, o1, ?_⟩
            simp only [IX, hg, hgd, o2, L2, hpu, cond_true]
            exact K3 h1 (D9 rest (k + 1) _ _ _ o3 h4)
          · rename_i gd hgd hn hp
            obtain ⟨h1, h2⟩ := Gt h
            obtain ⟨O', h3, h4⟩ := EU rest (k + 1) _ _ _ h2
            obtain ⟨O, o1, o2, o3⟩ := fin _ (bad gg) O' h3
            refine ⟨O, o1, ?_⟩
            simp only [IX, hg, hgd, o2, L2, hpu, cond_true, hn, hp]
            exact HZ h1 (D9 rest (k + 1) _ _ _ o3 h4)
          · exact h.elim
theorem SP {P : Program} {T : TypeId → TE} {Sh : Shs} {ops : Array Oper} {st0 : St} {N : Nat} {E : AU} {w0 : World} {φ0 : Phi} (hT : TOk P T) (hmx : P.follows .mixedOrders = true) (hB : Aap ops N = true) {K : St → Prop} {id : Nat} {draw : Bool} {a : Act}
    (h : Kn P T Sh draw ops 0 ops.toList st0 [] [] fun st' => K (clr ops st')) (hrel : Rel N E st0 φ0 a w0) :
    (Code.region id ops draw).wp P (fun e a' w' => e = .normal ∧ ∃ st' φ', K st' ∧ Rel N E st' φ' a' w' ∧ Ext w0 φ0 w' φ') a w0 := by
  obtain ⟨O, hO, hx⟩ := EU ops.toList 0 st0 [] [] h
  exact Ws hT hO hmx hB hx hrel
end
section
structure Sat (P : Program) (N b : Nat) (p : List Nat) (c : Code) (K : Exit → St → Prop) (st : St) : Prop where
  h : ∀ (E : AU) (φ : Phi) (a : Act) (w : World), Rel N E st φ a w → c.wp P (fun e a' w' => ∃ st' φ', K e st' ∧ Rel N E st' φ' a' w' ∧ Fr b w φ w' φ') a w
def Et (i : Nat) : List (Nat × VV) → VV
  | [] => .dead
  | (j, x) :: l => bif Nat.beq i j then x else Et i l
def Ao (l : List (Nat × VV)) (hs : List Ob) : St := { t := fun i => Et i l, H := BK hs, nx := hs.length }
def JT (st : St) (b : Nat) (refs : List Nat) : List Nat := LU st 64 ((List.range b).flatMap (fun i => (st.H i).refs) ++ refs) (List.range b)
def Nv (st : St) (b : Nat) (ids : List Nat) : Bool := Fa st.nx ids && (List.range b).all fun i =>
  match idx ids i with
  | some j => Nat.beq j i
  | none => false
def UO (b : Nat) (keep : List Nat) (st : St) : List Nat := JT st b (keep.flatMap fun i => GB 8 (st.t i))
def okF (b : Nat) (keep : List Nat) (st : St) : Bool := Nv st b (UO b keep st)
def forgetIds (keep : List Nat) (st : St) (ids : List Nat) : St := Ao (keep.map fun i => (i, QW st ids (st.t i))) (ids.map (G5 st ids))
def forget (b : Nat) (keep : List Nat) (st : St) : St := forgetIds keep st (UO b keep st)
structure Ann where
  keep : List Nat → List Nat
  base : Nat := 0
  cut : List Nat → Bool := fun _ => false
def AbG (K : Exit → St → Prop) (next : St → Prop) : Exit → St → Prop
  | .normal, st => next st
  | e, st => K e st
def O7 (id : Nat) (K : Exit → St → Prop) : Exit → St → Prop
  | .exit j, st => bif Nat.beq j id then K .normal st else K (.exit j) st
  | e, st => K e st
def YO (b : Nat) (keep : List Nat) (J : St → Prop) (K : Exit → St → Prop) : Exit → St → Prop
  | .normal, st => bif okF b keep st then J (forget b keep st) else False
  | e, st => K e st
def NC (l b : Nat) (keep : List Nat) (J : St → Prop) (K : Exit → St → Prop) : Exit → St → Prop
  | .goto l', st => bif Nat.beq l' l && okF b keep st then J (forget b keep st) else False
  | e, st => K e st
def xc (P : Program) (T : TypeId → TE) (Sh : Shs) (N : Nat) (L : Ann) : List Nat → Code → (Exit → St → Prop) → St → Prop
  | _, .skip, K, st => K .normal st
  | _, .label _, K, st => K .normal st
  | _, .region _ ops dr, K, st => Kn P T Sh dr ops 0 ops.toList st [] [] fun st' => K .normal (clr ops st')
  | p, .seq x y, K, st => xc P T Sh N L (0 :: p) x (AbG K fun st' => bif L.cut (1 :: p) then (bif okF L.base (L.keep (1 :: p)) st' then Sat P N L.base (1 :: p) y K (forget L.base (L.keep (1 :: p)) st') else False) else xc P T Sh N L (1 :: p) y K st') st
  | p, .cond c x y, K, st => match st.val c with
    | .sc (.bool b) => (b = true → xc P T Sh N L (0 :: p) x K st) ∧ (b = false → xc P T Sh N L (1 :: p) y K st)
    | _ => False
  | p, .block id c, K, st => xc P T Sh N L (0 :: p) c (O7 id K) st
  | _, .exit id, K, st => K (.exit id) st
  | _, .goto l, K, st => K (.goto l) st
  | _, .ret, K, st => K .ret st
  | p, .loop c, K, st => bif okF L.base (L.keep p) st then Sat P N L.base p (.loop c) K (forget L.base (L.keep p) st) else False
  | p, .scope c, K, st => bif okF L.base (L.keep p) st then Sat P N L.base p (.scope c) K (forget L.base (L.keep p) st) else False
  | _, _, _, _ => False
def D3 : List Nat → Code → Code
  | 0 :: q, .seq x _ => D3 q x
  | 1 :: q, .seq _ y => D3 q y
  | 0 :: q, .cond _ x _ => D3 q x
  | 1 :: q, .cond _ _ y => D3 q y
  | 0 :: q, .block _ c => D3 q c
  | 0 :: q, .loop c => D3 q c
  | 0 :: q, .scope c => D3 q c
  | [], c => c
  | _, _ => .skip
def NB (P : Program) (T : TypeId → TE) (Sh : Shs) (N : Nat) (L : Ann) : List Nat → List Nat → Code → (Exit → St → Prop) → Exit → St → Prop
  | 0 :: q, p, .seq x y, K => NB P T Sh N L q (0 :: p) x (AbG K fun st' => bif L.cut (1 :: p) then (bif okF L.base (L.keep (1 :: p)) st' then Sat P N L.base (1 :: p) y K (forget L.base (L.keep (1 :: p)) st') else False) else xc P T Sh N L (1 :: p) y K st')
  | 1 :: q, p, .seq _ y, K => NB P T Sh N L q (1 :: p) y K
  | 0 :: q, p, .cond _ x _, K => NB P T Sh N L q (0 :: p) x K
  | 1 :: q, p, .cond _ _ y, K => NB P T Sh N L q (1 :: p) y K
  | 0 :: q, p, .block id c, K => NB P T Sh N L q (0 :: p) c (O7 id K)
  | _, _, _, K => K
def DI (N : Nat) : Code → Bool
  | .region _ ops _ => Aap ops N
  | .seq x y => DI N x && DI N y
  | .cond _ x y => DI N x && DI N y
  | .block _ c => DI N c
  | _ => true
section
variable {P : Program} {T : TypeId → TE} {Sh : Shs} {N b : Nat} {L : Ann} {E : AU} {w : World} {φ : Phi} {a : Act} {st : St}
theorem Nz {f : Nat → VV} (i : Nat) : ∀ (l : List Nat), Et i (l.map fun j => (j, f j)) = if i ∈ l then f i else .dead
  | [] => rfl
  | j :: l => by
    simp only [List.map_cons, Et]
    cases hq : Nat.beq i j with
    | true => have := Nat.eq_of_beq_eq_true hq; subst this; simp
    | false =>
      have hne : i ≠ j := by rintro rfl; simp at hq
      rw [cond_false, Nz i l]
      simp [hne]
theorem Nu {ids : List Nat} (h : Nv st b ids = true) : Fa st.nx ids = true ∧ ∀ (i : Nat), i < b → ids[i]? = some i := by
  unfold Nv at h
  rw [Bool.and_eq_true] at h
  refine ⟨h.1, fun i hi => ?_⟩
  have := List.all_eq_true.1 h.2 i (List.mem_range.2 hi)
  split at this
  · rename_i j hj
    have e := Nat.eq_of_beq_eq_true this
    subst e
    exact C9 hj
  · cases this
theorem UM {ids : List Nat} (hk : ∀ (i : Nat), i < b → ids[i]? = some i) : Fr b w φ w (DA ids φ) :=
  ⟨rfl, rfl, rfl, Nat.le_refl _, fun _ _ _ => rfl, fun _ h => .inl (E6.2 (.inr h)), fun id p hb e => ⟨D5 (fun _ => 0) p, by rw [Fd (hk id hb), e]; rfl, by
    cases p with
    | box b => rfl
    | arr c n hd => exact ⟨_, _, _, rfl⟩⟩⟩
theorem IA {ids : List Nat} (hk : Fa st.nx ids = true) (hlv : ∀ id, id < st.nx → φ id ≠ none) (j : Nat) : DA ids φ j ≠ none ↔ j < ids.length := by
  constructor
  · intro h
    obtain ⟨p, hp⟩ := Option.ne_none_iff_exists'.1 h
    obtain ⟨id, _, e1, _⟩ := Gl hp
    exact (List.getElem?_eq_some_iff.1 e1).1
  · intro h
    have e1 : ids[j]? = some ids[j] := List.getElem?_eq_getElem h
    rw [Fd e1]
    have := hlv _ (Er hk j _ e1)
    simpa using this
theorem Rel.forgetIds (h : Rel N E st φ a w) {keep ids : List Nat} (hk : Nv st b ids = true) : ∃ φ', Rel N E (forgetIds keep st ids) φ' a w ∧ Fr b w φ w φ' := by
  obtain ⟨hk1, hk2⟩ := Nu hk
  refine ⟨DA ids φ, ⟨h.sz, h.df, h.old.sub fun _ ho => (FY.1 ho).elim fun _ h => h.elim fun id h => ⟨id, h.2⟩, fun t => ?_, h.hp.lend hk1 (fun _ h => .inl h) (fun _ h => .inl h) h.hp.sub (fun j id e => by simp [Go.Proofs.YtiaebjpcgjkhoaaGreatDoor.forgetIds, Ao, BK, e]), fun id hid => ?_, fun id hid => ?_⟩, UM hk2⟩
  · show V w _ _ (Et t (keep.map fun i => (i, QW st ids (st.t i)))) _
    rw [Nz]
    split
    · exact EL (Gk h.hp (fun _ h => .inl h) fun _ h => .inl h) _ _ _ (h.tm t)
    · exact .dead
  · have hid' : ids.length ≤ id := by have : (ids.map (G5 st ids)).length ≤ id := hid; simpa using this
    exact Classical.byContradiction fun hn => by have := (IA hk1 h.lv id).1 hn; omega
  · have hid' : id < ids.length := by have : id < (ids.map (G5 st ids)).length := hid; simpa using this
    exact (IA hk1 h.lv id).2 hid'
theorem Rel.forget (h : Rel N E st φ a w) {keep : List Nat} (hk : okF b keep st = true) : ∃ φ', Rel N E (forget b keep st) φ' a w ∧ Fr b w φ w φ' := h.forgetIds hk
theorem Sat.mono {p : List Nat} {c : Code} {K K' : Exit → St → Prop} {st : St} (h : Sat P N b p c K st) (hk : ∀ e st, K e st → K' e st) : Sat P N b p c K' st := ⟨fun E φ a w hr =>
  Go.wp_mono (h.h E φ a w hr) fun _ _ _ ⟨st', φ', h1, h2, h3⟩ => ⟨st', φ', hk _ _ h1, h2, h3⟩⟩
theorem FF (hT : TOk P T) (hmx : P.follows .mixedOrders = true) : ∀ (c : Code), DI N c = true → ∀ (p : List Nat) (K : Exit → St → Prop) (st : St), xc P T Sh N L p c K st → Sat P N L.base p c K st
  | .skip, _, p, K, st, h => ⟨fun E φ a w hr => wp_skip ⟨st, φ, h, hr, Fr.refl _ _ _⟩⟩
  | .label l, _, p, K, st, h => ⟨fun E φ a w hr => wp_label ⟨st, φ, h, hr, Fr.refl _ _ _⟩⟩
  | .exit id, _, p, K, st, h => ⟨fun E φ a w hr => wp_exit ⟨st, φ, h, hr, Fr.refl _ _ _⟩⟩
  | .goto l, _, p, K, st, h => ⟨fun E φ a w hr => wp_goto ⟨st, φ, h, hr, Fr.refl _ _ _⟩⟩
  | .ret, _, p, K, st, h => ⟨fun E φ a w hr => wp_ret ⟨st, φ, h, hr, Fr.refl _ _ _⟩⟩
  | .loop c, _, p, K, st, h => ⟨fun E φ a w hr => by
    simp only [xc] at h
    cases hq : okF L.base (L.keep p) st with
    | false => rw [hq] at h; exact h.elim
    | true =>
      rw [hq] at h
      obtain ⟨φ1, hr1, hf1⟩ := hr.forget hq
      exact Go.wp_mono (h.h E φ1 a w hr1) fun _ _ _ ⟨st', φ', h1, h2, h3⟩ => ⟨st', φ', h1, h2, hf1.trans h3⟩⟩
  | .scope c, _, p, K, st, h => ⟨fun E φ a w hr => by
    simp only [xc] at h
    cases hq : okF L.base (L.keep p) st with
    | false => rw [hq] at h; exact h.elim
    | true =>
      rw [hq] at h
      obtain ⟨φ1, hr1, hf1⟩ := hr.forget hq
      exact Go.wp_mono (h.h E φ1 a w hr1) fun _ _ _ ⟨st', φ', h1, h2, h3⟩ => ⟨st', φ', h1, h2, hf1.trans h3⟩⟩
  | .rangeFunc .., _, p, K, st, h => h.elim
  | .refuse _, _, p, K, st, h => h.elim
  | .region id ops draw, hB, p, K, st, h => ⟨fun E φ a w hr =>
    Go.wp_mono (SP (id := id) (draw := draw) hT hmx hB (K := fun st' => K .normal st') h hr) fun e a' w' ⟨he, st', φ', h1, h2, h3⟩ => ⟨st', φ', by rw [he]; exact h1, h2, Fr.of_ext h3⟩⟩
  | .seq x y, hB, p, K, st, h => ⟨fun E φ a w hr => by
    simp only [DI, Bool.and_eq_true] at hB
    refine wp_seq (Go.wp_mono ((FF hT hmx x hB.1 _ _ st h).h E φ a w hr) ?_)
    rintro e a' w' ⟨st', φ', h1, h2, h3⟩
    cases e with
    | normal =>
      have key : Sat P N L.base (1 :: p) y K st' := by
        simp only [AbG] at h1
        cases hcut : L.cut (1 :: p) with
        | false => rw [hcut] at h1; exact FF hT hmx y hB.2 _ K st' h1
        | true =>
          rw [hcut, cond_true] at h1
          cases hq : okF L.base (L.keep (1 :: p)) st' with
          | false => rw [hq] at h1; exact h1.elim
          | true =>
            rw [hq] at h1
            exact ⟨fun E φ a w hr => by
              obtain ⟨φ1, hr1, hf1⟩ := hr.forget hq
              exact Go.wp_mono (h1.h E φ1 a w hr1) fun _ _ _ ⟨st', φ', h1, h2, h3⟩ => ⟨st', φ', h1, h2, hf1.trans h3⟩⟩
      exact Go.wp_mono (key.h E φ' a' w' h2) fun e a'' w'' ⟨st'', φ'', g1, g2, g3⟩ => ⟨st'', φ'', g1, g2, h3.trans g3⟩
    | _ => exact ⟨st', φ', h1, h2, h3⟩⟩
  | .cond c x y, hB, p, K, st, h => ⟨fun E φ a w hr => by
    simp only [DI, Bool.and_eq_true] at hB
    have hc : V w (E.up φ) (some φ) (st.val c) (a.eval c) := by
      cases c with
      | tmp t => exact hr.tm t
      | const v => exact V.litC v
      | global g => exact .dead
      | func f => exact .fn rfl fun j x hx => by simp at hx
    simp only [xc] at h
    split at h
    · rename_i b e
      rw [e] at hc
      refine wp_cond (t := b) hc.sc_inv ?_
      cases b with
      | true => exact (FF hT hmx x hB.1 _ K st (h.1 rfl)).h E φ a w hr
      | false => exact (FF hT hmx y hB.2 _ K st (h.2 rfl)).h E φ a w hr
    · exact h.elim⟩
  | .block id c, hB, p, K, st, h => ⟨fun E φ a w hr => by
    refine wp_block (Go.wp_mono ((FF hT hmx c hB _ _ st h).h E φ a w hr) ?_)
    rintro e a' w' ⟨st', φ', h1, h2, h3⟩
    cases e with
    | exit j =>
      simp only [Exit.inBlock]
      by_cases hj : j = id
      · subst hj
        simp only [O7, Nat.beq_refl, cond_true] at h1
        rw [if_pos rfl]
        exact ⟨st', φ', h1, h2, h3⟩
      · have hb : Nat.beq j id = false := by
          cases hq : Nat.beq j id with
          | true => exact absurd (Nat.eq_of_beq_eq_true hq) hj
          | false => rfl
        simp only [O7, hb, cond_false] at h1
        rw [if_neg hj]
        exact ⟨st', φ', h1, h2, h3⟩
    | _ => exact ⟨st', φ', h1, h2, h3⟩⟩
theorem ES {p : Nat → Prop} (h : ∃ g, p g) : ∃ g, p g ∧ ∀ g', p g' → g ≤ g' := by
  obtain ⟨g, hg⟩ := h
  induction g using Nat.strongRecOn with
  | _ g ih =>
    by_cases hx : ∃ g', g' < g ∧ p g'
    · obtain ⟨g', hlt, hp⟩ := hx; exact ih g' hlt hp
    · exact ⟨g, hg, fun g' hp => Nat.le_of_not_lt fun hlt => hx ⟨g', hlt, hp⟩⟩
theorem MB {c : Code} {Q : Exit → Act → World → Prop} {a : Act} {w : World} (J : Nat → Act → World → Prop) (h0 : ∃ g, J g a w)
    (round : ∀ g a w, J g a w → c.wp P (Exit.then (fun a' w' => ∃ g', g' < g ∧ J g' a' w') Q) a w) : (Code.loop c).wp P Q a w := by
  classical
  let μ : Act → World → Nat := fun a w => if h : ∃ g, J g a w then Classical.choose (ES h) else 0
  have hμ : ∀ a w, (h : ∃ g, J g a w) → J (μ a w) a w ∧ ∀ g', J g' a w → μ a w ≤ g' := by
    intro a w h
    have e : μ a w = Classical.choose (ES h) := dif_pos h
    rw [e]; exact Classical.choose_spec (ES h)
  refine wp_loop (fun a w => ∃ g, J g a w) μ h0 ?_
  intro a w hx
  refine Go.wp_mono (round _ a w (hμ a w hx).1) fun e a' w' h => ?_
  cases e with
  | normal =>
    obtain ⟨g', hlt, hj⟩ := h
    exact ⟨⟨g', hj⟩, Nat.lt_of_le_of_lt ((hμ _ _ ⟨g', hj⟩).2 g' hj) hlt⟩
  | _ => exact h
def VV.le (x y : VV) : Prop := ∀ (w : World) (E : AU) (m : Option Phi) (v : Value), V w E m x v → V w E m y v
theorem VV.le_refl (x : VV) : VV.le x x := fun _ _ _ _ h => h
theorem VV.le_nil {fz : Bool} {n : Nat} {f : Nat → List VV} : VV.le .nl (.sl fz 0 n f) := by
  intro w E m v h
  rw [h.nl_inv]
  exact .nil (Nat.zero_le _)
def leL : List VV → List VV → Prop
  | [], [] => True
  | x :: xs, y :: ys => VV.le x y ∧ leL xs ys
  | _, _ => False
theorem QX : ∀ (l : List VV), leL l l
  | [] => trivial
  | x :: xs => ⟨VV.le_refl x, QX xs⟩
theorem FL : ∀ {l l' : List VV}, leL l l' → l.length = l'.length ∧ ∀ (j : Nat) y, l'[j]? = some y → ∃ x, l[j]? = some x ∧ VV.le x y
  | [], [], _ => ⟨rfl, fun j y h => by simp at h⟩
  | x :: l, y :: l', h => by
    obtain ⟨h1, h2⟩ := FL h.2
    refine ⟨by simp [h1], fun j z hz => ?_⟩
    match j, hz with
    | 0, hz => simp only [List.getElem?_cons_zero, Option.some.injEq] at hz; subst hz; exact ⟨x, rfl, h.1⟩
    | j + 1, hz => exact h2 j z hz
theorem VV.le_sl {fz : Bool} {n s s' : Nat} {f f' : Nat → List VV} (hs : s = s' ∨ n = 0) (h : ∀ i, i < n → leL (f i) (f' i)) : VV.le (.sl fz n s f) (.sl fz n s' f') := by
  intro w E m v hv
  obtain ⟨a, cap, rfl, h1, h2, h3⟩ := hv.sl_inv
  refine V.sl_mk h1 h2 fun hn => ?_
  obtain rfl := hs.resolve_right (by omega)
  obtain ⟨b, off, e, k1, k2, k3, u, k4, k5⟩ := h3 hn
  refine ⟨b, off, e, k1, k2, fun i hi => by rw [← (FL (h i hi)).1]; exact k3 i hi, u, fun i j y hi hy => ?_, fun i j y hi hy => ?_⟩
  · obtain ⟨x, hx, _⟩ := (FL (h i hi)).2 j y hy
    exact k4 i j x hi hx
  · obtain ⟨x, hx, hle⟩ := (FL (h i hi)).2 j y hy
    exact hle _ _ _ _ (k5 i j x hi hx)
theorem VV.le_agg {l l' : List VV} (h : leL l l') : VV.le (.agg l) (.agg l') := by
  intro w E m v hv
  obtain ⟨vs, rfl, h1, h2⟩ := hv.agg_inv
  obtain ⟨k1, k2⟩ := FL h
  exact .agg (h1.trans k1) fun j y hy => let ⟨x, hx, hle⟩ := k2 j y hy; hle _ _ _ _ (h2 j x hx)
theorem VV.le_tup {l l' : List VV} (h : leL l l') : VV.le (.tup l) (.tup l') := by
  intro w E m v hv
  cases hv with | tup h1 h2 =>
  obtain ⟨k1, k2⟩ := FL h
  exact .tup (h1.trans k1) fun j y hy => let ⟨x, hx, hle⟩ := k2 j y hy; hle _ _ _ _ (h2 j x hx)
def Ob.le (o o' : Ob) : Prop := ∀ (w : World) (E : AU) (φ : Phi) (p : Pl), ObV w E φ o p → ObV w E φ o' p
theorem Ob.le_refl (o : Ob) : Ob.le o o := fun _ _ _ _ h => h
theorem Ob.le_box {l l' : List VV} (h : leL l l') : Ob.le (.box l) (.box l') := by
  intro w E φ p hp
  cases p with
  | arr => exact hp.elim
  | box b =>
    obtain ⟨c, ty, h1, h2⟩ := hp
    obtain ⟨k1, k2⟩ := FL h
    exact ⟨c, ty, h1, h2.1.trans k1, fun j y hy => let ⟨x, hx, hle⟩ := k2 j y hy; hle _ _ _ _ (h2.2 j x hx)⟩
theorem Ob.le_arr {fr : Bool} {g n s : Nat} {f f' : Nat → List VV} (h : ∀ i, i < n → leL (f i) (f' i)) : Ob.le (.arr fr g n s f) (.arr fr g n s f') := by
  intro w E φ p hp
  cases p with
  | box b => exact hp.elim
  | arr g' n' hd =>
    obtain ⟨rfl, rfl, hrow⟩ := hp
    refine ⟨rfl, rfl, ?_⟩
    match hd, hrow with
    | none, hrow => exact hrow
    | some (b, cap), hrow =>
      obtain ⟨c, ty, h1, h2, h3, h4, h5, h6, h7⟩ := hrow
      refine ⟨c, ty, h1, h2, h3, h4, fun i hi => by rw [← (FL (h i hi)).1]; exact h5 i hi, fun i j y hi hy => ?_, h7⟩
      obtain ⟨x, hx, hle⟩ := (FL (h i hi)).2 j y hy
      cases fr with
      | true => exact hle _ _ _ _ (h6 i j x hi hx)
      | false => exact hle _ _ _ _ (h6 i j x hi hx)
def leO : List Ob → List Ob → Prop
  | [], [] => True
  | o :: os, o' :: os' => Ob.le o o' ∧ leO os os'
  | _, _ => False
theorem Gm : ∀ {l l' : List Ob}, leO l l' → l.length = l'.length ∧ ∀ (j : Nat), Ob.le (BK l j) (BK l' j)
  | [], [], _ => ⟨rfl, fun j => Ob.le_refl _⟩
  | x :: l, y :: l', h => by
    obtain ⟨h1, h2⟩ := Gm h.2
    refine ⟨by simp [h1], fun j => ?_⟩
    match j with
    | 0 => exact h.1
    | j + 1 => exact h2 j
theorem HRel.le {l l' : List Ob} (h : HRel E (BK l) φ w) (hl : leO l l') : HRel E (BK l') φ w :=
  ⟨h.sub, fun id p e => (Gm hl).2 id _ _ _ _ (h.ob id p e), h.inj, h.free⟩
def leT : List (Nat × VV) → List (Nat × VV) → Prop
  | [], [] => True
  | (i, x) :: l, (j, y) :: l' => (i = j ∧ VV.le x y) ∧ leT l l'
  | _, _ => False
theorem AZ : ∀ (l : List (Nat × VV)), leT l l
  | [] => trivial
  | (_, x) :: xs => ⟨⟨rfl, VV.le_refl x⟩, AZ xs⟩
theorem L8 : ∀ {l l' : List (Nat × VV)}, leT l l' → ∀ t, VV.le (Et t l) (Et t l')
  | [], [], _, _ => VV.le_refl _
  | (i, x) :: l, (j, y) :: l', h, t => by
    obtain ⟨⟨rfl, h1⟩, h2⟩ := h
    simp only [Et]
    cases Nat.beq t i with
    | true => exact h1
    | false => exact L8 h2 t
theorem Sat.le {p : List Nat} {c : Code} {K : Exit → St → Prop} {l l' : List (Nat × VV)} {hs hs' : List Ob} (h1 : leT l l') (h2 : leO hs hs') (h : Sat P N b p c K (Ao l' hs')) : Sat P N b p c K (Ao l hs) :=
  ⟨fun E φ a w hr => h.h E φ a w ⟨hr.sz, hr.df, hr.old, fun t => L8 h1 _ _ _ _ _ (hr.tm t), hr.hp.le h2, fun id hid => hr.fr id (by
    show hs.length ≤ id
    rw [(Gm h2).1]; exact hid), fun id hid => hr.lv id (by
    show id < hs.length
    rw [(Gm h2).1]; exact hid)⟩⟩
theorem Ny {t : Nat} {x y : VV} : ∀ {l : List (Nat × VV)} {k : Nat}, l[k]? = some (t, x) → ∀ i, Et i (l.set k (t, y)) = Et i l ∨ (Et i l = x ∧ Et i (l.set k (t, y)) = y)
  | [], k, h, i => by simp at h
  | (j, z) :: l, 0, h, i => by
    simp only [List.getElem?_cons_zero, Option.some.injEq, Prod.mk.injEq] at h
    obtain ⟨rfl, rfl⟩ := h
    simp only [List.set_cons_zero, Et]
    cases Nat.beq i j with
    | true => exact .inr ⟨rfl, rfl⟩
    | false => exact .inl rfl
  | (j, z) :: l, k + 1, h, i => by
    simp only [List.set_cons_succ, Et]
    cases Nat.beq i j with
    | true => exact .inl rfl
    | false => exact Ny (l := l) (k := k) h i
theorem Sat.own {p : List Nat} {c : Code} {K : Exit → St → Prop} {l : List (Nat × VV)} {hs : List Ob} (k t sz : Nat) (f : Nat → List VV) (hk : l[k]? = some (t, .nl)) (h : Sat P N b p c K (Ao (l.set k (t, .ow hs.length 0 0)) (hs ++ [.arr true 0 0 sz f]))) : Sat P N b p c K (Ao l hs) := by
  refine ⟨fun E φ a w hr => ?_⟩
  have hnone : φ hs.length = none := hr.fr _ (Nat.le_refl _)
  have hroom : Room w [Pl.arr 0 0 none] w := Room.one (Below.refl _ _) fun k hk => by obtain ⟨_, e'⟩ := hk; cases e'
  have hidn : ∀ i, i < [Ob.arr true 0 0 sz f].length → φ (hs.length + i) = none := fun i hi => by
    simp only [List.length_cons, List.length_nil, Nat.zero_add, Nat.lt_one_iff] at hi
    subst hi; exact hnone
  have hnews : Dt w E φ hs.length [Ob.arr true 0 0 sz f] [Pl.arr 0 0 none] w := Dt.one hroom ⟨rfl, rfl, rfl⟩
  have hext := hnews.ext hidn
  have hat : Ci φ hs.length [Pl.arr 0 0 none] hs.length = some (.arr 0 0 none) := Dh (i := 0) rfl
  have hlt : ∀ id, φ id ≠ none → id < hs.length := fun id hn => by
    rcases Nat.lt_or_ge id hs.length with h' | h'
    · exact h'
    · exact absurd (hr.fr id h') hn
  refine Go.wp_mono (h.h E (Ci φ hs.length [Pl.arr 0 0 none]) a w ⟨hr.sz, hr.df, hr.old.ext hext, fun t' => ?_, ?_, fun id hid => ?_, fun id hid => ?_⟩) fun e a' w' ⟨st', φ', h1, h2, h3⟩ => ⟨st', φ', h1, h2, (Fr.of_ext hext).trans h3⟩
  · show V w _ _ (Et t' _) _
    have hv : V w _ _ (Et t' l) _ := hr.tm t'
    rcases Ny (y := .ow hs.length 0 0) hk t' with e | ⟨e1, e2⟩
    · rw [e]; exact hv.ext hext
    · rw [e2]
      rw [e1] at hv
      rw [hv.nl_inv]
      exact .ow hat (Nat.le_refl _) (hd0 := none) ⟨rfl, rfl⟩ fun _ => ⟨rfl, Nat.le_refl _⟩
  · refine hr.hp.news hr.old.lt hnews hidn (fun k hk => ?_) fun i o ho => ?_
    · have := hlt k hk
      show BK (hs ++ _) k = BK hs k
      simp [BK, List.getElem?_append_left this]
    · show BK (hs ++ _) (hs.length + i) = o
      unfold BK
      rw [List.getD_eq_getElem?_getD, List.getElem?_append_right (by omega), show hs.length + i - hs.length = i by omega, ho]
      rfl
  · have hid' : (hs ++ [Ob.arr true 0 0 sz f]).length ≤ id := hid
    simp only [List.length_append, List.length_cons, List.length_nil] at hid'
    rw [CW (.inr (by simp; omega))]
    exact hr.fr id (by show hs.length ≤ id; omega)
  · have hid' : id < (hs ++ [Ob.arr true 0 0 sz f]).length := hid
    simp only [List.length_append, List.length_cons, List.length_nil] at hid'
    by_cases he : id = hs.length
    · subst he; rw [hat]; simp
    · rw [CW (.inl (by omega))]
      exact hr.lv id (by show id < hs.length; omega)
structure Pa (st st' : St) : Prop where
  t : ∀ t, VV.le (st.t t) (st'.t t)
  H : ∀ id, Ob.le (st.H id) (st'.H id)
  nx : st.nx = st'.nx
theorem Pa.refl (st : St) : Pa st st := ⟨fun _ => VV.le_refl _, fun _ => Ob.le_refl _, rfl⟩
theorem Pa.mk' {l l' : List (Nat × VV)} {hs hs' : List Ob} (h1 : leT l l') (h2 : leO hs hs') : Pa (Ao l hs) (Ao l' hs') := ⟨L8 h1, (Gm h2).2, (Gm h2).1⟩
theorem A8 {l l' : List VV} (h : l = l') : leL l l' := by subst h; exact QX l
theorem VV.le_eq {x y : VV} (h : x = y) : VV.le x y := by subst h; exact VV.le_refl x
theorem Rel.le {st' : St} (h : Rel N E st φ a w) (hl : Pa st st') : Rel N E st' φ a w :=
  ⟨h.sz, h.df, h.old, fun t => hl.t t _ _ _ _ (h.tm t), ⟨h.hp.sub, fun id p e => hl.H id _ _ _ _ (h.hp.ob id p e), h.hp.inj, h.hp.free⟩, fun id hid => h.fr id (by rw [hl.nx]; exact hid), fun id hid => h.lv id (by rw [hl.nx]; exact hid)⟩
def Cv (st st' : St) : Prop := ∀ (N : Nat) (E : AU) (φ : Phi) (a : Act) (w : World), Rel N E st φ a w → ∃ φ', Rel N E st' φ' a w ∧ Ext w φ w φ'
theorem Pa.cv {st st' : St} (h : Pa st st') : Cv st st' := fun _ _ φ _ w hr => ⟨φ, hr.le h, Ext.refl w φ⟩
theorem Cv.trans {st st' st'' : St} (h : Cv st st') (k : Cv st' st'') : Cv st st'' := fun N E φ a w hr =>
  let ⟨φ1, r1, e1⟩ := h N E φ a w hr
  let ⟨φ2, r2, e2⟩ := k N E φ1 a w r1
  ⟨φ2, r2, e1.trans e2⟩
theorem Sat.cv {p : List Nat} {c : Code} {K : Exit → St → Prop} {st st' : St} (h : Cv st st') (k : Sat P N b p c K st') : Sat P N b p c K st :=
  ⟨fun E φ a w hr =>
    let ⟨_, r1, e1⟩ := h N E φ a w hr
    Go.wp_mono (k.h E _ a w r1) fun _ _ _ ⟨st', φ', h1, h2, h3⟩ => ⟨st', φ', h1, h2, (Fr.of_ext e1).trans h3⟩⟩
theorem Cv.ownBox {l : List (Nat × VV)} {hs : List Ob} {cs : List VV} (i j sz : Nat) (f : Nat → List VV) (hi : hs[i]? = some (.box cs)) (hj : cs[j]? = some .nl) :
    Cv (Ao l hs) (Ao l (hs.set i (.box (cs.set j (.ow hs.length 0 0))) ++ [.arr true 0 0 sz f])) := by
  intro N E φ a w hr
  have hnone : φ hs.length = none := hr.fr _ (Nat.le_refl _)
  have hroom : Room w [Pl.arr 0 0 none] w := Room.one (Below.refl _ _) fun k hk => by obtain ⟨_, e'⟩ := hk; cases e'
  have hidn : ∀ i, i < [Ob.arr true 0 0 sz f].length → φ (hs.length + i) = none := fun i hi => by
    simp only [List.length_cons, List.length_nil, Nat.zero_add, Nat.lt_one_iff] at hi
    subst hi; exact hnone
  have hnews : Dt w E φ hs.length [Ob.arr true 0 0 sz f] [Pl.arr 0 0 none] w := Dt.one hroom ⟨rfl, rfl, rfl⟩
  have hext := hnews.ext hidn
  have hat : Ci φ hs.length [Pl.arr 0 0 none] hs.length = some (.arr 0 0 none) := Dh (i := 0) rfl
  have hil : i < hs.length := (List.getElem?_eq_some_iff.1 hi).1
  have hlt : ∀ id, φ id ≠ none → id < hs.length := fun id hn => by
    rcases Nat.lt_or_ge id hs.length with h' | h'
    · exact h'
    · exact absurd (hr.fr id h') hn
  have hp := hr.hp.news (H' := BK (hs ++ [.arr true 0 0 sz f])) hr.old.lt hnews hidn (fun k hk => by
    have := hlt k hk
    show BK (hs ++ _) k = BK hs k
    simp [BK, List.getElem?_append_left this]) fun i o ho => by
    show BK (hs ++ _) (hs.length + i) = o
    unfold BK
    rw [List.getD_eq_getElem?_getD, List.getElem?_append_right (by omega), show hs.length + i - hs.length = i by omega, ho]
    rfl
  refine ⟨Ci φ hs.length [Pl.arr 0 0 none], ⟨hr.sz, hr.df, hr.old.ext hext, fun t => V.ext (hr.tm t) hext, ⟨hp.sub, fun id p e => ?_, hp.inj, hp.free⟩, fun id hid => ?_, fun id hid => ?_⟩, hext⟩
  · have hob := hp.ob id p e
    show ObV w E _ (BK (hs.set i _ ++ _) id) p
    by_cases he : id = i
    · subst he
      have e1 : BK (hs ++ [Ob.arr true 0 0 sz f]) id = .box cs := by simp [BK, List.getElem?_append_left hil, hi]
      have e2 : BK (hs.set id (.box (cs.set j (.ow hs.length 0 0))) ++ [Ob.arr true 0 0 sz f]) id = .box (cs.set j (.ow hs.length 0 0)) := by
        simp [BK, List.getElem?_append_left, hil]
      rw [e1] at hob
      rw [e2]
      cases p with
      | arr => exact hob.elim
      | box b =>
        obtain ⟨c, ty, h1, h2⟩ := hob
        refine ⟨c, ty, h1, by simp [h2.1], fun k x hx => ?_⟩
        rw [List.getElem?_set] at hx
        split at hx
        · rename_i hjk
          subst hjk
          split at hx
          · simp only [Option.some.injEq] at hx
            subst hx
            have := h2.2 j _ hj
            rw [this.nl_inv]
            exact .ow hat (Nat.le_refl _) (hd0 := none) ⟨rfl, rfl⟩ fun _ => ⟨rfl, Nat.le_refl _⟩
          · cases hx
        · exact h2.2 k x hx
    · have e1 : BK (hs.set i (.box (cs.set j (.ow hs.length 0 0))) ++ [Ob.arr true 0 0 sz f]) id = BK (hs ++ [Ob.arr true 0 0 sz f]) id := by
        rcases Nat.lt_or_ge id hs.length with h' | h'
        · simp [BK, List.getElem?_append_left, h', List.getElem_set_ne (Ne.symm he)]
        · simp [BK, List.getElem?_append_right, h']
      rw [e1]; exact hob
  · have hid' : (hs.set i (.box (cs.set j (.ow hs.length 0 0))) ++ [Ob.arr true 0 0 sz f]).length ≤ id := hid
    simp only [List.length_append, List.length_set, List.length_cons, List.length_nil] at hid'
    rw [CW (.inr (by simp; omega))]
    exact hr.fr id (by show hs.length ≤ id; omega)
  · have hid' : id < (hs.set i (.box (cs.set j (.ow hs.length 0 0))) ++ [Ob.arr true 0 0 sz f]).length := hid
    simp only [List.length_append, List.length_set, List.length_cons, List.length_nil] at hid'
    by_cases he : id = hs.length
    · subst he; rw [hat]; simp
    · rw [CW (.inl (by omega))]
      exact hr.lv id (by show id < hs.length; omega)
def Up (J : St → Prop) (st : St) : Prop := ∃ st', Cv st st' ∧ J st'
theorem Up.mk {J : St → Prop} {l l' : List (Nat × VV)} {hs hs' : List Ob} (h1 : leT l l') (h2 : leO hs hs') (h : J (Ao l' hs')) : Up J (Ao l hs) := ⟨_, (Pa.mk' h1 h2).cv, h⟩
theorem Up.of {J : St → Prop} {st : St} (h : J st) : Up J st := ⟨st, (Pa.refl st).cv, h⟩
theorem Up.cv {J : St → Prop} {st st' : St} (h : Cv st st') (k : Up J st') : Up J st := let ⟨_, k1, k2⟩ := k; ⟨_, h.trans k1, k2⟩
theorem Yo (hT : TOk P T) (hmx : P.follows .mixedOrders = true) {lc : Code} (c : Code) {K : Exit → St → Prop} {st : St} {p : List Nat} (Sh : Shs) (L : Ann) (keep : List Nat) (J : Nat → St → Prop) (hlc : lc = .loop c) (hB : DI N c = true) (hJ : ∃ g, Up (J g) st)
    (round : ∀ g st, J g st → xc P T Sh N L (0 :: p) c (YO L.base keep (fun st' => ∃ g', g' < g ∧ Up (J g') st') K) st) : Sat P N L.base p lc K st := by
  subst hlc
  refine ⟨fun E φ a w hr => ?_⟩
  obtain ⟨g0, st0, hle0, hg0⟩ := hJ
  obtain ⟨φ0, hr0, he0⟩ := hle0 N E φ a w hr
  refine MB (fun g a' w' => ∃ st' φ', J g st' ∧ Rel N E st' φ' a' w' ∧ Fr L.base w φ w' φ') ⟨g0, st0, φ0, hg0, hr0, Fr.of_ext he0⟩ ?_
  rintro g a' w' ⟨st', φ', h1, h2, h3⟩
  refine Go.wp_mono ((FF hT hmx c hB _ _ st' (round g st' h1)).h E φ' a' w' h2) ?_
  rintro e a'' w'' ⟨st'', φ'', g1, g2, g3⟩
  cases e with
  | normal =>
    simp only [YO] at g1
    cases hq : okF L.base keep st'' with
    | false => rw [hq] at g1; exact g1.elim
    | true =>
      rw [hq] at g1
      obtain ⟨g', k2, st1, hle1, k3⟩ := g1
      obtain ⟨φ3, r3, f3⟩ := g2.forget hq
      obtain ⟨φ4, r4, e4⟩ := hle1 _ _ _ _ _ r3
      exact ⟨g', k2, st1, φ4, k3, r4, h3.trans (g3.trans (f3.trans (Fr.of_ext e4)))⟩
  | _ => exact ⟨st'', φ'', g1, g2, h3.trans g3⟩
theorem KH {c rest : Code} {Q : Exit → Act → World → Prop} {a : Act} {w : World} (l : Nat) (J : Nat → Act → World → Prop) (hf : findLabel c l = some rest)
    (first : c.wp P (Exit.jump l (fun a w => ∃ g, J g a w) Q) a w)
    (pass : ∀ g a w, J g a w → rest.wp P (Exit.jump l (fun a' w' => ∃ g', g' < g ∧ J g' a' w') Q) a w) : (Code.scope c).wp P Q a w := by
  classical
  let μ : Act → World → Nat := fun a w => if h : ∃ g, J g a w then Classical.choose (ES h) else 0
  have hμ : ∀ a w, (h : ∃ g, J g a w) → J (μ a w) a w ∧ ∀ g', J g' a w → μ a w ≤ g' := by
    intro a w h
    have e : μ a w = Classical.choose (ES h) := dif_pos h
    rw [e]; exact Classical.choose_spec (ES h)
  refine wp_scope_jumps l (fun a w => ∃ g, J g a w) μ hf first ?_
  intro a w hx
  refine Go.wp_mono (pass _ a w (hμ a w hx).1) fun e a' w' h => ?_
  cases e with
  | goto l' =>
    obtain ⟨h1, g', hlt, hj⟩ := h
    exact ⟨h1, ⟨g', hj⟩, Nat.lt_of_le_of_lt ((hμ _ _ ⟨g', hj⟩).2 g' hj) hlt⟩
  | _ => exact h
theorem V2 (hT : TOk P T) (hmx : P.follows .mixedOrders = true) {lc : Code} (c rest : Code) {K : Exit → St → Prop} {st : St} {p : List Nat} (Sh : Shs) (L : Ann) (keep : List Nat) (l : Nat) (J : Nat → St → Prop) (hlc : lc = .scope c) (hf : findLabel c l = some rest) (hB : DI N c = true) (hB' : DI N rest = true)
    (first : xc P T Sh N L (0 :: p) c (NC l L.base keep (fun st' => ∃ g, Up (J g) st') K) st)
    (pass : ∀ g st, J g st → xc P T Sh N L (1 :: p) rest (NC l L.base keep (fun st' => ∃ g', g' < g ∧ Up (J g') st') K) st) : Sat P N L.base p lc K st := by
  subst hlc
  refine ⟨fun E φ a w hr => ?_⟩
  have conv : ∀ (J1 : St → Prop) (J2 : Act → World → Prop) (φ1 : Phi) (w1 : World), Fr L.base w φ w1 φ1 → (∀ st' φ' a' w', J1 st' → Rel N E st' φ' a' w' → Fr L.base w φ w' φ' → J2 a' w') → ∀ e a' w', (∃ st' φ', NC l L.base keep J1 K e st' ∧ Rel N E st' φ' a' w' ∧ Fr L.base w1 φ1 w' φ') →
      Exit.jump l J2 (fun e a' w' => ∃ st' φ', K e st' ∧ Rel N E st' φ' a' w' ∧ Fr L.base w φ w' φ') e a' w' := by
    rintro J1 J2 φ1 w1 hf1 hJ e a' w' ⟨st', φ', g1, g2, g3⟩
    cases e with
    | goto l' =>
      simp only [NC] at g1
      cases hq : (Nat.beq l' l && okF L.base keep st') with
      | false => rw [hq] at g1; exact g1.elim
      | true =>
        rw [hq] at g1
        rw [Bool.and_eq_true] at hq
        obtain ⟨φ3, r3, f3⟩ := g2.forget hq.2
        exact ⟨Nat.eq_of_beq_eq_true hq.1, hJ _ φ3 _ _ g1 r3 (hf1.trans (g3.trans f3))⟩
    | _ => exact ⟨st', φ', g1, g2, hf1.trans g3⟩
  refine KH l (fun g a' w' => ∃ st' φ', J g st' ∧ Rel N E st' φ' a' w' ∧ Fr L.base w φ w' φ') hf ?_ ?_
  · exact Go.wp_mono ((FF hT hmx c hB _ _ st first).h E φ a w hr) (conv _ _ φ w (Fr.refl _ _ _) fun st' φ' a' w' ⟨g, st1, hle, hg⟩ h2 h3 => let ⟨φ4, r4, e4⟩ := hle _ _ _ _ _ h2; ⟨g, st1, φ4, hg, r4, h3.trans (Fr.of_ext e4)⟩)
  · rintro g a' w' ⟨st', φ', h1, h2, h3⟩
    exact Go.wp_mono ((FF hT hmx rest hB' _ _ st' (pass g st' h1)).h E φ' a' w' h2) (conv _ _ φ' w' h3 fun st' φ' a' w' ⟨g', hlt, st1, hle, hg⟩ h2 h3 => let ⟨φ4, r4, e4⟩ := hle _ _ _ _ _ h2; ⟨g', hlt, st1, φ4, hg, r4, h3.trans (Fr.of_ext e4)⟩)
end
end
section
def St.init (hs : List Ob) (xs : List VV) : St := { t := fun i => xs.getD i .dead, H := BK hs, nx := hs.length }
def TU (T : TypeId → TE) (st : St) : ResultVar → Option VV
  | .tmp t => some (st.t t)
  | .cell p t => match GL T st t (st.t p) with
    | { val := x, new := _, put := _, chk := [] } => some x
    | _ => none
def M1 (T : TypeId → TE) (st : St) : List ResultVar → Option (List VV)
  | [] => some []
  | r :: rs => match TU T st r, M1 T st rs with
    | some x, some xs => some (x :: xs)
    | _, _ => none
def Lj (T : TypeId → TE) (st : St) (rs : List ResultVar) : Option VV :=
  match M1 T st rs with
  | some [x] => some x
  | some xs => some (.tup xs)
  | none => none
def UH (b : Nat) (st : St) (x : VV) : Option (List Ob × VV) :=
  bif Nv st b (JT st b (GB 8 x)) then some ((JT st b (GB 8 x)).map (G5 st (JT st b (GB 8 x))), QW st (JT st b (GB 8 x)) x) else none
def UG (T : TypeId → TE) (pub : Bool) (b : Nat) (rs : List ResultVar) (st : St) : Option (List Ob × VV) :=
  match Lj T st rs with
  | some x =>
    bif pub then
      match EM st.H (st.nx + 4) x with
      | some (y, ids) => UH b { st with H := DY ids st.H } y
      | none => none
    else UH b st x
  | none => none
def AeU (T : TypeId → TE) (pub : Bool) (b : Nat) (rs : List ResultVar) (hs : List Ob) (r : VV) : Exit → St → Prop
  | .normal, st | .ret, st => match UG T pub b rs st with
    | some (hs', r') => leO hs' hs ∧ VV.le r' r
    | none => False
  | _, _ => False
section
variable {P : Program} {T : TypeId → TE} {Sh : Shs} {N b : Nat} {L : Ann} {w : World} {E : AU} {φ : Phi} {st : St} {a : Act}
theorem XR (hT : TOk P T) (h : Rel N E st φ a w) {r : ResultVar} {x : VV} (hr : TU T st r = some x) :
    ∃ v, (match r with | .tmp t => pure (a.tmps.getD t undef) | .cell p t => do loadVar t (← asAddr (a.tmps.getD p undef)) : Sem Value).run P w = .ok v w ∧ V w (E.up φ) (some φ) x v := by
  cases r with
  | tmp t =>
    simp only [TU, Option.some.injEq] at hr
    subst hr
    exact ⟨_, rfl, h.tm t⟩
  | cell p t =>
    simp only [TU] at hr
    split at hr
    · rename_i y n u hl
      simp only [Option.some.injEq] at hr
      subst hr
      have hp := h.tm p
      obtain ⟨v, e1, e2⟩ := Yr (P := P) hT h.hp (fun _ _ => rfl) hp (t := t) (by rw [hl]; intro p hp; simp at hp)
      rw [hl] at e2
      refine ⟨v, ?_, e2⟩
      have haddr : ∃ ad, a.tmps.getD p undef = .pointer (some ad) := by
        generalize a.tmps.getD p undef = vp at hp
        generalize st.t p = z at hp hl
        cases z with
        | bp id off => obtain ⟨b, _, e⟩ := hp.bp_inv; exact ⟨_, e⟩
        | ep id gen sz i o => obtain ⟨_, _, _, b, _, _, e, _⟩ := hp.ep_inv; exact ⟨_, e⟩
        | tp cs => obtain ⟨b, off, e, _⟩ := hp.tp_inv; exact ⟨_, e⟩
        | _ => simp [GL, Res.bad] at hl
      obtain ⟨ad, e⟩ := haddr
      rw [e] at e1
      simp only [e, asAddr, Sem.run_bind, Sem.run_pure, Result.andThen_ok]
      simpa [Instr.loadAt, Instr.sureAddr] using e1
    · cases hr
theorem PC (hT : TOk P T) (h : Rel N E st φ a w) : ∀ (rs : List ResultVar) (xs : List VV), M1 T st rs = some xs →
    ∃ vs : List Value, (rs.mapM (fun r => match r with | .tmp t => pure (a.tmps.getD t undef) | .cell p t => do loadVar t (← asAddr (a.tmps.getD p undef)) : ResultVar → Sem Value)).run P w = .ok vs w ∧ CY w (E.up φ) (some φ) xs vs.toArray
  | [], xs, hx => by
    simp only [M1, Option.some.injEq] at hx
    subst hx
    exact ⟨[], rfl, rfl, fun j x h => by simp at h⟩
  | r :: rs, xs, hx => by
    simp only [M1] at hx
    split at hx
    · rename_i x xs' h1 h2
      simp only [Option.some.injEq] at hx
      subst hx
      obtain ⟨v, e1, e2⟩ := XR hT h h1
      obtain ⟨vs, g1, g2⟩ := PC hT h rs xs' h2
      refine ⟨v :: vs, ?_, by simp [← g2.1], fun j y hy => ?_⟩
      · rw [List.mapM_cons]
        simp only [Sem.run_bind, e1, g1, Result.andThen_ok, Sem.run_pure]
      · match j, hy with
        | 0, hy => simp only [List.getElem?_cons_zero, Option.some.injEq] at hy; subst hy; exact e2
        | j + 1, hy =>
          have := g2.2 j y hy
          simpa [Array.getD_eq_getD_getElem?] using this
    · cases hx
theorem PB (hT : TOk P T) (h : Rel N E st φ a w) {fn : Func} {r : VV} (hr : Lj T st fn.results.toList = some r) : ∃ v, (results fn a.tmps).run P w = .ok v w ∧ V w (E.up φ) (some φ) r v := by
  unfold Lj at hr
  cases hx : M1 T st fn.results.toList with
  | none => rw [hx] at hr; cases hr
  | some xs =>
    obtain ⟨vs, g1, g2⟩ := PC hT h _ xs hx
    have hrun : (results fn a.tmps).run P w = .ok (if h : vs.toArray.size = 1 then vs.toArray[0] else .tuple vs.toArray) w := by
      unfold results
      rw [Array.mapM_eq_mapM_toList, Sem.run_bind, Sem.run_map]
      have key : ∀ (r : Result (List Value)), r = .ok vs w → ((r.andThen fun a w' => Result.ok a.toArray w').andThen fun a w' => Sem.run P (pure (if h : a.size = 1 then a[0] else Value.tuple a)) w') = .ok (if h : vs.toArray.size = 1 then vs.toArray[0] else .tuple vs.toArray) w := by rintro _ rfl; rfl
      exact key _ g1
    refine ⟨_, hrun, ?_⟩
    rw [hx] at hr
    match xs, hr, g2 with
    | [], hr, g2 =>
      simp only [Option.some.injEq] at hr
      subst hr
      have h0 : vs.toArray.size = 0 := g2.1
      rw [dif_neg (by omega)]
      exact .tup g2.1 g2.2
    | [x], hr, g2 =>
      simp only [Option.some.injEq] at hr
      subst hr
      have h0 : vs.toArray.size = 1 := g2.1
      rw [dif_pos h0]
      have := g2.2 0 x rfl
      simp only [Array.getD] at this
      rw [dif_pos (by omega)] at this
      exact this
    | x :: y :: xs, hr, g2 =>
      simp only [Option.some.injEq] at hr
      subst hr
      have h0 : vs.toArray.size = xs.length + 2 := by rw [g2.1]; simp
      rw [dif_neg (by omega)]
      exact .tup g2.1 g2.2
def fnB (fn : Func) (n : Nat) : Bool := fn.body.isSome && DI fn.ntmps (fn.body.getD .skip) && !(fn.name == "runtime.NumGoroutine") && Nat.ble n fn.ntmps
def TJ (fn : Func) : Code := fn.body.getD .skip
theorem QF (h : HRel E st.H φ w) (hlv : ∀ id, id < st.nx → φ id ≠ none) {x : VV} {v : Value} (hx : V w (E.up φ) (some φ) x v) {hs : List Ob} {r : VV} (ho : UH b st x = some (hs, r)) :
    ∃ φ', HRel E (BK hs) φ' w ∧ Fr b w φ w φ' ∧ (∀ id, φ' id ≠ none ↔ id < hs.length) ∧ V w (E.up φ') (some φ') r v := by
  unfold UH at ho
  generalize JT st b (GB 8 x) = ids at ho
  cases hk : Nv st b ids with
  | false => rw [hk] at ho; cases ho
  | true =>
    rw [hk] at ho
    simp only [cond_true, Option.some.injEq, Prod.mk.injEq] at ho
    obtain ⟨rfl, rfl⟩ := ho
    obtain ⟨hk1, hk2⟩ := Nu hk
    refine ⟨DA ids φ, h.lend hk1 (fun _ h => .inl h) (fun _ h => .inl h) h.sub (fun j id e => by simp [BK, e]), UM hk2, fun id => ?_, EL (Gk h (fun _ h => .inl h) fun _ h => .inl h) _ _ _ hx⟩
    rw [List.length_map]
    exact IA hk1 hlv id
theorem YG (hT : TOk P T) (h : Rel N E st φ a w) {fn : Func} {pub : Bool} {hs : List Ob} {r : VV} (ho : UG T pub b fn.results.toList st = some (hs, r)) :
    ∃ v φ', (results fn a.tmps).run P w = .ok v w ∧ HRel E (BK hs) φ' w ∧ Fr b w φ w φ' ∧ (∀ id, φ' id ≠ none ↔ id < hs.length) ∧ V w (E.up φ') (some φ') r v := by
  unfold UG at ho
  split at ho
  · rename_i x hx
    obtain ⟨v, h1, h2⟩ := PB hT h hx
    cases pub with
    | false =>
      obtain ⟨φ', k1, k2, k3, k4⟩ := QF h.hp h.lv h2 ho
      exact ⟨v, φ', h1, k1, k2, k3, k4⟩
    | true =>
      simp only [cond_true] at ho
      split at ho
      · rename_i y ids hp
        have h3 := Jm (ids := ids) h.hp _ x y v ids h2 hp fun _ h => h
        obtain ⟨φ', k1, k2, k3, k4⟩ := QF (st := { st with H := DY ids st.H }) (h.hp.gone (ids := ids)) (fun id hid e => h.lv id hid (Cx.1 e)) (V.held (V.unhold h3)) ho
        exact ⟨v, φ', h1, k1, (Fr.of_ext CF).trans k2, k3, k4⟩
      · cases ho
  · cases ho
def Y5 (P : Program) (T : TypeId → TE) (Sh : Shs) (L : Ann) (pub : Bool) (fn : Func) (hs : List Ob) (xs : List VV) (hs' : List Ob) (r : VV) : Prop :=
  xc P T Sh fn.ntmps L [] (TJ fn) (AeU T pub L.base fn.results.toList hs' r) (St.init hs xs)
theorem XP (hT : TOk P T) (hmx : P.follows .mixedOrders = true) {f : FuncId} {fn : Func} {hs : List Ob} {xs : List VV} {hs' : List Ob} {r : VV} (Sh : Shs) (L : Ann) (pub : Bool) (hf : P.funcs[f]? = some fn)
    (hfn : fnB fn xs.length = true) (hb : L.base = hs.length) (h : Y5 P T Sh L pub fn hs xs hs' r) : Ae P f hs xs hs' r := by
  unfold Y5 TJ at h
  unfold fnB at hfn
  simp only [Bool.and_eq_true, Bool.not_eq_true'] at hfn
  obtain ⟨⟨⟨hb1, hB⟩, hn⟩, hx⟩ := hfn
  obtain ⟨c, hbd⟩ := Option.isSome_iff_exists.1 hb1
  rw [hbd, Option.getD_some] at h hB
  refine ⟨⟨fn, hf, by rw [hbd]; rfl, hn⟩, fun w E φ vs hz hH hφ hs1 => ?_⟩
  have hxl := Nat.le_of_ble_eq_true hx
  have hrel : Rel fn.ntmps E (St.init hs xs) φ { tmps := vs ++ Array.replicate (fn.ntmps - vs.size) undef, defers := [] } w := by
    refine ⟨?_, rfl, hz, fun t => ?_, hH, fun id hid => ?_, fun id hid => (hφ id).2 hid⟩
    · simp [hs1.1]; omega
    · show V w _ _ (xs.getD t .dead) _
      cases hq : xs[t]? with
      | none => rw [List.getD_eq_getElem?_getD, hq]; exact .dead
      | some x =>
        have ht : t < vs.size := by rw [hs1.1]; exact (List.getElem?_eq_some_iff.1 hq).1
        rw [List.getD_eq_getElem?_getD, hq]
        have := hs1.2 t x hq
        have e : (vs ++ Array.replicate (fn.ntmps - vs.size) undef).getD t undef = vs.getD t undef := by
          simp [Array.getD_eq_getD_getElem?, Array.getElem?_append_left ht]
        rw [e]
        exact this
    · have hid' : hs.length ≤ id := hid
      exact Classical.byContradiction fun hn => by have := (hφ id).1 hn; omega
  refine calls_of_wp hf hbd (Go.wp_mono ((FF hT hmx c hB _ _ _ h).h E φ _ w hrel) ?_)
  rintro e a' w' ⟨st', φ', h1, h2, h3⟩
  have key : (match UG T pub L.base fn.results.toList st' with
    | some (hs'', r') => leO hs'' hs' ∧ VV.le r' r
    | none => False) → a'.defers = [] ∧ ∃ v, (results fn a'.tmps).run P w' = .ok v w' ∧ ∃ v' φ'', Ending.returned v = .returned v' ∧ HRel E (BK hs') φ'' w' ∧ Fr hs.length w φ w' φ'' ∧ (∀ id, φ'' id ≠ none ↔ id < hs'.length) ∧ V w' (E.up φ'') (some φ'') r v' := by
    intro hres
    split at hres
    · rename_i hs'' r' ho
      obtain ⟨v, φ'', g1, g2, g3, g4, g5⟩ := YG hT h2 ho
      have hl := (Gm hres.1).1
      refine ⟨h2.df, v, g1, v, φ'', rfl, g2.le hres.1, ?_, fun id => by rw [← hl]; exact g4 id, hres.2 _ _ _ _ g5⟩
      rw [← hb]
      exact h3.trans g3
    · exact hres.elim
  cases e with
  | normal => exact key h1
  | ret => exact key h1
  | _ => exact h1.elim
theorem Ae.le {f : FuncId} {hs hs' hs1 hs2 : List Ob} {xs xs1 : List VV} {r r' : VV} (h : Ae P f hs xs hs' r) (h1 : leO hs1 hs) (h2 : leL xs1 xs) (h3 : leO hs' hs2) (h4 : VV.le r r') : Ae P f hs1 xs1 hs2 r' := by
  refine ⟨h.callable, fun w E φ vs hz hH hφ hs0 => ?_⟩
  obtain ⟨k1, k2⟩ := FL h2
  have hl1 := (Gm h1).1
  have hl3 := (Gm h3).1
  refine (h.call w E φ vs hz (hH.le h1) (fun id => by rw [← hl1]; exact hφ id) ⟨hs0.1.trans k1, fun j y hy => let ⟨x, hx, hle⟩ := k2 j y hy; hle _ _ _ _ (hs0.2 j x hx)⟩).mono ?_
  rintro e w' ⟨v, φ', e1, g1, g2, g3, g4⟩
  exact ⟨v, φ', e1, g1.le h3, by rw [hl1]; exact g2, fun id => by rw [← hl3]; exact g3 id, h4 _ _ _ _ g4⟩
end
end
section
structure Ctx where
  P : Program
  T : TypeId → TE
  Sh : Shs
  N : Nat
  L : Ann
  code : Code
  p0 : List Nat
  K0 : Exit → St → Prop
def Ctx.goal (c : Ctx) (st : St) : Prop := xc c.P c.T c.Sh c.N c.L c.p0 c.code c.K0 st
def Ctx.sub (c : Ctx) (rel : List Nat) : Code := D3 rel c.code
def Ctx.k (c : Ctx) (rel : List Nat) : Exit → St → Prop := NB c.P c.T c.Sh c.N c.L rel c.p0 c.code c.K0
def Ctx.at (c : Ctx) (rel : List Nat) : List Nat := rel.reverse ++ c.p0
def AH (c : Ctx) (rel : List Nat) (st : St) : Prop := Sat c.P c.N c.L.base (c.at rel) (c.sub rel) (c.k rel) st
def Ctx.loop (c : Ctx) (rel : List Nat) (J : St → Prop) : Ctx :=
  { c with code := D3 (rel ++ [0]) c.code, p0 := 0 :: c.at rel, K0 := YO c.L.base (c.L.keep (c.at rel)) J (c.k rel) }
def Ctx.first (c : Ctx) (rel : List Nat) (l : Nat) (J : St → Prop) : Ctx :=
  { c with code := D3 (rel ++ [0]) c.code, p0 := 0 :: c.at rel, K0 := NC l c.L.base (c.L.keep (c.at rel)) J (c.k rel) }
def Ctx.pass (c : Ctx) (rel : List Nat) (l : Nat) (J : St → Prop) : Ctx :=
  { c with code := (findLabel (D3 (rel ++ [0]) c.code) l).getD .skip, p0 := 1 :: c.at rel, K0 := NC l c.L.base (c.L.keep (c.at rel)) J (c.k rel) }
def Ctx.cut (c : Ctx) (rel : List Nat) : Ctx := { c with code := D3 rel c.code, p0 := c.at rel, K0 := c.k rel }
def Ag (P : Program) (T : TypeId → TE) (Sh : Shs) (L : Ann) (pub : Bool) (fn : Func) (hs' : List Ob) (r : VV) : Ctx :=
  ⟨P, T, Sh, fn.ntmps, L, TJ fn, [], AeU T pub L.base fn.results.toList hs' r⟩
theorem V4 {c : Ctx} (hT : TOk c.P c.T) (hmx : c.P.follows .mixedOrders = true) {rel : List Nat} {st : St} (J : Nat → St → Prop) (hl : c.sub rel = .loop (D3 (rel ++ [0]) c.code)) (hB : DI c.N (D3 (rel ++ [0]) c.code) = true) (hJ : ∃ g, Up (J g) st)
    (round : ∀ g st, J g st → (c.loop rel fun st' => ∃ g', g' < g ∧ Up (J g') st').goal st) : AH c rel st :=
  Yo (L := c.L) (p := c.at rel) (K := c.k rel) hT hmx _ c.Sh (c.L.keep (c.at rel)) J hl hB hJ round
theorem Sm {c : Ctx} (hT : TOk c.P c.T) (hmx : c.P.follows .mixedOrders = true) {rel : List Nat} {st : St} (l : Nat) (J : Nat → St → Prop) (hl : c.sub rel = .scope (D3 (rel ++ [0]) c.code)) (hf : (findLabel (D3 (rel ++ [0]) c.code) l).isSome = true)
    (hB : DI c.N (D3 (rel ++ [0]) c.code) = true) (hB' : DI c.N ((findLabel (D3 (rel ++ [0]) c.code) l).getD .skip) = true)
    (first : (c.first rel l fun st' => ∃ g, Up (J g) st').goal st) (pass : ∀ g st, J g st → (c.pass rel l fun st' => ∃ g', g' < g ∧ Up (J g') st').goal st) : AH c rel st := by
  obtain ⟨rest, hr⟩ := Option.isSome_iff_exists.1 hf
  have e : (findLabel (D3 (rel ++ [0]) c.code) l).getD .skip = rest := by rw [hr]; rfl
  refine V2 (L := c.L) (p := c.at rel) (K := c.k rel) hT hmx _ rest c.Sh (c.L.keep (c.at rel)) l J hl hr hB (by rw [← e]; exact hB') first fun g st h => ?_
  rw [← e]
  exact pass g st h
theorem AH.le {c : Ctx} {rel : List Nat} {l l' : List (Nat × VV)} {hs hs' : List Ob} (h1 : leT l l') (h2 : leO hs hs') (h : AH c rel (Ao l' hs')) : AH c rel (Ao l hs) := Sat.le h1 h2 h
theorem AH.own {c : Ctx} {rel : List Nat} {l : List (Nat × VV)} {hs : List Ob} (k t sz : Nat) (f : Nat → List VV) (hk : l[k]? = some (t, .nl)) (h : AH c rel (Ao (l.set k (t, .ow hs.length 0 0)) (hs ++ [.arr true 0 0 sz f]))) : AH c rel (Ao l hs) := Sat.own k t sz f hk h
structure A9 (A : Prop) : Prop where
  out : A
theorem A9.raw {A Q : Prop} (e : A = Q) (h : Q) : A9 A := ⟨e.mpr h⟩
theorem Ah {P : Program} {T : TypeId → TE} (hT : TOk P T) (hmx : P.follows .mixedOrders = true) {f : FuncId} {fn : Func} {hs : List Ob} {xs : List VV} {hs' : List Ob} {r : VV} {Sh : Shs} {L : Ann} {pub : Bool} {Q : Prop} (hf : P.funcs[f]? = some fn)
    (hfn : fnB fn xs.length = true) (hb : L.base = hs.length) (e : (Ag P T Sh L pub fn hs' r).goal (St.init hs xs) = Q) (h : Q) : Ae P f hs xs hs' r :=
  XP hT hmx Sh L pub hf hfn hb (e.mpr h)
theorem D0 {c : Ctx} (hT : TOk c.P c.T) (hmx : c.P.follows .mixedOrders = true) {rel : List Nat} {st : St} {Q : Prop} (hB : DI c.N (D3 rel c.code) = true) (e : (c.cut rel).goal st = Q) (h : Q) : AH c rel st :=
  FF (L := c.L) hT hmx _ hB _ _ _ (e.mpr h)
theorem Bh {c : Ctx} (hT : TOk c.P c.T) (hmx : c.P.follows .mixedOrders = true) {rel : List Nat} {st : St} (J : Nat → St → Prop) (hl : c.sub rel = .loop (D3 (rel ++ [0]) c.code)) (hB : DI c.N (D3 (rel ++ [0]) c.code) = true) (hJ : ∃ g, Up (J g) st)
    (round : ∀ g st, J g st → A9 ((c.loop rel fun st' => ∃ g', g' < g ∧ Up (J g') st').goal st)) : AH c rel st :=
  V4 hT hmx J hl hB hJ fun g st h => (round g st h).out
theorem V1 {c : Ctx} (hT : TOk c.P c.T) (hmx : c.P.follows .mixedOrders = true) {rel : List Nat} {st : St} (l : Nat) (J : Nat → St → Prop) (hl : c.sub rel = .scope (D3 (rel ++ [0]) c.code)) (hf : (findLabel (D3 (rel ++ [0]) c.code) l).isSome = true)
    (hB : DI c.N (D3 (rel ++ [0]) c.code) = true) (hB' : DI c.N ((findLabel (D3 (rel ++ [0]) c.code) l).getD .skip) = true)
    (first : A9 ((c.first rel l fun st' => ∃ g, Up (J g) st').goal st)) (pass : ∀ g st, J g st → A9 ((c.pass rel l fun st' => ∃ g', g' < g ∧ Up (J g') st').goal st)) : AH c rel st :=
  Sm hT hmx l J hl hf hB hB' first.out fun g st h => (pass g st h).out
end
section
section
variable {w : World} {E : AU} {m : Option Phi} {v : Value}
theorem V.unmap {φ : Phi} (hφ : ∀ id, φ id = none) {x : VV} (h : V w E (some φ) x v) : V w E none x v := by
  generalize hm : some φ = m0 at h
  induction h with
  | dead => exact .dead
  | sc => exact .sc
  | nl => exact .nl
  | nil h => exact .nil h
  | sl u h1 h2 h3 h4 h5 h6 h7 _ => exact .sl u h1 h2 h3 h4 h5 h6 h7
  | tp u h1 h2 h3 h4 _ => exact .tp u h1 h2 h3 h4
  | bp h => obtain rfl := Option.some.inj hm; rw [hφ] at h; cases h
  | ow h => obtain rfl := Option.some.inj hm; rw [hφ] at h; cases h
  | ep h => obtain rfl := Option.some.inj hm; rw [hφ] at h; cases h
  | agg h1 h2 ih => exact .agg h1 fun j x hx => ih j x hx hm
  | tup h1 h2 ih => exact .tup h1 fun j x hx => ih j x hx hm
  | fn h1 h2 ih => exact .fn h1 fun j x hx => ih j x hx hm
  | er h => exact .er h
theorem CY.cons_inv {x : VV} {xs : List VV} {vs : Array Value} (h : CY w E m (x :: xs) vs) : ∃ u us, vs = #[u] ++ us ∧ V w E m x u ∧ CY w E m xs us := by
  obtain ⟨l⟩ := vs
  match l, h with
  | [], h => have := h.1; simp at this
  | u :: l, h =>
    refine ⟨u, l.toArray, by simp, h.2 0 x rfl, by have := h.1; simpa using this, fun j y hy => ?_⟩
    have := h.2 (j + 1) y hy
    simpa [Array.getD_eq_getD_getElem?] using this
theorem CY.nil_inv {vs : Array Value} (h : CY w E m [] vs) : vs = #[] := by
  have := h.1; exact Array.eq_empty_of_size_eq_zero (by simpa using this)
theorem V.agg2_inv {x y : VV} (h : V w E m (.agg [x, y]) v) : ∃ a b, v = .agg #[a, b] ∧ V w E m x a ∧ V w E m y b := by
  obtain ⟨vs, rfl, h1, h2⟩ := h.agg_inv
  obtain ⟨l⟩ := vs
  match l, h1, h2 with
  | [a, b], _, h2 => exact ⟨a, b, rfl, h2 0 x rfl, h2 1 y rfl⟩
theorem RX {x y : VV} {a b : Value} (h1 : V w E m x a) (h2 : V w E m y b) : V w E m (.tup [x, y]) (.tuple #[a, b]) := by
  refine .tup rfl fun j z hz => ?_
  match j, hz with
  | 0, hz => simp only [List.getElem?_cons_zero, Option.some.injEq] at hz; subst hz; exact h1
  | 1, hz => simp only [List.getElem?_cons_succ, List.getElem?_cons_zero, Option.some.injEq] at hz; subst hz; exact h2
  | j + 2, hz => simp at hz
end
theorem Ae.hand {P : Program} {f : FuncId} {xs : List VV} {r : VV} (hc : JH P f)
    (h : ∀ (w : World) (E : AU) (vs : Array Value), (∀ k, E.fz k → k < w.heap.size) → EJ w → (∀ k, k ∈ G4 → k < w.heap.size) → (∀ k, E.br k → E.fz k) → CY w E none xs vs → Calls P f vs w fun e w' => ∃ v, e = .returned v ∧ V w' E none r v ∧ Below w.heap.size w w') : Ae P f [] xs [] r := by
  refine ⟨hc, fun w E φ vs hz hH hφ hs => ?_⟩
  have hnone : ∀ id, φ id = none := fun id => Classical.byContradiction fun hn => by have := (hφ id).1 hn; simp at this
  refine (h w (E.up φ) vs ?_ hz.lib.at' hz.lib.lt ?_ ⟨hs.1, fun j x hx => (hs.2 j x hx).unmap hnone⟩).mono ?_
  · rintro k (hk | hk)
    · exact hz.lt k hk
    · exact hH.lt hk
  · exact fun k hk => hk.imp (hH.sub k) fun h => h
  · rintro e w' ⟨v, rfl, hV, hB⟩
    exact ⟨v, φ, rfl, hH.below hB, Fr.of_ext (Ext.of_below hB), hφ, hV.held⟩
theorem Ae.start {P : Program} {f : FuncId} {xs : List VV} {r : VV} (h : Ae P f [] xs [] r) {w : World} {vs : Array Value} (hL : EJ w) (hB : ∀ k, k ∈ G4 → k < w.heap.size) (hs : CY w ⟨fun _ => False, fun _ => False⟩ none xs vs) :
    Calls P f vs w fun e w' => ∃ v, e = .returned v ∧ Below w.heap.size w w' ∧ V w' ⟨fun _ => False, fun _ => False⟩ none r v := by
  have hno : ∀ k, ¬ Own (fun _ => none : Phi) k := by
    rintro k ⟨id, hb⟩
    obtain ⟨p, hp, _⟩ := AJ.1 hb
    cases hp
  refine (h.call w ⟨fun _ => False, fun _ => False⟩ (fun _ => none) vs ⟨fun _ h => h.elim, hL, hB, fun k _ ho => hno k ho⟩ ⟨fun _ h => h, fun id p e => (by cases e), fun i j k hb => (hno k ⟨i, hb⟩).elim, fun k hk => (hno k hk).elim⟩ (fun id => by simp) ⟨hs.1, fun j x hx => ?_⟩).mono ?_
  · exact ((hs.2 j x hx).held).less (fun k hk => hk.elim (fun h => h) (hno k)) fun k hk => hk.elim (fun h => h) (hno k)
  · rintro e w' ⟨v, φ', rfl, _, h2, h3, h4⟩
    have hnone : ∀ id, φ' id = none := fun id => Classical.byContradiction fun hn => by have := (h3 id).1 hn; simp at this
    refine ⟨v, rfl, ⟨h2.os, h2.tape, h2.output, h2.size, fun k hk => h2.block k hk (hno k)⟩, (h4.unmap hnone).less (fun _ h => h.elim) fun _ h => h.elim⟩
end
end Go.Proofs.YtiaebjpcgjkhoaaGreatDoor
namespace Go.Proofs.YtiaebjpcgjkhoaaGreatDoor
open Go.RowKit
def Ad (n : Int) : VV := .sc (.int .i64 n)
def Ai (b : Bool) : VV := .sc (.bool b)
def Iq (s : ByteArray) : VV := .sc (.string s)
structure Ev {α : Type} (p : Pkg α) (enc : α → List VV) (wf : α → Prop) : Prop where
  ok : ∀ {w : World} {E : AU} {m : Option Phi} {cs : List Value} {x : α}, (∀ k, ¬ E.fz k) → p.mu x ≤ 1048576 → Is p w cs x → cs.length = (enc x).length ∧ (∀ (j : Nat) (y : VV), (enc x)[j]? = some y → V w E m y (cs.getD j undef)) ∧ wf x
namespace Ev
def wInt (k : IntKind) (n : Int) : Prop := (Lit.int k n).wf = true
theorem imp {α : Type} {p : Pkg α} {e e' : α → List VV} {wf wf' : α → Prop} (h : Ev p e wf) (he : ∀ x, e x = e' x) (hw : ∀ x, wf x → wf' x) : Ev p e' wf' := ⟨fun {w E m cs x} hE hm k => by
  obtain ⟨h1, h2, h3⟩ := h.ok (E := E) (m := m) hE hm k
  rw [← he x]
  exact ⟨h1, h2, hw x h3⟩⟩
theorem int (k : IntKind) : Ev (Pkg.int k) (fun n => [.sc (.int k n)]) (wInt k) := ⟨fun {w E m cs x} _ _ h => by
  obtain ⟨rfl, hw⟩ := AbV.1 h
  refine ⟨rfl, fun j y hy => ?_, hw⟩
  match j, hy with
  | 0, hy => simp only [List.getElem?_cons_zero, Option.some.injEq] at hy; subst hy; exact .sc
  | j + 1, hy => simp at hy⟩
theorem bool : Ev Pkg.bool (fun b => [.sc (.bool b)]) (fun _ => True) := ⟨fun {w E m cs x} _ _ h => by
  obtain rfl := AaB.1 h
  refine ⟨rfl, fun j y hy => ?_, trivial⟩
  match j, hy with
  | 0, hy => simp only [List.getElem?_cons_zero, Option.some.injEq] at hy; subst hy; exact .sc
  | j + 1, hy => simp at hy⟩
theorem str : Ev Pkg.str (fun b => [.sc (.string b)]) (fun b => b.size ≤ 1048576) := ⟨fun {w E m cs x} _ hm h => by
  obtain ⟨rfl, hs⟩ := AbU.1 h
  have hm' : x.size + 1 ≤ 1048576 := hm
  refine ⟨rfl, fun j y hy => ?_, by omega⟩
  match j, hy with
  | 0, hy => simp only [List.getElem?_cons_zero, Option.some.injEq] at hy; subst hy; exact .sc
  | j + 1, hy => simp at hy⟩
theorem unit : Ev Pkg.unit (fun _ => []) (fun _ => True) := ⟨fun {w E m cs x} _ _ h => by
  obtain rfl := Aaz.1 h
  exact ⟨rfl, fun j y hy => by simp at hy, trivial⟩⟩
theorem cons {α β : Type} {p : Pkg α} {q : Pkg β} {e1 : α → List VV} {e2 : β → List VV} {w1 : α → Prop} {w2 : β → Prop} {n : Nat} (h1 : Ev p e1 w1) (h2 : Ev q e2 w2) : Ev (Pkg.cons n p q) (fun y => e1 y.1 ++ e2 y.2) (fun y => w1 y.1 ∧ w2 y.2) := ⟨fun {w E m cs x} hE hm h => by
  obtain ⟨a, b, rfl, ha, k1, k2⟩ := AaA.1 h
  have hm' : p.mu x.1 + q.mu x.2 ≤ 1048576 := hm
  obtain ⟨l1, v1, f1⟩ := h1.ok (E := E) (m := m) hE (by omega) k1
  obtain ⟨l2, v2, f2⟩ := h2.ok (E := E) (m := m) hE (by omega) k2
  refine ⟨by simp [l1, l2], fun j y hy => ?_, f1, f2⟩
  by_cases hj : j < (e1 x.1).length
  · rw [List.getElem?_append_left hj] at hy
    have := v1 j y hy
    rw [List.getD_eq_getElem?_getD, List.getElem?_append_left (by omega), ← List.getD_eq_getElem?_getD]
    exact this
  · rw [List.getElem?_append_right (by omega)] at hy
    have := v2 _ y hy
    rw [List.getD_eq_getElem?_getD, List.getElem?_append_right (by omega), l1, ← List.getD_eq_getElem?_getD]
    exact this⟩
theorem via {α β : Type} {p : Pkg α} {e : α → List VV} {wf : α → Prop} (f : β → α) (h : Ev p e wf) : Ev (Pkg.via f p) (fun y => e (f y)) (fun y => wf (f y)) := ⟨fun {w E m cs x} hE hm k => h.ok hE (by have hm' : p.mu (f x) + 1 ≤ 1048576 := hm; omega) (AbT.1 k)⟩
theorem mem_sum {α : Type} {μ : α → Nat} : ∀ {l : List α} {y : α}, y ∈ l → μ y ≤ Rd.sum μ l
  | x :: l, y, h => by
    rcases List.mem_cons.1 h with rfl | h
    · simp only [Rd.sum]; omega
    · have := mem_sum (μ := μ) h; simp only [Rd.sum]; omega
  | [], _, h => by cases h
theorem len_sum {α : Type} {μ : α → Nat} (h1 : ∀ x, 1 ≤ μ x) : ∀ (l : List α), l.length ≤ Rd.sum μ l
  | [] => by simp
  | x :: l => by have := len_sum h1 l; have := h1 x; simp only [Rd.sum, List.length_cons]; omega
theorem one_sum {α : Type} {μ : α → Nat} : ∀ (l : List α), 1 ≤ Rd.sum μ l
  | [] => by simp [Rd.sum]
  | x :: l => by have := one_sum (μ := μ) l; simp only [Rd.sum]; omega
theorem slice {α : Type} {p : Pkg α} {e : α → List VV} {wf : α → Prop} {size bytes : Nat} (d : α) (h : Ev p e wf) (hl : ∀ x, (e x).length = size) (hp : ∀ x, 1 ≤ p.mu x) : Ev (Pkg.slice size bytes p) (fun l => [.sl true l.length size fun i => e (l.getD i d)]) (fun l => l.length ≤ 1048576 ∧ ∀ y ∈ l, wf y) := ⟨fun {w E m cs x} hE hmu k => by
  have hmu' : Rd.sum p.mu x ≤ 1048576 := hmu
  have hmem : ∀ y ∈ x, p.mu y ≤ 1048576 := fun y hy => Nat.le_trans (mem_sum hy) hmu'
  obtain ⟨v, rfl⟩ : ∃ v, cs = [v] := by
    obtain ⟨ao, cap, e', _⟩ := k
    exact ⟨_, e'⟩
  obtain ⟨ao, cap, rfl, k1, k2, k3⟩ := YY k
  refine ⟨rfl, fun j y hy => ?_, Nat.le_trans (len_sum hp x) hmu', fun y hy => ?_⟩
  · match j, hy with
    | 0, hy =>
      simp only [List.getElem?_cons_zero, Option.some.injEq] at hy
      subst hy
      refine V.sl_mk k1 k2 fun hp => ?_
      obtain ⟨b, off, rfl, hb, hel⟩ := k3 hp
      have hat : ∀ i, i < x.length → ∃ es : List Value, es.length = size ∧ (∀ k, k < size → w.cell? ⟨b, off + i * size + k, none⟩ = es[k]?) ∧ Is p w es (x.getD i d) := fun i hi => hel i (x.getD i d) (by simp [List.getD, hi])
      refine ⟨b, off, rfl, hb, hE b, fun i _ => hl _, fun i j => (w.cell? ⟨b, off + i * size + j, none⟩).getD undef, fun i j y hi hy => ?_, fun i j y hi hy => ?_⟩
      · obtain ⟨es, h4, h5, h6⟩ := hat i hi
        have hj : j < size := by rw [← hl (x.getD i d)]; exact (List.getElem?_eq_some_iff.1 hy).1
        show w.cell? ⟨b, off + i * size + j, none⟩ = some ((w.cell? ⟨b, off + i * size + j, none⟩).getD undef)
        have h7 : w.cell? ⟨b, off + i * size + j, none⟩ = some (es[j]'(by omega)) := by rw [h5 j hj, List.getElem?_eq_getElem (by omega)]
        rw [h7]; rfl
      · obtain ⟨es, h4, h5, h6⟩ := hat i hi
        have hj : j < size := by rw [← hl (x.getD i d)]; exact (List.getElem?_eq_some_iff.1 hy).1
        have hi' : x.getD i d ∈ x := by simp [List.getD, hi]
        have := (h.ok (E := E.at true) (m := none) (fun k => hE k) (hmem _ hi') h6).2.1 j y hy
        rw [List.getD_eq_getElem?_getD, ← h5 j hj] at this
        exact this
    | j + 1, hy => simp at hy
  · have hm := hmem y hy
    obtain ⟨i, hi, rfl⟩ := List.mem_iff_getElem.1 hy
    obtain ⟨b, off, e', hb, hel⟩ := k3 (by omega)
    obtain ⟨es, _, _, hx⟩ := hel i x[i] (List.getElem?_eq_getElem hi)
    exact (h.ok (E := E) (m := m) hE hm hx).2.2⟩
theorem agg {α : Type} {p : Pkg α} {e : α → List VV} {wf : α → Prop} (h : Ev p e wf) {w : World} {E : AU} {m : Option Phi} {cs : Array Value} {x : α} (hE : ∀ k, ¬ E.fz k) (hm : p.mu x ≤ 1048576) (k : Is p w cs.toList x) : V w E m (.agg (e x)) (.agg cs) ∧ wf x := by
  obtain ⟨h1, h2, h3⟩ := h.ok (E := E) (m := m) hE hm k
  refine ⟨.agg (by simpa using h1) fun j y hy => ?_, h3⟩
  have := h2 j y hy
  simpa [Array.getD_eq_getD_getElem?, List.getD_eq_getElem?_getD] using this
theorem one {α : Type} {p : Pkg α} {e : α → VV} {wf : α → Prop} (h : Ev p (fun x => [e x]) wf) {w : World} {E : AU} {m : Option Phi} {v : Value} {x : α} (hE : ∀ k, ¬ E.fz k) (hm : p.mu x ≤ 1048576) (k : Is p w [v] x) : V w E m (e x) v ∧ wf x := by
  obtain ⟨h1, h2, h3⟩ := h.ok (E := E) (m := m) hE hm k
  exact ⟨h2 0 (e x) rfl, h3⟩
end Ev
end Go.Proofs.YtiaebjpcgjkhoaaGreatDoor
namespace Go.Proofs.YtiaebjpcgjkhoaaGreatDoor
open Go.RowKit
instance : Inhabited D.Type := ⟨⟨0, false⟩⟩
def AR (x : D.Type) : List VV := [Ad x.Bits, Ai x.Signed]
structure TP (x : D.Type) : Prop where
  Bits : Ev.wInt .i64 x.Bits
  Signed : True
theorem AaH : Ev JS AR TP := (Ev.via (fun x : D.Type => (x.Bits, x.Signed, ())) (Ev.cons (Ev.int .i64) (Ev.cons Ev.bool Ev.unit))).imp (fun _ => rfl) fun _ ⟨h0, h1, _⟩ => ⟨h0, h1⟩
def Aj (fz : Bool) (l : List D.Type) : VV := .sl fz l.length 2 fun i => AR (l.getD i default)
def I1 (l : List D.Type) : Prop := l.length ≤ 1048576 ∧ ∀ y ∈ l, TP y
theorem Ma : Ev (Pkg.slice 2 16 JS) (fun l => [Aj true l]) I1 := Ev.slice default AaH (fun _ => rfl) (fun _ => Nat.succ_le_succ (Nat.zero_le _))
instance : Inhabited D.Shape := ⟨⟨0, []⟩⟩
def Bq (x : D.Shape) : List VV := [Ad x.Room, Aj true x.Fields]
structure I0 (x : D.Shape) : Prop where
  Room : Ev.wInt .i64 x.Room
  Fields : I1 x.Fields
theorem Zh : Ev KV Bq I0 := (Ev.via (fun x : D.Shape => (x.Room, x.Fields, ())) (Ev.cons (Ev.int .i64) (Ev.cons Ma Ev.unit))).imp (fun _ => rfl) fun _ ⟨h0, h1, _⟩ => ⟨h0, h1⟩
def Aa (fz : Bool) (l : List Int) : VV := .sl fz l.length 1 fun i => [Ad (l.getD i 0)]
def DN (l : List Int) : Prop := l.length ≤ 1048576 ∧ ∀ y ∈ l, Ev.wInt .i64 y
theorem El : Ev (Pkg.slice 1 8 (Pkg.int .i64)) (fun l => [Aa true l]) DN := Ev.slice 0 (Ev.int .i64) (fun _ => rfl) (fun _ => Nat.le_refl _)
instance : Inhabited D.Stmt := ⟨⟨0, 0, 0, 0, [], [], ⟨#[]⟩⟩⟩
def Av (x : D.Stmt) : List VV := [Ad x.Kind, Ad x.A, Ad x.B, Ad x.N, Aa true x.Args, Aa true x.Match, Iq x.Text]
structure KL (x : D.Stmt) : Prop where
  Kind : Ev.wInt .i64 x.Kind
  A : Ev.wInt .i64 x.A
  B : Ev.wInt .i64 x.B
  N : Ev.wInt .i64 x.N
  Args : DN x.Args
  Match : DN x.Match
  Text : (x.Text).size ≤ 1048576
theorem AaI : Ev S3 Av KL := (Ev.via (fun x : D.Stmt => (x.Kind, x.A, x.B, x.N, x.Args, x.Match, x.Text, ())) (Ev.cons (Ev.int .i64) (Ev.cons (Ev.int .i64) (Ev.cons (Ev.int .i64) (Ev.cons (Ev.int .i64) (Ev.cons El (Ev.cons El (Ev.cons Ev.str Ev.unit)))))))).imp (fun _ => rfl) fun _ ⟨h0, h1, h2, h3, h4, h5, h6, _⟩ => ⟨h0, h1, h2, h3, h4, h5, h6⟩
instance : Inhabited D.Trans := ⟨⟨default, 0, 0⟩⟩
def Cs (x : D.Trans) : List VV := [Ad x.S.Kind, Ad x.S.A, Ad x.S.B, Ad x.S.N, Aa true x.S.Args, Aa true x.S.Match, Iq x.S.Text, Ad x.To, Ad x.Line]
structure IZ (x : D.Trans) : Prop where
  S : KL x.S
  To : Ev.wInt .i64 x.To
  Line : Ev.wInt .i64 x.Line
theorem Zf : Ev HH Cs IZ := (Ev.via (fun x : D.Trans => (x.S, x.To, x.Line, ())) (Ev.cons AaI (Ev.cons (Ev.int .i64) (Ev.cons (Ev.int .i64) Ev.unit)))).imp (fun _ => rfl) fun _ ⟨h0, h1, h2, _⟩ => ⟨h0, h1, h2⟩
def Aq (fz : Bool) (l : List D.Trans) : VV := .sl fz l.length 9 fun i => Cs (l.getD i default)
def Ht (l : List D.Trans) : Prop := l.length ≤ 1048576 ∧ ∀ y ∈ l, IZ y
theorem NM : Ev (Pkg.slice 9 112 HH) (fun l => [Aq true l]) Ht := Ev.slice default Zf (fun _ => rfl) (fun _ => Nat.succ_le_succ (Nat.zero_le _))
def AE (fz : Bool) (l : List (List D.Trans)) : VV := .sl fz l.length 1 fun i => [Aq true (l.getD i [])]
def Lh (l : List (List D.Trans)) : Prop := l.length ≤ 1048576 ∧ ∀ y ∈ l, Ht y
theorem Ty : Ev (Pkg.slice 1 24 (Pkg.slice 9 112 HH)) (fun l => [AE true l]) Lh := Ev.slice [] NM (fun _ => rfl) (fun _ => Ev.one_sum _)
instance : Inhabited D.Loc := ⟨⟨[], [], false, false, false, false, false⟩⟩
def AY (x : D.Loc) : List VV := [Aq true x.Out, AE true x.Esc, Ai x.Atomic, Ai x.Dstep, Ai x.End, Ai x.Accept, Ai x.Progress]
structure NY (x : D.Loc) : Prop where
  Out : Ht x.Out
  Esc : Lh x.Esc
  Atomic : True
  Dstep : True
  End : True
  Accept : True
  Progress : True
theorem AbZ : Ev UC AY NY := (Ev.via (fun x : D.Loc => (x.Out, x.Esc, x.Atomic, x.Dstep, x.End, x.Accept, x.Progress, ())) (Ev.cons NM (Ev.cons Ty (Ev.cons Ev.bool (Ev.cons Ev.bool (Ev.cons Ev.bool (Ev.cons Ev.bool (Ev.cons Ev.bool Ev.unit)))))))).imp (fun _ => rfl) fun _ ⟨h0, h1, h2, h3, h4, h5, h6, _⟩ => ⟨h0, h1, h2, h3, h4, h5, h6⟩
def BM (fz : Bool) (l : List D.Loc) : VV := .sl fz l.length 7 fun i => AY (l.getD i default)
def TR (l : List D.Loc) : Prop := l.length ≤ 1048576 ∧ ∀ y ∈ l, NY y
theorem AaM : Ev (Pkg.slice 7 56 UC) (fun l => [BM true l]) TR := Ev.slice default AbZ (fun _ => rfl) (fun _ => Nat.succ_le_succ (Nat.zero_le _))
instance : Inhabited D.Proc := ⟨⟨⟨#[]⟩, 0, [], [], [], 0, 0, 0, 0, 0⟩⟩
def AB (x : D.Proc) : List VV := [Iq x.Name, Ad x.Params, Aj true x.Frame, Aa true x.Init, BM true x.Locs, Ad x.Start, Ad x.Final, Ad x.Active, Ad x.Prio, Ad x.Provided]
structure Fw (x : D.Proc) : Prop where
  Name : (x.Name).size ≤ 1048576
  Params : Ev.wInt .i64 x.Params
  Frame : I1 x.Frame
  Init : DN x.Init
  Locs : TR x.Locs
  Start : Ev.wInt .i64 x.Start
  Final : Ev.wInt .i64 x.Final
  Active : Ev.wInt .i64 x.Active
  Prio : Ev.wInt .i64 x.Prio
  Provided : Ev.wInt .i64 x.Provided
theorem AaJ : Ev OJ AB Fw := (Ev.via (fun x : D.Proc => (x.Name, x.Params, x.Frame, x.Init, x.Locs, x.Start, x.Final, x.Active, x.Prio, x.Provided, ())) (Ev.cons Ev.str (Ev.cons (Ev.int .i64) (Ev.cons Ma (Ev.cons El (Ev.cons AaM (Ev.cons (Ev.int .i64) (Ev.cons (Ev.int .i64) (Ev.cons (Ev.int .i64) (Ev.cons (Ev.int .i64) (Ev.cons (Ev.int .i64) Ev.unit))))))))))).imp (fun _ => rfl) fun _ ⟨h0, h1, h2, h3, h4, h5, h6, h7, h8, h9, _⟩ => ⟨h0, h1, h2, h3, h4, h5, h6, h7, h8, h9⟩
instance : Inhabited D.Dim := ⟨⟨0, 0, 0⟩⟩
def UW (x : D.Dim) : List VV := [Ad x.I, Ad x.Len, Ad x.Stride]
structure XL (x : D.Dim) : Prop where
  I : Ev.wInt .i64 x.I
  Len : Ev.wInt .i64 x.Len
  Stride : Ev.wInt .i64 x.Stride
theorem Ab1 : Ev UE UW XL := (Ev.via (fun x : D.Dim => (x.I, x.Len, x.Stride, ())) (Ev.cons (Ev.int .i64) (Ev.cons (Ev.int .i64) (Ev.cons (Ev.int .i64) Ev.unit)))).imp (fun _ => rfl) fun _ ⟨h0, h1, h2, _⟩ => ⟨h0, h1, h2⟩
def Bw (fz : Bool) (l : List D.Dim) : VV := .sl fz l.length 3 fun i => UW (l.getD i default)
def TS (l : List D.Dim) : Prop := l.length ≤ 1048576 ∧ ∀ y ∈ l, XL y
theorem AaN : Ev (Pkg.slice 3 24 UE) (fun l => [Bw true l]) TS := Ev.slice default Ab1 (fun _ => rfl) (fun _ => Nat.succ_le_succ (Nat.zero_le _))
instance : Inhabited D.Var := ⟨⟨0, 0, 0, 0, []⟩⟩
def A4 (x : D.Var) : List VV := [Ad x.Scope, Ad x.Slot, Ad x.Who, Ad x.Type_, Bw true x.Dims]
structure Gc (x : D.Var) : Prop where
  Scope : Ev.wInt .i64 x.Scope
  Slot : Ev.wInt .i64 x.Slot
  Who : Ev.wInt .i64 x.Who
  Type_ : Ev.wInt .i64 x.Type_
  Dims : TS x.Dims
theorem AbY : Ev YF A4 Gc := (Ev.via (fun x : D.Var => (x.Scope, x.Slot, x.Who, x.Type_, x.Dims, ())) (Ev.cons (Ev.int .i64) (Ev.cons (Ev.int .i64) (Ev.cons (Ev.int .i64) (Ev.cons (Ev.int .i64) (Ev.cons AaN Ev.unit)))))).imp (fun _ => rfl) fun _ ⟨h0, h1, h2, h3, h4, _⟩ => ⟨h0, h1, h2, h3, h4⟩
instance : Inhabited D.Expr := ⟨⟨0, 0, 0, 0, 0, default, [], []⟩⟩
def Au (x : D.Expr) : List VV := [Ad x.Op, Ad x.N, Ad x.A, Ad x.B, Ad x.C, Ad x.V.Scope, Ad x.V.Slot, Ad x.V.Who, Ad x.V.Type_, Bw true x.V.Dims, Aa true x.Args, Aa true x.Match]
structure Hs (x : D.Expr) : Prop where
  Op : Ev.wInt .i64 x.Op
  N : Ev.wInt .i64 x.N
  A : Ev.wInt .i64 x.A
  B : Ev.wInt .i64 x.B
  C : Ev.wInt .i64 x.C
  V : Gc x.V
  Args : DN x.Args
  Match : DN x.Match
theorem AaK : Ev OM Au Hs := (Ev.via (fun x : D.Expr => (x.Op, x.N, x.A, x.B, x.C, x.V, x.Args, x.Match, ())) (Ev.cons (Ev.int .i64) (Ev.cons (Ev.int .i64) (Ev.cons (Ev.int .i64) (Ev.cons (Ev.int .i64) (Ev.cons (Ev.int .i64) (Ev.cons AbY (Ev.cons El (Ev.cons El Ev.unit))))))))).imp (fun _ => rfl) fun _ ⟨h0, h1, h2, h3, h4, h5, h6, h7, _⟩ => ⟨h0, h1, h2, h3, h4, h5, h6, h7⟩
def Aw (fz : Bool) (l : List D.Shape) : VV := .sl fz l.length 2 fun i => Bq (l.getD i default)
def MX (l : List D.Shape) : Prop := l.length ≤ 1048576 ∧ ∀ y ∈ l, I0 y
theorem Xi : Ev (Pkg.slice 2 32 KV) (fun l => [Aw true l]) MX := Ev.slice default Zh (fun _ => rfl) (fun _ => Nat.succ_le_succ (Nat.zero_le _))
def AA (fz : Bool) (l : List D.Proc) : VV := .sl fz l.length 10 fun i => AB (l.getD i default)
def Ps (l : List D.Proc) : Prop := l.length ≤ 1048576 ∧ ∀ y ∈ l, Fw y
theorem Zj : Ev (Pkg.slice 10 136 OJ) (fun l => [AA true l]) Ps := Ev.slice default AaJ (fun _ => rfl) (fun _ => Nat.succ_le_succ (Nat.zero_le _))
def AC (fz : Bool) (l : List D.Expr) : VV := .sl fz l.length 12 fun i => Au (l.getD i default)
def Pu (l : List D.Expr) : Prop := l.length ≤ 1048576 ∧ ∀ y ∈ l, Hs y
theorem Zl : Ev (Pkg.slice 12 144 OM) (fun l => [AC true l]) Pu := Ev.slice default AaK (fun _ => rfl) (fun _ => Nat.succ_le_succ (Nat.zero_le _))
instance : Inhabited D.Model := ⟨⟨[], [], [], [], [], 0, []⟩⟩
def Ac (x : D.Model) : List VV := [Aj true x.Globals, Aa true x.Init, Aw true x.Shapes, Aa true x.Chans, AA true x.Procs, Ad x.Claim, AC true x.Exprs]
structure AN (x : D.Model) : Prop where
  Globals : I1 x.Globals
  Init : DN x.Init
  Shapes : MX x.Shapes
  Chans : DN x.Chans
  Procs : Ps x.Procs
  Claim : Ev.wInt .i64 x.Claim
  Exprs : Pu x.Exprs
theorem Zi : Ev OL Ac AN := (Ev.via (fun x : D.Model => (x.Globals, x.Init, x.Shapes, x.Chans, x.Procs, x.Claim, x.Exprs, ())) (Ev.cons Ma (Ev.cons El (Ev.cons Xi (Ev.cons El (Ev.cons Zj (Ev.cons (Ev.int .i64) (Ev.cons Zl Ev.unit)))))))).imp (fun _ => rfl) fun _ ⟨h0, h1, h2, h3, h4, h5, h6, _⟩ => ⟨h0, h1, h2, h3, h4, h5, h6⟩
def BA (fz : Bool) (l : List (List Int)) : VV := .sl fz l.length 1 fun i => [Aa true (l.getD i [])]
def Pt (l : List (List Int)) : Prop := l.length ≤ 1048576 ∧ ∀ y ∈ l, DN y
theorem Zk : Ev (Pkg.slice 1 24 (Pkg.slice 1 8 (Pkg.int .i64))) (fun l => [BA true l]) Pt := Ev.slice [] El (fun _ => rfl) (fun _ => Ev.one_sum _)
instance : Inhabited D.Chan := ⟨⟨0, []⟩⟩
def Ar (x : D.Chan) : List VV := [Ad x.Shape, BA true x.Queue]
structure TQ (x : D.Chan) : Prop where
  Shape : Ev.wInt .i64 x.Shape
  Queue : Pt x.Queue
theorem AaL : Ev ON Ar TQ := (Ev.via (fun x : D.Chan => (x.Shape, x.Queue, ())) (Ev.cons (Ev.int .i64) (Ev.cons Zk Ev.unit))).imp (fun _ => rfl) fun _ ⟨h0, h1, _⟩ => ⟨h0, h1⟩
instance : Inhabited D.Process := ⟨⟨0, 0, 0, []⟩⟩
def Ak (x : D.Process) : List VV := [Ad x.Type_, Ad x.Loc, Ad x.Prio, Aa true x.Frame]
structure Lg (x : D.Process) : Prop where
  Type_ : Ev.wInt .i64 x.Type_
  Loc : Ev.wInt .i64 x.Loc
  Prio : Ev.wInt .i64 x.Prio
  Frame : DN x.Frame
theorem Tx : Ev HI Ak Lg := (Ev.via (fun x : D.Process => (x.Type_, x.Loc, x.Prio, x.Frame, ())) (Ev.cons (Ev.int .i64) (Ev.cons (Ev.int .i64) (Ev.cons (Ev.int .i64) (Ev.cons El Ev.unit))))).imp (fun _ => rfl) fun _ ⟨h0, h1, h2, h3, _⟩ => ⟨h0, h1, h2, h3⟩
def Br (fz : Bool) (l : List D.Chan) : VV := .sl fz l.length 2 fun i => Ar (l.getD i default)
def Pv (l : List D.Chan) : Prop := l.length ≤ 1048576 ∧ ∀ y ∈ l, TQ y
theorem Zm : Ev (Pkg.slice 2 32 ON) (fun l => [Br true l]) Pv := Ev.slice default AaL (fun _ => rfl) (fun _ => Nat.succ_le_succ (Nat.zero_le _))
def A1 (fz : Bool) (l : List D.Process) : VV := .sl fz l.length 4 fun i => Ak (l.getD i default)
def Ko (l : List D.Process) : Prop := l.length ≤ 1048576 ∧ ∀ y ∈ l, Lg y
theorem Rf : Ev (Pkg.slice 4 48 HI) (fun l => [A1 true l]) Ko := Ev.slice default Tx (fun _ => rfl) (fun _ => Nat.succ_le_succ (Nat.zero_le _))
instance : Inhabited D.State := ⟨⟨[], [], [], 0, 0, 0⟩⟩
def Ax (x : D.State) : List VV := [Aa true x.Globals, Br true x.Chans, A1 true x.Procs, Ad x.Last, Ad x.Alone, Ad x.Claim]
structure Lf (x : D.State) : Prop where
  Globals : DN x.Globals
  Chans : Pv x.Chans
  Procs : Ko x.Procs
  Last : Ev.wInt .i64 x.Last
  Alone : Ev.wInt .i64 x.Alone
  Claim : Ev.wInt .i64 x.Claim
theorem Zg : Ev OI Ax Lf := (Ev.via (fun x : D.State => (x.Globals, x.Chans, x.Procs, x.Last, x.Alone, x.Claim, ())) (Ev.cons El (Ev.cons Zm (Ev.cons Rf (Ev.cons (Ev.int .i64) (Ev.cons (Ev.int .i64) (Ev.cons (Ev.int .i64) Ev.unit))))))).imp (fun _ => rfl) fun _ ⟨h0, h1, h2, h3, h4, h5, _⟩ => ⟨h0, h1, h2, h3, h4, h5⟩
def Ay (fz : Bool) (l : List Bool) : VV := .sl fz l.length 1 fun i => [Ai (l.getD i false)]
def Pw (l : List Bool) : Prop := l.length ≤ 1048576 ∧ ∀ y ∈ l, True
theorem Zn : Ev (Pkg.slice 1 1 Pkg.bool) (fun l => [Ay true l]) Pw := Ev.slice false Ev.bool (fun _ => rfl) (fun _ => Nat.le_refl _)
instance : Inhabited D.Env := ⟨⟨default, default, 0, false, []⟩⟩
def Af (x : D.Env) : List VV := [Aj true x.M.Globals, Aa true x.M.Init, Aw true x.M.Shapes, Aa true x.M.Chans, AA true x.M.Procs, Ad x.M.Claim, AC true x.M.Exprs, Aa true x.S.Globals, Br true x.S.Chans, A1 true x.S.Procs, Ad x.S.Last, Ad x.S.Alone, Ad x.S.Claim, Ad x.Pid, Ai x.Timeout, Ay true x.Able]
structure RQ (x : D.Env) : Prop where
  M : AN x.M
  S : Lf x.S
  Pid : Ev.wInt .i64 x.Pid
  Timeout : True
  Able : Pw x.Able
theorem Ab0 : Ev UD Af RQ := (Ev.via (fun x : D.Env => (x.M, x.S, x.Pid, x.Timeout, x.Able, ())) (Ev.cons Zi (Ev.cons Zg (Ev.cons (Ev.int .i64) (Ev.cons Ev.bool (Ev.cons Zn Ev.unit)))))).imp (fun _ => rfl) fun _ ⟨h0, h1, h2, h3, h4, _⟩ => ⟨h0, h1, h2, h3, h4⟩
end Go.Proofs.YtiaebjpcgjkhoaaGreatDoor
namespace Go.Proofs.YtiaebjpcgjkhoaaGreatDoor
open Go.RowKit
def B3 (n : Nat) (f : Nat → Bool) : Bool := (List.range n).all f
def Gv (n : Nat) (f : Nat → Bool) : Int :=
  match (List.range n).find? fun i => !f i with
  | some i => (i : Int)
  | none => -1
theorem AW {n : Nat} {f : Nat → Bool} : B3 n f = true ↔ ∀ i, i < n → f i = true := by simp [B3]
theorem Bg {n k : Nat} {f : Nat → Bool} (hk : k < n) (h : f k = false) : B3 n f = false := by
  cases ha : B3 n f with
  | false => rfl
  | true => have := AW.1 ha k hk; rw [h] at this; cases this
theorem Dd {n : Nat} {f : Nat → Bool} (h : ∀ i, i < n → f i = true) : Gv n f = -1 := by
  unfold Gv
  split
  · rename_i i hi
    have h1 := List.find?_some hi
    have h2 := List.mem_of_find?_eq_some hi
    rw [h i (List.mem_range.1 h2)] at h1; cases h1
  · rfl
theorem Dc {n k : Nat} {f : Nat → Bool} (h : ∀ i, i < k → f i = true) (hk : k < n) (hf : f k = false) : Gv n f = k := by
  unfold Gv
  split
  · rename_i i hi
    rw [List.find?_range_eq_some] at hi
    obtain ⟨h1, h2, h3⟩ := hi
    by_cases hik : i < k
    · rw [h i hik] at h1; cases h1
    · by_cases hki : k < i
      · have := h3 k hki; rw [hf] at this; cases this
      · congr 1; omega
  · rename_i hi
    rw [List.find?_eq_none] at hi
    have := hi k (List.mem_range.2 hk)
    rw [hf] at this; simp at this
theorem Mo {n : Nat} {f : Nat → Bool} : (Gv n f = -1 ∧ ∀ i, i < n → f i = true) ∨ (∃ k, k < n ∧ Gv n f = (k : Int) ∧ f k = false) := by
  unfold Gv
  split
  · rename_i i hi
    refine .inr ⟨i, List.mem_range.1 (List.mem_of_find?_eq_some hi), rfl, ?_⟩
    simpa using List.find?_some hi
  · rename_i hi
    rw [List.find?_eq_none] at hi
    exact .inl ⟨rfl, fun i h => by simpa using hi i (List.mem_range.2 h)⟩
def EV (t : D.Type) : Bool := decide (1 ≤ t.Bits) && (decide (t.Bits ≤ 32) && (!t.Signed || (decide (t.Bits = 16) || decide (t.Bits = 32))))
def Cz (t : D.Type) (v : Int) : Bool :=
  EV t && bif t.Signed then decide (-(2 ^ (t.Bits - 1).toNat) ≤ v) && decide (v < 2 ^ (t.Bits - 1).toNat) else decide (0 ≤ v) && decide (v < 2 ^ t.Bits.toNat)
def Fh (d : D.Dim) : Bool := decide (d.Len < 1) || (decide (1073741824 < d.Len - 1) || (decide (d.Stride < 0) || decide (1073741824 < d.Stride)))
def CQ : Int → List D.Dim → Int
  | n, [] => n
  | n, d :: l => bif Fh d then 0 else CQ (n + (d.Len - 1) * d.Stride) l
def CE (v : D.Var) : Int := bif decide (v.Slot < 0) || (decide (1073741824 < v.Slot) || decide (4 < v.Dims.length)) then 0 else CQ (v.Slot + 1) v.Dims
def Dl (t : List D.Type) (init : List Int) : Int := Gv t.length fun i => Cz (t.getD i default) (init.getD i 0)
def CM (s : D.Shape) : Bool := decide (0 ≤ s.Room) && decide (s.Room ≤ 16) && decide (1 ≤ s.Fields.length) && decide (s.Fields.length ≤ 8) && B3 s.Fields.length fun i => EV (s.Fields.getD i default)
def BN (m : D.Model) (n : Int) : Bool := decide (0 ≤ n) && decide (n < m.Procs.length) && decide (n ≠ m.Claim)
def inP (at' x : Int) : Bool := decide (0 ≤ x) && decide (x < at')
def BI (at' : Int) (l : List Int) : Bool := B3 l.length fun i => inP at' (l.getD i 0)
def Gs (at' : Int) (d : D.Dim) : Bool := inP at' d.I && decide (1 ≤ d.Len) && decide (d.Len ≤ 128) && decide (0 ≤ d.Stride) && decide (d.Stride ≤ 128)
def Cr (m : D.Model) (at' : Int) (v : D.Var) : Bool :=
  decide (0 ≤ v.Scope) && decide (v.Scope ≤ 2) && decide (0 ≤ v.Slot) && decide (v.Slot ≤ 128) && decide (v.Dims.length ≤ 4) &&
  (bif decide (v.Scope = 2) then inP at' v.Who && BN m v.Type_ else decide (v.Who = -1) && decide (v.Type_ = -1)) && B3 v.Dims.length fun i => Gs at' (v.Dims.getD i default)
def AK (op : Int) : Nat := if op = 1 ∨ op = 2 ∨ op = 31 ∨ op = 32 ∨ op = 33 ∨ op = 34 ∨ op = 35 ∨ op = 39 then 0 else if op = 24 then 3 else if 6 ≤ op ∧ op ≤ 23 then 2 else 1
def AD (m : D.Model) (k : Int) : D.Expr := m.Exprs.getD k.toNat default
def Ed (m : D.Model) (a k : Int) : Bool := decide (-1 ≤ k) && decide (k ≤ 1) && !(decide (k = 0) && decide ((AD m a).Op ≠ 2))
def Bn (m : D.Model) (at' : Int) (args mt : List Int) : Bool :=
  decide (1 ≤ args.length) && decide (args.length ≤ 8) && decide (mt.length = args.length) && BI at' args && B3 mt.length fun i => Ed m (args.getD i 0) (mt.getD i 0)
def G3 (m : D.Model) (n : Int) : List D.Loc := (m.Procs.getD n.toNat default).Locs
def HA (m : D.Model) (x : D.Expr) : Bool := decide (0 ≤ x.N) && decide (x.N < 1073741824) && BN m x.N && decide (1 ≤ x.Args.length) && BI (G3 m x.N).length x.Args
def C8 (at' : Int) (op : Int) (i : Nat) (p : Int) : Bool := bif decide (i < AK op) then inP at' p else decide (p = -1)
def CT (m : D.Model) (at' : Int) : Bool :=
  let x := AD m at'
  decide (1 ≤ x.Op) && decide (x.Op ≤ 39) && (C8 at' x.Op 0 x.A && C8 at' x.Op 1 x.B && C8 at' x.Op 2 x.C) &&
  (if x.Op = 1 then Cz ⟨32, true⟩ x.N else if x.Op = 2 then Cr m at' x.V else if x.Op = 30 then Bn m at' x.Args x.Match && (decide (x.N = 0) || decide (x.N = 1))
   else if x.Op = 38 then HA m x else if x.Op = 39 then decide (0 ≤ x.N) && decide (x.N < 1073741824) && BN m x.N && decide ((x.Args.length : Int) = (m.Procs.getD x.N.toNat default).Params) && BI at' x.Args else true)
def Bb (x : D.Expr) : List Int :=
  [x.A, x.B, x.C].take (AK x.Op) ++ ((if x.Op = 30 ∨ x.Op = 39 then x.Args else []) ++ (if x.Op = 2 then (if x.V.Scope = 2 then [x.V.Who] else []) ++ x.V.Dims.map D.Dim.I else []))
def Bt (l : D.Loc) : List (List D.Trans) := l.Out :: l.Esc
def FM (p : D.Proc) : Bool :=
  decide (p.Frame.length ≤ 128) && decide (p.Init.length = p.Frame.length) && decide (Dl p.Frame p.Init < 0) && decide (0 ≤ p.Params) && decide (p.Params ≤ p.Frame.length) && decide (0 ≤ p.Active) && decide (p.Active ≤ 16) && decide (1 ≤ p.Prio) && decide (p.Prio ≤ 255)
def Gd (n : Nat) (many : Nat) (k : Nat) : List (List D.Trans) → Option Nat
  | [] => some many
  | w :: r => bif decide (0 < k) && decide (w.length = 0) then none else bif decide (1024 < many + w.length) then none
      else bif B3 w.length (fun i => inP n (w.getD i default).To) then Gd n (many + w.length) (k + 1) r else none
def OS (final : Int) (i : Nat) (l : D.Loc) : Bool := decide (8 < l.Esc.length) || (l.Dstep && l.Atomic) || (decide ((i : Int) = final) && decide (0 < l.Out.length + l.Esc.length))
def GZ (n : Nat) (final : Int) (many : Nat) (i : Nat) : List D.Loc → Bool
  | [] => true
  | l :: r => bif OS final i l then false else match Gd n many 0 (Bt l) with
    | some many' => GZ n final many' (i + 1) r
    | none => false
def Fg (p : D.Proc) : Bool :=
  decide (1 ≤ p.Locs.length) && decide (p.Locs.length ≤ 256) && inP p.Locs.length p.Start && inP p.Locs.length p.Final && GZ p.Locs.length p.Final 0 0 p.Locs
def E9 (l : D.Loc) : Bool := decide (l.Esc.length = 0) && !l.Atomic && !l.Dstep
def Fi (p : D.Proc) : Bool :=
  decide (p.Frame.length = 0) && decide (p.Params ≤ 0) && decide (p.Active ≤ 0) && decide (p.Provided = -1) && B3 p.Locs.length fun i => E9 (p.Locs.getD i default)
def CO (s : D.Stmt) (args n text : Bool) : Bool := (!args || decide (s.Args.length + s.Match.length = 0)) && (!n || decide (s.N = 0)) && (!text || decide (s.Text.size = 0))
def Cl (m : D.Model) (a : Int) : Bool := inP m.Exprs.length a
def Bp (m : D.Model) (a : Int) : Bool := Cl m a && decide ((AD m a).Op = 2) && decide ((AD m a).V.Scope ≠ 2)
def EX (m : D.Model) (s : D.Stmt) : Bool := Bn m m.Exprs.length s.Args s.Match && B3 s.Match.length fun i => !decide (s.Match.getD i 0 = 0) || Bp m (s.Args.getD i 0)
def Az (m : D.Model) (s : D.Stmt) : Bool :=
  if s.Kind = 1 ∨ s.Kind = 3 then Cl m s.A && decide (s.B = -1) && CO s true true true
  else if s.Kind = 2 then Bp m s.A && Cl m s.B && CO s true true true
  else if s.Kind = 4 then decide (s.A = -1) && decide (s.B = -1) && BI m.Exprs.length s.Args && decide (s.Match.length = 0) && decide (s.Text.size ≤ 256) && decide (s.N = 0)
  else if s.Kind = 5 then Cl m s.A && decide (s.B = -1) && decide (1 ≤ s.Args.length) && decide (s.Args.length ≤ 8) && BI m.Exprs.length s.Args && decide (s.Match.length = 0) && (decide (s.N = 0) || decide (s.N = 1)) && decide (s.Text.size = 0)
  else if s.Kind = 6 then Cl m s.A && decide (s.B = -1) && EX m s && decide (0 ≤ s.N) && decide (s.N ≤ 3) && decide (s.Text.size = 0)
  else if s.Kind = 7 ∨ s.Kind = 8 then decide (s.A = -1) && decide (s.B = -1) && CO s true true true
  else if s.Kind = 9 then Bp m s.A && decide (s.B = -1) && decide (0 ≤ s.N) && decide (s.N < m.Shapes.length) && CO s true false true
  else false
def DT (m : D.Model) (i : Int) (v : D.Var) : Int :=
  if v.Scope = 0 then m.Globals.length else if v.Scope = 1 then (m.Procs.getD i.toNat default).Frame.length else (m.Procs.getD v.Type_.toNat default).Frame.length
def Ez (m : D.Model) (i run k : Int) : Bool :=
  let x := AD m k
  (decide (x.Op = 39) && decide (k ≠ run)) || (decide (i = m.Claim) && (decide (x.Op = 31) || (decide (x.Op = 39) || (decide (x.Op = 2) && decide (x.V.Scope = 1))))) || (decide (x.Op = 2) && decide (DT m i x.V < CE x.V))
def Lq (m : D.Model) (i run : Int) : Nat → List Bool → List Int → Bool
  | _, _, [] => true
  | 0, _, _ => true
  | g + 1, seen, k :: r => bif seen.getD k.toNat false then Lq m i run g seen r else bif Ez m i run k then false else Lq m i run g (seen.set k.toNat true) (r ++ Bb (AD m k))
def load (m : D.Model) (seen : List Bool) : Nat := ((List.range m.Exprs.length).map fun k => bif seen.getD k false then 0 else (Bb (m.Exprs.getD k default)).length).sum
def AO (m : D.Model) : List Bool := List.replicate m.Exprs.length false
def GN (m : D.Model) (i : Int) (list : List Int) (run : Int) : Bool := Lq m i run (list.length + load m (AO m) + 1) (AO m) list
def JI (m : D.Model) (i : Int) (s : D.Stmt) : Bool :=
  Az m s && !(decide (i = m.Claim) && (decide (s.Kind ≠ 1) && (decide (s.Kind ≠ 3) && (decide (s.Kind ≠ 7) && decide (s.Kind ≠ 8))))) &&
  GN m i (s.Args ++ ((if 0 ≤ s.A then [s.A] else []) ++ (if 0 ≤ s.B then [s.B] else []))) (if s.Kind = 1 then s.A else if s.Kind = 2 then s.B else -1)
def Ip (m : D.Model) (i : Int) (w : List D.Trans) : Bool := B3 w.length fun k => JI m i (w.getD k default).S
def OR (m : D.Model) (i : Int) (l : D.Loc) : Bool := B3 (Bt l).length fun k => Ip m i ((Bt l).getD k [])
def C7 (m : D.Model) (i : Int) : Bool :=
  let p := m.Procs.getD i.toNat default
  (B3 p.Locs.length fun k => OR m i (p.Locs.getD k default)) && (decide (p.Provided < 0) || GN m i [p.Provided] (-1))
def MM : List Bool → List Int → Option (List Bool)
  | had, [] => some had
  | had, p :: r => bif had.getD p.toNat false then none else MM (had.set p.toNat true) r
def Eg (m : D.Model) : Nat → Nat → List Bool → Int
  | 0, _, _ => -1
  | g + 1, i, had => bif CT m i then (match MM had (Bb (m.Exprs.getD i default)) with
    | some had' => Eg m g (i + 1) had'
    | none => i) else i
def DB (m : D.Model) : Int := Gv m.Shapes.length fun i => CM (m.Shapes.getD i default)
def EF (m : D.Model) : Int := Gv m.Chans.length fun i => inP m.Shapes.length (m.Chans.getD i 0)
def EE (m : D.Model) : Int := Eg m m.Exprs.length 0 (AO m)
def Bk (m : D.Model) : Int × Int :=
  bif decide (128 < m.Globals.length) || !decide (m.Init.length = m.Globals.length) then (1, -1)
  else bif decide (0 ≤ Dl m.Globals m.Init) then (1, Dl m.Globals m.Init)
  else bif decide (32 < m.Shapes.length) || decide (32 < m.Chans.length) then (2, -1)
  else bif decide (0 ≤ DB m) then (2, DB m)
  else bif decide (0 ≤ EF m) then (2, EF m)
  else bif decide (m.Procs.length < 1) || (decide (16 < m.Procs.length) || (decide (m.Claim < -1) || (decide ((m.Procs.length : Int) ≤ m.Claim) || decide (4096 < m.Exprs.length)))) then (3, -1)
  else bif decide (0 ≤ EE m) then (3, EE m) else (0, 0)
def DZ (m : D.Model) (i : Nat) : Bool :=
  let p := m.Procs.getD i default
  !FM p || (!Fg p || (decide (p.Provided < -1) || (decide ((m.Exprs.length : Int) ≤ p.Provided) || (decide ((i : Int) = m.Claim) && !Fi p))))
def EN (m : D.Model) : Int := Gv m.Procs.length fun i => !DZ m i
def Df (m : D.Model) (k : Nat) : Int := ((m.Procs.take k).map D.Proc.Active).sum
def GW (m : D.Model) : Int := Gv m.Procs.length fun i => C7 m i
def Hd (m : D.Model) : Int × Int × Int :=
  bif decide (0 < (Bk m).1) then (40, Bk m) else bif decide (0 ≤ EN m) then (40, 4, EN m) else bif decide (16 < Df m m.Procs.length) then (40, 5, -1)
  else bif decide (0 ≤ GW m) then (40, 6, GW m) else (0, 0, 0)
end Go.Proofs.YtiaebjpcgjkhoaaGreatDoor
namespace Go.Proofs.YtiaebjpcgjkhoaaGreatDoor
open Go.RowKit
theorem Cn {a x : Int} : inP a x = true ↔ 0 ≤ x ∧ x < a := by simp [inP]
theorem US {α : Type} {l : List α} {i : Nat} {d : α} (h : i < l.length) : l.getD i d ∈ l := by simp [List.getD, h]
theorem CK {α : Type} {l : List α} {d : α} {f : α → Bool} : B3 l.length (fun i => f (l.getD i d)) = true ↔ ∀ x ∈ l, f x = true := by
  rw [AW]
  refine ⟨fun h x hx => ?_, fun h i hi => h _ (US hi)⟩
  obtain ⟨i, hi, rfl⟩ := List.mem_iff_getElem.1 hx
  have := h i hi
  simpa [List.getD, hi] using this
theorem DF {a : Int} {l : List Int} : BI a l = true ↔ ∀ x ∈ l, 0 ≤ x ∧ x < a := by
  unfold BI
  rw [CK (f := fun x => inP a x)]
  exact ⟨fun h x hx => Cn.1 (h x hx), fun h x hx => Cn.2 (h x hx)⟩
theorem LX (op : Int) : AK op ≤ 3 := by unfold AK; split <;> (try split) <;> (try split) <;> omega
theorem KY {m : D.Model} {i : Int} (h : CT m i = true) : ∀ p ∈ Bb (AD m i), 0 ≤ p ∧ p < i := by
  unfold CT at h
  simp only [Bool.and_eq_true] at h
  obtain ⟨⟨⟨_, _⟩, ⟨hA, hB⟩, hC⟩, hO⟩ := h
  generalize AD m i = x at *
  intro p hp
  unfold Bb at hp
  simp only [List.mem_append] at hp
  rcases hp with hp | hp | hp
  · have h3 := LX x.Op
    unfold C8 at hA hB hC
    rcases (show AK x.Op = 0 ∨ AK x.Op = 1 ∨ AK x.Op = 2 ∨ AK x.Op = 3 by omega) with e | e | e | e <;> rw [e] at hp hA hB hC <;> simp [inP] at hp hA hB hC
    · subst hp; omega
    · rcases hp with rfl | rfl <;> omega
    · rcases hp with rfl | rfl | rfl <;> omega
  · split at hp
    · rename_i h30
      rcases h30 with h30 | h39
      · rw [if_neg (by omega), if_neg (by omega), if_pos h30] at hO
        simp only [Bool.and_eq_true, Bn] at hO
        exact DF.1 hO.1.1.2 p hp
      · rw [if_neg (by omega), if_neg (by omega), if_neg (by omega), if_neg (by omega), if_pos h39] at hO
        simp only [Bool.and_eq_true] at hO
        exact DF.1 hO.2 p hp
    · cases hp
  · split at hp
    · rename_i h2
      rw [if_neg (by omega), if_pos h2] at hO
      simp only [Bool.and_eq_true, Cr] at hO
      obtain ⟨⟨_, hW⟩, hD⟩ := hO
      simp only [List.mem_append] at hp
      rcases hp with hp | hp
      · split at hp
        · rename_i hs
          simp only [List.mem_singleton] at hp
          subst hp
          simp only [hs, decide_true, cond_true, Bool.and_eq_true] at hW
          exact Cn.1 hW.1
        · cases hp
      · obtain ⟨d, hd, rfl⟩ := List.mem_map.1 hp
        have := (CK (f := fun d => Gs i d)).1 hD d hd
        simp only [Gs, Bool.and_eq_true] at this
        exact Cn.1 this.1.1.1.1
    · cases hp
theorem QS {m : D.Model} {seen : List Bool} {k : Nat} (hk : seen.getD k false = false) (hs : k < seen.length) : ∀ (l : List Nat), l.Nodup →
    (l.map fun j => bif seen.getD j false then 0 else (Bb (m.Exprs.getD j default)).length).sum = (l.map fun j => bif (seen.set k true).getD j false then 0 else (Bb (m.Exprs.getD j default)).length).sum + (if k ∈ l then (Bb (m.Exprs.getD k default)).length else 0)
  | [], _ => rfl
  | j :: l, hn => by
    have ih := QS (m := m) hk hs l (List.nodup_cons.1 hn).2
    have hj := (List.nodup_cons.1 hn).1
    simp only [List.map_cons, List.sum_cons, ih]
    by_cases hjk : k = j
    · subst hjk
      have h1 : (seen.set k true).getD k false = true := by simp [List.getD, hs]
      rw [h1, hk, if_neg hj, if_pos (List.mem_cons_self ..)]
      simp only [cond_true, cond_false]; omega
    · have h1 : (seen.set k true).getD j false = seen.getD j false := by simp [List.getD, hjk]
      have h2 : (k ∈ j :: l) = (k ∈ l) := by simp [hjk]
      rw [h1]
      simp only [h2]; omega
theorem YP {m : D.Model} {seen : List Bool} {k : Nat} (hk : seen.getD k false = false) (hs : k < seen.length) (hm : seen.length = m.Exprs.length) : load m seen = load m (seen.set k true) + (Bb (m.Exprs.getD k default)).length := by
  unfold load
  rw [QS hk hs _ List.nodup_range, if_pos (List.mem_range.2 (by omega))]
theorem Jv {x : D.Expr} (h1 : x.Args.length ≤ 1048576) (h2 : x.V.Dims.length ≤ 1048576) : (Bb x).length ≤ 2097156 := by
  unfold Bb
  simp only [List.length_append, List.length_take, List.length_cons, List.length_nil]
  split <;> split <;> (try split) <;> simp <;> omega
theorem Aax {m : D.Model} (h : ∀ x ∈ m.Exprs, x.Args.length ≤ 1048576 ∧ x.V.Dims.length ≤ 1048576) (seen : List Bool) : load m seen ≤ m.Exprs.length * 2097156 := by
  unfold load
  have : ∀ (l : List Nat), (∀ j ∈ l, j < m.Exprs.length) → (l.map fun k => bif seen.getD k false then 0 else (Bb (m.Exprs.getD k default)).length).sum ≤ l.length * 2097156 := by
    intro l
    induction l with
    | nil => intro _; simp
    | cons j l ih =>
      intro hl
      have h1 := ih fun i hi => hl i (List.mem_cons_of_mem _ hi)
      have h2 := h _ (US (d := default) (hl j (List.mem_cons_self ..)))
      have h3 := Jv h2.1 h2.2
      simp only [List.map_cons, List.sum_cons, List.length_cons]
      cases seen.getD j false <;> simp only [cond_true, cond_false] <;> omega
  have h1 := this (List.range m.Exprs.length) fun j hj => List.mem_range.1 hj
  simpa using h1
end Go.Proofs.YtiaebjpcgjkhoaaGreatDoor
namespace Go.Proofs.YtiaebjpcgjkhoaaGreatDoor
open Go.RowKit
theorem A6 {n : Int} (h1 : -9223372036854775808 ≤ n) (h2 : n ≤ 9223372036854775807) : IntKind.i64.wrap n = n := IntWalk.i64_in n ⟨h1, h2⟩
theorem Ap {k : Nat} (h : k ≤ 4611686018427387904) : IntKind.i64.wrap ((k : Int) + 1) = ((k + 1 : Nat) : Int) := by rw [A6 (by omega) (by omega)]; omega
theorem AF {α : Type} {l : List α} {i : Nat} {d : α} (h : i < l.length) : l.getD i d ∈ l := by simp [List.getD, h]
theorem AI {c : Ctx} (hT : TOk c.P c.T) (hmx : c.P.follows .mixedOrders = true) {rel : List Nat} (n : Nat) (S : Nat → St) (I : Nat → Prop) (hl : c.sub rel = .loop (D3 (rel ++ [0]) c.code)) (hB : DI c.N (D3 (rel ++ [0]) c.code) = true) (h0 : I 0)
    (round : ∀ k, k ≤ n → I k → ∀ J : St → Prop, (∀ st', k < n → I (k + 1) → Up (fun s => s = S (k + 1)) st' → J st') → A9 ((c.loop rel J).goal (S k))) : AH c rel (S 0) := by
  refine Bh hT hmx (fun g st => ∃ k, k ≤ n ∧ g = n - k ∧ I k ∧ st = S k) hl hB ⟨n, Up.of ⟨0, Nat.zero_le _, rfl, h0, rfl⟩⟩ ?_
  rintro g st ⟨k, hk, rfl, hI, rfl⟩
  refine round k hk hI _ fun st' hlt hI' hup => ⟨n - (k + 1), by omega, ?_⟩
  obtain ⟨s', hc, hs⟩ := hup
  exact ⟨s', hc, k + 1, hlt, rfl, hI', hs⟩
end Go.Proofs.YtiaebjpcgjkhoaaGreatDoor
namespace Go.Proofs.YtiaebjpcgjkhoaaGreatDoor
open Go.RowKit
def tb1 : TE := ⟨.fn, 1, 8, [.sc .nilFunc], false⟩
def tb2 : TE := ⟨.int .i64, 1, 8, [.sc (.int .i64 0)], false⟩
def tb3 : TE := ⟨.int .i64, 1, 8, [.sc (.int .i64 0)], false⟩
def tb4 : TE := ⟨.bool, 1, 1, [.sc (.bool false)], false⟩
def tb5 : TE := ⟨.int .u8, 1, 1, [.sc (.int .u8 0)], false⟩
def tb6 : TE := ⟨.int .u8, 1, 1, [.sc (.int .u8 0)], false⟩
def tb7 : TE := ⟨.agg [(0, 2), (1, 3), (2, 4), (3, 6)], 4, 24, [.sc (.int .i64 0), .sc (.int .i64 0), .sc (.bool false), .sc (.int .u8 0)], true⟩
def tb8 : TE := ⟨.agg [(0, 2), (1, 3), (2, 4), (3, 6)], 4, 24, [.sc (.int .i64 0), .sc (.int .i64 0), .sc (.bool false), .sc (.int .u8 0)], true⟩
def tb9 : TE := ⟨.str, 1, 16, [.sc (.string ByteArray.empty)], false⟩
def Agt : TE := ⟨.str, 1, 16, [.sc (.string ByteArray.empty)], false⟩
def Ags : TE := ⟨.str, 1, 16, [.sc (.string ByteArray.empty)], false⟩
def Agr : TE := ⟨.int .u64, 1, 8, [.sc (.int .u64 0)], false⟩
def Agq : TE := ⟨.agg [(0, 9), (1, 12)], 2, 24, [.sc (.string ByteArray.empty), .sc (.int .u64 0)], false⟩
def Agp : TE := ⟨.agg [(0, 9), (1, 12)], 2, 24, [.sc (.string ByteArray.empty), .sc (.int .u64 0)], false⟩
def Ago : TE := ⟨.ptr, 1, 8, [.sc (.pointer none)], false⟩
def Agn : TE := ⟨.ptr, 1, 8, [.sc (.pointer none)], false⟩
def Agm : TE := ⟨.ptr, 1, 8, [.sc (.pointer none)], false⟩
def Agl : TE := ⟨.agg [(0, 17)], 1, 8, [.sc (.pointer none)], false⟩
def Agk : TE := ⟨.agg [(0, 17)], 1, 8, [.sc (.pointer none)], false⟩
def Agj : TE := ⟨.ifc, 1, 16, [.sc .nilIface], false⟩
def Agi : TE := ⟨.int .i32, 1, 4, [.sc (.int .i32 0)], false⟩
def Agh : TE := ⟨.sl 114, 1, 24, [.nl], false⟩
def Agg : TE := ⟨.sl 2, 1, 24, [.nl], false⟩
def Agf : TE := ⟨.sl 82, 1, 24, [.nl], false⟩
def Age : TE := ⟨.sl 3, 1, 24, [.nl], false⟩
def Agd : TE := ⟨.sl 63, 1, 24, [.nl], false⟩
def Agc : TE := ⟨.sl 122, 1, 24, [.nl], false⟩
def Agb : TE := ⟨.agg [(0, 22), (1, 23), (2, 24), (3, 25), (4, 26), (5, 3), (6, 27)], 7, 152, [.nl, .nl, .nl, .nl, .nl, .sc (.int .i64 0), .nl], false⟩
def Aga : TE := ⟨.agg [(0, 22), (1, 23), (2, 24), (3, 25), (4, 26), (5, 3), (6, 27)], 7, 152, [.nl, .nl, .nl, .nl, .nl, .sc (.int .i64 0), .nl], false⟩
def Af9 : TE := ⟨.sl 80, 1, 24, [.nl], false⟩
def Af8 : TE := ⟨.sl 50, 1, 24, [.nl], false⟩
def Af7 : TE := ⟨.agg [(0, 23), (1, 30), (2, 31), (3, 3), (4, 3), (5, 3)], 6, 96, [.nl, .nl, .nl, .sc (.int .i64 0), .sc (.int .i64 0), .sc (.int .i64 0)], false⟩
def Af6 : TE := ⟨.agg [(0, 23), (1, 30), (2, 31), (3, 3), (4, 3), (5, 3)], 6, 96, [.nl, .nl, .nl, .sc (.int .i64 0), .sc (.int .i64 0), .sc (.int .i64 0)], false⟩
def Af5 : TE := ⟨.sl 4, 1, 24, [.nl], false⟩
def Af4 : TE := ⟨.agg [(0, 29), (7, 33), (13, 3), (14, 4), (15, 34)], 16, 288, [.nl, .nl, .nl, .nl, .nl, .sc (.int .i64 0), .nl, .nl, .nl, .nl, .sc (.int .i64 0), .sc (.int .i64 0), .sc (.int .i64 0), .sc (.int .i64 0), .sc (.bool false), .nl], false⟩
def Af3 : TE := ⟨.agg [(0, 29), (7, 33), (13, 3), (14, 4), (15, 34)], 16, 288, [.nl, .nl, .nl, .nl, .nl, .sc (.int .i64 0), .nl, .nl, .nl, .nl, .sc (.int .i64 0), .sc (.int .i64 0), .sc (.int .i64 0), .sc (.int .i64 0), .sc (.bool false), .nl], false⟩
def Af2 : TE := ⟨.fn, 1, 8, [.sc .nilFunc], false⟩
def Af1 : TE := ⟨.fn, 1, 8, [.sc .nilFunc], false⟩
def Af0 : TE := ⟨.sl 46, 1, 24, [.nl], false⟩
def AfZ : TE := ⟨.int .i64, 1, 8, [.sc (.int .i64 0)], false⟩
def AfY : TE := ⟨.fn, 1, 8, [.sc .nilFunc], false⟩
def AfX : TE := ⟨.fn, 1, 8, [.sc .nilFunc], false⟩
def AfW : TE := ⟨.agg [(0, 3), (1, 3), (2, 3), (3, 3), (4, 3), (5, 40)], 6, 48, [.sc (.int .i64 0), .sc (.int .i64 0), .sc (.int .i64 0), .sc (.int .i64 0), .sc (.int .i64 0), .sc (.int .i64 0)], true⟩
def AfV : TE := ⟨.agg [(0, 3), (1, 3), (2, 3), (3, 3), (4, 3), (5, 40)], 6, 48, [.sc (.int .i64 0), .sc (.int .i64 0), .sc (.int .i64 0), .sc (.int .i64 0), .sc (.int .i64 0), .sc (.int .i64 0)], true⟩
def AfU : TE := ⟨.fn, 1, 8, [.sc .nilFunc], false⟩
def AfT : TE := ⟨.fn, 1, 8, [.sc .nilFunc], false⟩
def AfS : TE := ⟨.agg [(0, 3), (1, 3), (2, 3), (3, 23)], 4, 48, [.sc (.int .i64 0), .sc (.int .i64 0), .sc (.int .i64 0), .nl], false⟩
def AfR : TE := ⟨.agg [(0, 3), (1, 3), (2, 3), (3, 23)], 4, 48, [.sc (.int .i64 0), .sc (.int .i64 0), .sc (.int .i64 0), .nl], false⟩
def AfQ : TE := ⟨.fn, 1, 8, [.sc .nilFunc], false⟩
def AfP : TE := ⟨.sl 57, 1, 24, [.nl], false⟩
def AfO : TE := ⟨.fn, 1, 8, [.sc .nilFunc], false⟩
def AfN : TE := ⟨.agg [(0, 3), (1, 3), (2, 3), (3, 3), (4, 25), (5, 25), (6, 9)], 7, 96, [.sc (.int .i64 0), .sc (.int .i64 0), .sc (.int .i64 0), .sc (.int .i64 0), .nl, .nl, .sc (.string ByteArray.empty)], false⟩
def AfM : TE := ⟨.agg [(0, 3), (1, 3), (2, 3), (3, 3), (4, 25), (5, 25), (6, 9)], 7, 96, [.sc (.int .i64 0), .sc (.int .i64 0), .sc (.int .i64 0), .sc (.int .i64 0), .nl, .nl, .sc (.string ByteArray.empty)], false⟩
def AfL : TE := ⟨.agg [(0, 55), (7, 3), (8, 3)], 9, 112, [.sc (.int .i64 0), .sc (.int .i64 0), .sc (.int .i64 0), .sc (.int .i64 0), .nl, .nl, .sc (.string ByteArray.empty), .sc (.int .i64 0), .sc (.int .i64 0)], false⟩
def AfK : TE := ⟨.agg [(0, 55), (7, 3), (8, 3)], 9, 112, [.sc (.int .i64 0), .sc (.int .i64 0), .sc (.int .i64 0), .sc (.int .i64 0), .nl, .nl, .sc (.string ByteArray.empty), .sc (.int .i64 0), .sc (.int .i64 0)], false⟩
def AfJ : TE := ⟨.sl 52, 1, 24, [.nl], false⟩
def AfI : TE := ⟨.agg [(0, 52), (1, 58), (2, 4), (3, 4), (4, 4), (5, 4), (6, 4)], 7, 56, [.nl, .nl, .sc (.bool false), .sc (.bool false), .sc (.bool false), .sc (.bool false), .sc (.bool false)], false⟩
def AfH : TE := ⟨.agg [(0, 52), (1, 58), (2, 4), (3, 4), (4, 4), (5, 4), (6, 4)], 7, 56, [.nl, .nl, .sc (.bool false), .sc (.bool false), .sc (.bool false), .sc (.bool false), .sc (.bool false)], false⟩
def AfG : TE := ⟨.sl 60, 1, 24, [.nl], false⟩
def AfF : TE := ⟨.agg [(0, 9), (1, 3), (2, 22), (3, 23), (4, 61), (5, 3), (6, 3), (7, 3), (8, 3), (9, 3)], 10, 136, [.sc (.string ByteArray.empty), .sc (.int .i64 0), .nl, .nl, .nl, .sc (.int .i64 0), .sc (.int .i64 0), .sc (.int .i64 0), .sc (.int .i64 0), .sc (.int .i64 0)], false⟩
def AfE : TE := ⟨.agg [(0, 9), (1, 3), (2, 22), (3, 23), (4, 61), (5, 3), (6, 3), (7, 3), (8, 3), (9, 3)], 10, 136, [.sc (.string ByteArray.empty), .sc (.int .i64 0), .nl, .nl, .nl, .sc (.int .i64 0), .sc (.int .i64 0), .sc (.int .i64 0), .sc (.int .i64 0), .sc (.int .i64 0)], false⟩
def AfD : TE := ⟨.fn, 1, 8, [.sc .nilFunc], false⟩
def AfC : TE := ⟨.fn, 1, 8, [.sc .nilFunc], false⟩
def AfB : TE := ⟨.fn, 1, 8, [.sc .nilFunc], false⟩
def AfA : TE := ⟨.fn, 1, 8, [.sc .nilFunc], false⟩
def Afz : TE := ⟨.fn, 1, 8, [.sc .nilFunc], false⟩
def Afy : TE := ⟨.fn, 1, 8, [.sc .nilFunc], false⟩
def Afx : TE := ⟨.fn, 1, 8, [.sc .nilFunc], false⟩
def Afw : TE := ⟨.fn, 1, 8, [.sc .nilFunc], false⟩
def Afv : TE := ⟨.fn, 1, 8, [.sc .nilFunc], false⟩
def Afu : TE := ⟨.fn, 1, 8, [.sc .nilFunc], false⟩
def Aft : TE := ⟨.ptr, 1, 8, [.sc (.pointer none)], false⟩
def Afs : TE := ⟨.fn, 1, 8, [.sc .nilFunc], false⟩
def Afr : TE := ⟨.sl 83, 1, 24, [.nl], false⟩
def Afq : TE := ⟨.agg [(0, 3), (1, 78)], 2, 32, [.sc (.int .i64 0), .nl], false⟩
def Afp : TE := ⟨.agg [(0, 3), (1, 78)], 2, 32, [.sc (.int .i64 0), .nl], false⟩
def Afo : TE := ⟨.agg [(0, 3), (1, 22)], 2, 32, [.sc (.int .i64 0), .nl], false⟩
def Afn : TE := ⟨.agg [(0, 3), (1, 22)], 2, 32, [.sc (.int .i64 0), .nl], false⟩
def Afm : TE := ⟨.sl 2, 1, 24, [.nl], false⟩
def Afl : TE := ⟨.fn, 1, 8, [.sc .nilFunc], false⟩
def Afk : TE := ⟨.fn, 1, 8, [.sc .nilFunc], false⟩
def Afj : TE := ⟨.fn, 1, 8, [.sc .nilFunc], false⟩
def Afi : TE := ⟨.fn, 1, 8, [.sc .nilFunc], false⟩
def Afh : TE := ⟨.fn, 1, 8, [.sc .nilFunc], false⟩
def Afg : TE := ⟨.fn, 1, 8, [.sc .nilFunc], false⟩
def Aff : TE := ⟨.sl 95, 1, 24, [.nl], false⟩
def Afe : TE := ⟨.fn, 1, 8, [.sc .nilFunc], false⟩
def Afd : TE := ⟨.sl 97, 1, 24, [.nl], false⟩
def Afc : TE := ⟨.agg [(0, 4), (1, 40), (2, 93)], 3, 40, [.sc (.bool false), .sc (.int .i64 0), .nl], false⟩
def Afb : TE := ⟨.agg [(0, 4), (1, 40), (2, 93)], 3, 40, [.sc (.bool false), .sc (.int .i64 0), .nl], false⟩
def Afa : TE := ⟨.agg [(0, 3), (1, 3), (2, 3)], 3, 24, [.sc (.int .i64 0), .sc (.int .i64 0), .sc (.int .i64 0)], true⟩
def Ae9 : TE := ⟨.agg [(0, 3), (1, 3), (2, 3)], 3, 24, [.sc (.int .i64 0), .sc (.int .i64 0), .sc (.int .i64 0)], true⟩
def Ae8 : TE := ⟨.fn, 1, 8, [.sc .nilFunc], false⟩
def Ae7 : TE := ⟨.fn, 1, 8, [.sc .nilFunc], false⟩
def AeB : TE := ⟨.fn, 1, 8, [.sc .nilFunc], false⟩
def AeA : TE := ⟨.fn, 1, 8, [.sc .nilFunc], false⟩
def Aez : TE := ⟨.fn, 1, 8, [.sc .nilFunc], false⟩
def Aey : TE := ⟨.fn, 1, 8, [.sc .nilFunc], false⟩
def Aex : TE := ⟨.fn, 1, 8, [.sc .nilFunc], false⟩
def Aew : TE := ⟨.fn, 1, 8, [.sc .nilFunc], false⟩
def Aev : TE := ⟨.fn, 1, 8, [.sc .nilFunc], false⟩
def Aeu : TE := ⟨.fn, 1, 8, [.sc .nilFunc], false⟩
def Aet : TE := ⟨.fn, 1, 8, [.sc .nilFunc], false⟩
def Aes : TE := ⟨.fn, 1, 8, [.sc .nilFunc], false⟩
def Aer : TE := ⟨.fn, 1, 8, [.sc .nilFunc], false⟩
def Aeq : TE := ⟨.agg [(0, 3), (1, 4)], 2, 16, [.sc (.int .i64 0), .sc (.bool false)], true⟩
def Aep : TE := ⟨.agg [(0, 3), (1, 4)], 2, 16, [.sc (.int .i64 0), .sc (.bool false)], true⟩
def Aeo : TE := ⟨.fn, 1, 8, [.sc .nilFunc], false⟩
def Aen : TE := ⟨.fn, 1, 8, [.sc .nilFunc], false⟩
def Aem : TE := ⟨.sl 194, 1, 24, [.nl], false⟩
def Ael : TE := ⟨.agg [(0, 3), (1, 3), (2, 3), (3, 3), (4, 118)], 5, 56, [.sc (.int .i64 0), .sc (.int .i64 0), .sc (.int .i64 0), .sc (.int .i64 0), .nl], false⟩
def Aek : TE := ⟨.agg [(0, 3), (1, 3), (2, 3), (3, 3), (4, 118)], 5, 56, [.sc (.int .i64 0), .sc (.int .i64 0), .sc (.int .i64 0), .sc (.int .i64 0), .nl], false⟩
def Aej : TE := ⟨.agg [(0, 3), (1, 2), (2, 3), (3, 3), (4, 3), (5, 120), (10, 25), (11, 25)], 12, 144, [.sc (.int .i64 0), .sc (.int .i64 0), .sc (.int .i64 0), .sc (.int .i64 0), .sc (.int .i64 0), .sc (.int .i64 0), .sc (.int .i64 0), .sc (.int .i64 0), .sc (.int .i64 0), .nl, .nl, .nl], false⟩
def Aei : TE := ⟨.agg [(0, 3), (1, 2), (2, 3), (3, 3), (4, 3), (5, 120), (10, 25), (11, 25)], 12, 144, [.sc (.int .i64 0), .sc (.int .i64 0), .sc (.int .i64 0), .sc (.int .i64 0), .sc (.int .i64 0), .sc (.int .i64 0), .sc (.int .i64 0), .sc (.int .i64 0), .sc (.int .i64 0), .nl, .nl, .nl], false⟩
def Aeh : TE := ⟨.fn, 1, 8, [.sc .nilFunc], false⟩
def Aeg : TE := ⟨.fn, 1, 8, [.sc .nilFunc], false⟩
def Aef : TE := ⟨.ptr, 1, 8, [.sc (.pointer none)], false⟩
def Aee : TE := ⟨.sl 5, 1, 24, [.nl], false⟩
def Aed : TE := ⟨.agg [(0, 126), (1, 127)], 2, 32, [.sc (.pointer none), .nl], false⟩
def Aec : TE := ⟨.agg [(0, 126), (1, 127)], 2, 32, [.sc (.pointer none), .nl], false⟩
def Aeb : TE := ⟨.fn, 1, 8, [.sc .nilFunc], false⟩
def Aea : TE := ⟨.ifc, 1, 16, [.sc .nilIface], false⟩
def Ad9 : TE := ⟨.ifc, 1, 16, [.sc .nilIface], false⟩
def Ad8 : TE := ⟨.fn, 1, 8, [.sc .nilFunc], false⟩
def Ad7 : TE := ⟨.fn, 1, 8, [.sc .nilFunc], false⟩
def Ad6 : TE := ⟨.fn, 1, 8, [.sc .nilFunc], false⟩
def Ad5 : TE := ⟨.int .u64, 1, 8, [.sc (.int .u64 0)], false⟩
def Ad4 : TE := ⟨.int .u32, 1, 4, [.sc (.int .u32 0)], false⟩
def Ad3 : TE := ⟨.fn, 1, 8, [.sc .nilFunc], false⟩
def Ad2 : TE := ⟨.fn, 1, 8, [.sc .nilFunc], false⟩
def Ad1 : TE := ⟨.fn, 1, 8, [.sc .nilFunc], false⟩
def Ad0 : TE := ⟨.fn, 1, 8, [.sc .nilFunc], false⟩
def AdZ : TE := ⟨.fn, 1, 8, [.sc .nilFunc], false⟩
def AdY : TE := ⟨.fn, 1, 8, [.sc .nilFunc], false⟩
def AdX : TE := ⟨.fn, 1, 8, [.sc .nilFunc], false⟩
def AdW : TE := ⟨.fn, 1, 8, [.sc .nilFunc], false⟩
def AdV : TE := ⟨.fn, 1, 8, [.sc .nilFunc], false⟩
def AdU : TE := ⟨.fn, 1, 8, [.sc .nilFunc], false⟩
def AdT : TE := ⟨.fn, 1, 8, [.sc .nilFunc], false⟩
def AdS : TE := ⟨.fn, 1, 8, [.sc .nilFunc], false⟩
def AdR : TE := ⟨.fn, 1, 8, [.sc .nilFunc], false⟩
def AdQ : TE := ⟨.fn, 1, 8, [.sc .nilFunc], false⟩
def AdP : TE := ⟨.fn, 1, 8, [.sc .nilFunc], false⟩
def AdO : TE := ⟨.fn, 1, 8, [.sc .nilFunc], false⟩
def AdN : TE := ⟨.fn, 1, 8, [.sc .nilFunc], false⟩
def AdM : TE := ⟨.fn, 1, 8, [.sc .nilFunc], false⟩
def AdL : TE := ⟨.fn, 1, 8, [.sc .nilFunc], false⟩
def AdK : TE := ⟨.fn, 1, 8, [.sc .nilFunc], false⟩
def AdJ : TE := ⟨.fn, 1, 8, [.sc .nilFunc], false⟩
def AdI : TE := ⟨.ptr, 1, 8, [.sc (.pointer none)], false⟩
def AdH : TE := ⟨.fn, 1, 8, [.sc .nilFunc], false⟩
def AdG : TE := ⟨.fn, 1, 8, [.sc .nilFunc], false⟩
def AdF : TE := ⟨.fn, 1, 8, [.sc .nilFunc], false⟩
def AdE : TE := ⟨.fn, 1, 8, [.sc .nilFunc], false⟩
def AdD : TE := ⟨.fn, 1, 8, [.sc .nilFunc], false⟩
def AdC : TE := ⟨.fn, 1, 8, [.sc .nilFunc], false⟩
def AdB : TE := ⟨.fn, 1, 8, [.sc .nilFunc], false⟩
def AdA : TE := ⟨.fn, 1, 8, [.sc .nilFunc], false⟩
def Adz : TE := ⟨.fn, 1, 8, [.sc .nilFunc], false⟩
def Ady : TE := ⟨.fn, 1, 8, [.sc .nilFunc], false⟩
def Adx : TE := ⟨.ptr, 1, 8, [.sc (.pointer none)], false⟩
def Adw : TE := ⟨.agg [(0, 29)], 7, 152, [.nl, .nl, .nl, .nl, .nl, .sc (.int .i64 0), .nl], false⟩
def Adv : TE := ⟨.agg [(0, 29)], 7, 152, [.nl, .nl, .nl, .nl, .nl, .sc (.int .i64 0), .nl], false⟩
def Adu : TE := ⟨.fn, 1, 8, [.sc .nilFunc], false⟩
def Adt : TE := ⟨.fn, 1, 8, [.sc .nilFunc], false⟩
def Ads : TE := ⟨.fn, 1, 8, [.sc .nilFunc], false⟩
def Adr : TE := ⟨.fn, 1, 8, [.sc .nilFunc], false⟩
def Adq : TE := ⟨.fn, 1, 8, [.sc .nilFunc], false⟩
def Adp : TE := ⟨.fn, 1, 8, [.sc .nilFunc], false⟩
def Ado : TE := ⟨.fn, 1, 8, [.sc .nilFunc], false⟩
def Adn : TE := ⟨.fn, 1, 8, [.sc .nilFunc], false⟩
def Adm : TE := ⟨.fn, 1, 8, [.sc .nilFunc], false⟩
def Adl : TE := ⟨.fn, 1, 8, [.sc .nilFunc], false⟩
def Adk : TE := ⟨.fn, 1, 8, [.sc .nilFunc], false⟩
def Adj : TE := ⟨.agg [(0, 3), (1, 3), (2, 3)], 3, 24, [.sc (.int .i64 0), .sc (.int .i64 0), .sc (.int .i64 0)], true⟩
def Adi : TE := ⟨.agg [(0, 3), (1, 3), (2, 3)], 3, 24, [.sc (.int .i64 0), .sc (.int .i64 0), .sc (.int .i64 0)], true⟩
def Adh : TE := ⟨.fn, 1, 8, [.sc .nilFunc], false⟩
def Adg : TE := ⟨.fn, 1, 8, [.sc .nilFunc], false⟩
def Adf : TE := ⟨.fn, 1, 8, [.sc .nilFunc], false⟩
def Ade : TE := ⟨.fn, 1, 8, [.sc .nilFunc], false⟩
def Adc : TE := ⟨.fn, 1, 8, [.sc .nilFunc], false⟩
def Adb : TE := ⟨.fn, 1, 8, [.sc .nilFunc], false⟩
def Ada : TE := ⟨.fn, 1, 8, [.sc .nilFunc], false⟩
def Ac9 : TE := ⟨.arr 24 5, 24, 24, [.sc (.int .u8 0), .sc (.int .u8 0), .sc (.int .u8 0), .sc (.int .u8 0), .sc (.int .u8 0), .sc (.int .u8 0), .sc (.int .u8 0), .sc (.int .u8 0), .sc (.int .u8 0), .sc (.int .u8 0), .sc (.int .u8 0), .sc (.int .u8 0), .sc (.int .u8 0), .sc (.int .u8 0), .sc (.int .u8 0), .sc (.int .u8 0), .sc (.int .u8 0), .sc (.int .u8 0), .sc (.int .u8 0), .sc (.int .u8 0), .sc (.int .u8 0), .sc (.int .u8 0), .sc (.int .u8 0), .sc (.int .u8 0)], false⟩
def Ac8 : TE := ⟨.fn, 1, 8, [.sc .nilFunc], false⟩
def Ac7 : TE := ⟨.fn, 1, 8, [.sc .nilFunc], false⟩
def Ac6 : TE := ⟨.fn, 1, 8, [.sc .nilFunc], false⟩
def Ac5 : TE := ⟨.fn, 1, 8, [.sc .nilFunc], false⟩
def Ac4 : TE := ⟨.fn, 1, 8, [.sc .nilFunc], false⟩
def Ac3 : TE := ⟨.fn, 1, 8, [.sc .nilFunc], false⟩
def Ac2 : TE := ⟨.fn, 1, 8, [.sc .nilFunc], false⟩
def Ac1 : TE := ⟨.fn, 1, 8, [.sc .nilFunc], false⟩
def Ac0 : TE := ⟨.fn, 1, 8, [.sc .nilFunc], false⟩
def AcZ : TE := ⟨.fn, 1, 8, [.sc .nilFunc], false⟩
def AcY : TE := ⟨.fn, 1, 8, [.sc .nilFunc], false⟩
def AcX : TE := ⟨.fn, 1, 8, [.sc .nilFunc], false⟩
def AcW : TE := ⟨.fn, 1, 8, [.sc .nilFunc], false⟩
def AcV : TE := ⟨.fn, 1, 8, [.sc .nilFunc], false⟩
def AcU : TE := ⟨.fn, 1, 8, [.sc .nilFunc], false⟩
def AcT : TE := ⟨.fn, 1, 8, [.sc .nilFunc], false⟩
def AcS : TE := ⟨.fn, 1, 8, [.sc .nilFunc], false⟩
def AcR : TE := ⟨.fn, 1, 8, [.sc .nilFunc], false⟩
def AcQ : TE := ⟨.fn, 1, 8, [.sc .nilFunc], false⟩
def AcP : TE := ⟨.fn, 1, 8, [.sc .nilFunc], false⟩
def AcO : TE := ⟨.arr 20 137, 20, 160, [.sc (.int .u64 0), .sc (.int .u64 0), .sc (.int .u64 0), .sc (.int .u64 0), .sc (.int .u64 0), .sc (.int .u64 0), .sc (.int .u64 0), .sc (.int .u64 0), .sc (.int .u64 0), .sc (.int .u64 0), .sc (.int .u64 0), .sc (.int .u64 0), .sc (.int .u64 0), .sc (.int .u64 0), .sc (.int .u64 0), .sc (.int .u64 0), .sc (.int .u64 0), .sc (.int .u64 0), .sc (.int .u64 0), .sc (.int .u64 0)], false⟩
def AcN : TE := ⟨.arr 65 5, 65, 65, [.sc (.int .u8 0), .sc (.int .u8 0), .sc (.int .u8 0), .sc (.int .u8 0), .sc (.int .u8 0), .sc (.int .u8 0), .sc (.int .u8 0), .sc (.int .u8 0), .sc (.int .u8 0), .sc (.int .u8 0), .sc (.int .u8 0), .sc (.int .u8 0), .sc (.int .u8 0), .sc (.int .u8 0), .sc (.int .u8 0), .sc (.int .u8 0), .sc (.int .u8 0), .sc (.int .u8 0), .sc (.int .u8 0), .sc (.int .u8 0), .sc (.int .u8 0), .sc (.int .u8 0), .sc (.int .u8 0), .sc (.int .u8 0), .sc (.int .u8 0), .sc (.int .u8 0), .sc (.int .u8 0), .sc (.int .u8 0), .sc (.int .u8 0), .sc (.int .u8 0), .sc (.int .u8 0), .sc (.int .u8 0), .sc (.int .u8 0), .sc (.int .u8 0), .sc (.int .u8 0), .sc (.int .u8 0), .sc (.int .u8 0), .sc (.int .u8 0), .sc (.int .u8 0), .sc (.int .u8 0), .sc (.int .u8 0), .sc (.int .u8 0), .sc (.int .u8 0), .sc (.int .u8 0), .sc (.int .u8 0), .sc (.int .u8 0), .sc (.int .u8 0), .sc (.int .u8 0), .sc (.int .u8 0), .sc (.int .u8 0), .sc (.int .u8 0), .sc (.int .u8 0), .sc (.int .u8 0), .sc (.int .u8 0), .sc (.int .u8 0), .sc (.int .u8 0), .sc (.int .u8 0), .sc (.int .u8 0), .sc (.int .u8 0), .sc (.int .u8 0), .sc (.int .u8 0), .sc (.int .u8 0), .sc (.int .u8 0), .sc (.int .u8 0), .sc (.int .u8 0)], false⟩
def AcM : TE := ⟨.int .u64, 1, 8, [.sc (.int .u64 0)], false⟩
def AcL : TE := ⟨.fn, 1, 8, [.sc .nilFunc], false⟩
def AcK : TE := ⟨.arr 3 3, 3, 24, [.sc (.int .i64 0), .sc (.int .i64 0), .sc (.int .i64 0)], false⟩
def AcJ : TE := ⟨.fn, 1, 8, [.sc .nilFunc], false⟩
def AcI : TE := ⟨.fn, 1, 8, [.sc .nilFunc], false⟩
def AcH : TE := ⟨.fn, 1, 8, [.sc .nilFunc], false⟩
def AcG : TE := ⟨.fn, 1, 8, [.sc .nilFunc], false⟩
def AcF : TE := ⟨.fn, 1, 8, [.sc .nilFunc], false⟩
def AcE : TE := ⟨.fn, 1, 8, [.sc .nilFunc], false⟩
def AcD : TE := ⟨.fn, 1, 8, [.sc .nilFunc], false⟩
def AcC : TE := ⟨.fn, 1, 8, [.sc .nilFunc], false⟩
def AcB : TE := ⟨.fn, 1, 8, [.sc .nilFunc], false⟩
def AcA : TE := ⟨.fn, 1, 8, [.sc .nilFunc], false⟩
def Acz : TE := ⟨.fn, 1, 8, [.sc .nilFunc], false⟩
def Acy : TE := ⟨.fn, 1, 8, [.sc .nilFunc], false⟩
def Acx : TE := ⟨.fn, 1, 8, [.sc .nilFunc], false⟩
def Acw : TE := ⟨.arr 32 5, 32, 32, [.sc (.int .u8 0), .sc (.int .u8 0), .sc (.int .u8 0), .sc (.int .u8 0), .sc (.int .u8 0), .sc (.int .u8 0), .sc (.int .u8 0), .sc (.int .u8 0), .sc (.int .u8 0), .sc (.int .u8 0), .sc (.int .u8 0), .sc (.int .u8 0), .sc (.int .u8 0), .sc (.int .u8 0), .sc (.int .u8 0), .sc (.int .u8 0), .sc (.int .u8 0), .sc (.int .u8 0), .sc (.int .u8 0), .sc (.int .u8 0), .sc (.int .u8 0), .sc (.int .u8 0), .sc (.int .u8 0), .sc (.int .u8 0), .sc (.int .u8 0), .sc (.int .u8 0), .sc (.int .u8 0), .sc (.int .u8 0), .sc (.int .u8 0), .sc (.int .u8 0), .sc (.int .u8 0), .sc (.int .u8 0)], false⟩
def Acv : TE := ⟨.arr 64 5, 64, 64, [.sc (.int .u8 0), .sc (.int .u8 0), .sc (.int .u8 0), .sc (.int .u8 0), .sc (.int .u8 0), .sc (.int .u8 0), .sc (.int .u8 0), .sc (.int .u8 0), .sc (.int .u8 0), .sc (.int .u8 0), .sc (.int .u8 0), .sc (.int .u8 0), .sc (.int .u8 0), .sc (.int .u8 0), .sc (.int .u8 0), .sc (.int .u8 0), .sc (.int .u8 0), .sc (.int .u8 0), .sc (.int .u8 0), .sc (.int .u8 0), .sc (.int .u8 0), .sc (.int .u8 0), .sc (.int .u8 0), .sc (.int .u8 0), .sc (.int .u8 0), .sc (.int .u8 0), .sc (.int .u8 0), .sc (.int .u8 0), .sc (.int .u8 0), .sc (.int .u8 0), .sc (.int .u8 0), .sc (.int .u8 0), .sc (.int .u8 0), .sc (.int .u8 0), .sc (.int .u8 0), .sc (.int .u8 0), .sc (.int .u8 0), .sc (.int .u8 0), .sc (.int .u8 0), .sc (.int .u8 0), .sc (.int .u8 0), .sc (.int .u8 0), .sc (.int .u8 0), .sc (.int .u8 0), .sc (.int .u8 0), .sc (.int .u8 0), .sc (.int .u8 0), .sc (.int .u8 0), .sc (.int .u8 0), .sc (.int .u8 0), .sc (.int .u8 0), .sc (.int .u8 0), .sc (.int .u8 0), .sc (.int .u8 0), .sc (.int .u8 0), .sc (.int .u8 0), .sc (.int .u8 0), .sc (.int .u8 0), .sc (.int .u8 0), .sc (.int .u8 0), .sc (.int .u8 0), .sc (.int .u8 0), .sc (.int .u8 0), .sc (.int .u8 0)], false⟩
def Acu : TE := ⟨.agg [(0, 17), (1, 17), (2, 17), (3, 9)], 4, 40, [.sc (.pointer none), .sc (.pointer none), .sc (.pointer none), .sc (.string ByteArray.empty)], false⟩
def Acs : TE := ⟨.agg [(0, 17), (1, 17), (2, 17), (3, 9)], 4, 40, [.sc (.pointer none), .sc (.pointer none), .sc (.pointer none), .sc (.string ByteArray.empty)], false⟩
def Acr : TE := ⟨.arr 0 16, 0, 0, [], false⟩
def Acq : TE := ⟨.agg [(0, 247)], 0, 0, [], false⟩
def Acp : TE := ⟨.agg [(0, 247)], 0, 0, [], false⟩
def Aco : TE := ⟨.fn, 1, 8, [.sc .nilFunc], false⟩
def Acn : TE := ⟨.int .u8, 1, 1, [.sc (.int .u8 0)], false⟩
def Acm : TE := ⟨.int .u8, 1, 1, [.sc (.int .u8 0)], false⟩
def Acl : TE := ⟨.fn, 1, 8, [.sc .nilFunc], false⟩
def Ack : TE := ⟨.int .i32, 1, 4, [.sc (.int .i32 0)], false⟩
def Acj : TE := ⟨.int .i32, 1, 4, [.sc (.int .i32 0)], false⟩
def Aci : TE := ⟨.agg [(0, 12), (1, 12), (2, 138), (3, 251), (4, 5), (5, 5), (6, 252), (7, 253), (8, 167), (9, 254), (10, 255)], 11, 48, [.sc (.int .u64 0), .sc (.int .u64 0), .sc (.int .u32 0), .sc (.int .u8 0), .sc (.int .u8 0), .sc (.int .u8 0), .sc (.int .u8 0), .sc .nilFunc, .sc (.pointer none), .sc (.int .i32 0), .sc (.int .i32 0)], false⟩
def Ach : TE := ⟨.agg [(0, 12), (1, 12), (2, 138), (3, 251), (4, 5), (5, 5), (6, 252), (7, 253), (8, 167), (9, 254), (10, 255)], 11, 48, [.sc (.int .u64 0), .sc (.int .u64 0), .sc (.int .u32 0), .sc (.int .u8 0), .sc (.int .u8 0), .sc (.int .u8 0), .sc (.int .u8 0), .sc .nilFunc, .sc (.pointer none), .sc (.int .i32 0), .sc (.int .i32 0)], false⟩
def Fv : TE := ⟨.other, 0, 0, [], false⟩
def tb (t : TypeId) : TE := bif Nat.blt t 258 then (bif Nat.blt t 129 then (bif Nat.blt t 64 then (bif Nat.blt t 32 then (bif Nat.blt t 16 then (bif Nat.blt t 8 then (bif Nat.blt t 4 then (bif Nat.blt t 2 then (bif Nat.blt t 1 then Fv else tb1) else (bif Nat.blt t 3 then tb2 else tb3)) else (bif Nat.blt t 6 then (bif Nat.blt t 5 then tb4 else tb5) else (bif Nat.blt t 7 then tb6 else tb7))) else (bif Nat.blt t 12 then (bif Nat.blt t 10 then (bif Nat.blt t 9 then tb8 else tb9) else (bif Nat.blt t 11 then Agt else Ags)) else (bif Nat.blt t 14 then (bif Nat.blt t 13 then Agr else Agq) else (bif Nat.blt t 15 then Agp else Ago)))) else (bif Nat.blt t 24 then (bif Nat.blt t 20 then (bif Nat.blt t 18 then (bif Nat.blt t 17 then Agn else Agm) else (bif Nat.blt t 19 then Agl else Agk)) else (bif Nat.blt t 22 then (bif Nat.blt t 21 then Agj else Agi) else (bif Nat.blt t 23 then Agh else Agg))) else (bif Nat.blt t 28 then (bif Nat.blt t 26 then (bif Nat.blt t 25 then Agf else Age) else (bif Nat.blt t 27 then Agd else Agc)) else (bif Nat.blt t 30 then (bif Nat.blt t 29 then Agb else Aga) else (bif Nat.blt t 31 then Af9 else Af8))))) else (bif Nat.blt t 48 then (bif Nat.blt t 40 then (bif Nat.blt t 36 then (bif Nat.blt t 34 then (bif Nat.blt t 33 then Af7 else Af6) else (bif Nat.blt t 35 then Af5 else Af4)) else (bif Nat.blt t 38 then (bif Nat.blt t 37 then Af3 else Af2) else (bif Nat.blt t 39 then Af1 else Af0))) else (bif Nat.blt t 44 then (bif Nat.blt t 42 then (bif Nat.blt t 41 then AfZ else Fv) else (bif Nat.blt t 43 then AfY else Fv)) else (bif Nat.blt t 46 then (bif Nat.blt t 45 then AfX else AfW) else (bif Nat.blt t 47 then AfV else AfU)))) else (bif Nat.blt t 56 then (bif Nat.blt t 52 then (bif Nat.blt t 50 then (bif Nat.blt t 49 then AfT else AfS) else (bif Nat.blt t 51 then AfR else AfQ)) else (bif Nat.blt t 54 then (bif Nat.blt t 53 then AfP else AfO) else (bif Nat.blt t 55 then AfN else AfM))) else (bif Nat.blt t 60 then (bif Nat.blt t 58 then (bif Nat.blt t 57 then AfL else AfK) else (bif Nat.blt t 59 then AfJ else AfI)) else (bif Nat.blt t 62 then (bif Nat.blt t 61 then AfH else AfG) else (bif Nat.blt t 63 then AfF else AfE)))))) else (bif Nat.blt t 96 then (bif Nat.blt t 80 then (bif Nat.blt t 72 then (bif Nat.blt t 68 then (bif Nat.blt t 66 then (bif Nat.blt t 65 then Fv else AfD) else (bif Nat.blt t 67 then AfC else AfB)) else (bif Nat.blt t 70 then (bif Nat.blt t 69 then AfA else Afz) else (bif Nat.blt t 71 then Afy else Afx))) else (bif Nat.blt t 76 then (bif Nat.blt t 74 then (bif Nat.blt t 73 then Afw else Afv) else (bif Nat.blt t 75 then Fv else Afu)) else (bif Nat.blt t 78 then (bif Nat.blt t 77 then Aft else Afs) else (bif Nat.blt t 79 then Afr else Afq)))) else (bif Nat.blt t 88 then (bif Nat.blt t 84 then (bif Nat.blt t 82 then (bif Nat.blt t 81 then Afp else Afo) else (bif Nat.blt t 83 then Afn else Afm)) else (bif Nat.blt t 86 then (bif Nat.blt t 85 then Afl else Afk) else (bif Nat.blt t 87 then Afj else Afi))) else (bif Nat.blt t 92 then (bif Nat.blt t 90 then (bif Nat.blt t 89 then Fv else Afh) else (bif Nat.blt t 91 then Afg else Aff)) else (bif Nat.blt t 94 then (bif Nat.blt t 93 then Afe else Afd) else (bif Nat.blt t 95 then Afc else Afb))))) else (bif Nat.blt t 112 then (bif Nat.blt t 104 then (bif Nat.blt t 100 then (bif Nat.blt t 98 then (bif Nat.blt t 97 then Afa else Ae9) else (bif Nat.blt t 99 then Ae8 else Ae7)) else (bif Nat.blt t 102 then (bif Nat.blt t 101 then AeB else AeA) else (bif Nat.blt t 103 then Aez else Fv))) else (bif Nat.blt t 108 then (bif Nat.blt t 106 then (bif Nat.blt t 105 then Aey else Aex) else (bif Nat.blt t 107 then Aew else Fv)) else (bif Nat.blt t 110 then (bif Nat.blt t 109 then Aev else Aeu) else (bif Nat.blt t 111 then Aet else Aes)))) else (bif Nat.blt t 120 then (bif Nat.blt t 116 then (bif Nat.blt t 114 then (bif Nat.blt t 113 then Aer else Aeq) else (bif Nat.blt t 115 then Aep else Fv)) else (bif Nat.blt t 118 then (bif Nat.blt t 117 then Aeo else Aen) else (bif Nat.blt t 119 then Aem else Ael))) else (bif Nat.blt t 124 then (bif Nat.blt t 122 then (bif Nat.blt t 121 then Aek else Aej) else (bif Nat.blt t 123 then Aei else Fv)) else (bif Nat.blt t 126 then (bif Nat.blt t 125 then Aeh else Aeg) else (bif Nat.blt t 127 then Aef else (bif Nat.blt t 128 then Aee else Aed)))))))) else (bif Nat.blt t 193 then (bif Nat.blt t 161 then (bif Nat.blt t 145 then (bif Nat.blt t 137 then (bif Nat.blt t 133 then (bif Nat.blt t 131 then (bif Nat.blt t 130 then Aec else Aeb) else (bif Nat.blt t 132 then Aea else Ad9)) else (bif Nat.blt t 135 then (bif Nat.blt t 134 then Fv else Ad8) else (bif Nat.blt t 136 then Ad7 else Ad6))) else (bif Nat.blt t 141 then (bif Nat.blt t 139 then (bif Nat.blt t 138 then Ad5 else Ad4) else (bif Nat.blt t 140 then Ad3 else Ad2)) else (bif Nat.blt t 143 then (bif Nat.blt t 142 then Ad1 else Ad0) else (bif Nat.blt t 144 then Fv else AdZ)))) else (bif Nat.blt t 153 then (bif Nat.blt t 149 then (bif Nat.blt t 147 then (bif Nat.blt t 146 then Fv else AdY) else (bif Nat.blt t 148 then AdX else Fv)) else (bif Nat.blt t 151 then (bif Nat.blt t 150 then AdW else Fv) else (bif Nat.blt t 152 then AdV else Fv))) else (bif Nat.blt t 157 then (bif Nat.blt t 155 then (bif Nat.blt t 154 then AdU else AdT) else (bif Nat.blt t 156 then Fv else AdS)) else (bif Nat.blt t 159 then (bif Nat.blt t 158 then AdR else AdQ) else (bif Nat.blt t 160 then Fv else AdP))))) else (bif Nat.blt t 177 then (bif Nat.blt t 169 then (bif Nat.blt t 165 then (bif Nat.blt t 163 then (bif Nat.blt t 162 then AdO else AdN) else (bif Nat.blt t 164 then AdM else AdL)) else (bif Nat.blt t 167 then (bif Nat.blt t 166 then AdK else AdJ) else (bif Nat.blt t 168 then AdI else AdH))) else (bif Nat.blt t 173 then (bif Nat.blt t 171 then (bif Nat.blt t 170 then Fv else AdG) else (bif Nat.blt t 172 then AdF else AdE)) else (bif Nat.blt t 175 then (bif Nat.blt t 174 then AdD else AdC) else (bif Nat.blt t 176 then AdB else AdA)))) else (bif Nat.blt t 185 then (bif Nat.blt t 181 then (bif Nat.blt t 179 then (bif Nat.blt t 178 then Adz else Ady) else (bif Nat.blt t 180 then Adx else Adw)) else (bif Nat.blt t 183 then (bif Nat.blt t 182 then Adv else Adu) else (bif Nat.blt t 184 then Adt else Ads))) else (bif Nat.blt t 189 then (bif Nat.blt t 187 then (bif Nat.blt t 186 then Adr else Adq) else (bif Nat.blt t 188 then Adp else Ado)) else (bif Nat.blt t 191 then (bif Nat.blt t 190 then Adn else Adm) else (bif Nat.blt t 192 then Adl else Adk)))))) else (bif Nat.blt t 225 then (bif Nat.blt t 209 then (bif Nat.blt t 201 then (bif Nat.blt t 197 then (bif Nat.blt t 195 then (bif Nat.blt t 194 then Adj else Adi) else (bif Nat.blt t 196 then Adh else Adg)) else (bif Nat.blt t 199 then (bif Nat.blt t 198 then Adf else Ade) else (bif Nat.blt t 200 then Adc else Fv))) else (bif Nat.blt t 205 then (bif Nat.blt t 203 then (bif Nat.blt t 202 then Adb else Ada) else (bif Nat.blt t 204 then Ac9 else Ac8)) else (bif Nat.blt t 207 then (bif Nat.blt t 206 then Ac7 else Fv) else (bif Nat.blt t 208 then Ac6 else Ac5)))) else (bif Nat.blt t 217 then (bif Nat.blt t 213 then (bif Nat.blt t 211 then (bif Nat.blt t 210 then Ac4 else Ac3) else (bif Nat.blt t 212 then Ac2 else Ac1)) else (bif Nat.blt t 215 then (bif Nat.blt t 214 then Ac0 else AcZ) else (bif Nat.blt t 216 then AcY else AcX))) else (bif Nat.blt t 221 then (bif Nat.blt t 219 then (bif Nat.blt t 218 then AcW else AcV) else (bif Nat.blt t 220 then AcU else AcT)) else (bif Nat.blt t 223 then (bif Nat.blt t 222 then AcS else AcR) else (bif Nat.blt t 224 then AcQ else AcP))))) else (bif Nat.blt t 241 then (bif Nat.blt t 233 then (bif Nat.blt t 229 then (bif Nat.blt t 227 then (bif Nat.blt t 226 then AcO else AcN) else (bif Nat.blt t 228 then AcM else AcL)) else (bif Nat.blt t 231 then (bif Nat.blt t 230 then AcK else AcJ) else (bif Nat.blt t 232 then AcI else AcH))) else (bif Nat.blt t 237 then (bif Nat.blt t 235 then (bif Nat.blt t 234 then AcG else AcF) else (bif Nat.blt t 236 then AcE else AcD)) else (bif Nat.blt t 239 then (bif Nat.blt t 238 then AcC else AcB) else (bif Nat.blt t 240 then AcA else Acz)))) else (bif Nat.blt t 249 then (bif Nat.blt t 245 then (bif Nat.blt t 243 then (bif Nat.blt t 242 then Acy else Acx) else (bif Nat.blt t 244 then Acw else Acv)) else (bif Nat.blt t 247 then (bif Nat.blt t 246 then Acu else Acs) else (bif Nat.blt t 248 then Acr else Acq))) else (bif Nat.blt t 253 then (bif Nat.blt t 251 then (bif Nat.blt t 250 then Acp else Aco) else (bif Nat.blt t 252 then Acn else Acm)) else (bif Nat.blt t 255 then (bif Nat.blt t 254 then Acl else Ack) else (bif Nat.blt t 256 then Acj else (bif Nat.blt t 257 then Aci else Ach))))))))) else Fv
def N7 : List Nat := [1, 2, 3, 4, 5, 6, 7, 8, 9, 10, 11, 12, 13, 14, 15, 16, 17, 18, 19, 20, 21, 22, 23, 24, 25, 26, 27, 28, 29, 30, 31, 32, 33, 34, 35, 36, 37, 38, 39, 40, 42, 44, 45, 46, 47, 48, 49, 50, 51, 52, 53, 54, 55, 56, 57, 58, 59, 60, 61, 62, 63, 65, 66, 67, 68, 69, 70, 71, 72, 73, 75, 76, 77, 78, 79, 80, 81, 82, 83, 84, 85, 86, 87, 89, 90, 91, 92, 93, 94, 95, 96, 97, 98, 99, 100, 101, 102, 104, 105, 106, 108, 109, 110, 111, 112, 113, 114, 116, 117, 118, 119, 120, 121, 122, 124, 125, 126, 127, 128, 129, 130, 131, 132, 134, 135, 136, 137, 138, 139, 140, 141, 142, 144, 146, 147, 149, 151, 153, 154, 156, 157, 158, 160, 161, 162, 163, 164, 165, 166, 167, 168, 170, 171, 172, 173, 174, 175, 176, 177, 178, 179, 180, 181, 182, 183, 184, 185, 186, 187, 188, 189, 190, 191, 192, 193, 194, 195, 196, 197, 198, 199, 201, 202, 203, 204, 205, 207, 208, 209, 210, 211, 212, 213, 214, 215, 216, 217, 218, 219, 220, 221, 222, 223, 224, 225, 226, 227, 228, 229, 230, 231, 232, 233, 234, 235, 236, 237, 238, 239, 240, 241, 242, 243, 244, 245, 246, 247, 248, 249, 250, 251, 252, 253, 254, 255, 256, 257]
theorem Z8 : N7.map tb = N7.map (T3 Tryz.prog) := by kernel_rfl
theorem XZ : ((List.range 258).all fun t => N7.contains t || (match (tb t).k with | .other => true | _ => false)) = true := by kernel_rfl
theorem Am : TOk Tryz.prog tb := by
  refine ⟨fun t => ?_⟩
  by_cases ht : t < 258
  · have h := List.all_eq_true.1 XZ t (List.mem_range.2 ht)
    rw [Bool.or_eq_true] at h
    rcases h with h | h
    · left
      have hm : t ∈ N7 := by simpa using h
      obtain ⟨i, hi, rfl⟩ := List.getElem_of_mem hm
      have e := congrArg (·[i]?) Z8
      simpa [hi] using e
    · right
      generalize (tb t).k = k at h
      cases k <;> first | rfl | cases h
  · right
    have hb : Nat.blt t 258 = false := by
      cases hq : Nat.blt t 258 with
      | true => exact absurd (Nat.le_of_ble_eq_true hq) ht
      | false => rfl
    unfold tb
    rw [hb]
    rfl
theorem An : Tryz.prog.follows .mixedOrders = true := by kernel_rfl
end Go.Proofs.YtiaebjpcgjkhoaaGreatDoor
namespace Go.Proofs.YtiaebjpcgjkhoaaGreatDoor
open Go.RowKit
def VY : Shp := { α := Int, enc := fun b => ([], Ad b) }
def Aag : Shp := { α := Bool, enc := fun b => ([], Ai b) }
def Aae : Shp := { α := List Int, enc := fun l => ([], Aa true l) }
def AeE : Shp := { α := List (List D.Trans), enc := fun l => ([], AE true l) }
def Ym : Shp := { α := Int × Int, enc := fun y => ([], .tup [Ad y.1, Ad y.2]) }
def Ot : Shp := { α := Int × Int × Int, enc := fun y => ([], .tup [Ad y.1, Ad y.2.1, Ad y.2.2]) }
def Ba (f : FuncId) : Shp :=
  bif Nat.beq f 146 || Nat.beq f 130 || Nat.beq f 156 || Nat.beq f 163 then VY
  else bif Nat.beq f 133 then Aae else bif Nat.beq f 134 then AeE else bif Nat.beq f 102 then Ym else bif Nat.beq f 70 then Ot else Aag
def tpM (m : D.Model) : VV := .tp (Ac m)
def Bd : Ann := { keep := fun _ => [] }
end Go.Proofs.YtiaebjpcgjkhoaaGreatDoor
namespace Go.Proofs.YtiaebjpcgjkhoaaGreatDoor
open Go.RowKit
def Ke : Ann := { keep := fun
  | [0, 1, 0, 1, 1, 1] => [3, 24, 25, 26]
  | _ => [] }
def J8 : Ann := { keep := fun
  | [0, 1, 0, 1] => [0, 1, 7, 8]
  | _ => [] }
def Kb : Ann := { keep := fun
  | [0, 1, 0, 1, 1] => [26, 27, 28]
  | _ => [] }
def Kg : Ann := { keep := fun
  | [0, 1, 0, 1] => [0, 7, 8, 9]
  | _ => [] }
def IU : Ann := { keep := fun
  | [0, 1, 0, 1] => [0, 7, 8, 9]
  | _ => [] }
def Hk : Ann := { keep := fun
  | [0, 1, 0, 1, 1, 1] => [1, 58, 59, 60]
  | _ => [] }
def Hn : Ann := { keep := fun
  | [0, 1, 0, 1, 1] => [0, 2, 32, 33, 34]
  | _ => [] }
def F6 : Ann := { keep := fun
  | [0, 1, 0, 1, 1, 1] => [0, 1, 5, 30, 31]
  | _ => [] }
def Ej : Ann := { keep := fun
  | [0, 1, 0, 1, 1, 1, 1] => [1, 3, 4, 43, 44, 45]
  | [0, 1, 1, 1, 0, 0, 1, 1, 0, 0, 1, 0, 1, 1, 1, 1] => [1, 3, 4, 43, 44, 45, 79, 80, 81]
  | [0, 1, 1, 1, 1, 1, 0, 0, 1, 1, 0, 0, 1, 1, 1, 0, 0, 1, 1, 0, 0, 1, 0, 1, 1, 1, 1] => [1, 3, 4, 43, 44, 45, 79, 80, 81, 99, 100, 101]
  | _ => [] }
def Ho : Ann := { keep := fun
  | [0, 1, 0, 1, 1] => [25, 26, 27]
  | _ => [] }
def Ka : Ann := { keep := fun
  | [0, 1, 0, 1, 1] => [0, 3, 21, 22, 23]
  | _ => [] }
def Hl : Ann := { keep := fun
  | [1] => [0, 1, 2, 3, 9, 10, 11]
  | _ => [] }
def Ft : Ann := { keep := fun
  | [0, 1, 0, 1, 1] => [0, 1, 5, 21, 22, 23]
  | [0, 1, 1, 0, 0, 1, 1, 0, 0, 1, 0, 1, 1] => [0, 1, 5, 21, 22, 23, 28, 29, 30]
  | [0, 1, 1, 0, 0, 1, 1, 0, 0, 1, 1, 0, 0, 1, 1, 0, 0, 1, 0, 1, 1] => [0, 1, 5, 21, 22, 23, 28, 29, 30, 34, 35, 36]
  | _ => [] }
def CP : Ann := { keep := fun
  | [0, 1, 0, 1, 1, 1, 1, 1] => [0, 4, 50, 51, 52]
  | [0, 1, 0, 1, 1, 1, 1, 1, 1] => [0, 4, 63, 64, 65]
  | [0, 1, 0, 1, 1, 1, 1, 1, 1, 1, 1, 1] => [0, 4, 10, 116, 117]
  | [0, 1, 1, 1, 0, 0, 1, 1, 0, 0, 1, 0, 1, 1, 1, 1, 1, 1, 1, 1, 1] => [0, 4, 10, 11, 116, 117, 130, 131, 132]
  | _ => [] }
def Fu : Ann := { keep := fun
  | [0, 1, 1, 0, 1, 0, 1, 1, 1] => [3, 45, 46, 47]
  | _ => [] }
def F7 : Ann := { keep := fun
  | [0, 1, 0, 1, 1, 1, 1] => [1, 5, 8, 25, 26, 27]
  | [0, 1, 0, 1, 1, 1, 1, 1, 1] => [5, 74, 75]
  | _ => [] }
def DV (l : List Bool) : Nat → List VV := fun i => [Ai (l.getD i false)]
def A7 (l : List Int) : Nat → List VV := fun i => [Ad (l.getD i 0)]
def Ul (n : Int) (v : D.Var) (k : Int) : St := Ao [(3, Ad n), (24, Bw true v.Dims), (25, Ad v.Dims.length), (26, Ad k)] []
def T9 (t : List D.Type) (init : List Int) (k : Int) : St := Ao [(0, Aj true t), (1, Aa true init), (7, Ad t.length), (8, Ad k)] []
def Uc (s : D.Shape) (k : Int) : St := Ao [(26, Aj true s.Fields), (27, Ad s.Fields.length), (28, Ad k)] []
def Ut (a : Int) (l : List Int) (k : Int) : St := Ao [(0, Ad a), (7, Aa false l), (8, Ad l.length), (9, Ad k)] []
def P4 (a : Int) (l : List Int) (k : Int) : St := Ao [(0, Ad a), (7, Aa true l), (8, Ad l.length), (9, Ad k)] []
def Se (a : Int) (v : D.Var) (k : Int) : St := Ao [(1, Ad a), (58, Bw true v.Dims), (59, Ad v.Dims.length), (60, Ad k)] []
def Nf (m : D.Model) (args mt : List Int) (k : Int) : St := Ao [(0, tpM m), (2, Aa true args), (32, Aa true mt), (33, Ad mt.length), (34, Ad k)] []
def Gg (m : D.Model) (a : Int) (x : D.Expr) (k : Int) : St := Ao [(0, tpM m), (1, Ad a), (5, .bp 0 0), (30, .agg [Ad x.A, Ad x.B, Ad x.C]), (31, Ad k)] [.box (Au x)]
def PZ (p : D.Proc) (many k : Int) : St := Ao [(1, .bp 0 0), (3, Ad p.Locs.length), (4, Ad many), (43, BM true p.Locs), (44, Ad p.Locs.length), (45, Ad k)] [.box (AB p)]
def PY (p : D.Proc) (many k : Int) (ws : List (List D.Trans)) (j : Int) : St := Ao [(1, .bp 0 0), (3, Ad p.Locs.length), (4, Ad many), (43, BM true p.Locs), (44, Ad p.Locs.length), (45, Ad k), (79, AE true ws), (80, Ad ws.length), (81, Ad j)] [.box (AB p)]
def PX (p : D.Proc) (many k : Int) (ws : List (List D.Trans)) (j : Int) (w : List D.Trans) (h : Int) : St := Ao [(1, .bp 0 0), (3, Ad p.Locs.length), (4, Ad many), (43, BM true p.Locs), (44, Ad p.Locs.length), (45, Ad k), (79, AE true ws), (80, Ad ws.length), (81, Ad j), (99, Aq true w), (100, Ad w.length), (101, Ad h)] [.box (AB p)]
def Ng (p : D.Proc) (k : Int) : St := Ao [(25, BM true p.Locs), (26, Ad p.Locs.length), (27, Ad k)] []
def Ub (m : D.Model) (s : D.Stmt) (k : Int) : St := Ao [(0, tpM m), (3, .bp 0 0), (21, Aa true s.Match), (22, Ad s.Match.length), (23, Ad k)] [.box (Av s)]
def Og (m : D.Model) (i : Int) (list : List Int) (run : Int) (seen : List Bool) (todo : List Int) (k : Int) : St := Ao [(0, tpM m), (1, Ad i), (2, Aa false list), (3, Ad run), (9, .ow 0 0 seen.length), (10, .ow 1 0 todo.length), (11, Ad k)] [.arr true 0 seen.length 1 (DV seen), .arr true 0 todo.length 1 (A7 todo)]
def Aab (m : D.Model) (i : Int) (list : List Int) (run : Int) : St := Ao [(0, tpM m), (1, Ad i), (2, Aa false list), (3, Ad run), (9, .dead), (10, .dead), (11, .dead)] []
def Oo (m : D.Model) (i : Int) (p : D.Proc) (k : Int) : St := Ao [(0, tpM m), (1, Ad i), (5, .bp 0 0), (21, BM true p.Locs), (22, Ad p.Locs.length), (23, Ad k)] [.box (AB p)]
def On (m : D.Model) (i : Int) (p : D.Proc) (k : Int) (ws : List (List D.Trans)) (j : Int) : St := Ao [(0, tpM m), (1, Ad i), (5, .bp 0 0), (21, BM true p.Locs), (22, Ad p.Locs.length), (23, Ad k), (28, AE true ws), (29, Ad ws.length), (30, Ad j)] [.box (AB p)]
def Um (m : D.Model) (i : Int) (p : D.Proc) (k : Int) (ws : List (List D.Trans)) (j : Int) (w : List D.Trans) (h : Int) : St := Ao [(0, tpM m), (1, Ad i), (5, .bp 0 0), (21, BM true p.Locs), (22, Ad p.Locs.length), (23, Ad k), (28, AE true ws), (29, Ad ws.length), (30, Ad j), (34, Aq true w), (35, Ad w.length), (36, Ad h)] [.box (AB p)]
def X8 (m : D.Model) (k : Int) : St := Ao [(0, tpM m), (4, .bp 0 0), (50, Aw true m.Shapes), (51, Ad m.Shapes.length), (52, Ad k)] [.box (Ac m)]
def X7 (m : D.Model) (k : Int) : St := Ao [(0, tpM m), (4, .bp 0 0), (63, Aa true m.Chans), (64, Ad m.Chans.length), (65, Ad k)] [.box (Ac m)]
def X6 (m : D.Model) (had : List Bool) (k : Int) : St := Ao [(0, tpM m), (4, .bp 0 0), (10, .ow 1 0 had.length), (116, Ad m.Exprs.length), (117, Ad k)] [.box (Ac m), .arr true 0 had.length 1 (DV had)]
def X5 (m : D.Model) (had : List Bool) (k : Int) (l : List Int) (j : Int) : St := Ao [(0, tpM m), (4, .bp 0 0), (10, .ow 1 0 had.length), (11, Ad k), (116, Ad m.Exprs.length), (117, Ad k), (130, Aa true l), (131, Ad l.length), (132, Ad j)] [.box (Ac m), .arr true 0 had.length 1 (DV had)]
def Si (x : D.Expr) (l : List Int) (k : Int) : St := Ao [(3, .ow 0 0 l.length), (45, Bw true x.V.Dims), (46, Ad x.V.Dims.length), (47, Ad k)] [.arr true 0 l.length 1 (A7 l)]
def P3 (m : D.Model) (many k : Int) : St := Ao [(1, .bp 0 0), (5, .bp 1 0), (8, Ad many), (25, AA true m.Procs), (26, Ad m.Procs.length), (27, Ad k)] [.box (Ac m), .box (Ac m)]
def P2 (m : D.Model) (k : Int) : St := Ao [(5, .bp 0 0), (74, Ad m.Procs.length), (75, Ad k)] [.box (Ac m)]
end Go.Proofs.YtiaebjpcgjkhoaaGreatDoor
