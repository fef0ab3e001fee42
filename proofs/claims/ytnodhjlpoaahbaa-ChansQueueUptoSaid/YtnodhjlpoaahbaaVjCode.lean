/-
  Statements on trees: what must hold for a statement to end as is said.
-/
import Derived.Test.YtnodhjlpoaahbaaVjReg7
import Derived.ScopeJumps
namespace Go.Proofs.Ytnodhjlpoaahbaa
open Go.RowKit

/-- From a state on, a statement ends as is said. -/
structure Sat (P : Program) (N b : Nat) (p : List Nat) (c : Code) (K : Exit → St → Prop) (st : St) : Prop where
  h : ∀ (E : Prot) (φ : Phi) (a : Act) (w : World), Rel N E st φ a w → c.wp P (fun e a' w' => ∃ st' φ', K e st' ∧ Rel N E st' φ' a' w' ∧ Fr b w φ w' φ') a w

/-! ### A state, forgotten but for what is kept -/
def lookT (i : Nat) : List (Nat × VV) → VV
  | [] => .dead
  | (j, x) :: l => bif Nat.beq i j then x else lookT i l
/-- A state, written out. -/
def mkSt (l : List (Nat × VV)) (hs : List Ob) : St := { t := fun i => lookT i l, H := obsH hs, nx := hs.length }
/-- The first objects, and all that is come to from there and from what is kept. -/
def outIds (st : St) (b : Nat) (refs : List Nat) : List Nat := reachF st 64 ((List.range b).flatMap (fun i => (st.H i).refs) ++ refs) (List.range b)
def okOut (st : St) (b : Nat) (ids : List Nat) : Bool := okIds st.nx ids && (List.range b).all fun i =>
  match idx ids i with
  | some j => Nat.beq j i
  | none => false
def keepIds (b : Nat) (keep : List Nat) (st : St) : List Nat := outIds st b (keep.flatMap fun i => refsF 8 (st.t i))
def okF (b : Nat) (keep : List Nat) (st : St) : Bool := okOut st b (keepIds b keep st)
def forgetIds (keep : List Nat) (st : St) (ids : List Nat) : St := mkSt (keep.map fun i => (i, lendV st ids (st.t i))) (ids.map (lendOb st ids))
def forget (b : Nat) (keep : List Nat) (st : St) : St := forgetIds keep st (keepIds b keep st)

/-- Which temporaries are kept at a loop's head (at a scope's label), by the place in the text; how many objects are lent. -/
structure Ann where
  keep : List Nat → List Nat
  base : Nat := 0
def seqK (K : Exit → St → Prop) (next : St → Prop) : Exit → St → Prop
  | .normal, st => next st
  | e, st => K e st
def blockK (id : Nat) (K : Exit → St → Prop) : Exit → St → Prop
  | .exit j, st => bif Nat.beq j id then K .normal st else K (.exit j) st
  | e, st => K e st
/-- A loop's round has ended. -/
def loopK (b : Nat) (keep : List Nat) (J : St → Prop) (K : Exit → St → Prop) : Exit → St → Prop
  | .normal, st => bif okF b keep st then J (forget b keep st) else False
  | e, st => K e st
/-- A jump to a label. -/
def jumpK (l b : Nat) (keep : List Nat) (J : St → Prop) (K : Exit → St → Prop) : Exit → St → Prop
  | .goto l', st => bif Nat.beq l' l && okF b keep st then J (forget b keep st) else False
  | e, st => K e st

def xc (P : Program) (T : TypeId → TE) (Sh : Shs) (N : Nat) (L : Ann) : List Nat → Code → (Exit → St → Prop) → St → Prop
  | _, .skip, K, st => K .normal st
  | _, .label _, K, st => K .normal st
  | _, .region _ ops _, K, st => xopsE P T Sh ops 0 ops.toList st [] fun st' => K .normal (clr ops st')
  | p, .seq x y, K, st => xc P T Sh N L (0 :: p) x (seqK K (xc P T Sh N L (1 :: p) y K)) st
  | p, .cond c x y, K, st => match st.val c with
    | .sc (.bool b) => (b = true → xc P T Sh N L (0 :: p) x K st) ∧ (b = false → xc P T Sh N L (1 :: p) y K st)
    | _ => False
  | p, .block id c, K, st => xc P T Sh N L (0 :: p) c (blockK id K) st
  | _, .exit id, K, st => K (.exit id) st
  | _, .goto l, K, st => K (.goto l) st
  | _, .ret, K, st => K .ret st
  | p, .loop c, K, st => bif okF L.base (L.keep p) st then Sat P N L.base p (.loop c) K (forget L.base (L.keep p) st) else False
  | p, .scope c, K, st => bif okF L.base (L.keep p) st then Sat P N L.base p (.scope c) K (forget L.base (L.keep p) st) else False
  | _, _, _, _ => False

/-- A part of a statement, by its place. -/
def subC : List Nat → Code → Code
  | 0 :: q, .seq x _ => subC q x
  | 1 :: q, .seq _ y => subC q y
  | 0 :: q, .cond _ x _ => subC q x
  | 1 :: q, .cond _ _ y => subC q y
  | 0 :: q, .block _ c => subC q c
  | 0 :: q, .loop c => subC q c
  | 0 :: q, .scope c => subC q c
  | [], c => c
  | _, _ => .skip
/-- What follows a part of a statement. -/
def kontC (P : Program) (T : TypeId → TE) (Sh : Shs) (N : Nat) (L : Ann) : List Nat → List Nat → Code → (Exit → St → Prop) → Exit → St → Prop
  | 0 :: q, p, .seq x y, K => kontC P T Sh N L q (0 :: p) x (seqK K (xc P T Sh N L (1 :: p) y K))
  | 1 :: q, p, .seq _ y, K => kontC P T Sh N L q (1 :: p) y K
  | 0 :: q, p, .cond _ x _, K => kontC P T Sh N L q (0 :: p) x K
  | 1 :: q, p, .cond _ _ y, K => kontC P T Sh N L q (1 :: p) y K
  | 0 :: q, p, .block id c, K => kontC P T Sh N L q (0 :: p) c (blockK id K)
  | _, _, _, K => K

/-- The regions of a statement may be run in the text's order. -/
def regsB (N : Nat) : Code → Bool
  | .region _ ops _ => regB ops N
  | .seq x y => regsB N x && regsB N y
  | .cond _ x y => regsB N x && regsB N y
  | .block _ c => regsB N c
  | _ => true

section
variable {P : Program} {T : TypeId → TE} {Sh : Shs} {N b : Nat} {L : Ann} {E : Prot} {w : World} {φ : Phi} {a : Act} {st : St}
theorem lookT_map {f : Nat → VV} (i : Nat) : ∀ (l : List Nat), lookT i (l.map fun j => (j, f j)) = if i ∈ l then f i else .dead
  | [] => rfl
  | j :: l => by
    simp only [List.map_cons, lookT]
    cases hq : Nat.beq i j with
    | true => have := Nat.eq_of_beq_eq_true hq; subst this; simp
    | false =>
      have hne : i ≠ j := by rintro rfl; simp at hq
      rw [cond_false, lookT_map i l]
      simp [hne]
theorem okOut_iff {ids : List Nat} (h : okOut st b ids = true) : okIds st.nx ids = true ∧ ∀ (i : Nat), i < b → ids[i]? = some i := by
  unfold okOut at h
  rw [Bool.and_eq_true] at h
  refine ⟨h.1, fun i hi => ?_⟩
  have := List.all_eq_true.1 h.2 i (List.mem_range.2 hi)
  split at this
  · rename_i j hj
    have e := Nat.eq_of_beq_eq_true this
    subst e
    exact idx_some hj
  · cases this
/-- Some objects alone: the others have been left. -/
theorem lend_fr {ids : List Nat} (hk : ∀ (i : Nat), i < b → ids[i]? = some i) : Fr b w φ w (lendP ids φ) :=
  ⟨rfl, rfl, rfl, Nat.le_refl _, fun _ _ _ => rfl, fun _ h => .inl (rest_own.2 (.inr h)), fun id p hb e => ⟨relPl (fun _ => 0) p, by rw [lendP_at (hk id hb), e]; rfl, by
    cases p with
    | box b => rfl
    | arr c n hd => exact ⟨_, _, _, rfl⟩⟩⟩
theorem lend_there {ids : List Nat} (hk : okIds st.nx ids = true) (hlv : ∀ id, id < st.nx → φ id ≠ none) (j : Nat) : lendP ids φ j ≠ none ↔ j < ids.length := by
  constructor
  · intro h
    obtain ⟨p, hp⟩ := Option.ne_none_iff_exists'.1 h
    obtain ⟨id, _, e1, _⟩ := lendP_some hp
    exact (List.getElem?_eq_some_iff.1 e1).1
  · intro h
    have e1 : ids[j]? = some ids[j] := List.getElem?_eq_getElem h
    rw [lendP_at e1]
    have := hlv _ (okIds_lt hk j _ e1)
    simpa using this
theorem Rel.forgetIds (h : Rel N E st φ a w) {keep ids : List Nat} (hk : okOut st b ids = true) : ∃ φ', Rel N E (forgetIds keep st ids) φ' a w ∧ Fr b w φ w φ' := by
  obtain ⟨hk1, hk2⟩ := okOut_iff hk
  refine ⟨lendP ids φ, ⟨h.sz, h.df, h.old, fun t => ?_, h.hp.lend hk1 (fun _ h => .inl h) (fun _ h => .inl h) h.hp.sub (fun j id e => by simp [Go.Proofs.Ytnodhjlpoaahbaa.forgetIds, mkSt, obsH, e]), fun id hid => ?_, fun id hid => ?_⟩, lend_fr hk2⟩
  · show V w _ _ (lookT t (keep.map fun i => (i, lendV st ids (st.t i)))) _
    rw [lookT_map]
    split
    · exact relF_ok (lend_reloc h.hp (fun _ h => .inl h) fun _ h => .inl h) _ _ _ (h.tm t)
    · exact .dead
  · have hid' : ids.length ≤ id := by have : (ids.map (lendOb st ids)).length ≤ id := hid; simpa using this
    exact Classical.byContradiction fun hn => by have := (lend_there hk1 h.lv id).1 hn; omega
  · have hid' : id < ids.length := by have : id < (ids.map (lendOb st ids)).length := hid; simpa using this
    exact (lend_there hk1 h.lv id).2 hid'
theorem Rel.forget (h : Rel N E st φ a w) {keep : List Nat} (hk : okF b keep st = true) : ∃ φ', Rel N E (forget b keep st) φ' a w ∧ Fr b w φ w φ' := h.forgetIds hk

theorem Sat.mono {p : List Nat} {c : Code} {K K' : Exit → St → Prop} {st : St} (h : Sat P N b p c K st) (hk : ∀ e st, K e st → K' e st) : Sat P N b p c K' st := ⟨fun E φ a w hr =>
  Go.wp_mono (h.h E φ a w hr) fun _ _ _ ⟨st', φ', h1, h2, h3⟩ => ⟨st', φ', hk _ _ h1, h2, h3⟩⟩
theorem xc_sat (hT : TOk P T) (hmx : P.follows .mixedOrders = true) : ∀ (c : Code), regsB N c = true → ∀ (p : List Nat) (K : Exit → St → Prop) (st : St), xc P T Sh N L p c K st → Sat P N L.base p c K st
  | .skip, _, p, K, st, h => ⟨fun E φ a w hr => wp_skip ⟨st, φ, h, hr, Fr.refl _ _ _⟩⟩
  | .label l, _, p, K, st, h => ⟨fun E φ a w hr => wp_label ⟨st, φ, h, hr, Fr.refl _ _ _⟩⟩
  | .exit id, _, p, K, st, h => ⟨fun E φ a w hr => wp_exit ⟨st, φ, h, hr, Fr.refl _ _ _⟩⟩
  | .goto l, _, p, K, st, h => ⟨fun E φ a w hr => wp_goto ⟨st, φ, h, hr, Fr.refl _ _ _⟩⟩
  | .ret, _, p, K, st, h => ⟨fun E φ a w hr => wp_ret ⟨st, φ, h, hr, Fr.refl _ _ _⟩⟩
  | .loop c, _, p, K, st, h => ⟨fun E φ a w hr => by
    simp only [xc] at h
    cases hq : okF L.base (L.keep p) st with
    | false => rw [hq] at h; exact h.elim
    | true =>
      rw [hq] at h
      obtain ⟨φ1, hr1, hf1⟩ := hr.forget hq
      exact Go.wp_mono (h.h E φ1 a w hr1) fun _ _ _ ⟨st', φ', h1, h2, h3⟩ => ⟨st', φ', h1, h2, hf1.trans h3⟩⟩
  | .scope c, _, p, K, st, h => ⟨fun E φ a w hr => by
    simp only [xc] at h
    cases hq : okF L.base (L.keep p) st with
    | false => rw [hq] at h; exact h.elim
    | true =>
      rw [hq] at h
      obtain ⟨φ1, hr1, hf1⟩ := hr.forget hq
      exact Go.wp_mono (h.h E φ1 a w hr1) fun _ _ _ ⟨st', φ', h1, h2, h3⟩ => ⟨st', φ', h1, h2, hf1.trans h3⟩⟩
  | .rangeFunc .., _, p, K, st, h => h.elim
  | .refuse _, _, p, K, st, h => h.elim
  | .region id ops draw, hB, p, K, st, h => ⟨fun E φ a w hr =>
    Go.wp_mono (region_okE (id := id) (draw := draw) hT hmx hB (K := fun st' => K .normal st') h hr) fun e a' w' ⟨he, st', φ', h1, h2, h3⟩ => ⟨st', φ', by rw [he]; exact h1, h2, Fr.of_ext h3⟩⟩
  | .seq x y, hB, p, K, st, h => ⟨fun E φ a w hr => by
    simp only [regsB, Bool.and_eq_true] at hB
    refine wp_seq (Go.wp_mono ((xc_sat hT hmx x hB.1 _ _ st h).h E φ a w hr) ?_)
    rintro e a' w' ⟨st', φ', h1, h2, h3⟩
    cases e with
    | normal => exact Go.wp_mono ((xc_sat hT hmx y hB.2 _ K st' h1).h E φ' a' w' h2) fun e a'' w'' ⟨st'', φ'', g1, g2, g3⟩ => ⟨st'', φ'', g1, g2, h3.trans g3⟩
    | _ => exact ⟨st', φ', h1, h2, h3⟩⟩
  | .cond c x y, hB, p, K, st, h => ⟨fun E φ a w hr => by
    simp only [regsB, Bool.and_eq_true] at hB
    have hc : V w (E.up φ) (some φ) (st.val c) (a.eval c) := by
      cases c with
      | tmp t => exact hr.tm t
      | const v => exact V.litC v
      | global g => exact .dead
      | func f => exact .fn rfl fun j x hx => by simp at hx
    simp only [xc] at h
    split at h
    · rename_i b e
      rw [e] at hc
      refine wp_cond (t := b) hc.sc_inv ?_
      cases b with
      | true => exact (xc_sat hT hmx x hB.1 _ K st (h.1 rfl)).h E φ a w hr
      | false => exact (xc_sat hT hmx y hB.2 _ K st (h.2 rfl)).h E φ a w hr
    · exact h.elim⟩
  | .block id c, hB, p, K, st, h => ⟨fun E φ a w hr => by
    refine wp_block (Go.wp_mono ((xc_sat hT hmx c hB _ _ st h).h E φ a w hr) ?_)
    rintro e a' w' ⟨st', φ', h1, h2, h3⟩
    cases e with
    | exit j =>
      simp only [Exit.inBlock]
      by_cases hj : j = id
      · subst hj
        simp only [blockK, Nat.beq_refl, cond_true] at h1
        rw [if_pos rfl]
        exact ⟨st', φ', h1, h2, h3⟩
      · have hb : Nat.beq j id = false := by
          cases hq : Nat.beq j id with
          | true => exact absurd (Nat.eq_of_beq_eq_true hq) hj
          | false => rfl
        simp only [blockK, hb, cond_false] at h1
        rw [if_neg hj]
        exact ⟨st', φ', h1, h2, h3⟩
    | _ => exact ⟨st', φ', h1, h2, h3⟩⟩

theorem least_of' {p : Nat → Prop} (h : ∃ g, p g) : ∃ g, p g ∧ ∀ g', p g' → g ≤ g' := by
  obtain ⟨g, hg⟩ := h
  induction g using Nat.strongRecOn with
  | _ g ih =>
    by_cases hx : ∃ g', g' < g ∧ p g'
    · obtain ⟨g', hlt, hp⟩ := hx; exact ih g' hlt hp
    · exact ⟨g, hg, fun g' hp => Nat.le_of_not_lt fun hlt => hx ⟨g', hlt, hp⟩⟩
theorem wp_loop_ghost {c : Code} {Q : Exit → Act → World → Prop} {a : Act} {w : World} (J : Nat → Act → World → Prop) (h0 : ∃ g, J g a w)
    (round : ∀ g a w, J g a w → c.wp P (Exit.then (fun a' w' => ∃ g', g' < g ∧ J g' a' w') Q) a w) : (Code.loop c).wp P Q a w := by
  classical
  let μ : Act → World → Nat := fun a w => if h : ∃ g, J g a w then Classical.choose (least_of' h) else 0
  have hμ : ∀ a w, (h : ∃ g, J g a w) → J (μ a w) a w ∧ ∀ g', J g' a w → μ a w ≤ g' := by
    intro a w h
    have e : μ a w = Classical.choose (least_of' h) := dif_pos h
    rw [e]; exact Classical.choose_spec (least_of' h)
  refine wp_loop (fun a w => ∃ g, J g a w) μ h0 ?_
  intro a w hx
  refine Go.wp_mono (round _ a w (hμ a w hx).1) fun e a' w' h => ?_
  cases e with
  | normal =>
    obtain ⟨g', hlt, hj⟩ := h
    exact ⟨⟨g', hj⟩, Nat.lt_of_le_of_lt ((hμ _ _ ⟨g', hj⟩).2 g' hj) hlt⟩
  | _ => exact h
/-- A tree that says less. -/
def VV.le (x y : VV) : Prop := ∀ (w : World) (E : Prot) (m : Option Phi) (v : Value), V w E m x v → V w E m y v
theorem VV.le_refl (x : VV) : VV.le x x := fun _ _ _ _ h => h
theorem VV.le_dead (x : VV) : VV.le x .dead := fun _ _ _ _ _ => .dead
theorem VV.le_nil {fz : Bool} {n : Nat} {f : Nat → List VV} : VV.le .nl (.sl fz 0 n f) := by
  intro w E m v h
  rw [h.nl_inv]
  exact .nil (Nat.zero_le _)
def leL : List VV → List VV → Prop
  | [], [] => True
  | x :: xs, y :: ys => VV.le x y ∧ leL xs ys
  | _, _ => False
theorem leL_refl : ∀ (l : List VV), leL l l
  | [] => trivial
  | x :: xs => ⟨VV.le_refl x, leL_refl xs⟩
theorem leL_at : ∀ {l l' : List VV}, leL l l' → l.length = l'.length ∧ ∀ (j : Nat) y, l'[j]? = some y → ∃ x, l[j]? = some x ∧ VV.le x y
  | [], [], _ => ⟨rfl, fun j y h => by simp at h⟩
  | x :: l, y :: l', h => by
    obtain ⟨h1, h2⟩ := leL_at h.2
    refine ⟨by simp [h1], fun j z hz => ?_⟩
    match j, hz with
    | 0, hz => simp only [List.getElem?_cons_zero, Option.some.injEq] at hz; subst hz; exact ⟨x, rfl, h.1⟩
    | j + 1, hz => exact h2 j z hz
theorem VV.le_sl {fz : Bool} {n s s' : Nat} {f f' : Nat → List VV} (hs : s = s' ∨ n = 0) (h : ∀ i, i < n → leL (f i) (f' i)) : VV.le (.sl fz n s f) (.sl fz n s' f') := by
  intro w E m v hv
  obtain ⟨a, cap, rfl, h1, h2, h3⟩ := hv.sl_inv
  refine V.sl_mk h1 h2 fun hn => ?_
  obtain rfl := hs.resolve_right (by omega)
  obtain ⟨b, off, e, k1, k2, k3, u, k4, k5⟩ := h3 hn
  refine ⟨b, off, e, k1, k2, fun i hi => by rw [← (leL_at (h i hi)).1]; exact k3 i hi, u, fun i j y hi hy => ?_, fun i j y hi hy => ?_⟩
  · obtain ⟨x, hx, _⟩ := (leL_at (h i hi)).2 j y hy
    exact k4 i j x hi hx
  · obtain ⟨x, hx, hle⟩ := (leL_at (h i hi)).2 j y hy
    exact hle _ _ _ _ (k5 i j x hi hx)
theorem VV.le_agg {l l' : List VV} (h : leL l l') : VV.le (.agg l) (.agg l') := by
  intro w E m v hv
  obtain ⟨vs, rfl, h1, h2⟩ := hv.agg_inv
  obtain ⟨k1, k2⟩ := leL_at h
  exact .agg (h1.trans k1) fun j y hy => let ⟨x, hx, hle⟩ := k2 j y hy; hle _ _ _ _ (h2 j x hx)
theorem VV.le_tup {l l' : List VV} (h : leL l l') : VV.le (.tup l) (.tup l') := by
  intro w E m v hv
  cases hv with | tup h1 h2 =>
  obtain ⟨k1, k2⟩ := leL_at h
  exact .tup (h1.trans k1) fun j y hy => let ⟨x, hx, hle⟩ := k2 j y hy; hle _ _ _ _ (h2 j x hx)
/-- An object that says less. -/
def Ob.le (o o' : Ob) : Prop := ∀ (w : World) (E : Prot) (φ : Phi) (p : Pl), ObV w E φ o p → ObV w E φ o' p
theorem Ob.le_refl (o : Ob) : Ob.le o o := fun _ _ _ _ h => h
theorem Ob.le_box {l l' : List VV} (h : leL l l') : Ob.le (.box l) (.box l') := by
  intro w E φ p hp
  cases p with
  | arr => exact hp.elim
  | box b =>
    obtain ⟨c, ty, h1, h2⟩ := hp
    obtain ⟨k1, k2⟩ := leL_at h
    exact ⟨c, ty, h1, h2.1.trans k1, fun j y hy => let ⟨x, hx, hle⟩ := k2 j y hy; hle _ _ _ _ (h2.2 j x hx)⟩
theorem Ob.le_arr {fr : Bool} {g n s : Nat} {f f' : Nat → List VV} (h : ∀ i, i < n → leL (f i) (f' i)) : Ob.le (.arr fr g n s f) (.arr fr g n s f') := by
  intro w E φ p hp
  cases p with
  | box b => exact hp.elim
  | arr g' n' hd =>
    obtain ⟨rfl, rfl, hrow⟩ := hp
    refine ⟨rfl, rfl, ?_⟩
    match hd, hrow with
    | none, hrow => exact hrow
    | some (b, cap), hrow =>
      obtain ⟨c, ty, h1, h2, h3, h4, h5, h6, h7⟩ := hrow
      refine ⟨c, ty, h1, h2, h3, h4, fun i hi => by rw [← (leL_at (h i hi)).1]; exact h5 i hi, fun i j y hi hy => ?_, h7⟩
      obtain ⟨x, hx, hle⟩ := (leL_at (h i hi)).2 j y hy
      cases fr with
      | true => exact hle _ _ _ _ (h6 i j x hi hx)
      | false => exact hle _ _ _ _ (h6 i j x hi hx)
def leO : List Ob → List Ob → Prop
  | [], [] => True
  | o :: os, o' :: os' => Ob.le o o' ∧ leO os os'
  | _, _ => False
theorem leO_refl : ∀ (l : List Ob), leO l l
  | [] => trivial
  | x :: xs => ⟨Ob.le_refl x, leO_refl xs⟩
theorem leO_at : ∀ {l l' : List Ob}, leO l l' → l.length = l'.length ∧ ∀ (j : Nat), Ob.le (obsH l j) (obsH l' j)
  | [], [], _ => ⟨rfl, fun j => Ob.le_refl _⟩
  | x :: l, y :: l', h => by
    obtain ⟨h1, h2⟩ := leO_at h.2
    refine ⟨by simp [h1], fun j => ?_⟩
    match j with
    | 0 => exact h.1
    | j + 1 => exact h2 j
theorem HRel.le {l l' : List Ob} (h : HRel E (obsH l) φ w) (hl : leO l l') : HRel E (obsH l') φ w :=
  ⟨h.sub, fun id p e => (leO_at hl).2 id _ _ _ _ (h.ob id p e), h.inj, h.free⟩
def leT : List (Nat × VV) → List (Nat × VV) → Prop
  | [], [] => True
  | (i, x) :: l, (j, y) :: l' => (i = j ∧ VV.le x y) ∧ leT l l'
  | _, _ => False
theorem leT_refl : ∀ (l : List (Nat × VV)), leT l l
  | [] => trivial
  | (_, x) :: xs => ⟨⟨rfl, VV.le_refl x⟩, leT_refl xs⟩
theorem leT_look : ∀ {l l' : List (Nat × VV)}, leT l l' → ∀ t, VV.le (lookT t l) (lookT t l')
  | [], [], _, _ => VV.le_refl _
  | (i, x) :: l, (j, y) :: l', h, t => by
    obtain ⟨⟨rfl, h1⟩, h2⟩ := h
    simp only [lookT]
    cases Nat.beq t i with
    | true => exact h1
    | false => exact leT_look h2 t
theorem Sat.le {p : List Nat} {c : Code} {K : Exit → St → Prop} {l l' : List (Nat × VV)} {hs hs' : List Ob} (h1 : leT l l') (h2 : leO hs hs') (h : Sat P N b p c K (mkSt l' hs')) : Sat P N b p c K (mkSt l hs) :=
  ⟨fun E φ a w hr => h.h E φ a w ⟨hr.sz, hr.df, hr.old, fun t => leT_look h1 _ _ _ _ _ (hr.tm t), hr.hp.le h2, fun id hid => hr.fr id (by
    show hs.length ≤ id
    rw [(leO_at h2).1]; exact hid), fun id hid => hr.lv id (by
    show id < hs.length
    rw [(leO_at h2).1]; exact hid)⟩⟩
theorem lookT_set {t : Nat} {x y : VV} : ∀ {l : List (Nat × VV)} {k : Nat}, l[k]? = some (t, x) → ∀ i, lookT i (l.set k (t, y)) = lookT i l ∨ (lookT i l = x ∧ lookT i (l.set k (t, y)) = y)
  | [], k, h, i => by simp at h
  | (j, z) :: l, 0, h, i => by
    simp only [List.getElem?_cons_zero, Option.some.injEq, Prod.mk.injEq] at h
    obtain ⟨rfl, rfl⟩ := h
    simp only [List.set_cons_zero, lookT]
    cases Nat.beq i j with
    | true => exact .inr ⟨rfl, rfl⟩
    | false => exact .inl rfl
  | (j, z) :: l, k + 1, h, i => by
    simp only [List.set_cons_succ, lookT]
    cases Nat.beq i j with
    | true => exact .inl rfl
    | false => exact lookT_set (l := l) (k := k) h i
/-- A slice that is nil, as an array of the run's own, without elements. -/
theorem Sat.own {p : List Nat} {c : Code} {K : Exit → St → Prop} {l : List (Nat × VV)} {hs : List Ob} (k t sz : Nat) (f : Nat → List VV) (hk : l[k]? = some (t, .nl)) (h : Sat P N b p c K (mkSt (l.set k (t, .ow hs.length 0 0)) (hs ++ [.arr true 0 0 sz f]))) : Sat P N b p c K (mkSt l hs) := by
  refine ⟨fun E φ a w hr => ?_⟩
  have hnone : φ hs.length = none := hr.fr _ (Nat.le_refl _)
  have hroom : Room w [Pl.arr 0 0 none] w := Room.one (Below.refl _ _) fun k hk => by obtain ⟨_, e'⟩ := hk; cases e'
  have hidn : ∀ i, i < [Ob.arr true 0 0 sz f].length → φ (hs.length + i) = none := fun i hi => by
    simp only [List.length_cons, List.length_nil, Nat.zero_add, Nat.lt_one_iff] at hi
    subst hi; exact hnone
  have hnews : News w E φ hs.length [Ob.arr true 0 0 sz f] [Pl.arr 0 0 none] w := News.one hroom ⟨rfl, rfl, rfl⟩
  have hext := hnews.ext hidn
  have hat : addP φ hs.length [Pl.arr 0 0 none] hs.length = some (.arr 0 0 none) := addP_at (i := 0) rfl
  have hlt : ∀ id, φ id ≠ none → id < hs.length := fun id hn => by
    rcases Nat.lt_or_ge id hs.length with h' | h'
    · exact h'
    · exact absurd (hr.fr id h') hn
  refine Go.wp_mono (h.h E (addP φ hs.length [Pl.arr 0 0 none]) a w ⟨hr.sz, hr.df, hr.old, fun t' => ?_, ?_, fun id hid => ?_, fun id hid => ?_⟩) fun e a' w' ⟨st', φ', h1, h2, h3⟩ => ⟨st', φ', h1, h2, (Fr.of_ext hext).trans h3⟩
  · show V w _ _ (lookT t' _) _
    have hv : V w _ _ (lookT t' l) _ := hr.tm t'
    rcases lookT_set (y := .ow hs.length 0 0) hk t' with e | ⟨e1, e2⟩
    · rw [e]; exact hv.ext hext
    · rw [e2]
      rw [e1] at hv
      rw [hv.nl_inv]
      exact .ow hat (Nat.le_refl _) (hd0 := none) ⟨rfl, rfl⟩ fun _ => ⟨rfl, Nat.le_refl _⟩
  · refine hr.hp.news hr.old hnews hidn (fun k hk => ?_) fun i o ho => ?_
    · have := hlt k hk
      show obsH (hs ++ _) k = obsH hs k
      simp [obsH, List.getElem?_append_left this]
    · show obsH (hs ++ _) (hs.length + i) = o
      unfold obsH
      rw [List.getD_eq_getElem?_getD, List.getElem?_append_right (by omega), show hs.length + i - hs.length = i by omega, ho]
      rfl
  · have hid' : (hs ++ [Ob.arr true 0 0 sz f]).length ≤ id := hid
    simp only [List.length_append, List.length_cons, List.length_nil] at hid'
    rw [addP_out (.inr (by simp; omega))]
    exact hr.fr id (by show hs.length ≤ id; omega)
  · have hid' : id < (hs ++ [Ob.arr true 0 0 sz f]).length := hid
    simp only [List.length_append, List.length_cons, List.length_nil] at hid'
    by_cases he : id = hs.length
    · subst he; rw [hat]; simp
    · rw [addP_out (.inl (by omega))]
      exact hr.lv id (by show id < hs.length; omega)
/-- A state that says less. -/
structure StLe (st st' : St) : Prop where
  t : ∀ t, VV.le (st.t t) (st'.t t)
  H : ∀ id, Ob.le (st.H id) (st'.H id)
  nx : st.nx = st'.nx
theorem StLe.refl (st : St) : StLe st st := ⟨fun _ => VV.le_refl _, fun _ => Ob.le_refl _, rfl⟩
theorem StLe.mk' {l l' : List (Nat × VV)} {hs hs' : List Ob} (h1 : leT l l') (h2 : leO hs hs') : StLe (mkSt l hs) (mkSt l' hs') := ⟨leT_look h1, (leO_at h2).2, (leO_at h2).1⟩
theorem leL_eq {l l' : List VV} (h : l = l') : leL l l' := by subst h; exact leL_refl l
theorem VV.le_eq {x y : VV} (h : x = y) : VV.le x y := by subst h; exact VV.le_refl x
theorem Rel.le {st' : St} (h : Rel N E st φ a w) (hl : StLe st st') : Rel N E st' φ a w :=
  ⟨h.sz, h.df, h.old, fun t => hl.t t _ _ _ _ (h.tm t), ⟨h.hp.sub, fun id p e => hl.H id _ _ _ _ (h.hp.ob id p e), h.hp.inj, h.hp.free⟩, fun id hid => h.fr id (by rw [hl.nx]; exact hid), fun id hid => h.lv id (by rw [hl.nx]; exact hid)⟩
/-- Said of a state that says no less. -/
def Up (J : St → Prop) (st : St) : Prop := ∃ st', StLe st st' ∧ J st'
theorem Up.mk {J : St → Prop} {l l' : List (Nat × VV)} {hs hs' : List Ob} (h1 : leT l l') (h2 : leO hs hs') (h : J (mkSt l' hs')) : Up J (mkSt l hs) := ⟨_, StLe.mk' h1 h2, h⟩
theorem Up.of {J : St → Prop} {st : St} (h : J st) : Up J st := ⟨st, StLe.refl st, h⟩
/-- **A loop**: what holds at its head, what sinks. -/
theorem sat_loop (hT : TOk P T) (hmx : P.follows .mixedOrders = true) {lc : Code} (c : Code) {K : Exit → St → Prop} {st : St} {p : List Nat} (Sh : Shs) (L : Ann) (keep : List Nat) (J : Nat → St → Prop) (hlc : lc = .loop c) (hB : regsB N c = true) (hJ : ∃ g, Up (J g) st)
    (round : ∀ g st, J g st → xc P T Sh N L (0 :: p) c (loopK L.base keep (fun st' => ∃ g', g' < g ∧ Up (J g') st') K) st) : Sat P N L.base p lc K st := by
  subst hlc
  refine ⟨fun E φ a w hr => ?_⟩
  obtain ⟨g0, st0, hle0, hg0⟩ := hJ
  refine wp_loop_ghost (fun g a' w' => ∃ st' φ', J g st' ∧ Rel N E st' φ' a' w' ∧ Fr L.base w φ w' φ') ⟨g0, st0, φ, hg0, hr.le hle0, Fr.refl _ _ _⟩ ?_
  rintro g a' w' ⟨st', φ', h1, h2, h3⟩
  refine Go.wp_mono ((xc_sat hT hmx c hB _ _ st' (round g st' h1)).h E φ' a' w' h2) ?_
  rintro e a'' w'' ⟨st'', φ'', g1, g2, g3⟩
  cases e with
  | normal =>
    simp only [loopK] at g1
    cases hq : okF L.base keep st'' with
    | false => rw [hq] at g1; exact g1.elim
    | true =>
      rw [hq] at g1
      obtain ⟨g', k2, st1, hle1, k3⟩ := g1
      obtain ⟨φ3, r3, f3⟩ := g2.forget hq
      exact ⟨g', k2, st1, φ3, k3, r3.le hle1, h3.trans (g3.trans f3)⟩
  | _ => exact ⟨st'', φ'', g1, g2, h3.trans g3⟩
theorem wp_scope_ghost' {c rest : Code} {Q : Exit → Act → World → Prop} {a : Act} {w : World} (l : Nat) (J : Nat → Act → World → Prop) (hf : findLabel c l = some rest)
    (first : c.wp P (Exit.jump l (fun a w => ∃ g, J g a w) Q) a w)
    (pass : ∀ g a w, J g a w → rest.wp P (Exit.jump l (fun a' w' => ∃ g', g' < g ∧ J g' a' w') Q) a w) : (Code.scope c).wp P Q a w := by
  classical
  let μ : Act → World → Nat := fun a w => if h : ∃ g, J g a w then Classical.choose (least_of' h) else 0
  have hμ : ∀ a w, (h : ∃ g, J g a w) → J (μ a w) a w ∧ ∀ g', J g' a w → μ a w ≤ g' := by
    intro a w h
    have e : μ a w = Classical.choose (least_of' h) := dif_pos h
    rw [e]; exact Classical.choose_spec (least_of' h)
  refine wp_scope_jumps l (fun a w => ∃ g, J g a w) μ hf first ?_
  intro a w hx
  refine Go.wp_mono (pass _ a w (hμ a w hx).1) fun e a' w' h => ?_
  cases e with
  | goto l' =>
    obtain ⟨h1, g', hlt, hj⟩ := h
    exact ⟨h1, ⟨g', hj⟩, Nat.lt_of_le_of_lt ((hμ _ _ ⟨g', hj⟩).2 g' hj) hlt⟩
  | _ => exact h
/-- **A label that is jumped to.** -/
theorem sat_scope (hT : TOk P T) (hmx : P.follows .mixedOrders = true) {lc : Code} (c rest : Code) {K : Exit → St → Prop} {st : St} {p : List Nat} (Sh : Shs) (L : Ann) (keep : List Nat) (l : Nat) (J : Nat → St → Prop) (hlc : lc = .scope c) (hf : findLabel c l = some rest) (hB : regsB N c = true) (hB' : regsB N rest = true)
    (first : xc P T Sh N L (0 :: p) c (jumpK l L.base keep (fun st' => ∃ g, Up (J g) st') K) st)
    (pass : ∀ g st, J g st → xc P T Sh N L (1 :: p) rest (jumpK l L.base keep (fun st' => ∃ g', g' < g ∧ Up (J g') st') K) st) : Sat P N L.base p lc K st := by
  subst hlc
  refine ⟨fun E φ a w hr => ?_⟩
  have conv : ∀ (J1 : St → Prop) (J2 : Act → World → Prop) (φ1 : Phi) (w1 : World), Fr L.base w φ w1 φ1 → (∀ st' φ' a' w', J1 st' → Rel N E st' φ' a' w' → Fr L.base w φ w' φ' → J2 a' w') → ∀ e a' w', (∃ st' φ', jumpK l L.base keep J1 K e st' ∧ Rel N E st' φ' a' w' ∧ Fr L.base w1 φ1 w' φ') →
      Exit.jump l J2 (fun e a' w' => ∃ st' φ', K e st' ∧ Rel N E st' φ' a' w' ∧ Fr L.base w φ w' φ') e a' w' := by
    rintro J1 J2 φ1 w1 hf1 hJ e a' w' ⟨st', φ', g1, g2, g3⟩
    cases e with
    | goto l' =>
      simp only [jumpK] at g1
      cases hq : (Nat.beq l' l && okF L.base keep st') with
      | false => rw [hq] at g1; exact g1.elim
      | true =>
        rw [hq] at g1
        rw [Bool.and_eq_true] at hq
        obtain ⟨φ3, r3, f3⟩ := g2.forget hq.2
        exact ⟨Nat.eq_of_beq_eq_true hq.1, hJ _ φ3 _ _ g1 r3 (hf1.trans (g3.trans f3))⟩
    | _ => exact ⟨st', φ', g1, g2, hf1.trans g3⟩
  refine wp_scope_ghost' l (fun g a' w' => ∃ st' φ', J g st' ∧ Rel N E st' φ' a' w' ∧ Fr L.base w φ w' φ') hf ?_ ?_
  · exact Go.wp_mono ((xc_sat hT hmx c hB _ _ st first).h E φ a w hr) (conv _ _ φ w (Fr.refl _ _ _) fun st' φ' a' w' ⟨g, st1, hle, hg⟩ h2 h3 => ⟨g, st1, φ', hg, h2.le hle, h3⟩)
  · rintro g a' w' ⟨st', φ', h1, h2, h3⟩
    exact Go.wp_mono ((xc_sat hT hmx rest hB' _ _ st' (pass g st' h1)).h E φ' a' w' h2) (conv _ _ φ' w' h3 fun st' φ' a' w' ⟨g', hlt, st1, hle, hg⟩ h2 h3 => ⟨g', hlt, st1, φ', hg, h2.le hle, h3⟩)
end
end Go.Proofs.Ytnodhjlpoaahbaa
