/-
  What is the run's own, handed away: frozen for good; lent to a callee.
-/
import Derived.Test.YtnodhjlpoaahbaaVjRun4
namespace Go.Proofs.Ytnodhjlpoaahbaa
open Go.RowKit

theorem omapL_ok {α β : Type} {f : α → Option β} : ∀ {xs : List α} {ys : List β}, omapL f xs = some ys → ys.length = xs.length ∧ ∀ (j : Nat) y, ys[j]? = some y → ∃ x, xs[j]? = some x ∧ f x = some y
  | [], ys, h => by simp only [omapL, Option.some.injEq] at h; subst h; exact ⟨rfl, fun j y h => by simp at h⟩
  | x :: xs, ys, h => by
    simp only [omapL] at h
    split at h
    · rename_i y ys' h1 h2
      simp only [Option.some.injEq] at h
      subst h
      obtain ⟨e1, e2⟩ := omapL_ok h2
      refine ⟨by simp [e1], fun j z hz => ?_⟩
      match j, hz with
      | 0, hz => simp only [List.getElem?_cons_zero, Option.some.injEq] at hz; subst hz; exact ⟨x, rfl, h1⟩
      | j + 1, hz => exact e2 j z hz
    · cases h

def gonePl : Pl → Pl
  | .box b => .box b
  | .arr c n _ => .arr (c + 1) n none
def goneP (ids : List Nat) (φ : Phi) : Phi := fun k => bif ids.any (Nat.beq k) then (φ k).map gonePl else φ k
theorem goneP_nil (φ : Phi) : goneP [] φ = φ := rfl
theorem mem_beq {ids : List Nat} {k : Nat} : ids.any (Nat.beq k) = true ↔ k ∈ ids := by
  rw [List.any_eq_true]
  constructor
  · rintro ⟨x, hx, e⟩; rw [Nat.eq_of_beq_eq_true e]; exact hx
  · intro h; exact ⟨k, h, Nat.beq_refl k⟩

section
variable {w : World} {E : Prot} {φ : Phi} {H : Nat → Ob} {ids : List Nat}
theorem goneP_up : PhiUp φ (goneP ids φ) := fun id p e => by
  unfold goneP
  cases ids.any (Nat.beq id) with
  | false => exact ⟨p, e, PlUp.refl p⟩
  | true =>
    refine ⟨gonePl p, by rw [e]; rfl, ?_⟩
    cases p with
    | box b => rfl
    | arr c n hd => exact ⟨c + 1, n, none, rfl, by omega, fun h => by omega⟩
theorem goneP_none {id : Nat} : goneP ids φ id = none ↔ φ id = none := by
  unfold goneP
  cases ids.any (Nat.beq id) with
  | false => exact Iff.rfl
  | true => simp
theorem goneP_blk {id k : Nat} (h : Blk (goneP ids φ) id k) : Blk φ id k := by
  obtain ⟨p, hp, hb⟩ := blk_iff.1 h
  unfold goneP at hp
  cases hq : ids.any (Nat.beq id) with
  | false => rw [hq] at hp; exact blk_iff.2 ⟨p, hp, hb⟩
  | true =>
    rw [hq] at hp
    simp only [cond_true, Option.map_eq_some_iff] at hp
    obtain ⟨q, hq', rfl⟩ := hp
    cases q with
    | box b => exact blk_iff.2 ⟨_, hq', hb⟩
    | arr c n hd => obtain ⟨cap, e⟩ := hb; cases e
theorem goneP_own {k : Nat} (h : Own (goneP ids φ) k) : Own φ k := by
  obtain ⟨id, hb⟩ := h; exact ⟨id, goneP_blk hb⟩
theorem goneP_ext : Ext w φ w (goneP ids φ) := ⟨rfl, rfl, rfl, Nat.le_refl _, fun _ _ _ => rfl, goneP_up, fun _ hk => .inl (goneP_own hk)⟩
theorem HRel.gone (h : HRel E H φ w) : HRel E (goneIds ids H) (goneP ids φ) w := by
  refine ⟨h.sub, fun id p e => ?_, fun i j k hi hj => h.inj i j k (goneP_blk hi) (goneP_blk hj), fun k hk => h.free k (goneP_own hk)⟩
  unfold goneIds
  unfold goneP at e
  cases hq : ids.any (Nat.beq id) with
  | false => rw [hq] at e; exact (h.ob id p e).ext goneP_ext fun _ _ _ => rfl
  | true =>
    rw [hq] at e
    simp only [cond_true, Option.map_eq_some_iff] at e ⊢
    obtain ⟨q, hq', rfl⟩ := e
    have ho := h.ob id q hq'
    cases q with
    | box b =>
      cases hH : H id with
      | box cs => rw [hH] at ho; exact ObV.ext (p := .box b) ho goneP_ext fun _ _ _ => rfl
      | arr => rw [hH] at ho; exact ho.elim
      | gone => rw [hH] at ho; exact ho.elim
    | arr c n hd =>
      cases hH : H id with
      | box cs => rw [hH] at ho; exact ho.elim
      | arr fr g n' sz f => rw [hH] at ho; obtain ⟨rfl, _⟩ := ho; exact ⟨rfl, rfl⟩
      | gone g => rw [hH] at ho; obtain ⟨rfl, _⟩ := ho; exact ⟨rfl, rfl⟩

theorem cell_at {b : Nat} {c : Array Value} {ty : TypeId} (hc : w.heap[b]? = some (.cells c ty (0, 0))) {k : Nat} (hk : k < c.size) : w.cell? ⟨b, k, none⟩ = some (c.getD k undef) := by
  simp [World.cell?, hc, Array.getD, hk]
/-- **Frozen for good.** -/
theorem pubF_ok (h : HRel E H φ w) : ∀ (k : Nat) (x y : VV) (v : Value) (l : List Nat), V w (E.up φ) (some φ) x v → pubF H k x = some (y, l) → (∀ i ∈ l, i ∈ ids) → V w (E.up (goneP ids φ)).hold none y v
  | 0, x, y, v, l, _, hp, _ => by cases hp
  | k + 1, x, y, v, l, hv, hp, hl => by
    have memc : x.mem = true → pubF H (k + 1) x = (bif x.mem then some (x, []) else none) → V w (E.up (goneP ids φ)).hold none y v := by
      intro hm e
      rw [hp, hm] at e
      simp only [cond_true, Option.some.injEq, Prod.mk.injEq] at e
      obtain ⟨rfl, _⟩ := e
      exact ((hv.mem (E' := (E.up φ).hold) (m' := none) hm rfl).less (fun j hj => hj.imp (fun h => h) fun h => goneP_own h) fun _ h => h)
    have rec' : ∀ (cs : List VV) (vs : Array Value) (l' : List (VV × List Nat)), omapL (pubF H k) cs = some l' → (∀ i ∈ l'.flatMap (·.2), i ∈ ids) → (∀ (j : Nat) x, cs[j]? = some x → V w (E.up φ) (some φ) x (vs.getD j undef)) →
        (l'.map (·.1)).length = cs.length ∧ ∀ (j : Nat) x, (l'.map (·.1))[j]? = some x → V w (E.up (goneP ids φ)).hold none x (vs.getD j undef) := by
      intro cs vs l' h1 h2 h3
      obtain ⟨e1, e2⟩ := omapL_ok h1
      refine ⟨by simp [e1], fun j x hx => ?_⟩
      rw [List.getElem?_map] at hx
      obtain ⟨p, hp', rfl⟩ := Option.map_eq_some_iff.1 hx
      obtain ⟨z, hz, hf⟩ := e2 j p hp'
      exact pubF_ok h k z p.1 _ p.2 (h3 j z hz) hf fun i hi => h2 i (List.mem_flatMap.2 ⟨p, List.mem_of_getElem? hp', hi⟩)
    cases x with
    | ow id gen n =>
      obtain ⟨c, len, hd, hd0, hph, hg, h0, hcur⟩ := hv.ow_inv
      have ho := h.ob id _ hph
      simp only [pubF] at hp
      cases hH : H id with
      | box cs => rw [hH] at ho; exact ho.elim
      | gone g => rw [hH] at hp; cases hp
      | arr fr g n' sz f =>
        rw [hH] at ho
        obtain ⟨rfl, rfl, hrow⟩ := ho
        -- the rows, frozen
        have key : ∀ (f' : Nat → List VV), gen = g → id ∈ ids → (∀ i, i < n → (f i).length = sz → (f' i).length = sz) → (∀ (i j : Nat) (x' : VV), i < n → (f' i)[j]? = some x' → (∀ u, (∀ (x : VV), (f i)[j]? = some x → CellV w E φ fr x u) → (f i).length = (f' i).length → V w (E.up (goneP ids φ)).hold none x' u)) → (∀ i, i < n → (f' i).length = (f i).length) → V w (E.up (goneP ids φ)).hold none (.sl true n sz f') v := by
          intro f' eg hid _ hcell hlen
          obtain ⟨rfl, hnl⟩ := hcur eg
          cases hd0 with
          | none =>
            obtain ⟨rfl, rfl⟩ := h0
            exact .nil (Nat.zero_le _)
          | some gc =>
            obtain ⟨b, cap⟩ := gc
            obtain ⟨rfl, hncap⟩ := h0
            obtain ⟨cs, ty, h1, h2, h3, h4, h5, h6, h7⟩ := hrow
            have hb : b < w.heap.size := (Array.getElem?_eq_some_iff.1 h1).1
            refine .sl (fun i j => cs.getD (i * sz + j) undef) hncap h4 hb ?_ (fun i hi => by rw [hlen i hi]; exact h5 i (by omega)) (fun i j x hi hx => ?_) (fun i j x hi hx => ?_)
            · rintro (e | ⟨id', e⟩)
              · exact h.free b ⟨id, .inr ⟨_, _, _, hph⟩⟩ e
              · have := h.inj id' id b (goneP_blk e) (.inr ⟨_, _, _, hph⟩)
                subst this
                obtain ⟨p, hp', hpb⟩ := blk_iff.1 e
                unfold goneP at hp'
                rw [mem_beq.2 hid, hph] at hp'
                simp only [cond_true, Option.map_some, gonePl, Option.some.injEq] at hp'
                subst hp'
                obtain ⟨_, e'⟩ := hpb
                cases e'
            · have hj : j < (f' i).length := (List.getElem?_eq_some_iff.1 hx).1
              rw [hlen i hi, h5 i (by omega)] at hj
              have : (i + 1) * sz ≤ cap * sz := Nat.mul_le_mul_right _ (by omega)
              rw [Nat.add_mul] at this
              rw [Nat.zero_add]
              exact cell_at h1 (by rw [h2]; omega)
            · exact hcell i j x hi hx _ (fun x hx => h6 i j x (by omega) hx) (hlen i hi).symm
        cases fr with
        | true =>
          simp only [hH] at hp
          cases hq : Nat.beq gen g with
          | false => rw [hq] at hp; cases hp
          | true =>
            rw [hq] at hp
            simp only [cond_true, Option.some.injEq, Prod.mk.injEq] at hp
            obtain ⟨rfl, rfl⟩ := hp
            refine key f (Nat.eq_of_beq_eq_true hq) (hl id (List.mem_cons_self ..)) (fun i _ h => h) (fun i j x hi hx u hu _ => ?_) fun _ _ => rfl
            exact (hu x hx).less (fun j hj => hj.imp (fun h => h) fun h => goneP_own h) fun _ h => h
        | false =>
          simp only [hH] at hp
          cases hq : Nat.beq gen g with
          | false => rw [hq] at hp; cases hp
          | true =>
            rw [hq] at hp
            simp only [cond_true] at hp
            split at hp
            · rename_i rows hrows
              simp only [Option.some.injEq, Prod.mk.injEq] at hp
              obtain ⟨rfl, rfl⟩ := hp
              obtain ⟨e1, e2⟩ := omapL_ok hrows
              simp only [List.length_range] at e1
              have hat : ∀ i, i < n → ∃ r, rows[i]? = some r ∧ omapL (pubF H k) (f i) = some r := by
                intro i hi
                have hr : rows[i]? = some (rows[i]'(by omega)) := List.getElem?_eq_getElem _
                obtain ⟨i', hi', hf⟩ := e2 i _ hr
                have : i' = i := by
                  have := (List.getElem?_eq_some_iff.1 hi').2
                  simpa using this.symm
                subst this
                exact ⟨_, hr, hf⟩
              refine key _ (Nat.eq_of_beq_eq_true hq) (hl id (List.mem_cons_self ..)) (fun i hi hlen => ?_) (fun i j x hi hx u hu hlen => ?_) fun i hi => ?_
              · obtain ⟨r, hr, hf⟩ := hat i hi
                have := (omapL_ok hf).1
                simp [List.getD, hr]; omega
              · obtain ⟨r, hr, hf⟩ := hat i hi
                simp only [List.getD, hr, Option.getD_some] at hx
                rw [List.getElem?_map] at hx
                obtain ⟨p, hp', rfl⟩ := Option.map_eq_some_iff.1 hx
                obtain ⟨z, hz, hfz⟩ := (omapL_ok hf).2 j p hp'
                exact pubF_ok h k z p.1 u p.2 (hu z hz) hfz fun q hq => hl q (List.mem_cons_of_mem _ (List.mem_flatMap.2 ⟨r, List.mem_of_getElem? hr, List.mem_flatMap.2 ⟨p, List.mem_of_getElem? hp', hq⟩⟩))
              · obtain ⟨r, hr, hf⟩ := hat i hi
                have := (omapL_ok hf).1
                simp [List.getD, hr]; omega
            · cases hp
    | agg cs =>
      simp only [pubF] at hp
      split at hp
      · rename_i l' hl'
        simp only [Option.some.injEq, Prod.mk.injEq] at hp
        obtain ⟨rfl, rfl⟩ := hp
        obtain ⟨vs, rfl, h1, h2⟩ := hv.agg_inv
        obtain ⟨g1, g2⟩ := rec' cs vs l' hl' hl h2
        exact .agg (by rw [h1, g1]) g2
      · cases hp
    | tup cs =>
      simp only [pubF] at hp
      split at hp
      · rename_i l' hl'
        simp only [Option.some.injEq, Prod.mk.injEq] at hp
        obtain ⟨rfl, rfl⟩ := hp
        cases hv with | tup h1 h2 =>
        obtain ⟨g1, g2⟩ := rec' cs _ l' hl' hl h2
        exact .tup (by rw [h1, g1]) g2
      · cases hp
    | fn g cs =>
      simp only [pubF] at hp
      split at hp
      · rename_i l' hl'
        simp only [Option.some.injEq, Prod.mk.injEq] at hp
        obtain ⟨rfl, rfl⟩ := hp
        cases hv with | fn h1 h2 =>
        obtain ⟨g1, g2⟩ := rec' cs _ l' hl' hl h2
        exact .fn (by rw [h1, g1]) g2
      · cases hp
    | sl fz n sz f =>
      cases fz with
      | true => exact memc rfl rfl
      | false => cases hp
    | dead => exact memc rfl rfl
    | sc u => exact memc rfl rfl
    | nl => exact memc rfl rfl
    | tp cs => cases hp
    | bp id off => cases hp
    | ep id gen sz i o => cases hp
end
end Go.Proofs.Ytnodhjlpoaahbaa
