/-
  What is the run's own, lent for as long as a callee runs.
-/
import Derived.Test.YtnodhjlpoaahbaaVjPub
namespace Go.Proofs.Ytnodhjlpoaahbaa
open Go.RowKit

/-- What a callee is told: what may be frozen; nothing that it must not read. -/
def Prot.lend (E : Prot) : Prot := ⟨E.fz, fun _ => False⟩
section
variable {w : World} {E : Prot} {φ : Phi} {H Hc : Nat → Ob}
theorem snapF_ok (h : HRel E Hc φ w) (hG : ∀ id, H id = .gone 0 ∨ H id = Hc id) : ∀ (k : Nat) (x y : VV) (v : Value), V w (E.up φ) (some φ) x v → snapF H k x = some y → V w (E.up φ).lend none y v
  | 0, x, y, v, _, hp => by cases hp
  | k + 1, x, y, v, hv, hp => by
    have memc : ∀ {x : VV}, V w (E.up φ) (some φ) x v → x.lies = true → V w (E.up φ).lend none x v := fun hv hm => (hv.lies (m' := none) hm).less (fun _ h => h) fun _ h => h.elim
    have cellc : ∀ {fr : Bool} {x : VV} {u : Value}, CellV w E φ fr x u → fr = true → V w (E.up φ).lend none x u := by
      intro fr x u hc e
      subst e
      exact V.less hc (fun _ h => h) fun _ h => h.elim
    have rec' : ∀ (cs cs' : List VV) (u : Nat → Value), omapL (snapF H k) cs = some cs' → (∀ (j : Nat) x, cs[j]? = some x → V w (E.up φ) (some φ) x (u j)) → cs'.length = cs.length ∧ ∀ (j : Nat) x, cs'[j]? = some x → V w (E.up φ).lend none x (u j) := by
      intro cs cs' u h1 h3
      obtain ⟨e1, e2⟩ := omapL_ok h1
      refine ⟨e1, fun j x hx => ?_⟩
      obtain ⟨z, hz, hf⟩ := e2 j x hx
      exact snapF_ok h hG k z x _ (h3 j z hz) hf
    cases x with
    | dead => simp only [snapF, Option.some.injEq] at hp; subst hp; exact .dead
    | sc u => simp only [snapF, Option.some.injEq] at hp; subst hp; exact memc hv rfl
    | nl => simp only [snapF, Option.some.injEq] at hp; subst hp; exact memc hv rfl
    | sl fz n sz f => simp only [snapF, Option.some.injEq] at hp; subst hp; exact memc hv rfl
    | tp cs =>
      simp only [snapF, Option.some.injEq] at hp; subst hp
      obtain ⟨b, off, rfl, h1, _, u, h3, h4⟩ := hv.tp_inv
      exact .tp u h1 (fun h => h) h3 fun j x hx => (h4 j x hx).less (fun _ h => h) fun _ h => h.elim
    | tup cs => cases hp
    | bp id off =>
      obtain ⟨b, hb, rfl⟩ := hv.bp_inv
      have ho := h.ob id _ hb
      simp only [snapF] at hp
      cases hH : H id with
      | box cs =>
        rw [← (hG id).resolve_left (by rw [hH]; simp), hH] at ho
        simp only [hH, Option.map_eq_some_iff] at hp
        obtain ⟨cs', hcs, rfl⟩ := hp
        obtain ⟨c, ty, h1, h2⟩ := ho
        have hlt : b < w.heap.size := (Array.getElem?_eq_some_iff.1 h1).1
        obtain ⟨g1, g2⟩ := rec' _ _ (fun j => c.getD (off + j) undef) hcs fun j x hx => by
          rw [List.getElem?_drop] at hx
          exact h2.2 _ x hx
        refine .tp (fun j => c.getD (off + j) undef) hlt (fun h => h) (fun j x hx => ?_) g2
        have hj := (List.getElem?_eq_some_iff.1 hx).1
        rw [g1, List.length_drop] at hj
        exact cell_at h1 (by rw [h2.1]; omega)
      | arr => rw [hH] at hp; cases hp
      | gone => rw [hH] at hp; cases hp
    | ow id gen n =>
      obtain ⟨c, len, hd, hd0, hph, hg, h0, hcur⟩ := hv.ow_inv
      have ho := h.ob id _ hph
      simp only [snapF] at hp
      cases hH : H id with
      | box cs => rw [hH] at hp; simp only [Option.some.injEq] at hp; subst hp; exact .dead
      | gone g => simp only [hH, Option.some.injEq] at hp; subst hp; exact .dead
      | arr fr g n' sz f =>
        rw [← (hG id).resolve_left (by rw [hH]; simp), hH] at ho
        obtain ⟨rfl, rfl, hrow⟩ := ho
        have key : ∀ (f' : Nat → List VV), gen = g → (∀ (i j : Nat) (x' : VV), i < n → (f' i)[j]? = some x' → (∀ u, (∀ (x : VV), (f i)[j]? = some x → CellV w E φ fr x u) → V w (E.up φ).lend none x' u)) → (∀ i, i < n → (f' i).length = (f i).length) → V w (E.up φ).lend none (.sl false n sz f') v := by
          intro f' eg hcell hlen
          obtain ⟨rfl, hnl⟩ := hcur eg
          cases hd0 with
          | none =>
            obtain ⟨rfl, rfl⟩ := h0
            exact .nil (Nat.zero_le _)
          | some gc =>
            obtain ⟨b, cap⟩ := gc
            obtain ⟨rfl, hncap⟩ := h0
            obtain ⟨cs, ty, h1, h2, h3, h4, h5, h6, h7⟩ := hrow
            have hb : b < w.heap.size := (Array.getElem?_eq_some_iff.1 h1).1
            refine .sl (fun i j => cs.getD (i * sz + j) undef) hncap h4 hb (fun h => h) (fun i hi => by rw [hlen i hi]; exact h5 i (by omega)) (fun i j x hi hx => ?_) (fun i j x hi hx => ?_)
            · have hj : j < (f' i).length := (List.getElem?_eq_some_iff.1 hx).1
              rw [hlen i hi, h5 i (by omega)] at hj
              have : (i + 1) * sz ≤ cap * sz := Nat.mul_le_mul_right _ (by omega)
              rw [Nat.add_mul] at this
              rw [Nat.zero_add]
              exact cell_at h1 (by rw [h2]; omega)
            · exact hcell i j x hi hx _ fun x hx => h6 i j x (by omega) hx
        cases fr with
        | true =>
          simp only [hH] at hp
          cases hq : Nat.beq gen g with
          | false => rw [hq] at hp; simp only [cond_false, Option.some.injEq] at hp; subst hp; exact .dead
          | true =>
            rw [hq] at hp
            simp only [cond_true, Option.some.injEq] at hp
            subst hp
            exact key f (Nat.eq_of_beq_eq_true hq) (fun i j x hi hx u hu => cellc (hu x hx) rfl) fun _ _ => rfl
        | false =>
          simp only [hH] at hp
          cases hq : Nat.beq gen g with
          | false => rw [hq] at hp; simp only [cond_false, Option.some.injEq] at hp; subst hp; exact .dead
          | true =>
            rw [hq] at hp
            simp only [cond_true, Option.map_eq_some_iff] at hp
            obtain ⟨rows, hrows, rfl⟩ := hp
            obtain ⟨e1, e2⟩ := omapL_ok hrows
            simp only [List.length_range] at e1
            have hat : ∀ i, i < n → ∃ r, rows[i]? = some r ∧ omapL (snapF H k) (f i) = some r := by
              intro i hi
              have hr : rows[i]? = some (rows[i]'(by omega)) := List.getElem?_eq_getElem _
              obtain ⟨i', hi', hf⟩ := e2 i _ hr
              have : i' = i := by
                have := (List.getElem?_eq_some_iff.1 hi').2
                simpa using this.symm
              subst this
              exact ⟨_, hr, hf⟩
            refine key _ (Nat.eq_of_beq_eq_true hq) (fun i j x hi hx u hu => ?_) fun i hi => ?_
            · obtain ⟨r, hr, hf⟩ := hat i hi
              simp only [List.getD, hr, Option.getD_some] at hx
              obtain ⟨z, hz, hfz⟩ := (omapL_ok hf).2 j x hx
              exact snapF_ok h hG k z x u (hu z hz) hfz
            · obtain ⟨r, hr, hf⟩ := hat i hi
              have := (omapL_ok hf).1
              simp [List.getD, hr]; omega
    | ep id gen sz i o =>
      obtain ⟨c, len, hd, b, hph, hg, rfl, hcur⟩ := hv.ep_inv
      have ho := h.ob id _ hph
      simp only [snapF] at hp
      cases hH : H id with
      | box cs => rw [hH] at hp; cases hp
      | gone g => rw [hH] at hp; cases hp
      | arr fr g n' s f =>
        rw [← (hG id).resolve_left (by rw [hH]; simp), hH] at ho
        obtain ⟨rfl, rfl, hrow⟩ := ho
        cases fr with
        | false => simp only [hH] at hp; cases hp
        | true =>
          simp only [hH] at hp
          cases hq : (Nat.beq gen g && Nat.beq s sz) with
          | false => rw [hq] at hp; simp only [cond_false, Option.some.injEq] at hp; subst hp; exact .dead
          | true =>
            rw [hq] at hp
            simp only [cond_true, Option.some.injEq] at hp
            subst hp
            rw [Bool.and_eq_true] at hq
            obtain ⟨hi, cap, rfl⟩ := hcur (Nat.eq_of_beq_eq_true hq.1)
            obtain rfl := Nat.eq_of_beq_eq_true hq.2
            obtain ⟨cs, ty, h1, h2, h3, h4, h5, h6, h7⟩ := hrow
            refine .tp (fun j => cs.getD (i * s + (o + j)) undef) ((Array.getElem?_eq_some_iff.1 h1).1) (fun h => h) (fun j x hx => ?_) fun j x hx => ?_
            · rw [List.getElem?_drop] at hx
              have hj := (List.getElem?_eq_some_iff.1 hx).1
              rw [h5 i hi] at hj
              have : (i + 1) * s ≤ cap * s := Nat.mul_le_mul_right _ (by omega)
              rw [Nat.add_mul] at this
              rw [Nat.add_assoc]
              exact cell_at h1 (by rw [h2]; omega)
            · rw [List.getElem?_drop] at hx
              exact cellc (h6 i (o + j) x hi hx) rfl
    | agg cs =>
      simp only [snapF, Option.map_eq_some_iff] at hp
      obtain ⟨cs', hcs, rfl⟩ := hp
      obtain ⟨vs, rfl, h1, h2⟩ := hv.agg_inv
      obtain ⟨g1, g2⟩ := rec' cs cs' (fun j => vs.getD j undef) hcs h2
      exact .agg (by rw [h1, g1]) g2
    | fn g cs =>
      simp only [snapF, Option.map_eq_some_iff] at hp
      obtain ⟨cs', hcs, rfl⟩ := hp
      cases hv with | @fn _ _ _ _ vs h1 h2 =>
      obtain ⟨g1, g2⟩ := rec' cs cs' (fun j => vs.getD j undef) hcs h2
      exact .fn (by rw [h1, g1]) g2
end
end Go.Proofs.Ytnodhjlpoaahbaa
