/-
  Each operation, run: slices that are built, boxes, stores, calls.
-/
import Derived.Test.YtnodhjlpoaahbaaViRun3
import Derived.Great.BuildSlice
namespace Go.Proofs.Ytnodhjlpoaahbaa
open Go.RowKit
section
variable {P : Program} {T : TypeId → TE} {w : World} {A : Nat → Prop} {m : Option Phi}

theorem Says.zeros (z : Array Value) (n : Nat) (hz : 0 < z.size ∨ n = 0) : Says w A m (vzeros (z.toList.map litVV) n) ((Array.range n).map (z[· % z.size]!)) := by
  refine ⟨by simp [vzeros], fun j x hx => ?_⟩
  unfold vzeros at hx
  rw [List.getElem?_map] at hx
  obtain ⟨k, hk, rfl⟩ := Option.map_eq_some_iff.1 hx
  obtain ⟨hj, rfl⟩ := List.getElem?_eq_some_iff.1 hk
  simp at hj
  have hp : 0 < z.size := by rcases hz with h | h <;> omega
  have hm := Nat.mod_lt j hp
  have e1 : (List.map litVV z.toList).getD ((List.range n)[j] % (List.map litVV z.toList).length) .dead = litVV (z[j % z.size]'hm) := by
    simp [List.getD, hm]
  have e2 : ((Array.range n).map (z[· % z.size]!)).getD j undef = z[j % z.size]'hm := by
    simp [Array.getD, hj, hm]
  rw [e1, e2]
  exact V.litVV _

theorem s_buildSlice (hT : TOk P T) {t : TypeId} {len : Nat} {ps : List (Nat × VV)} {qs : Array (Nat × Value)} (hA : ∀ k, A k → k < w.heap.size) (hl : ps.length = qs.toList.length)
    (hv : ∀ (j : Nat) p q, ps[j]? = some p → qs.toList[j]? = some q → p.1 = q.1 ∧ V w A m p.2 q.2) (h : ∀ p ∈ (vbuildSlice T t len ps).chk, p) :
    ∃ v w', (Instr.buildSlice t len qs).run P w = .ok v w' ∧ Below w.heap.size w w' ∧ V w' A m (vbuildSlice T t len ps).val v := by
  unfold vbuildSlice at h ⊢
  split at h
  · rename_i e hk
    have ht := hT.sl hk
    cases hq : ((T e).k.known && Nat.ble (len * (T e).sz) 16777216 && (ps.all fun p => vfix p.2) && Nat.blt 0 (len * (T e).sz) && Nat.blt 0 (T e).zero.length) with
    | false => rw [hq] at h; exact not_bad h
    | true =>
      rw [hq] at h
      simp only [cond_true] at h ⊢
      simp only [Bool.and_eq_true] at hq
      obtain ⟨⟨⟨⟨hq1, hq2⟩, hq3⟩, hq4⟩, hq6⟩ := hq
      obtain ⟨ie, z, hie, hs, hz, hzz⟩ := hT.size (known_ne hq1)
      have hsm := Nat.le_of_ble_eq_true hq2
      have hps : 0 < len * (T e).sz := Nat.le_of_ble_eq_true hq4
      rw [hs] at hsm hps
      have hzs : 0 < z.cells.size := by rw [hzz] at hq6; have := Nat.le_of_ble_eq_true hq6; simp at this; omega
      split at h
      · rename_i cs hcs
        cases hq5 : cs.all VV.lies with
        | false => rw [hq5] at h; exact not_bad h
        | true =>
          simp only [cond_true]
          have hlie : ∀ x ∈ cs, x.lies = true := fun x hx => List.all_eq_true.1 hq5 x hx
          rw [hzz, hs] at hcs
          · obtain ⟨vs, e1, e2⟩ := s_fill (w := w) (A := A) (m := m) ps qs.toList _ cs _ (Says.zeros z.cells (len * ie.size) (.inl hzs)) hl hv (fun p hp => List.all_eq_true.1 hq3 p hp) hcs
            refine ⟨_, _, run_buildSlice w t e len qs vs ie z ht hie hz (by omega) (by omega) e1, ((Below.refl _ w).alloc (Nat.le_refl _) _), ?_⟩
            rw [hs]
            have hcl : cs.length = len * ie.size := by
              have h0 : ∀ (ps : List (Nat × VV)) (a b : List VV), vfill (fun i => some (i * ie.size, ie.size)) a ps = some b → b.length = a.length := by
                have hset : ∀ (xs : List VV) (a : List VV) (o : Nat), (vset a o xs).length = a.length := by
                  intro xs
                  induction xs with
                  | nil => intro a o; rfl
                  | cons x xs ih => intro a o; simp only [vset]; rw [ih]; simp
                intro ps
                induction ps with
                | nil => intro a b hb; simp only [vfill, Option.some.injEq] at hb; rw [hb]
                | cons p ps ih =>
                  intro a b hb
                  obtain ⟨i, v⟩ := p
                  simp only [vfill] at hb
                  cases hq : (Nat.beq v.cells.length ie.size && Nat.ble (i * ie.size + v.cells.length) a.length) with
                  | false => rw [hq] at hb; cases hb
                  | true => rw [hq] at hb; simp only [cond_true] at hb; rw [ih _ _ hb, hset]
              rw [h0 _ _ _ hcs]; simp [vzeros]
            have hvs : vs.size = len * ie.size := by rw [e2.1, hcl]
            have hcap : len ≤ maxLen := by
              have h1 : len ≤ len * ie.size := Nat.le_mul_of_pos_right _ (Nat.pos_of_ne_zero fun h0 => by rw [h0] at hps; simp at hps)
              unfold maxLen; omega
            have hpos : 0 < len := Nat.pos_of_ne_zero fun h0 => by rw [h0] at hps; simp at hps
            have hat : ∀ (i j : Nat) (x : VV), i < len → ((cs.drop (i * ie.size)).take ie.size)[j]? = some x → j < ie.size ∧ cs[i * ie.size + j]? = some x := by
              intro i j x hi hx
              rw [List.getElem?_take] at hx
              split at hx
              · rename_i hj; rw [List.getElem?_drop] at hx; exact ⟨hj, hx⟩
              · cases hx
            refine .sl (fun i j => vs.getD (i * ie.size + j) undef) (Nat.le_refl _) hcap (by simp) (fun hk => by have := hA _ hk; omega) (fun i hi => ?_) (fun i j x hi hx => ?_) (fun i j x hi hx => ?_)
            · have : (i + 1) * ie.size ≤ len * ie.size := Nat.mul_le_mul_right _ hi
              rw [Nat.add_mul] at this
              simp; omega
            · obtain ⟨hj, hx'⟩ := hat i j x hi hx
              have hlt : i * ie.size + j < vs.size := by rw [e2.1]; exact (List.getElem?_eq_some_iff.1 hx').1
              rw [Nat.zero_add, World.cell?_alloc_new]
              simp [Array.getD, hlt]
            · obtain ⟨hj, hx'⟩ := hat i j x hi hx
              have h1 := (e2.2 _ x hx').lies (m' := none) (hlie x (List.mem_of_getElem? hx'))
              exact h1.mono (by simp) (fun k hk hn => ⟨Below.heap_alloc w _ k hk, hn⟩) trivial
      · exact not_bad h
  · exact not_bad h
end
end Go.Proofs.Ytnodhjlpoaahbaa
