/-
  Each operation, run: slices that are built or made: arrays of the run's own.
-/
import Derived.Test.YtnodhjlpoaahbaaVjHeap
import Derived.Great.BuildSlice
import Derived.Laws.MakeOwn
namespace Go.Proofs.Ytnodhjlpoaahbaa
open Go.RowKit
section
variable {P : Program} {T : TypeId → TE} {w : World} {E : Prot} {m : Option Phi} {φ : Phi} {nx : Nat}

theorem V.one_cell {x : VV} {v : Value} (h : V w E m x v) (h1 : x.one = true) : v.oneCell' = true := by
  cases h with
  | dead => cases h1
  | sc => exact h1
  | nl => rfl
  | nil _ => rfl
  | sl _ _ _ _ _ _ _ _ => rfl
  | tp _ _ _ _ _ => rfl
  | bp _ => rfl
  | ep _ _ _ => rfl
  | agg _ _ => cases h1
  | tup _ _ => cases h1
  | fn _ _ => rfl
  | @ow _ _ _ _ _ _ _ _ hd0 _ _ _ h0 _ =>
    cases hd0 with
    | none => rw [h0.2]; rfl
    | some gc => rw [h0.1]; rfl
theorem Says.zeros (z : Array Value) (n : Nat) (hz : 0 < z.size ∨ n = 0) : Says w E m (vzeros (z.toList.map litVV) n) ((Array.range n).map (z[· % z.size]!)) := by
  refine ⟨by simp [vzeros], fun j x hx => ?_⟩
  unfold vzeros at hx
  rw [List.getElem?_map] at hx
  obtain ⟨k, hk, rfl⟩ := Option.map_eq_some_iff.1 hx
  obtain ⟨hj, rfl⟩ := List.getElem?_eq_some_iff.1 hk
  simp at hj
  have hp : 0 < z.size := by rcases hz with h | h <;> omega
  have hm := Nat.mod_lt j hp
  have e1 : (List.map litVV z.toList).getD ((List.range n)[j] % (List.map litVV z.toList).length) .dead = litVV (z[j % z.size]'hm) := by
    simp [List.getD, hm]
  have e2 : ((Array.range n).map (z[· % z.size]!)).getD j undef = z[j % z.size]'hm := by
    simp [Array.getD, hj, hm]
  rw [e1, e2]
  exact V.litVV _
theorem vset_len : ∀ (xs : List VV) (a : List VV) (o : Nat), (vset a o xs).length = a.length := by
  intro xs
  induction xs with
  | nil => intro a o; rfl
  | cons x xs ih => intro a o; simp only [vset]; rw [ih]; simp
theorem vfill_len {place : Nat → Option (Nat × Nat)} : ∀ (ps : List (Nat × VV)) (a b : List VV), vfill place a ps = some b → b.length = a.length := by
  intro ps
  induction ps with
  | nil => intro a b hb; simp only [vfill, Option.some.injEq] at hb; rw [hb]
  | cons p ps ih =>
    intro a b hb
    obtain ⟨i, v⟩ := p
    simp only [vfill] at hb
    split at hb
    · cases hb
    · rename_i off size _
      cases hq : (Nat.beq v.cells.length size && Nat.ble (off + v.cells.length) a.length) with
      | false => rw [hq] at hb; cases hb
      | true => rw [hq] at hb; simp only [cond_true] at hb; rw [ih _ _ hb, vset_len]
theorem alloc_room {g cap : Nat} (c : Array Value) (ty : TypeId) (gen n : Nat) (hg : g = w.heap.size) : Room w [.arr gen n (some (g, cap))] (w.alloc (.cells c ty)) :=
  Room.one ((Below.refl _ w).alloc (Nat.le_refl _) _) fun k hk => by obtain ⟨cap', e⟩ := hk; simp only [Option.some.injEq, Prod.mk.injEq] at e; omega

theorem s_buildSlice (hT : TOk P T) {st : St} {t : TypeId} {len : Nat} {ps : List (Nat × VV)} {qs : Array (Nat × Value)} (hid : φ st.nx = none) (hl : ps.length = qs.toList.length)
    (hv : ∀ (j : Nat) p q, ps[j]? = some p → qs.toList[j]? = some q → p.1 = q.1 ∧ V w (E.up φ) (some φ) p.2 q.2) (h : ∀ p ∈ (vbuildSlice T st t len ps).chk, p) :
    (vbuildSlice T st t len ps).put = none ∧ ∃ v w' pls, (Instr.buildSlice t len qs).run P w = .ok v w' ∧ News w E φ st.nx (vbuildSlice T st t len ps).new pls w' ∧ V w' (E.up (addP φ st.nx pls)) (some (addP φ st.nx pls)) (vbuildSlice T st t len ps).val v := by
  unfold vbuildSlice at h ⊢
  split at h
  · rename_i e hk
    have ht := hT.sl hk
    cases hq : ((T e).k.known && Nat.ble (len * (T e).sz) 16777216 && (ps.all fun p => vfix p.2) && Nat.blt 0 (len * (T e).sz) && Nat.blt 0 (T e).zero.length) with
    | false => rw [hq] at h; exact not_bad h
    | true =>
      rw [hq] at h
      simp only [cond_true] at h ⊢
      simp only [Bool.and_eq_true] at hq
      obtain ⟨⟨⟨⟨hq1, hq2⟩, hq3⟩, hq4⟩, hq6⟩ := hq
      obtain ⟨ie, z, hie, hs, hz, hzz⟩ := hT.size (known_ne hq1)
      have hsm := Nat.le_of_ble_eq_true hq2
      have hps : 0 < len * (T e).sz := Nat.le_of_ble_eq_true hq4
      rw [hs] at hsm hps
      have hzs : 0 < z.cells.size := by rw [hzz] at hq6; have := Nat.le_of_ble_eq_true hq6; simp at this; omega
      split at h
      · rename_i cs hcs
        cases hq5 : cs.all VV.one with
        | false => rw [hq5] at h; exact not_bad h
        | true =>
          simp only [cond_true]
          refine ⟨trivial, ?_⟩
          have hone : ∀ x ∈ cs, x.one = true := fun x hx => List.all_eq_true.1 hq5 x hx
          rw [hzz, hs] at hcs
          rw [hs]
          obtain ⟨vs, e1, e2⟩ := s_fill (w := w) (E := E.up φ) (m := some φ) ps qs.toList _ cs _ (Says.zeros z.cells (len * ie.size) (.inl hzs)) hl hv (fun p hp => List.all_eq_true.1 hq3 p hp) hcs
          have hcl : cs.length = len * ie.size := by rw [vfill_len _ _ _ hcs]; simp [vzeros]
          have hvs : vs.size = len * ie.size := by rw [e2.1, hcl]
          have hcap : len ≤ maxLen := by
            have h1 : len ≤ len * ie.size := Nat.le_mul_of_pos_right _ (Nat.pos_of_ne_zero fun h0 => by rw [h0] at hps; simp at hps)
            unfold maxLen; omega
          have hroom := alloc_room (w := w) (cap := len) vs e 0 len rfl
          have hid' : ∀ i, i < [Pl.arr 0 len (some (w.heap.size, len))].length → φ (st.nx + i) = none := by
            intro i hi
            simp only [List.length_cons, List.length_nil, Nat.zero_add, Nat.lt_one_iff] at hi
            subst hi; exact hid
          have hext := hroom.ext hid'
          have hat : ∀ (i j : Nat) (x : VV), i < len → ((cs.drop (i * ie.size)).take ie.size)[j]? = some x → j < ie.size ∧ cs[i * ie.size + j]? = some x := by
            intro i j x hi hx
            rw [List.getElem?_take] at hx
            split at hx
            · rename_i hj; rw [List.getElem?_drop] at hx; exact ⟨hj, hx⟩
            · cases hx
          refine ⟨_, _, _, run_buildSlice w t e len qs vs ie z ht hie hz (by omega) (by omega) e1, News.one hroom ?_, ?_⟩
          · refine ⟨rfl, rfl, vs, e, heap_alloc_new _ _, hvs, Nat.le_refl _, hcap, fun i hi => ?_, fun i j x hi hx => ?_, fun k hk => ?_⟩
            · have : (i + 1) * ie.size ≤ len * ie.size := Nat.mul_le_mul_right _ hi
              rw [Nat.add_mul] at this
              simp; omega
            · obtain ⟨hj, hx'⟩ := hat i j x hi hx
              have h1 := e2.2 _ x hx'
              cases hfr : cs.all VV.mem with
              | false => exact h1.ext hext
              | true => exact V.extH (h1.mem (E' := (E.up φ).hold) (m' := none) (List.all_eq_true.1 hfr x (List.mem_of_getElem? hx')) rfl) hext
            · have hkl : k < cs.length := by omega
              have h1 := e2.2 k cs[k] (List.getElem?_eq_getElem hkl)
              exact h1.one_cell (hone _ (List.getElem_mem _))
          · have hp : addP φ st.nx [Pl.arr 0 len (some (w.heap.size, len))] st.nx = some (.arr 0 len (some (w.heap.size, len))) := addP_at (i := 0) rfl
            exact .ow hp (Nat.le_refl _) (hd0 := some (w.heap.size, len)) ⟨rfl, Nat.le_refl _⟩ fun _ => ⟨rfl, Nat.le_refl _⟩
      · exact not_bad h
  · exact not_bad h

theorem made_getD (z : Array Value) (n j : Nat) (hj : j < n) : (madeCells z n).getD j undef = z[j % z.size]! := by
  simp [madeCells, Array.getD, hj]
theorem s_make (hT : TOk P T) {st : St} {t : TypeId} {x y : VV} {vx vy : Value} (hx : V w (E.up φ) (some φ) x vx) (hy : V w (E.up φ) (some φ) y vy) (h : ∀ p ∈ (vmake T st t x y).chk, p) :
    (vmake T st t x y).put = none ∧ ∃ v w' pls, (Instr.makeSlice t vx vy).run P w = .ok v w' ∧ News w E φ st.nx (vmake T st t x y).new pls w' ∧ V w' (E.up (addP φ st.nx pls)) (some (addP φ st.nx pls)) (vmake T st t x y).val v := by
  unfold vmake at h ⊢
  split at h
  · rename_i e kl l kc c hk
    have ht := hT.sl hk
    rw [hx.sc_inv, hy.sc_inv]
    cases hq : ((T e).k.known && Nat.blt 0 (T e).bytes && Nat.beq (T e).zero.length (T e).sz && Nat.blt 0 (T e).sz && (T e).zero.all VV.mem1) with
    | false => rw [hq] at h; exact not_bad h
    | true =>
      rw [hq] at h
      simp only [cond_true] at h ⊢
      refine ⟨trivial, ?_⟩
      simp only [Bool.and_eq_true] at hq
      obtain ⟨⟨⟨⟨hq1, hq2⟩, hq3⟩, hq4⟩, hq5⟩ := hq
      obtain ⟨ie, z, hie, hs, hby, hz, hzz⟩ := hT.size' (known_ne hq1)
      obtain ⟨h0, h1, h2⟩ : 0 ≤ l ∧ l ≤ c ∧ c * ((T e).bytes : Int) ≤ 140737488355328 := h _ (List.mem_cons_self ..)
      have hb1 : 0 < (T e).bytes := Nat.le_of_ble_eq_true hq2
      have hs1 : 0 < (T e).sz := Nat.le_of_ble_eq_true hq4
      have hzl := Nat.eq_of_beq_eq_true hq3
      have hc : c ≤ 140737488355328 := by
        have : c * 1 ≤ c * ((T e).bytes : Int) := Int.mul_le_mul_of_nonneg_left (by omega) (by omega)
        omega
      have hr := run_make (P := P) w t e ie z ht hie hz kl kc l c h0 h1 (by rw [← hby, Int.mul_comm]; omega) (by omega)
      have hzs : z.cells.size = ie.size := by rw [hzz] at hzl; simpa [hs] using hzl
      have hroom := alloc_room (w := w) (cap := c.toNat) (madeCells z.cells (c.toNat * ie.size)) e 0 l.toNat rfl
      refine ⟨_, _, _, hr, News.one hroom ?_, ?_⟩
      · have hcell : ∀ (i j : Nat) (x : VV), i < l.toNat → (T e).zero[j]? = some x → ∃ u, (madeCells z.cells (c.toNat * ie.size)).getD (i * ie.size + j) undef = u ∧ x = litVV u ∧ x.mem1 = true := by
          intro i j x hi hx
          have hm := List.all_eq_true.1 hq5 x (List.mem_of_getElem? hx)
          rw [hzz, List.getElem?_map] at hx
          obtain ⟨u, hu, rfl⟩ := Option.map_eq_some_iff.1 hx
          have hj : j < z.cells.size := by have := (List.getElem?_eq_some_iff.1 hu).1; simpa using this
          have hlt : i * ie.size + j < c.toNat * ie.size := by
            have : (i + 1) * ie.size ≤ c.toNat * ie.size := Nat.mul_le_mul_right _ (by omega)
            rw [Nat.add_mul] at this; omega
          refine ⟨u, ?_, rfl, hm⟩
          rw [made_getD _ _ _ hlt]
          have e1 : (i * ie.size + j) % z.cells.size = j := by rw [hzs, Nat.mul_add_mod_self_right]; exact Nat.mod_eq_of_lt (by omega)
          rw [e1]
          have : z.cells[j]? = some u := by simpa using hu
          obtain ⟨_, rfl⟩ := Array.getElem?_eq_some_iff.1 this
          simp [hj]
        refine ⟨rfl, rfl, _, e, heap_alloc_new _ _, by rw [size_madeCells, hs], by omega, by unfold maxLen; omega, fun i _ => hzl, fun i j x hi hx => ?_, fun k hk => ?_⟩
        · obtain ⟨u, e1, rfl, hm⟩ := hcell i j x hi hx
          rw [hs, e1]
          exact V.litVV u
        · rw [hs] at hk hs1
          have hdiv := Nat.div_add_mod k ie.size
          have hi : k / ie.size < l.toNat := Nat.div_lt_of_lt_mul (by rw [Nat.mul_comm]; exact hk)
          have hj : k % ie.size < (T e).zero.length := by rw [hzl, hs]; exact Nat.mod_lt _ hs1
          obtain ⟨u, e1, e2, hm⟩ := hcell (k / ie.size) (k % ie.size) _ hi (List.getElem?_eq_getElem hj)
          rw [show k / ie.size * ie.size + k % ie.size = k by rw [Nat.mul_comm]; exact hdiv] at e1
          rw [e1]
          unfold VV.mem1 at hm
          rw [Bool.and_eq_true, e2] at hm
          exact (V.litVV (w := w) (E := E) (m := none) u).one_cell hm.2
      · have hp : addP φ st.nx [Pl.arr 0 l.toNat (some (w.heap.size, c.toNat))] st.nx = some (.arr 0 l.toNat (some (w.heap.size, c.toNat))) := addP_at (i := 0) rfl
        exact .ow hp (Nat.le_refl _) (hd0 := some (w.heap.size, c.toNat)) ⟨rfl, by omega⟩ fun _ => ⟨rfl, Nat.le_refl _⟩
  · exact not_bad h
end
end Go.Proofs.Ytnodhjlpoaahbaa
