/-
  What is the run's own, written: what an append takes its rows from; the append itself.
-/
import Derived.Test.YtnodhjlpoaahbaaVjApp
namespace Go.Proofs.Ytnodhjlpoaahbaa
open Go.RowKit
section
variable {P : Program} {T : TypeId → TE} {w w' : World} {E : Prot} {φ : Phi} {H H' : Nat → Ob} {st : St} {a : Act}

theorem RowV.le {fr : Bool} {n n' sz : Nat} {f : Nat → List VV} {hd : Option (Nat × Nat)} (h : RowV w E φ fr n sz f hd) (hn : n' ≤ n) : RowV w E φ fr n' sz f hd := by
  match hd, h with
  | none, h => simp only [RowV] at h ⊢; omega
  | some (g, cap), h =>
    obtain ⟨c, ty, h1, h2, h3, h4, h5, h6, h7⟩ := h
    have : n' * sz ≤ n * sz := Nat.mul_le_mul_right _ hn
    exact ⟨c, ty, h1, h2, by omega, h4, fun i hi => h5 i (by omega), fun i j x hi => h6 i j x (by omega), fun k hk => h7 k (by omega)⟩
theorem RowV.goneT {n sz : Nat} {f : Nat → List VV} {hd : Option (Nat × Nat)} {ids : List Nat} (h : RowV w E φ true n sz f hd) : RowV w E (goneP ids φ) true n sz f hd := by
  match hd, h with
  | none, h => exact h
  | some (g, cap), h =>
    obtain ⟨c, ty, h1, h2, h3, h4, h5, h6, h7⟩ := h
    exact ⟨c, ty, h1, h2, h3, h4, h5, fun i j x hi hx => V.less (h6 i j x hi hx) (fun j hj => hj.imp (fun h => h) fun h => goneP_own h) fun _ h => h, h7⟩
theorem pubRows_at {n : Nat} {f : Nat → List VV} {rows : List (List VV)} {ids0 : List Nat} (hp : pubRows st n f = some (rows, ids0)) :
    rows.length = n ∧ ∀ i, i < n → ∃ r l, rows[i]? = some r ∧ pubL st (f i) = some (r, l) ∧ ∀ q ∈ l, q ∈ ids0 := by
  unfold pubRows at hp
  split at hp
  · rename_i l hl
    simp only [Option.some.injEq, Prod.mk.injEq] at hp
    obtain ⟨rfl, rfl⟩ := hp
    obtain ⟨e1, e2⟩ := omapL_ok hl
    simp only [List.length_range] at e1
    refine ⟨by simp [e1], fun i hi => ?_⟩
    have hr : l[i]? = some (l[i]'(by omega)) := List.getElem?_eq_getElem _
    obtain ⟨i', hi', hf⟩ := e2 i _ hr
    have : i' = i := by
      have := (List.getElem?_eq_some_iff.1 hi').2
      simpa using this.symm
    subst this
    exact ⟨l[i'].1, l[i'].2, by rw [List.getElem?_map, hr]; rfl, hf, fun q hq => List.mem_flatMap.2 ⟨_, List.mem_of_getElem? hr, hq⟩⟩
  · cases hp
theorem rows_ok (h : HRel E st.H φ w) {n sz : Nat} {f : Nat → List VV} {hd : Option (Nat × Nat)} {rows : List (List VV)} {ids0 ids : List Nat} (hrow : RowV w E φ false n sz f hd) (hp : pubRows st n f = some (rows, ids0)) (hs : ∀ i ∈ ids0, i ∈ ids) :
    RowV w E (goneP ids φ) true n sz (fun i => rows.getD i []) hd := by
  obtain ⟨e1, e2⟩ := pubRows_at hp
  match hd, hrow with
  | none, h => exact h
  | some (g, cap), hrow =>
    obtain ⟨c, ty, h1, h2, h3, h4, h5, h6, h7⟩ := hrow
    refine ⟨c, ty, h1, h2, h3, h4, fun i hi => ?_, fun i j x hi hx => ?_, h7⟩
    · obtain ⟨r, l, hr, hl, hq⟩ := e2 i hi
      have := (pubL_ok h (ids := ids) (u := fun j => c.getD (i * sz + j) undef) hl (fun q hq' => hs q (hq q hq')) fun j x hx => h6 i j x hi hx).1
      simp only [List.getD, hr, Option.getD_some]
      rw [this]; exact h5 i hi
    · obtain ⟨r, l, hr, hl, hq⟩ := e2 i hi
      simp only [List.getD, hr, Option.getD_some] at hx
      exact (pubL_ok h (ids := ids) (u := fun j => c.getD (i * sz + j) undef) hl (fun q hq' => hs q (hq q hq')) fun j x hx => h6 i j x hi hx).2 j x hx

/-- What a slice yields to an append. -/
theorem src_mk {t e : TypeId} (ht : P.underlying t = some (.slice e)) {b off m cap sz : Nat} (hsz : 0 < sz) (u : Nat → Nat → Value) (h1 : ∀ i j, i < m → j < sz → w.cell? ⟨b, off + (i * sz + j), none⟩ = some (u i j)) (h2 : ∀ i j, i < m → j < sz → (u i j).oneCell' = true) :
    ∃ news, Src P sz t (.slice (some ⟨b, off, none⟩) m cap) m news w ∧ ∀ i j, i < m → j < sz → news.getD (i * sz + j) undef = u i j := by
  have hdm : ∀ k, k < m * sz → k / sz < m ∧ k % sz < sz ∧ k / sz * sz + k % sz = k := fun k hk =>
    ⟨Nat.div_lt_of_lt_mul (by rw [Nat.mul_comm]; exact hk), Nat.mod_lt _ hsz, by rw [Nat.mul_comm]; exact Nat.div_add_mod k sz⟩
  refine ⟨(List.range (m * sz)).map fun k => u (k / sz) (k % sz), Src.ofSlice w ht _ m cap _ (by simp) (fun j v hj => ?_) (fun v hv => ?_), fun i j hi hj => ?_⟩
  · rw [List.getElem?_map] at hj
    obtain ⟨k, hk, rfl⟩ := Option.map_eq_some_iff.1 hj
    obtain ⟨hlt, rfl⟩ := List.getElem?_eq_some_iff.1 hk
    simp at hlt
    obtain ⟨a1, a2, a3⟩ := hdm j hlt
    have := h1 _ _ a1 a2
    rw [a3] at this
    simpa [Addr.add_lit] using this
  · obtain ⟨k, hk, rfl⟩ := List.mem_map.1 hv
    obtain ⟨a1, a2, a3⟩ := hdm k (List.mem_range.1 hk)
    exact h2 _ _ a1 a2
  · have hlt : i * sz + j < m * sz := by
      have : (i + 1) * sz ≤ m * sz := Nat.mul_le_mul_right _ hi
      rw [Nat.add_mul] at this; omega
    have e1 : (i * sz + j) / sz = i := by rw [Nat.mul_comm, Nat.mul_add_div hsz, Nat.div_eq_of_lt hj, Nat.add_zero]
    have e2 : (i * sz + j) % sz = j := by rw [Nat.mul_add_mod_self_right]; exact Nat.mod_eq_of_lt hj
    simp [List.getD, hlt, e1, e2]
theorem src_row {t e : TypeId} (ht : P.underlying t = some (.slice e)) {sz m : Nat} {f : Nat → List VV} {hd : Option (Nat × Nat)} {v : Value} (hsz : 0 < sz) (hrow : RowV w E φ true m sz f hd) (hv : hdV hd m v) :
    ∃ news, Src P sz t v m news w ∧ (∀ i, i < m → (f i).length = sz) ∧ ∀ (i j : Nat) (y : VV), i < m → (f i)[j]? = some y → V w (E.up φ).hold none y (news.getD (i * sz + j) undef) := by
  match hd, hrow, hv with
  | none, hrow, hv =>
    obtain ⟨rfl, rfl⟩ := hv
    exact ⟨[], Src.ofNil w ht 0, fun i hi => by omega, fun i j y hi => by omega⟩
  | some (g, cap), hrow, hv =>
    obtain ⟨c, ty, h1, h2, h3, h4, h5, h6, h7⟩ := hrow
    obtain ⟨rfl, _⟩ := hv
    have hlt : ∀ i j, i < m → j < sz → i * sz + j < m * sz := by
      intro i j hi hj
      have : (i + 1) * sz ≤ m * sz := Nat.mul_le_mul_right _ hi
      rw [Nat.add_mul] at this; omega
    have hms : m * sz ≤ cap * sz := Nat.mul_le_mul_right _ h3
    obtain ⟨news, hs, hn⟩ := src_mk (w := w) (cap := cap) (off := 0) ht hsz (fun i j => c.getD (i * sz + j) undef) (fun i j hi hj => by rw [Nat.zero_add]; exact cell_at h1 (by have := hlt i j hi hj; omega)) fun i j hi hj => h7 _ (hlt i j hi hj)
    refine ⟨news, hs, h5, fun i j y hi hy => ?_⟩
    have hj : j < sz := by rw [← h5 i hi]; exact (List.getElem?_eq_some_iff.1 hy).1
    rw [hn i j hi hj]; exact h6 i j y hi hy
theorem mem1_and {x : VV} (h : x.mem1 = true) : x.mem = true ∧ x.one = true := by unfold VV.mem1 at h; rwa [Bool.and_eq_true] at h

/-- **What is appended.** -/
theorem src_ok (hH : HRel E st.H φ w) {t e : TypeId} (ht : P.underlying t = some (.slice e)) (hsz : 0 < (T e).sz) {y : VV} {vy : Value} (hy : V w (E.up φ) (some φ) y vy) {m : Nat} {g : Nat → List VV} {ck : List Prop} {ids0 ids : List Nat}
    (hs : vsrc T st e y = some (m, g, ck, ids0)) (hck : ∀ p ∈ ck, p) (hids : ∀ i ∈ ids0, i ∈ ids) :
    ∃ news, Src P (T e).sz t vy m news w ∧ (∀ i, i < m → (g i).length = (T e).sz) ∧ ∀ (i j : Nat) (x : VV), i < m → (g i)[j]? = some x → V w (E.up (goneP ids φ)).hold none x (news.getD (i * (T e).sz + j) undef) := by
  have hless : ∀ {x : VV} {v : Value}, V w (E.up φ).hold none x v → V w (E.up (goneP ids φ)).hold none x v := fun h => h.less (fun j hj => hj.imp (fun h => h) fun h => goneP_own h) fun _ h => h
  unfold vsrc at hs
  split at hs
  · simp only [Option.some.injEq, Prod.mk.injEq] at hs
    obtain ⟨rfl, rfl, rfl, rfl⟩ := hs
    rw [hy.nl_inv]
    exact ⟨[], Src.ofNil w ht 0, fun i hi => by omega, fun i j y hi => by omega⟩
  · rename_i fz m' s g'
    cases hq : Nat.beq s (T e).sz with
    | false => rw [hq] at hs; cases hs
    | true =>
      rw [hq] at hs
      simp only [cond_true, Option.some.injEq, Prod.mk.injEq] at hs
      obtain ⟨rfl, rfl, rfl, rfl⟩ := hs
      have hsz' := Nat.eq_of_beq_eq_true hq
      subst hsz'
      have hm : ∀ i, i < m' → (g' i).all VV.mem1 = true := hck _ (List.mem_cons_self ..)
      cases hy with
      | @nil _ _ _ _ cap _ a h =>
        cases a with
        | none => exact ⟨[], Src.ofNil w ht _, fun i hi => by omega, fun i j y hi => by omega⟩
        | some a => exact ⟨[], Src.ofSlice w ht _ 0 _ [] (by simp) (fun j u h => by simp at h) (fun u h => by cases h), fun i hi => by omega, fun i j y hi => by omega⟩
      | @sl _ _ _ _ _ b off cap _ u h1 h2 h3 h4 h5 h6 h7 =>
        have hat : ∀ i j, i < m' → j < (T e).sz → ∃ x, (g' i)[j]? = some x ∧ x.mem1 = true := by
          intro i j hi hj
          have hl : j < (g' i).length := by rw [h5 i hi]; exact hj
          exact ⟨(g' i)[j], List.getElem?_eq_getElem hl, List.all_eq_true.1 (hm i hi) _ (List.getElem_mem _)⟩
        obtain ⟨news, hs, hn⟩ := src_mk (w := w) (cap := cap) (off := off) ht hsz u (fun i j hi hj => by
            obtain ⟨x, hx, _⟩ := hat i j hi hj
            rw [← Nat.add_assoc]; exact h6 i j x hi hx) fun i j hi hj => by
            obtain ⟨x, hx, hx1⟩ := hat i j hi hj
            exact (h7 i j x hi hx).one_cell (mem1_and hx1).2
        refine ⟨news, hs, h5, fun i j y hi hy => ?_⟩
        have hj : j < (T e).sz := by rw [← h5 i hi]; exact (List.getElem?_eq_some_iff.1 hy).1
        rw [hn i j hi hj]
        exact hless ((h7 i j y hi hy).mem (E' := (E.up φ).hold) (m' := none) (mem1_and (List.all_eq_true.1 (hm i hi) _ (List.mem_of_getElem? hy))).1 (by cases fz <;> rfl))
  · rename_i id gen m'
    obtain ⟨c, len, hd, hd0, hph, hg, h0, hcur⟩ := hy.ow_inv
    have ho := hH.ob id _ hph
    cases hb : Nat.blt id st.nx with
    | false => rw [hb] at hs; cases hs
    | true =>
      rw [hb] at hs
      simp only [cond_true] at hs
      cases hHi : st.H id with
      | box cs => rw [hHi] at hs; cases hs
      | gone g => rw [hHi] at hs; cases hs
      | arr fr g' n' s f =>
        rw [hHi] at ho
        obtain ⟨rfl, rfl, hrow⟩ := ho
        cases fr with
        | true =>
          simp only [hHi] at hs
          cases hq : (Nat.beq gen g' && Nat.beq s (T e).sz) with
          | false => rw [hq] at hs; cases hs
          | true =>
            rw [hq] at hs
            simp only [cond_true, Option.some.injEq, Prod.mk.injEq] at hs
            obtain ⟨rfl, rfl, rfl, rfl⟩ := hs
            rw [Bool.and_eq_true] at hq
            have hsz' := Nat.eq_of_beq_eq_true hq.2
            subst hsz'
            obtain ⟨rfl, hml⟩ := hcur (Nat.eq_of_beq_eq_true hq.1)
            obtain ⟨news, h1, h2, h3⟩ := src_row ht hsz (hrow.le hml) h0
            exact ⟨news, h1, h2, fun i j x hi hx => hless (h3 i j x hi hx)⟩
        | false =>
          simp only [hHi] at hs
          cases hq : (Nat.beq gen g' && Nat.beq s (T e).sz) with
          | false => rw [hq] at hs; cases hs
          | true =>
            rw [hq] at hs
            simp only [cond_true] at hs
            rw [Bool.and_eq_true] at hq
            have hsz' := Nat.eq_of_beq_eq_true hq.2
            subst hsz'
            obtain ⟨rfl, hml⟩ := hcur (Nat.eq_of_beq_eq_true hq.1)
            split at hs
            · rename_i rows ids1 hr
              cases hq2 : (rows.all fun r => r.all VV.mem1) with
              | false => rw [hq2] at hs; cases hs
              | true =>
                rw [hq2] at hs
                simp only [cond_true, Option.some.injEq, Prod.mk.injEq] at hs
                obtain ⟨rfl, rfl, rfl, rfl⟩ := hs
                exact src_row ht hsz (rows_ok hH (hrow.le hml) hr hids) h0
            · cases hs
  · cases hs

theorem any_app {ids ids' : List Nat} {id : Nat} (h1 : ids.any (Nat.beq id) = false) (h2 : ids'.any (Nat.beq id) = false) : (ids ++ ids').any (Nat.beq id) = false := by simp only [List.any_append, h1, h2, Bool.or_false]
theorem not_true_eq {b : Bool} (h : (!b) = true) : b = false := by cases b <;> first | rfl | cases h
/-- **append.** -/
theorem s_append (hT : TOk P T) (hH : HRel E st.H φ w) (hz : ∀ k, E.fz k → k < w.heap.size) (hid : ∀ id, st.nx ≤ id → φ id = none) {t ty : TypeId} {x y : VV} {vx vy : Value} (hx : V w (E.up φ) (some φ) x vx) (hy : V w (E.up φ) (some φ) y vy)
    (hc : ∀ p ∈ (vappend T st t x y).chk, p) :
    ∃ H', (vappend T st t x y).put = some H' ∧ ∃ v w' φ', (Builtin.append_ #[t, t] ty #[vx, vy]).run P w = .ok v w' ∧ HRel E (addH H' st.nx (vappend T st t x y).new) φ' w' ∧ Ext w φ w' φ' ∧
      (∀ id, φ' id ≠ none ↔ φ id ≠ none ∨ (st.nx ≤ id ∧ id < st.nx + (vappend T st t x y).new.length)) ∧ V w' (E.up φ') (some φ') (vappend T st t x y).val v := by
  unfold vappend at hc ⊢
  split at hc
  · rename_i e hk
    have ht := hT.sl hk
    cases hq : ((T e).k.known && Nat.blt 0 (T e).bytes && Nat.beq (T e).zero.length (T e).sz && Nat.blt 0 (T e).sz) with
    | false => rw [hq] at hc; exact not_bad hc
    | true =>
      rw [hq] at hc
      simp only [cond_true] at hc ⊢
      simp only [Bool.and_eq_true] at hq
      obtain ⟨⟨⟨hq1, hq2⟩, hq3⟩, hq4⟩ := hq
      have hb1 : 0 < (T e).bytes := Nat.le_of_ble_eq_true hq2
      have hs1 : 0 < (T e).sz := Nat.le_of_ble_eq_true hq4
      have hzl := Nat.eq_of_beq_eq_true hq3
      split at hc
      · rename_i m g ck ids hsrc
        -- appended to what is an own array, in what has been handed away
        have main : ∀ (ids' : List Nat) (φ0 : Phi) (H0 : Nat → Ob) (id c len n : Nat) (hd : Option (Nat × Nat)) (f F : Nat → List VV), HRel E H0 φ0 w → (∀ q ∈ ids, q ∈ ids') → Ext w φ w φ0 → (∀ k, Own φ0 k → Own (goneP ids' φ) k) → φ0 id = some (.arr c len hd) → RowV w E φ0 true n (T e).sz f hd → hdV hd n vx →
            (n + m) * (T e).bytes ≤ 140737488355328 → (∀ p ∈ ck, p) → (∀ i, F i = bif Nat.blt i n then f i else g (i - n)) →
            ∃ v w' hd', (Builtin.append_ #[t, t] ty #[vx, vy]).run P w = .ok v w' ∧ hdV hd' (n + m) v ∧ Ext w φ w' (updP φ0 id (.arr (c + 1) (n + m) hd')) ∧
              ∀ H', H' id = .arr true (c + 1) (n + m) (T e).sz F → (∀ k, k ≠ id → φ0 k ≠ none → H' k = H0 k) → HRel E H' (updP φ0 id (.arr (c + 1) (n + m) hd')) w' := by
          intro ids' φ0 H0 id c len n hd f F hH0 hsub hext hown hid0 hrow hhd hbig hck hF
          obtain ⟨news, g1, g2, g3⟩ := src_ok hH ht hs1 hy hsrc hck hsub
          obtain ⟨v, w', hd', k1, k2, k3, k4⟩ := app_core (ty := ty) hT hk hq1 hb1 hzl hH0 hz hid0 hrow hhd g1 g2 (fun i j y hi hy => (g3 i j y hi hy).less (fun k hk => hk.imp (fun h => h) fun h => hown k h) fun _ h => h) hbig hF
          exact ⟨v, w', hd', k1, k2, hext.trans k3, k4⟩
        split at hc
        · -- nil
          have hbig : m * (T e).bytes ≤ 140737488355328 := hc _ (List.mem_cons_self ..)
          have hck : ∀ p ∈ ck, p := fun p hp => hc p (List.mem_cons_of_mem _ hp)
          refine ⟨_, rfl, ?_⟩
          have hH1 : HRel E (goneIds ids st.H) (goneP ids φ) w := hH.gone
          have hnone : goneP ids φ st.nx = none := goneP_none.2 (hid _ (Nat.le_refl _))
          have hroom : Room w [Pl.arr 0 0 none] w := Room.one (Below.refl _ _) fun k hk => by obtain ⟨_, e'⟩ := hk; cases e'
          have hidn : ∀ i, i < [Ob.arr true 0 0 (T e).sz fun _ => []].length → goneP ids φ (st.nx + i) = none := fun i hi => by
            simp only [List.length_cons, List.length_nil, Nat.zero_add, Nat.lt_one_iff] at hi
            subst hi; exact hnone
          have hnews : News w E (goneP ids φ) st.nx [Ob.arr true 0 0 (T e).sz fun _ => []] [Pl.arr 0 0 none] w := News.one hroom ⟨rfl, rfl, rfl⟩
          have hH2 := hH1.news hz hnews hidn (H' := fun k => bif Nat.beq k st.nx then .arr true 0 0 (T e).sz fun _ => [] else goneIds ids st.H k) (fun k hk => by
              rw [beq_false_of_ne (by rintro rfl; exact hk hnone)]; rfl) (fun i o ho => by
              match i, ho with
              | 0, ho => simp only [List.getElem?_cons_zero, Option.some.injEq] at ho; subst ho; simp
              | i + 1, ho => simp at ho)
          have hp0 : addP (goneP ids φ) st.nx [Pl.arr 0 0 none] st.nx = some (.arr 0 0 none) := addP_at (i := 0) rfl
          obtain ⟨v, w', hd', k1, k2, k3, k4⟩ := main ids _ _ st.nx 0 0 0 none (fun _ => []) g hH2 (fun q h => h) (goneP_ext.trans (hnews.ext hidn)) (fun k hk => by
              rcases (hnews.own hidn).1 hk with h | ⟨i, p, hi, hb⟩
              · exact h
              · have := hroom.far i p k hi hb
                match i, hi with
                | 0, hi => simp only [List.getElem?_cons_zero, Option.some.injEq] at hi; subst hi; obtain ⟨_, e'⟩ := hb; cases e'
                | i + 1, hi => simp at hi) hp0 rfl ⟨rfl, hx.nl_inv⟩ (by rw [Nat.zero_add]; exact hbig) hck (fun i => rfl)
          rw [Nat.zero_add] at k2 k3 k4
          refine ⟨v, w', _, k1, k4 _ ?_ (fun k hk hk2 => ?_), k3, fun id => ⟨fun hk => ?_, fun hk => ?_⟩, .ow updP_at (Nat.le_refl _) k2 fun _ => ⟨rfl, by omega⟩⟩
          · simp only [addH, Nat.beq_refl, cond_true, Nat.zero_add]
          · simp only [addH, beq_false_of_ne hk, cond_false]
          · by_cases h1 : id = st.nx
            · exact .inr (by simp; omega)
            · rw [updP_ne h1, addP_out (by simp; omega)] at hk
              exact .inl fun h => hk (goneP_none.2 h)
          · by_cases h1 : id = st.nx
            · subst h1; rw [updP_at]; simp
            · rw [updP_ne h1, addP_out (by simp; omega)]
              intro e
              rcases hk with hk | hk
              · exact hk (goneP_none.1 e)
              · simp at hk; omega
        · -- an own array
          rename_i id gen n
          obtain ⟨c, len, hd, hd0, hph, hg, h0, hcur⟩ := hx.ow_inv
          have ho := hH.ob id _ hph
          cases hb : (Nat.blt id st.nx && !(ids.any (Nat.beq id))) with
          | false => rw [hb] at hc; exact not_bad hc
          | true =>
            rw [hb] at hc
            simp only [cond_true] at hc ⊢
            rw [Bool.and_eq_true] at hb
            have hb2 := not_true_eq hb.2
            have fin : ∀ (ids' : List Nat) (f0 : Nat → List VV), (∀ q ∈ ids, q ∈ ids') → ids'.any (Nat.beq id) = false → RowV w E (goneP ids' φ) true n (T e).sz f0 hd → hdV hd n vx → gen = c → (n + m) * (T e).bytes ≤ 140737488355328 → (∀ p ∈ ck, p) →
                ∃ v w' φ', (Builtin.append_ #[t, t] ty #[vx, vy]).run P w = .ok v w' ∧ HRel E (addH (fun k => bif Nat.beq k id then .arr true (gen + 1) (n + m) (T e).sz (fun i => bif Nat.blt i n then f0 i else g (i - n)) else goneIds ids' st.H k) st.nx []) φ' w' ∧ Ext w φ w' φ' ∧
                  (∀ id, φ' id ≠ none ↔ φ id ≠ none ∨ (st.nx ≤ id ∧ id < st.nx + ([] : List Ob).length)) ∧ V w' (E.up φ') (some φ') (.ow id (gen + 1) (n + m)) v := by
              intro ids' f0 hsub hnot hrow hhd hgen hbig hck
              subst hgen
              obtain ⟨v, w', hd', k1, k2, k3, k4⟩ := main ids' _ _ id _ _ n hd f0 _ (hH.gone (ids := ids')) hsub goneP_ext (fun _ h => h) ((goneP_id hnot).trans hph) hrow hhd hbig hck (fun i => rfl)
              refine ⟨v, w', _, k1, k4 _ ?_ (fun k hk hk2 => ?_), k3, fun i => ⟨fun hk => ?_, fun hk => ?_⟩, .ow updP_at (Nat.le_refl _) k2 fun _ => ⟨rfl, by omega⟩⟩
              · simp only [addH, Nat.beq_refl, cond_true]
              · simp only [addH, beq_false_of_ne hk, cond_false]
              · by_cases h1 : i = id
                · subst h1; exact .inl (by rw [hph]; simp)
                · rw [updP_ne h1] at hk
                  exact .inl fun h => hk (goneP_none.2 h)
              · by_cases h1 : i = id
                · subst h1; rw [updP_at]; simp
                · rw [updP_ne h1]
                  intro e
                  exact (hk.resolve_right (by simp only [List.length_nil]; omega)) (goneP_none.1 e)
            cases hHi : st.H id with
            | box cs => rw [hHi] at hc; exact not_bad hc
            | gone g => rw [hHi] at hc; exact not_bad hc
            | arr fr g0 n' s f =>
              rw [hHi] at ho
              obtain ⟨rfl, rfl, hrow⟩ := ho
              cases fr with
              | true =>
                simp only [hHi] at hc ⊢
                cases hq : (Nat.beq gen g0 && Nat.beq s (T e).sz) with
                | false => rw [hq] at hc; exact not_bad hc
                | true =>
                  rw [hq] at hc
                  simp only [cond_true] at hc ⊢
                  rw [Bool.and_eq_true] at hq
                  have hsz' := Nat.eq_of_beq_eq_true hq.2
                  subst hsz'
                  have hge := Nat.eq_of_beq_eq_true hq.1
                  obtain ⟨rfl, hml⟩ := hcur hge
                  exact ⟨_, rfl, fin ids f (fun q h => h) hb2 (hrow.le hml).goneT h0 hge (hc _ (List.mem_cons_self ..)) fun p hp => hc p (List.mem_cons_of_mem _ hp)⟩
              | false =>
                simp only [hHi] at hc ⊢
                cases hq : (Nat.beq gen g0 && Nat.beq s (T e).sz) with
                | false => rw [hq] at hc; exact not_bad hc
                | true =>
                  rw [hq] at hc
                  simp only [cond_true] at hc ⊢
                  rw [Bool.and_eq_true] at hq
                  have hsz' := Nat.eq_of_beq_eq_true hq.2
                  subst hsz'
                  have hge := Nat.eq_of_beq_eq_true hq.1
                  obtain ⟨rfl, hml⟩ := hcur hge
                  split at hc
                  · rename_i rows ids1 hr
                    cases hq2 : ((rows.all fun r => r.all VV.mem1) && !(ids1.any (Nat.beq id))) with
                    | false => rw [hq2] at hc; exact not_bad hc
                    | true =>
                      rw [hq2] at hc
                      simp only [cond_true] at hc ⊢
                      rw [Bool.and_eq_true] at hq2
                      exact ⟨_, rfl, fin (ids ++ ids1) _ (fun q h => List.mem_append.2 (.inl h)) (any_app hb2 (not_true_eq hq2.2)) (rows_ok hH (hrow.le hml) hr fun q h => List.mem_append.2 (.inr h)) h0 hge (hc _ (List.mem_cons_self ..)) fun p hp => hc p (List.mem_cons_of_mem _ hp)⟩
                  · exact not_bad hc
        · exact not_bad hc
      · exact not_bad hc
  · exact not_bad hc
end
end Go.Proofs.Ytnodhjlpoaahbaa
