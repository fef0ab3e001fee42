/-
  What is the run's own, written: a store.
-/
import Derived.Test.YtnodhjlpoaahbaaVjPut
namespace Go.Proofs.Ytnodhjlpoaahbaa
open Go.RowKit
section
variable {P : Program} {T : TypeId → TE} {w w' : World} {E : Prot} {φ : Phi} {H H' : Nat → Ob} {st : St} {a : Act}

theorem wp_store {o : Oper} {t : TypeId} {oa ox : Operand} {b off : Nat} {c : Array Value} {ty : TypeId} {it : TypeInfo} {K : Act → World → Prop} {Q : Exit → Act → World → Prop} (ho : o.op = .store t oa ox) (hp : a.eval oa = .pointer (some ⟨b, off, none⟩)) (hc : w.heap[b]? = some (.cells c ty (0, 0)))
    (hit : P.info? t = some it) (hsz : (a.eval ox).cells.size = it.size) (hfit : off + (a.eval ox).cells.toList.length ≤ c.toList.length) (hone : ∀ v ∈ (a.eval ox).cells.toList, v.oneCell' = true)
    (hK : K (a.put o.dst undef) (w.setRow b (over c.toList off (a.eval ox).cells.toList).toArray)) : o.wp P a w K Q := by
  have hrun := run_storeCells_at P b off ty (a.eval ox).cells.toList 0 c w hc (by simpa using hfit) hone
  unfold Oper.wp execOp
  rw [ho]
  simp only [hp, Instr.storeAt, Instr.sureAddr, storeVar, sizeOf, typeInfo, Sem.run_bind, Sem.run_pure, Result.andThen_ok, run_program, hit, hsz, ne_eq, not_true, if_false, hrun, Nat.add_zero]
  exact hK

theorem one_fix {x : VV} (h : x.one = true) : vfix x = true := by
  cases x with
  | sc v => cases v <;> first | rfl | cases h
  | _ => first | rfl | cases h
theorem cells_fix {x : VV} (h : x.cells.all VV.one = true) : vfix x = true := by
  cases x with
  | agg cs => rfl
  | _ => (simp [VV.cells] at h; exact one_fix h)
theorem ones_of {x : VV} {v : Value} {m : Option Phi} (h : V w E m x v) (h1 : x.cells.all VV.one = true) : ∀ u ∈ v.cells.toList, u.oneCell' = true := by
  intro u hu
  have hcells := h.cells (cells_fix h1)
  obtain ⟨j, hj, rfl⟩ := List.getElem_of_mem hu
  have hj' : j < x.cells.length := by rw [← hcells.1]; simpa using hj
  have hV := hcells.2 j x.cells[j] (by simp [hj'])
  have e : v.cells.getD j undef = v.cells.toList[j] := by
    have : j < v.cells.size := by simpa using hj
    simp [Array.getD, this]
  rw [e] at hV
  exact hV.one_cell (List.all_eq_true.1 h1 _ (List.getElem_mem _))
theorem pub_fix {x : VV} {k : Nat} {y : VV} {l : List Nat} (h : pubF H k x = some (y, l)) (hy : y.mem1 = true) : x.one = true ∨ ∃ cs, x = .agg cs := by
  cases k with
  | zero => cases h
  | succ k =>
    unfold VV.mem1 at hy
    rw [Bool.and_eq_true] at hy
    cases x with
    | ow => exact .inl rfl
    | nl => exact .inl rfl
    | tp => cases h
    | bp => cases h
    | ep => cases h
    | agg cs => exact .inr ⟨cs, rfl⟩
    | tup cs =>
      simp only [pubF] at h
      split at h
      · simp only [Option.some.injEq, Prod.mk.injEq] at h; obtain ⟨rfl, _⟩ := h; cases hy.2
      · cases h
    | fn => exact .inl rfl
    | sl => exact .inl rfl
    | dead => simp only [pubF, VV.mem, cond_true, Option.some.injEq, Prod.mk.injEq] at h; obtain ⟨rfl, _⟩ := h; cases hy.2
    | sc u => simp only [pubF, VV.mem, cond_true, Option.some.injEq, Prod.mk.injEq] at h; obtain ⟨rfl, _⟩ := h; exact .inl hy.2
/-- Cells, frozen. -/
theorem pubL_ok (h : HRel E st.H φ w) {xs cs : List VV} {ids0 ids : List Nat} {u : Nat → Value} (hp : pubL st xs = some (cs, ids0)) (hs : ∀ i ∈ ids0, i ∈ ids) (hv : ∀ (j : Nat) x, xs[j]? = some x → V w (E.up φ) (some φ) x (u j)) :
    cs.length = xs.length ∧ ∀ (j : Nat) y, cs[j]? = some y → V w (E.up (goneP ids φ)).hold none y (u j) := by
  unfold pubL at hp
  split at hp
  · rename_i l hl
    simp only [Option.some.injEq, Prod.mk.injEq] at hp
    obtain ⟨rfl, rfl⟩ := hp
    obtain ⟨e1, e2⟩ := omapL_ok hl
    refine ⟨by simp [e1], fun j y hy => ?_⟩
    rw [List.getElem?_map] at hy
    obtain ⟨p, hp, rfl⟩ := Option.map_eq_some_iff.1 hy
    obtain ⟨z, hz, hf⟩ := e2 j p hp
    exact pubF_ok h _ z p.1 _ p.2 (hv j z hz) hf fun i hi => hs i (List.mem_flatMap.2 ⟨p, List.mem_of_getElem? hp, hi⟩)
  · cases hp
theorem goneP_id {ids : List Nat} {id : Nat} (h : ids.any (Nat.beq id) = false) : goneP ids φ id = φ id := by simp only [goneP, h, cond_false]
theorem goneIds_id {ids : List Nat} {id : Nat} (h : ids.any (Nat.beq id) = false) : goneIds ids H id = H id := by simp only [goneIds, h, cond_false]

theorem s_store (hT : TOk P T) (hH : HRel E st.H φ w) (hz : ∀ k, E.fz k → k < w.heap.size) {t : TypeId} {x y : VV} {o : Oper} {oa ox : Operand} (ho : o.op = .store t oa ox) (hx : V w (E.up φ) (some φ) x (a.eval oa)) (hy : V w (E.up φ) (some φ) y (a.eval ox))
    (hc : ∀ p ∈ (vstore T st t x y).chk, p) : ∃ H', (vstore T st t x y).put = some H' ∧ (vstore T st t x y).new = [] ∧ (vstore T st t x y).val = .dead ∧ Puts P E φ H' 0 0 .dead o a w := by
  unfold vstore at hc ⊢
  split at hc
  · rename_i id off
    cases hq : (Nat.blt id st.nx && (T t).k.known && Nat.beq y.cells.length (T t).sz && y.cells.all VV.one) with
    | false => rw [hq] at hc; exact not_bad hc
    | true =>
      rw [hq] at hc
      simp only [cond_true] at hc ⊢
      simp only [Bool.and_eq_true] at hq
      obtain ⟨⟨⟨hq1, hq2⟩, hq3⟩, hq5⟩ := hq
      have h3 := Nat.eq_of_beq_eq_true hq3
      obtain ⟨it, z, hit, hs, _⟩ := hT.size (known_ne hq2)
      obtain ⟨b, hb, hb2⟩ := hx.bp_inv
      have hob := hH.ob id _ hb
      cases hHi : st.H id with
      | arr => rw [hHi] at hc; exact not_bad hc
      | gone => rw [hHi] at hc; exact not_bad hc
      | box cs =>
        rw [hHi] at hob
        simp only [hHi] at hc
        cases hq4 : Nat.ble (off + y.cells.length) cs.length with
        | false => rw [hq4] at hc; exact not_bad hc
        | true =>
          simp only [hq4, cond_true]
          refine ⟨_, rfl, by trivial, by trivial, ?_⟩
          have h4 := Nat.le_of_ble_eq_true hq4
          obtain ⟨c, ty, hc2, hc3⟩ := hob
          have hcells := hy.cells (cells_fix hq5)
          generalize hvs : (a.eval ox).cells.toList = vs
          have hvl : vs.length = y.cells.length := by rw [← hvs]; simpa using hcells.1
          have hcl : c.toList.length = cs.length := by rw [show c.toList.length = c.size from Array.length_toList]; exact hc3.1
          have hvd : ∀ j, vs.getD j undef = (a.eval ox).cells.getD j undef := fun j => by rw [← hvs, getD_toList]
          have hfit : off + vs.length ≤ c.toList.length := by rw [hvl, hcl]; exact h4
          intro K Q hK
          refine wp_store ho hb2 hc2 hit (by rw [hcells.1, h3, hs]) (by rw [hvs]; exact hfit) (ones_of hy hq5) ?_
          rw [hvs]
          obtain ⟨f1, f2, f3, f4, f5, f6⟩ := setRow_facts hc2 (over c.toList off vs).toArray
          obtain ⟨hext, hmk⟩ := hH.upd hz hb (PlUp.refl _) f4 f5 f6 (Nat.le_of_eq f3.symm) (fun k _ hk => f2 k fun e => hk e.symm) (fun k hk => .inl hk)
          have hφ : updP φ id (.box b) = φ := by
            funext k
            by_cases hk : k = id
            · subst hk; rw [updP_at, hb]
            · rw [updP_ne hk]
          rw [hφ] at hext hmk
          refine hK undef _ φ (hmk (.box (cs.take off ++ y.cells ++ cs.drop (off + y.cells.length))) ?_ _ (by simp) (fun k hk _ => by simp only [beq_false_of_ne hk, cond_false])) hext (fun _ => ⟨.inl, fun h => h.resolve_right (by omega)⟩) .dead
          refine ⟨_, ty, f1, by rw [List.size_toArray, over_len hfit, hcl]; simp; omega, fun j x hj => ?_⟩
          rw [toArray_getD]
          have hol : off ≤ cs.length := by omega
          by_cases h1 : j < off
          · rw [List.append_assoc, List.getElem?_append_left (by simp; omega), List.getElem?_take_of_lt h1] at hj
            rw [over_out hfit (.inl h1), getD_toList]
            exact (hc3.2 j x hj).ext hext
          · by_cases h2 : j < off + y.cells.length
            · rw [List.append_assoc, List.getElem?_append_right (by simp; omega), List.getElem?_append_left (by simp; omega)] at hj
              have e1 : (cs.take off).length = off := by simp; omega
              rw [e1] at hj
              obtain ⟨i, rfl⟩ : ∃ i, j = off + i := ⟨j - off, by omega⟩
              rw [show off + i - off = i by omega] at hj
              rw [over_in hfit (by omega), hvd]
              exact (hcells.2 i x hj).ext hext
            · rw [List.getElem?_append_right (by simp; omega), List.getElem?_drop] at hj
              have e1 : (cs.take off ++ y.cells).length = off + y.cells.length := by simp; omega
              rw [e1, show off + y.cells.length + (j - (off + y.cells.length)) = j by omega] at hj
              rw [over_out hfit (.inr (by omega)), getD_toList]
              exact (hc3.2 j x hj).ext hext
  · rename_i id gen s i o'
    cases hq : (Nat.blt id st.nx && (T t).k.known && Nat.beq y.cells.length (T t).sz) with
    | false => rw [hq] at hc; exact not_bad hc
    | true =>
      rw [hq] at hc
      simp only [cond_true] at hc ⊢
      simp only [Bool.and_eq_true] at hq
      obtain ⟨⟨hq1, hq2⟩, hq3⟩ := hq
      have h3 := Nat.eq_of_beq_eq_true hq3
      obtain ⟨it, z, hit, hs, _⟩ := hT.size (known_ne hq2)
      obtain ⟨cg, len, hd, b, hph, hg, hb2, hcur⟩ := hx.ep_inv
      have hob := hH.ob id _ hph
      cases hHi : st.H id with
      | box => rw [hHi] at hc; exact not_bad hc
      | gone => rw [hHi] at hc; exact not_bad hc
      | arr fr g n s' f =>
        cases fr with
        | false => rw [hHi] at hc; exact not_bad hc
        | true =>
        simp only [hHi] at hc ⊢
        cases hpl : pubL st y.cells with
        | none => rw [hpl] at hc; exact not_bad hc
        | some ci =>
          obtain ⟨cs, ids⟩ := ci
          simp only [hpl] at hc ⊢
          cases hq4 : (Nat.beq gen g && Nat.beq s s' && Nat.ble (o' + y.cells.length) s && Nat.beq cs.length y.cells.length && cs.all VV.mem1 && !(ids.any (Nat.beq id))) with
          | false => rw [hq4] at hc; exact not_bad hc
          | true =>
            simp only [cond_true]
            refine ⟨_, rfl, by trivial, by trivial, ?_⟩
            simp only [Bool.and_eq_true, Bool.not_eq_true'] at hq4
            obtain ⟨⟨⟨⟨⟨q1, q2⟩, q3⟩, q4⟩, q5⟩, q6⟩ := hq4
            obtain rfl := Nat.eq_of_beq_eq_true q1
            obtain rfl := Nat.eq_of_beq_eq_true q2
            have h4 := Nat.le_of_ble_eq_true q3
            have h5 := Nat.eq_of_beq_eq_true q4
            rw [hHi] at hob
            obtain ⟨rfl, rfl, hrow⟩ := hob
            obtain ⟨hi, cap, rfl⟩ := hcur rfl
            have hrow' := hrow
            obtain ⟨c, ty, hc2, r2, r3, r4, r5, r6, r7⟩ := hrow'
            -- each cell that is stored is of one cell
            have hfix : vfix y = true := by
              unfold pubL at hpl
              split at hpl
              · rename_i l hl
                simp only [Option.some.injEq, Prod.mk.injEq] at hpl
                obtain ⟨rfl, rfl⟩ := hpl
                cases y with
                | agg => rfl
                | tup cs' =>
                  exfalso
                  simp only [VV.cells, omapL] at hl
                  cases hp0 : pubF st.H (st.nx + 2) (.tup cs') with
                  | none => rw [hp0] at hl; cases hl
                  | some p =>
                    rw [hp0] at hl
                    simp only [Option.some.injEq] at hl
                    subst hl
                    simp only [List.map_cons, List.map_nil, List.all_cons, List.all_nil, Bool.and_true] at q5
                    rcases pub_fix (y := p.1) (l := p.2) hp0 q5 with h | ⟨_, h⟩ <;> cases h
                | dead =>
                  exfalso
                  simp only [VV.cells, omapL] at hl
                  cases hp0 : pubF st.H (st.nx + 2) .dead with
                  | none => rw [hp0] at hl; cases hl
                  | some p =>
                    rw [hp0] at hl
                    simp only [Option.some.injEq] at hl
                    subst hl
                    simp only [List.map_cons, List.map_nil, List.all_cons, List.all_nil, Bool.and_true] at q5
                    rcases pub_fix (y := p.1) (l := p.2) hp0 q5 with h | ⟨_, h⟩ <;> cases h
                | sc u =>
                  simp only [VV.cells, omapL] at hl
                  cases hp0 : pubF st.H (st.nx + 2) (.sc u) with
                  | none => rw [hp0] at hl; cases hl
                  | some p =>
                    rw [hp0] at hl
                    simp only [Option.some.injEq] at hl
                    subst hl
                    simp only [List.map_cons, List.map_nil, List.all_cons, List.all_nil, Bool.and_true] at q5
                    rcases pub_fix (y := p.1) (l := p.2) hp0 q5 with h | ⟨_, h⟩
                    · exact one_fix h
                    · cases h
                | nl => rfl
                | sl => rfl
                | tp => rfl
                | bp => rfl
                | ow => rfl
                | ep => rfl
                | fn => rfl
              · cases hpl
            have hcells := hy.cells hfix
            obtain ⟨p1, p2⟩ := pubL_ok (ids := ids) hH hpl (fun _ h => h) (u := fun j => (a.eval ox).cells.getD j undef) hcells.2
            generalize hvs : (a.eval ox).cells.toList = vs
            have hvl : vs.length = y.cells.length := by rw [← hvs]; simpa using hcells.1
            have hvd : ∀ j, vs.getD j undef = (a.eval ox).cells.getD j undef := fun j => by rw [← hvs, getD_toList]
            have hones : ∀ v ∈ (a.eval ox).cells.toList, v.oneCell' = true := by
              intro v hv
              obtain ⟨j, hj, rfl⟩ := List.getElem_of_mem hv
              have hjl : j < cs.length := by rw [p1, ← hcells.1]; simpa using hj
              have := (p2 j cs[j] (List.getElem?_eq_getElem hjl))
              have h1 := List.all_eq_true.1 q5 _ (List.getElem_mem hjl)
              unfold VV.mem1 at h1
              rw [Bool.and_eq_true] at h1
              have h2 := this.one_cell h1.2
              have e : (a.eval ox).cells.getD j undef = (a.eval ox).cells.toList[j] := by
                have : j < (a.eval ox).cells.size := by simpa using hj
                simp [Array.getD, this]
              rwa [e] at h2
            have hmul : (i + 1) * s ≤ cap * s := Nat.mul_le_mul_right _ (by omega)
            rw [Nat.add_mul, Nat.one_mul] at hmul
            have hcl : c.toList.length = cap * s := by rw [show c.toList.length = c.size from Array.length_toList]; exact r2
            have hfit : i * s + o' + vs.length ≤ c.toList.length := by rw [hvl, hcl]; omega
            intro K Q hK
            refine wp_store ho hb2 hc2 hit (by rw [hcells.1, h3, hs]) (by rw [hvs]; exact hfit) hones ?_
            rw [hvs]
            obtain ⟨f1, f2, f3, f4, f5, f6⟩ := setRow_facts hc2 (over c.toList (i * s + o') vs).toArray
            have hH1 := hH.gone (ids := ids)
            have hph1 : goneP ids φ id = some (.arr gen n (some (b, cap))) := by rw [goneP_id q6]; exact hph
            obtain ⟨hext, hmk⟩ := hH1.upd hz hph1 (PlUp.refl _) f4 f5 f6 (Nat.le_of_eq f3.symm) (fun k _ hk => f2 k fun e => hk ⟨cap, by rw [e]⟩) (fun k hk => .inl hk)
            have hφ : updP (goneP ids φ) id (.arr gen n (some (b, cap))) = goneP ids φ := by
              funext k
              by_cases hk : k = id
              · subst hk; rw [updP_at, hph1]
              · rw [updP_ne hk]
            rw [hφ] at hext hmk
            refine hK undef _ (goneP ids φ) (hmk (.arr true gen n s (fun j => bif Nat.beq j i then (bif Nat.beq cs.length s then cs else (f i).take o' ++ cs ++ (f i).drop (o' + cs.length)) else f j)) ?_ _ (by simp) (fun k hk _ => by simp only [beq_false_of_ne hk, cond_false])) (goneP_ext.trans hext) (fun k => ⟨fun h => .inl fun e => h (goneP_none.2 e), fun h e => (h.resolve_right (by omega)) (goneP_none.1 e)⟩) .dead
            have hrl := r5 i hi
            have hnew : (bif Nat.beq cs.length s then cs else (f i).take o' ++ cs ++ (f i).drop (o' + cs.length)) = (f i).take o' ++ cs ++ (f i).drop (o' + cs.length) := by
              cases hb : Nat.beq cs.length s with
              | false => rfl
              | true =>
                have := Nat.eq_of_beq_eq_true hb
                have h0 : o' = 0 := by omega
                subst h0
                simp only [cond_true, List.take_zero, List.nil_append, Nat.zero_add]
                rw [List.drop_eq_nil_of_le (by omega), List.append_nil]
            rw [hnew]
            have hnl : ((f i).take o' ++ cs ++ (f i).drop (o' + cs.length)).length = s := by simp; omega
            -- a row other than the one that is stored into
            have far : ∀ i' j, i' ≠ i → j < s → i' * s + j < i * s + o' ∨ i * s + o' + vs.length ≤ i' * s + j := by
              intro i' j hne hj
              rcases Nat.lt_or_ge i' i with hlt | hge
              · have : (i' + 1) * s ≤ i * s := Nat.mul_le_mul_right _ hlt
                rw [Nat.add_mul] at this; omega
              · have : (i + 1) * s ≤ i' * s := Nat.mul_le_mul_right _ (by omega)
                rw [Nat.add_mul] at this; omega
            refine ⟨rfl, rfl, _, ty, f1, by rw [List.size_toArray, over_len hfit, hcl], r3, r4, fun i' hi' => ?_, fun i' j x' hi' hj => ?_, fun k hk => ?_⟩
            · by_cases hii : i' = i
              · subst hii; simp only [Nat.beq_refl, cond_true]; exact hnl
              · simp only [beq_false_of_ne hii, cond_false]; exact r5 i' hi'
            · rw [toArray_getD]
              by_cases hii : i' = i
              · subst hii
                simp only [Nat.beq_refl, cond_true] at hj
                by_cases h1 : j < o'
                · rw [List.append_assoc, List.getElem?_append_left (by simp; omega), List.getElem?_take_of_lt h1] at hj
                  rw [over_out hfit (.inl (by omega)), getD_toList]
                  exact ((r6 i' j x' hi' hj).ext goneP_ext).ext hext
                · by_cases h2 : j < o' + cs.length
                  · rw [List.append_assoc, List.getElem?_append_right (by simp; omega), List.getElem?_append_left (by simp; omega)] at hj
                    have e1 : ((f i').take o').length = o' := by simp; omega
                    rw [e1] at hj
                    obtain ⟨q, rfl⟩ : ∃ q, j = o' + q := ⟨j - o', by omega⟩
                    rw [show o' + q - o' = q by omega] at hj
                    rw [← Nat.add_assoc, over_in hfit (by omega), hvd]
                    exact CellV.ext (fr := true) (p2 q x' hj) hext
                  · rw [List.getElem?_append_right (by simp; omega), List.getElem?_drop] at hj
                    have e1 : ((f i').take o' ++ cs).length = o' + cs.length := by simp; omega
                    rw [e1, show o' + cs.length + (j - (o' + cs.length)) = j by omega] at hj
                    rw [over_out hfit (.inr (by omega)), getD_toList]
                    exact ((r6 i' j x' hi' hj).ext goneP_ext).ext hext
              · simp only [beq_false_of_ne hii, cond_false] at hj
                have hjl := (List.getElem?_eq_some_iff.1 hj).1
                rw [r5 i' hi'] at hjl
                rw [over_out hfit (far i' j hii hjl), getD_toList]
                exact ((r6 i' j x' hi' hj).ext goneP_ext).ext hext
            · rw [toArray_getD]
              by_cases h1 : k < i * s + o'
              · rw [over_out hfit (.inl h1), getD_toList]; exact r7 k hk
              · by_cases h2 : k < i * s + o' + vs.length
                · obtain ⟨q, rfl⟩ : ∃ q, k = i * s + o' + q := ⟨k - (i * s + o'), by omega⟩
                  rw [over_in hfit (by omega)]
                  have hqv : q < vs.length := by omega
                  have e : vs.getD q undef = vs[q] := by simp [List.getD, hqv]
                  rw [e]
                  exact hones _ (by rw [hvs]; exact List.getElem_mem _)
                · rw [over_out hfit (.inr (by omega)), getD_toList]; exact r7 k hk
  · exact not_bad hc
end
end Go.Proofs.Ytnodhjlpoaahbaa
