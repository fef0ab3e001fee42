/-
  A region of operations, whatever order is drawn.
-/
import Derived.Test.YtnodhjlpoaahbaaVjReg5
namespace Go.Proofs.Ytnodhjlpoaahbaa
open Go.RowKit
section
variable {P : Program} {T : TypeId → TE} {O : Nat → Orc} {ops : Array Oper} {st0 : St} {M : Array Nat} {N : Nat} {E : Prot} {w0 : World} {φ0 : Phi} {D : Nat → Bool} {φ : Phi} {a : Act} {w : World}

theorem RI.more (hR : RegOk ops M N) (h : RI P T O ops st0 N E w0 φ0 D φ a w) {i : Nat} {o : Oper} (ho : ops[i]? = some o) {φ' : Phi} {w' : World} {v : Value} (he : Ext w φ w' φ')
    (hv1 : rPc T O ops st0 i = true → V w' (E.up φ') (some φ') (rR T O ops st0 i).val v) (hv2 : rPc T O ops st0 i = false → v = undef)
    (hphi : ∀ id, φ' id ≠ none ↔ φ id ≠ none ∨ ((runS T O ops st0 i).1.nx ≤ id ∧ id < (runS T O ops st0 i).1.nx + (rR T O ops st0 i).new.length))
    (hst : ∃ m, m ≤ ops.size ∧ (∀ (s : Nat) o, ops[s]? = some o → (rR T O ops st0 s).put ≠ none → (plus D i s = true ↔ s < m)) ∧ (m < ops.size → (rR T O ops st0 m).put ≠ none) ∧
      HRel E (runS T O ops st0 m).1.H φ' w' ∧ ∀ id, (runS T O ops st0 m).1.nx ≤ id → φ' id = none) :
    RI P T O ops st0 N E w0 φ0 (plus D i) φ' (a.put o.dst v) w' := by
  have hd : ∀ k, o.dst = some k → k < a.tmps.size := fun k hk => by rw [h.sz]; exact hR.dst i o k ho hk
  refine ⟨?_, ?_, h.ext.trans he, fun k hk => Nat.lt_of_lt_of_le (h.old k hk) he.size, fun t ht => ?_, fun j oj t hj hD hdj => ?_, fun j oj hj hD jj hjj => ?_, fun id hid => (hphi id).2 (.inl (h.lv id hid)), fun j oj hj hD jj hjj => ?_, hst⟩
  · rw [← h.sz]; cases o.dst <;> simp [Act.put]
  · rw [← h.df]; cases o.dst <;> rfl
  · rw [put_getD a _ v t hd, if_neg (ht i o ho (plus_iff.2 (.inl rfl)))]
    exact (h.out t fun j oj hj hD => ht j oj hj (plus_iff.2 (.inr hD))).ext he
  · by_cases hji : j = i
    · subst hji
      rw [ho] at hj
      simp only [Option.some.injEq] at hj
      subst hj
      rw [put_getD a _ v t hd, if_pos hdj]
      exact ⟨hv1, hv2⟩
    · have hDj : D j = true := (plus_iff.1 hD).resolve_left hji
      have hne : o.dst ≠ some t := fun e => hji (hR.uniq j i oj o t hj ho hdj e)
      rw [put_getD a _ v t hd, if_neg hne]
      obtain ⟨h1, h2⟩ := h.inn j oj t hj hDj hdj
      exact ⟨fun hp => (h1 hp).ext he, h2⟩
  · have hne : j ≠ i := by rintro rfl; rw [plus_iff.2 (.inl rfl)] at hD; cases hD
    have hDj : D j = false := by
      cases hq : D j with
      | false => rfl
      | true => rw [plus_iff.2 (.inr hq)] at hD; cases hD
    have hjl := (Array.getElem?_eq_some_iff.1 hj).1
    have hil := (Array.getElem?_eq_some_iff.1 ho).1
    apply Classical.byContradiction
    intro hn
    rcases (hphi _).1 hn with h1 | ⟨h1, h2⟩
    · exact h1 (h.al j oj hj hDj jj hjj)
    · rcases Nat.lt_or_ge j i with hlt | hge
      · have a1 := (runS_at (T := T) (O := O) (st0 := st0) hj).1
        have a2 := runS_nx (T := T) (O := O) (ops := ops) (st0 := st0) (j + 1) i (by omega) (by omega)
        omega
      · have a1 := (runS_at (T := T) (O := O) (st0 := st0) ho).1
        have a2 := runS_nx (T := T) (O := O) (ops := ops) (st0 := st0) (i + 1) j (by omega) (by omega)
        omega
  · rcases plus_iff.1 hD with rfl | hDj
    · exact (hphi _).2 (.inr ⟨by omega, by omega⟩)
    · exact (hphi _).2 (.inl (h.nw j oj hj hDj jj hjj))

/-- What is there before a put: all that has been made. -/
theorem RI.live (h : RI P T O ops st0 N E w0 φ0 D φ a w) {i : Nat} (hi : i ≤ ops.size) (hD : ∀ s o, s < i → ops[s]? = some o → isLoud o.op = true → D s = true) : ∀ id, id < (runS T O ops st0 i).1.nx → φ id ≠ none := by
  induction i with
  | zero => exact fun id hid => h.lv id hid
  | succ i ih =>
    intro id hid
    have ho : ops[i]? = some (ops[i]'(by omega)) := by simp [show i < ops.size by omega]
    have e := (runS_at (T := T) (O := O) (st0 := st0) ho).1
    rcases Nat.lt_or_ge id (runS T O ops st0 i).1.nx with hlt | hge
    · exact ih (by omega) (fun s o hs => hD s o (by omega)) id hlt
    · have hl : isLoud (ops[i]'(by omega)).op = true := by
        have hr : rR T O ops st0 i = vop T (O i) (runS T O ops st0 i).1 (ops[i]'(by omega)).op := by simp only [rR, ho]
        refine loud_of (T := T) (O := O i) (st := (runS T O ops st0 i).1) (.inl ?_)
        rw [← hr]; omega
      have := h.nw i _ ho (hD i _ (by omega) ho hl) (id - (runS T O ops st0 i).1.nx) (by omega)
      rw [show (runS T O ops st0 i).1.nx + (id - (runS T O ops st0 i).1.nx) = id by omega] at this
      exact this

theorem nextPut : ∀ (n k : Nat), k + n = ops.size → ∃ m', k ≤ m' ∧ m' ≤ ops.size ∧ (∀ s, k ≤ s → s < m' → (rR T O ops st0 s).put = none) ∧ (m' < ops.size → (rR T O ops st0 m').put ≠ none)
  | 0, k, hk => ⟨k, Nat.le_refl _, by omega, fun s h1 h2 => by omega, fun h => by omega⟩
  | n + 1, k, hk => by
    by_cases hq : (rR T O ops st0 k).put = none
    · obtain ⟨m', a1, a2, a3, a4⟩ := nextPut n (k + 1) (by omega)
      refine ⟨m', by omega, a2, fun s h1 h2 => ?_, a4⟩
      by_cases hsk : s = k
      · subst hsk; exact hq
      · exact a3 s (by omega) h2
    · exact ⟨k, Nat.le_refl _, by omega, fun s h1 h2 => by omega, fun _ => hq⟩
/-- **An operation comes up.** -/
theorem RI.step (hT : TOk P T) (hO : ∀ i, OrcOk P (O i)) (hR : RegOk ops (Region.before ops) N) (hG : ∀ (j : Nat) o, ops[j]? = some o → RGood T O ops st0 j o) (hcl : Closed ops D) (h : RI P T O ops st0 N E w0 φ0 D φ a w) {i : Nat} {o : Oper} (ho : ops[i]? = some o) (hi : D i = false)
    (hdeps : ∀ e ∈ o.after, Region.binds .any e = true → D e.on = true) {K : Act → World → Prop} {Q : Exit → Act → World → Prop} (hK : ∀ φ' a' w', RI P T O ops st0 N E w0 φ0 (plus D i) φ' a' w' → K a' w') : wpOp P ops Q i K a w := by
  have hil := (Array.getElem?_eq_some_iff.1 ho).1
  have hwant := wanted_ok hR hG hcl h ho hdeps
  have hr : rR T O ops st0 i = vop T (O i) (runS T O ops st0 i).1 o.op := by simp only [rR, ho]
  unfold wpOp
  simp only [ho]
  rw [hwant]
  obtain ⟨m, hm, hput, hmp, hH, hfr⟩ := h.st
  have stay : (rR T O ops st0 i).put = none → ∀ (s : Nat) o', ops[s]? = some o' → (rR T O ops st0 s).put ≠ none → (plus D i s = true ↔ s < m) := fun hnp s o' hs hp => by
    rw [plus_iff]
    constructor
    · rintro (rfl | hD)
      · exact absurd hnp hp
      · exact (hput s o' hs hp).1 hD
    · intro hlt; exact .inr ((hput s o' hs hp).2 hlt)
  have still : (rR T O ops st0 i).new = [] → ∀ id, φ id ≠ none ↔ φ id ≠ none ∨ ((runS T O ops st0 i).1.nx ≤ id ∧ id < (runS T O ops st0 i).1.nx + (rR T O ops st0 i).new.length) := fun hn id => by
    rw [hn]
    exact ⟨.inl, fun h => h.resolve_right (by simp only [List.length_nil]; omega)⟩
  cases hpc : rPc T O ops st0 i with
  | false =>
    simp only [Bool.false_eq_true, if_false]
    have hg : o.guard ≠ none := fun e => by rw [pc_none hG ho e] at hpc; cases hpc
    obtain ⟨hnn, hnp⟩ := (hG i o ho).plain hg
    exact hK φ _ _ (h.more hR ho (Ext.refl _ _) (fun e => by rw [hpc] at e; cases e) (fun _ => rfl) (still hnn) ⟨m, hm, stay hnp, hmp, hH, hfr⟩)
  | true =>
    simp only [if_true]
    refine .inl ?_
    have hchk := (hG i o ho).chk hpc
    -- what it reads
    have hreads : ∀ (H : Nat → Ob), Reads w E φ { (runS T O ops st0 i).1 with H := H } a o.op := by
      intro H
      have hgi : ∀ j, j < ops.size → gImp ops ops.size i j = true → rPc T O ops st0 j = true := fun j hj hg => gImp_ok hR hG _ i j hil hj hg hpc
      have hval : ∀ y, St.val { (runS T O ops st0 i).1 with H := H } y = (runS T O ops st0 i).1.val y := by intro y; cases y <;> rfl
      by_cases hpk : ∃ c x y, o.op = .pick c x y
      · obtain ⟨c, x, y, e⟩ := hpk
        obtain ⟨r1, r2, r3⟩ := hR.pick i o c x y ho e
        rw [e]
        have hc := read_ok hR hcl h ho hi hdeps r1 hgi
        have hpick : ∀ (want : Bool) j, a.eval c = .bool want → j < ops.size → (gImp ops ops.size i j || pickOk ops ops.size i c want j) = true → rPc T O ops st0 j = true := by
          intro want j hev hj hq
          rw [Bool.or_eq_true] at hq
          rcases hq with hq | hq
          · exact hgi j hj hq
          · unfold pickOk at hq
            split at hq
            · rename_i k w' t hgj
              simp only [Bool.and_eq_true] at hq
              obtain ⟨⟨⟨q1, q2⟩, q3⟩, q4⟩ := hq
              have hw' : w' = want := by simpa using q1
              subst hw'
              have hoj : ops[j]? = some (ops[j]'hj) := by simp [hj]
              rw [hoj, Option.bind_some] at hgj
              obtain ⟨ok, d, b, h1, h2, h3, h4, h5⟩ := pc_some hR hG hoj hgj
              rw [h1, Option.bind_some, h2] at q2
              have hdt : d = t := by simpa using q2
              subst hdt
              have hki := Nat.le_of_ble_eq_true q4
              have hpk := hgi k (by omega) q3
              have hv : (runS T O ops st0 i).1.val (.tmp d) = .sc (.bool b) := by
                show (runS T O ops st0 i).1.t d = _
                rw [runS_inn h1 h2 i (by omega) hki (fun k' o' _ hne' ho' hd' => hne' (hR.uniq k' k o' ok d ho' h1 hd' h2))]
                exact h3
              rw [hv] at hc
              have hb := hc.sc_inv
              rw [hev] at hb
              simp only [Value.bool.injEq] at hb
              rw [h5, hpk, hb]
              simp
            · cases hq
        refine ⟨by rw [hval]; exact hc, fun hev => ?_, fun hev => ?_⟩
        · rw [hval]; exact read_ok hR hcl h ho hi hdeps r2 fun j hj hq => hpick true j hev hj hq
        · rw [hval]; exact read_ok hR hcl h ho hi hdeps r3 fun j hj hq => hpick false j hev hj hq
      · have hnp : ∀ c x y, o.op ≠ .pick c x y := fun c x y e => hpk ⟨c, x, y, e⟩
        have hall : ∀ y ∈ o.op.operands.toList, V w (E.up φ) (some φ) (St.val { (runS T O ops st0 i).1 with H := H } y) (a.eval y) := by
          intro y hy
          rw [hval]
          exact read_ok hR hcl h ho hi hdeps (hR.reads i o ho hnp y hy) hgi
        cases hop : o.op <;> first | (rw [hop] at hall; exact hall) | exact absurd hop (hnp _ _ _)
    cases hl : isLoud o.op with
    | false =>
      obtain ⟨hnn, hnp⟩ := quiet_new (T := T) (O := O i) (st := (runS T O ops st0 i).1) hl
      rw [← hr] at hnn hnp
      have hvop : vop T (O i) { (runS T O ops st0 i).1 with H := (runS T O ops st0 m).1.H } o.op = rR T O ops st0 i := by rw [quiet_H hl, hr]
      have hok := vop_ok (st := { (runS T O ops st0 i).1 with H := (runS T O ops st0 m).1.H }) hT (hO i) hH (fun _ _ => rfl) h.old (hreads _) (by rw [hvop]; exact hchk)
      rw [hvop] at hok
      rcases hok with ⟨_, hq⟩ | ⟨H', h1, _⟩
      · refine hq (fun j hj => by rw [hnn] at hj; simp at hj) _ _ fun v w' pls hn hV => ?_
        have hpl : pls = [] := List.eq_nil_of_length_eq_zero (by rw [hn.len, hnn]; rfl)
        subst hpl
        rw [addP_nil] at hV
        exact hK φ _ _ (h.more hR ho (Ext.of_below hn.below) (fun _ => hV) (fun e => by rw [hpc] at e; cases e) (still hnn) ⟨m, hm, stay hnp, hmp, hH.below hn.below, hfr⟩)
      · rw [hnp] at h1; cases h1
    | true =>
      -- no put between
      have him : i ≤ m := by
        rcases Nat.lt_or_ge m i with hlt | hge
        · exfalso
          have hml : m < ops.size := by omega
          have hom : ops[m]? = some (ops[m]'hml) := by simp [hml]
          have hpm := hmp hml
          have := mask_closed hR hcl i o m ho hdeps (by omega) ((ord_at ((hG m _ hom).ord hpm) ho hl).2 hlt)
          have := (hput m _ hom hpm).1 this
          omega
        · exact hge
      have hnop : (rR T O ops st0 i).put = none → ∀ s o', i ≤ s → s < m → ops[s]? = some o' → (rR T O ops st0 s).put = none := by
        intro hip s o' hs1 hs2 hs
        apply Classical.byContradiction
        intro hq
        have hDs := (hput s o' hs hq).2 hs2
        by_cases hsi : s = i
        · subst hsi; exact hq hip
        · have hb := (ord_at ((hG s o' hs).ord hq) ho hl).1 (by omega)
          have := mask_closed hR hcl s o' i hs (fun e he hb' => hcl s o' e hs hDs he hb') hil hb
          rw [hi] at this; cases this
      have key : ∀ {Hc : Nat → Ob}, HRel E Hc φ w → (∀ id, id < (runS T O ops st0 i).1.nx → Hc id = (runS T O ops st0 i).1.H id) → _ := fun {Hc} hHc hk =>
        vop_ok (st := (runS T O ops st0 i).1) (o := o) (a := a) (Hc := Hc) hT (hO i) hHc hk h.old (hreads _) (by rw [← hr]; exact hchk)
      by_cases hip : (rR T O ops st0 i).put = none
      · have hnop' := hnop hip
        have hkeep := runS_keep (T := T) (O := O) (st0 := st0) i m him hm hnop'
        have hok := key hH hkeep
        rw [← hr] at hok
        rcases hok with ⟨_, hq⟩ | ⟨H', h1, _⟩
        · have hal := h.al i o ho hi
          refine hq hal _ _ fun v w' pls hn hV => ?_
          have hext := hn.ext hal
          have hphi : ∀ id, addP φ (runS T O ops st0 i).1.nx pls id ≠ none ↔ φ id ≠ none ∨ ((runS T O ops st0 i).1.nx ≤ id ∧ id < (runS T O ops st0 i).1.nx + (rR T O ops st0 i).new.length) := by
            intro id
            rw [← hn.len]
            by_cases hc : (runS T O ops st0 i).1.nx ≤ id ∧ id < (runS T O ops st0 i).1.nx + pls.length
            · refine ⟨fun _ => .inr hc, fun _ => ?_⟩
              unfold addP
              rw [if_pos hc, List.getElem?_eq_getElem (by omega)]
              simp
            · unfold addP
              rw [if_neg hc]
              exact ⟨.inl, fun h => h.resolve_right hc⟩
          have him1 : i + 1 ≤ m := by
            rcases Nat.lt_or_ge i m with hlt | hge
            · exact hlt
            · exfalso
              obtain rfl : i = m := by omega
              exact hmp hil hip
          have n4 := runS_keep (T := T) (O := O) (st0 := st0) (i + 1) m him1 hm (fun s o' hs1 hs2 hs => hnop' s o' (by omega) hs2 hs)
          have n5 := runS_nx (T := T) (O := O) (ops := ops) (st0 := st0) (i + 1) m him1 hm
          have n6 := (runS_at (T := T) (O := O) (st0 := st0) ho).1
          refine hK _ _ _ (h.more hR ho hext (fun _ => hV) (fun e => by rw [hpc] at e; cases e) hphi ⟨m, hm, stay hip, hmp, hH.news h.old hn hal (fun _ _ => rfl) (fun j ob hj => ?_), fun k hk => ?_⟩)
          · have hjl := (List.getElem?_eq_some_iff.1 hj).1
            rw [n4 _ (by omega)]
            exact runS_new ho hj
          · rw [addP_out (.inr (by rw [hn.len]; omega))]
            exact hfr k (by omega)
        · rw [hip] at h1; cases h1
      · -- it writes
        have hmi : m = i := by
          rcases Nat.lt_or_ge i m with hlt | hge
          · have := (hput i o ho hip).2 hlt; rw [hi] at this; cases this
          · omega
        subst hmi
        have hok := key hH (fun _ _ => rfl)
        rw [← hr] at hok
        rcases hok with ⟨h1, _⟩ | ⟨H', h1, hq⟩
        · exact absurd h1 hip
        have hlive := h.live hm (fun s o' hs hos hl' => by
          have := (ord_at ((hG m o ho).ord hip) hos hl').1 hs
          exact mask_closed hR hcl m o s ho hdeps (by omega) this)
        -- the next put
        obtain ⟨m', hm1, hm2, hm3, hm4⟩ : ∃ m', m < m' ∧ m' ≤ ops.size ∧ (∀ s, m < s → s < m' → (rR T O ops st0 s).put = none) ∧ (m' < ops.size → (rR T O ops st0 m').put ≠ none) := by
          obtain ⟨m', a1, a2, a3, a4⟩ := nextPut (T := T) (O := O) (ops := ops) (st0 := st0) (ops.size - (m + 1)) (m + 1) (by omega)
          exact ⟨m', by omega, a2, fun s h1 h2 => a3 s (by omega) h2, a4⟩
        have n4 := runS_keep (T := T) (O := O) (st0 := st0) (m + 1) m' hm1 hm2 (fun s o' hs1 hs2 hs => hm3 s (by omega) hs2)
        have n5 := runS_nx (T := T) (O := O) (ops := ops) (st0 := st0) (m + 1) m' hm1 hm2
        obtain ⟨n6, n7⟩ := runS_at (T := T) (O := O) (st0 := st0) ho
        have hbase : (rR T O ops st0 m).base (runS T O ops st0 m).1 = H' := by unfold Res.base; rw [h1]
        rw [hbase] at n7
        refine hq hfr hlive hH _ _ fun v w' φ' g1 g2 g3 g4 => ?_
        have hin : ∀ k, φ' k ≠ none → k < (runS T O ops st0 (m + 1)).1.nx := by
          intro k hk
          rcases (g3 k).1 hk with h' | h'
          · rcases Nat.lt_or_ge k (runS T O ops st0 m).1.nx with h'' | h''
            · omega
            · exact absurd (hfr k h'') h'
          · omega
        refine hK _ _ _ (h.more hR ho g2 (fun _ => g4) (fun e => absurd e (by rw [hpc]; simp)) g3 ⟨m', hm2, fun s o' hs' hp => ?_, hm4, g1.congr fun k hk => ?_, fun k hk => ?_⟩)
        · rw [plus_iff]
          constructor
          · rintro (rfl | hD)
            · exact hm1
            · have := (hput s o' hs' hp).1 hD; omega
          · intro hlt
            by_cases hsm : s = m
            · exact .inl hsm
            · rcases Nat.lt_or_ge s m with h' | h'
              · exact .inr ((hput s o' hs' hp).2 h')
              · exact absurd (hm3 s (by omega) hlt) hp
        · rw [n4 k (hin k hk), n7]
        · apply Classical.byContradiction
          intro hk'
          have := hin k hk'
          omega
end
end Go.Proofs.Ytnodhjlpoaahbaa
