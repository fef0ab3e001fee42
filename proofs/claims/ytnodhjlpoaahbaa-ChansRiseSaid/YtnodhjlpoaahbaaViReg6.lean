/-
  A region of operations, whatever order is drawn.
-/
import Derived.Test.YtnodhjlpoaahbaaViReg5
namespace Go.Proofs.Ytnodhjlpoaahbaa
open Go.RowKit
section
variable {P : Program} {T : TypeId → TE} {O : Nat → Orc} {ops : Array Oper} {st0 : St} {M : Array Nat} {N : Nat} {A : Nat → Prop} {B : Nat} {w0 : World} {φ0 : Phi} {D : Nat → Bool} {φ : Phi} {a : Act} {w : World}

theorem RI.more (hR : RegOk ops M N) (h : RI P T O ops st0 N A B w0 φ0 D φ a w) {i : Nat} {o : Oper} (ho : ops[i]? = some o) {φ' : Phi} {w' : World} {v : Value} (he : Ext w φ w' φ')
    (hv1 : rPc T O ops st0 i = true → V w' (Mut A φ') (some φ') (rR T O ops st0 i).val v) (hv2 : rPc T O ops st0 i = false → v = undef)
    (hal : ∀ (j : Nat) o, ops[j]? = some o → plus D i j = false → (rR T O ops st0 j).new ≠ none → φ' (runS T O ops st0 j).1.nx = none)
    (hst : ∃ m, m ≤ ops.size ∧ (∀ (s : Nat) o, ops[s]? = some o → isPut o.op = true → (plus D i s = true ↔ s < m)) ∧ (m < ops.size → ∃ o, ops[m]? = some o ∧ isPut o.op = true) ∧
      HRel A B (runS T O ops st0 m).1.H φ' w' ∧ ∀ id, (runS T O ops st0 m).1.nx ≤ id → φ' id = none) :
    RI P T O ops st0 N A B w0 φ0 (plus D i) φ' (a.put o.dst v) w' := by
  have hd : ∀ k, o.dst = some k → k < a.tmps.size := fun k hk => by rw [h.sz]; exact hR.dst i o k ho hk
  refine ⟨?_, ?_, h.ext.trans he, fun k hk => Nat.lt_of_lt_of_le (h.old k hk) he.size, Nat.le_trans h.bas he.size, fun t ht => ?_, fun j oj t hj hD hdj => ?_, hal, hst⟩
  · rw [← h.sz]; cases o.dst <;> simp [Act.put]
  · rw [← h.df]; cases o.dst <;> rfl
  · rw [put_getD a _ v t hd, if_neg (ht i o ho (plus_iff.2 (.inl rfl)))]
    exact (h.out t fun j oj hj hD => ht j oj hj (plus_iff.2 (.inr hD))).ext he
  · by_cases hji : j = i
    · subst hji
      rw [ho] at hj
      simp only [Option.some.injEq] at hj
      subst hj
      rw [put_getD a _ v t hd, if_pos hdj]
      exact ⟨hv1, hv2⟩
    · have hDj : D j = true := (plus_iff.1 hD).resolve_left hji
      have hne : o.dst ≠ some t := fun e => hji (hR.uniq j i oj o t hj ho hdj e)
      rw [put_getD a _ v t hd, if_neg hne]
      obtain ⟨h1, h2⟩ := h.inn j oj t hj hDj hdj
      exact ⟨fun hp => (h1 hp).ext he, h2⟩

/-- **An operation comes up.** -/
theorem RI.step (hT : TOk P T) (hO : ∀ i, OrcOk P (O i)) (hR : RegOk ops M N) (hG : ∀ (j : Nat) o, ops[j]? = some o → RGood T O ops st0 j o) (hcl : Closed ops D) (h : RI P T O ops st0 N A B w0 φ0 D φ a w) {i : Nat} {o : Oper} (ho : ops[i]? = some o) (hi : D i = false)
    (hdeps : ∀ e ∈ o.after, Region.binds .any e = true → D e.on = true) {K : Act → World → Prop} {Q : Exit → Act → World → Prop} (hK : ∀ φ' a' w', RI P T O ops st0 N A B w0 φ0 (plus D i) φ' a' w' → K a' w') : wpOp P ops Q i K a w := by
  have hil := (Array.getElem?_eq_some_iff.1 ho).1
  have hwant := wanted_ok hR hG hcl h ho hdeps
  have hr : rR T O ops st0 i = vop T (O i) (runS T O ops st0 i).1 o.op := by simp only [rR, ho]
  unfold wpOp
  simp only [ho]
  rw [hwant]
  obtain ⟨m, hm, hput, hmp, hH, hfr⟩ := h.st
  have halm : ∀ (j : Nat) oj, ops[j]? = some oj → plus D i j = false → (rR T O ops st0 j).new ≠ none → φ (runS T O ops st0 j).1.nx = none := fun j oj hj hp hn => h.al j oj hj (by
    cases hq : D j with
    | false => rfl
    | true => rw [plus_iff.2 (.inr hq)] at hp; cases hp) hn
  have stay : isPut o.op = false → ∀ (s : Nat) o', ops[s]? = some o' → isPut o'.op = true → (plus D i s = true ↔ s < m) := fun hnp s o' hs hp => by
    rw [plus_iff]
    constructor
    · rintro (rfl | hD)
      · rw [ho] at hs; simp only [Option.some.injEq] at hs; subst hs; rw [hnp] at hp; cases hp
      · exact (hput s o' hs hp).1 hD
    · intro hlt; exact .inr ((hput s o' hs hp).2 hlt)
  cases hpc : rPc T O ops st0 i with
  | false =>
    simp only [Bool.false_eq_true, if_false]
    have hg : o.guard ≠ none := fun e => by rw [pc_none hG ho e] at hpc; cases hpc
    have hnp := hR.plain i o ho hg
    exact hK φ _ _ (h.more hR ho (Ext.refl _ _) (fun e => by rw [hpc] at e; cases e) (fun _ => rfl) halm ⟨m, hm, stay hnp, hmp, hH, hfr⟩)
  | true =>
    simp only [if_true]
    refine .inl ?_
    have hchk := (hG i o ho).chk hpc
    -- what it reads
    have hreads : ∀ (H : Nat → List VV), Reads w A φ { (runS T O ops st0 i).1 with H := H } a o.op := by
      intro H
      have hgi : ∀ j, j < ops.size → gImp ops ops.size i j = true → rPc T O ops st0 j = true := fun j hj hg => gImp_ok hR hG _ i j hil hj hg hpc
      have hval : ∀ y, St.val { (runS T O ops st0 i).1 with H := H } y = (runS T O ops st0 i).1.val y := by intro y; cases y <;> rfl
      by_cases hpk : ∃ c x y, o.op = .pick c x y
      · obtain ⟨c, x, y, e⟩ := hpk
        obtain ⟨r1, r2, r3⟩ := hR.pick i o c x y ho e
        rw [e]
        have hc := read_ok hR hcl h ho hi hdeps r1 hgi
        have hpick : ∀ (want : Bool) j, a.eval c = .bool want → j < ops.size → (gImp ops ops.size i j || pickOk ops ops.size i c want j) = true → rPc T O ops st0 j = true := by
          intro want j hev hj hq
          rw [Bool.or_eq_true] at hq
          rcases hq with hq | hq
          · exact hgi j hj hq
          · unfold pickOk at hq
            split at hq
            · rename_i k w' t hgj
              simp only [Bool.and_eq_true] at hq
              obtain ⟨⟨⟨q1, q2⟩, q3⟩, q4⟩ := hq
              have hw' : w' = want := by simpa using q1
              subst hw'
              have hoj : ops[j]? = some (ops[j]'hj) := by simp [hj]
              rw [hoj, Option.bind_some] at hgj
              obtain ⟨ok, d, b, h1, h2, h3, h4, h5⟩ := pc_some hR hG hoj hgj
              rw [h1, Option.bind_some, h2] at q2
              have hdt : d = t := by simpa using q2
              subst hdt
              have hki := Nat.le_of_ble_eq_true q4
              have hpk := hgi k (by omega) q3
              have hv : (runS T O ops st0 i).1.val (.tmp d) = .sc (.bool b) := by
                show (runS T O ops st0 i).1.t d = _
                rw [runS_inn h1 h2 i (by omega) hki (fun k' o' _ hne' ho' hd' => hne' (hR.uniq k' k o' ok d ho' h1 hd' h2))]
                exact h3
              rw [hv] at hc
              have hb := hc.sc_inv
              rw [hev] at hb
              simp only [Value.bool.injEq] at hb
              rw [h5, hpk, hb]
              simp
            · cases hq
        refine ⟨by rw [hval]; exact hc, fun hev => ?_, fun hev => ?_⟩
        · rw [hval]; exact read_ok hR hcl h ho hi hdeps r2 fun j hj hq => hpick true j hev hj hq
        · rw [hval]; exact read_ok hR hcl h ho hi hdeps r3 fun j hj hq => hpick false j hev hj hq
      · have hnp : ∀ c x y, o.op ≠ .pick c x y := fun c x y e => hpk ⟨c, x, y, e⟩
        have hall : ∀ y ∈ o.op.operands.toList, V w (Mut A φ) (some φ) (St.val { (runS T O ops st0 i).1 with H := H } y) (a.eval y) := by
          intro y hy
          rw [hval]
          exact read_ok hR hcl h ho hi hdeps (hR.reads i o ho hnp y hy) hgi
        cases hop : o.op <;> first | (rw [hop] at hall; exact hall) | exact absurd hop (hnp _ _ _)
    cases hl : isLoud o.op with
    | false =>
      have hnp : isPut o.op = false := by cases hop : o.op <;> rw [hop] at hl <;> first | rfl | cases hl
      have hvop : vop T (O i) { (runS T O ops st0 i).1 with H := (runS T O ops st0 m).1.H } o.op = rR T O ops st0 i := by rw [quiet_H hl, hr]
      have hok := vop_ok (st := { (runS T O ops st0 i).1 with H := (runS T O ops st0 m).1.H }) hT (hO i) hH (fun _ _ => rfl) h.old (hreads _) (by rw [hvop]; exact hchk)
      rw [hvop] at hok
      rcases hok with ⟨_, _, hq⟩ | ⟨cs, h1, _⟩ | ⟨id, off, cs, h1, _⟩
      · refine hq _ _ fun v w' hb hV => hK φ _ _ (h.more hR ho (Ext.of_below hb) (fun _ => hV) (fun e => by rw [hpc] at e; cases e) halm ⟨m, hm, stay hnp, hmp, hH.below hb, hfr⟩)
      · rw [hr] at h1; rw [new_loud h1] at hl; cases hl
      · rw [hr, put_of_notPut hnp] at h1; cases h1
    | true =>
      -- no store between
      have him : i ≤ m := by
        rcases Nat.lt_or_ge m i with hlt | hge
        · exfalso
          obtain ⟨om, hom, hpm⟩ := hmp (by omega)
          have := mask_closed hR hcl i o m ho hdeps (by omega) ((hR.loud i m o om ho hom hl hpm).1 hlt)
          have := (hput m om hom hpm).1 this
          omega
        · exact hge
      have hnop : ∀ s o', i ≤ s → s < m → ops[s]? = some o' → (rR T O ops st0 s).put = none := by
        intro s o' hs1 hs2 hs
        have hrs : rR T O ops st0 s = vop T (O s) (runS T O ops st0 s).1 o'.op := by simp only [rR, hs]
        rw [hrs]
        refine put_of_notPut ?_
        cases hq : isPut o'.op with
        | false => rfl
        | true =>
          exfalso
          have hDs := (hput s o' hs hq).2 hs2
          by_cases hsi : s = i
          · subst hsi; rw [hi] at hDs; cases hDs
          · have hb := (hR.loud i s o o' ho hs hl hq).2 (by omega)
            have := mask_closed hR hcl s o' i hs (fun e he hb' => hcl s o' e hs hDs he hb') hil hb
            rw [hi] at this; cases this
      obtain ⟨hnx, hkeep⟩ := runS_keep (T := T) (O := O) (st0 := st0) i m him hm hnop
      have hok := vop_ok (st := (runS T O ops st0 i).1) hT (hO i) hH hkeep h.old (hreads _) (by rw [← hr]; exact hchk)
      rw [← hr] at hok
      have hpn : isPut o.op = true → (rR T O ops st0 i).put ≠ none ∧ (rR T O ops st0 i).new = none := fun hp => by rw [hr] at hchk ⊢; exact put_of_put hp hchk
      rcases hok with ⟨_, hp0, hq⟩ | ⟨cs, h1, h2, h3, hmk⟩ | ⟨id, off, cs, h1, h2, h3, h4, h5, hso⟩
      · have hnp : isPut o.op = false := by
          cases hq : isPut o.op with
          | false => rfl
          | true => exact absurd hp0 (hpn hq).1
        refine hq _ _ fun v w' hb hV => hK φ _ _ (h.more hR ho (Ext.of_below hb) (fun _ => hV) (fun e => by rw [hpc] at e; cases e) halm ⟨m, hm, stay hnp, hmp, hH.below hb, hfr⟩)
      · have hnp : isPut o.op = false := by
          cases hq : isPut o.op with
          | false => rfl
          | true => have := (hpn hq).2; rw [h1] at this; cases this
        have him1 : i + 1 ≤ m := by
          rcases Nat.lt_or_ge i m with hlt | hge
          · exact hlt
          · exfalso
            obtain rfl : i = m := by omega
            obtain ⟨om, hom, hpm⟩ := hmp hil
            rw [ho] at hom
            simp only [Option.some.injEq] at hom
            subst hom
            rw [hnp] at hpm; cases hpm
        obtain ⟨n1, n2⟩ := runS_new (T := T) (O := O) (st0 := st0) ho h1
        obtain ⟨n3, n4⟩ := runS_keep (T := T) (O := O) (st0 := st0) (i + 1) m him1 hm (fun s o' hs1 hs2 hs => hnop s o' (by omega) hs2 hs)
        have hcs : (runS T O ops st0 m).1.H (runS T O ops st0 i).1.nx = cs := by rw [n4 _ (by omega), n2]
        have hid := h.al i o ho hi (by rw [h1]; simp)
        refine hmk _ _ fun c ty hs => ?_
        obtain ⟨e1, e2⟩ := hH.new (ty := ty) h.bas hid hs (H' := (runS T O ops st0 m).1.H) (fun _ _ => rfl) hcs
        refine hK _ _ _ (h.more hR ho e2 (fun _ => ?_) (fun e => by rw [hpc] at e; cases e) (fun j oj hj hp hn => ?_) ⟨m, hm, stay hnp, hmp, e1, fun k hk => ?_⟩)
        · rw [h3]; exact .bp (by simp)
        · have hne : j ≠ i := by rintro rfl; rw [plus_iff.2 (.inl rfl)] at hp; cases hp
          have hnx' : (runS T O ops st0 j).1.nx ≠ (runS T O ops st0 i).1.nx := by
            have hjl := (Array.getElem?_eq_some_iff.1 hj).1
            rcases Nat.lt_or_ge j i with hlt | hge
            · obtain ⟨cs', hcs'⟩ := Option.ne_none_iff_exists'.1 hn
              have a1 := (runS_new (T := T) (O := O) (st0 := st0) hj hcs').1
              have a2 := runS_nx (T := T) (O := O) (ops := ops) (st0 := st0) (j + 1) i (by omega) (by omega)
              omega
            · have a2 := runS_nx (T := T) (O := O) (ops := ops) (st0 := st0) (i + 1) j (by omega) (by omega)
              omega
          simp only [if_neg hnx']
          exact halm j oj hj hp hn
        · have hne : k ≠ (runS T O ops st0 i).1.nx := by omega
          simp only [if_neg hne]
          exact hfr k hk
      · have hisp : isPut o.op = true := by
          cases hq : isPut o.op with
          | true => rfl
          | false => rw [hr, put_of_notPut hq] at h1; cases h1
        have hmi : m = i := by
          rcases Nat.lt_or_ge i m with hlt | hge
          · have := (hput i o ho hisp).2 hlt; rw [hi] at this; cases this
          · omega
        subst hmi
        -- the next store
        obtain ⟨m', hm1, hm2, hm3, hm4⟩ : ∃ m', m < m' ∧ m' ≤ ops.size ∧ (∀ s o', m < s → s < m' → ops[s]? = some o' → isPut o'.op = false) ∧ (m' < ops.size → ∃ o', ops[m']? = some o' ∧ isPut o'.op = true) := by
          have key : ∀ (n k : Nat), k + n = ops.size → ∃ m', k ≤ m' ∧ m' ≤ ops.size ∧ (∀ s o', k ≤ s → s < m' → ops[s]? = some o' → isPut o'.op = false) ∧ (m' < ops.size → ∃ o', ops[m']? = some o' ∧ isPut o'.op = true) := by
            intro n
            induction n with
            | zero => intro k hk; exact ⟨k, Nat.le_refl _, by omega, fun s o' h1 h2 => by omega, fun h => by omega⟩
            | succ n ih =>
              intro k hk
              have hok' : ops[k]? = some (ops[k]'(by omega)) := by simp [show k < ops.size by omega]
              cases hq : isPut (ops[k]'(by omega)).op with
              | true => exact ⟨k, Nat.le_refl _, by omega, fun s o' h1 h2 => by omega, fun _ => ⟨_, hok', hq⟩⟩
              | false =>
                obtain ⟨m', a1, a2, a3, a4⟩ := ih (k + 1) (by omega)
                refine ⟨m', by omega, a2, fun s o' h1 h2 hs => ?_, a4⟩
                by_cases hsk : s = k
                · subst hsk
                  rw [hok'] at hs
                  simp only [Option.some.injEq] at hs
                  rw [← hs]; exact hq
                · exact a3 s o' (by omega) h2 hs
          obtain ⟨m', a1, a2, a3, a4⟩ := key (ops.size - (m + 1)) (m + 1) (by omega)
          exact ⟨m', by omega, a2, fun s o' h1 h2 hs => a3 s o' (by omega) h2 hs, a4⟩
        obtain ⟨p1, p2⟩ := runS_put (T := T) (O := O) (st0 := st0) ho h2 h1
        obtain ⟨n3, n4⟩ := runS_keep (T := T) (O := O) (st0 := st0) (m + 1) m' hm1 hm2 (fun s o' hs1 hs2 hs => by
          have hrs : rR T O ops st0 s = vop T (O s) (runS T O ops st0 s).1 o'.op := by simp only [rR, hs]
          rw [hrs]; exact put_of_notPut (hm3 s o' (by omega) hs2 hs))
        have k1 : ∀ k, k ≠ id → φ k ≠ none → (runS T O ops st0 m').1.H k = (runS T O ops st0 m).1.H k := by
          intro k hk hn
          have hlt : k < (runS T O ops st0 m).1.nx := by
            rcases Nat.lt_or_ge k (runS T O ops st0 m).1.nx with h' | h'
            · exact h'
            · exact absurd (hfr k h') hn
          rw [n4 k (by omega), p2, if_neg hk]
        have k2 : (runS T O ops st0 m').1.H id = ((runS T O ops st0 m).1.H id).take off ++ cs ++ ((runS T O ops st0 m).1.H id).drop (off + cs.length) := by rw [n4 id (by omega), p2, if_pos rfl]
        refine hso _ _ fun b c ty vs hb hc hs hfit => ?_
        obtain ⟨e1, e2⟩ := hH.store (H' := (runS T O ops st0 m').1.H) hb hc hs hfit k1 k2
        refine hK _ _ _ (h.more hR ho e2 (fun _ => by rw [h5]; exact .dead) (fun e => absurd e (by rw [hpc]; simp)) halm ⟨m', hm2, fun s o' hs' hp => ?_, hm4, e1, fun k hk => hfr k (by omega)⟩)
        rw [plus_iff]
        constructor
        · rintro (rfl | hD)
          · exact hm1
          · have := (hput s o' hs' hp).1 hD; omega
        · intro hlt
          by_cases hsm : s = m
          · exact .inl hsm
          · rcases Nat.lt_or_ge s m with h' | h'
            · exact .inr ((hput s o' hs' hp).2 h')
            · exact absurd hp (by rw [hm3 s o' (by omega) hlt hs']; simp)
end
end Go.Proofs.Ytnodhjlpoaahbaa
