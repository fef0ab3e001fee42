/-
  A region of operations, whole.
-/
import Derived.Test.YtnodhjlpoaahbaaVjReg6
namespace Go.Proofs.Ytnodhjlpoaahbaa
open Go.RowKit

/-- The frame and the world say what the state says. -/
structure Rel (N : Nat) (E : Prot) (st : St) (φ : Phi) (a : Act) (w : World) : Prop where
  sz : a.tmps.size = N
  df : a.defers = []
  old : ∀ k, E.fz k → k < w.heap.size
  tm : ∀ t, V w (E.up φ) (some φ) (st.t t) (a.tmps.getD t undef)
  hp : HRel E st.H φ w
  fr : ∀ id, st.nx ≤ id → φ id = none
  lv : ∀ id, id < st.nx → φ id ≠ none

/-- The temporaries that a guard may have left unwritten. -/
def gdOf (ops : Array Oper) : List Nat := ops.toList.filterMap fun o => bif o.guard.isSome then o.dst else none
def clr (ops : Array Oper) (st : St) : St :=
  match gdOf ops with
  | [] => st
  | l => { st with t := fun i => bif l.any (Nat.beq i) then .dead else st.t i }

theorem Rel.drew {N : Nat} {E : Prot} {st : St} {φ : Phi} {a : Act} {w : World} (h : Rel N E st φ a w) : Rel N E st φ a { w with drawn := w.drawn + 1 } ∧ Ext w φ { w with drawn := w.drawn + 1 } φ := by
  have he : Ext w φ { w with drawn := w.drawn + 1 } φ := ⟨rfl, rfl, rfl, Nat.le_refl _, fun _ _ _ => rfl, PhiUp.refl φ, fun _ h => .inl h⟩
  exact ⟨⟨h.sz, h.df, h.old, fun t => (h.tm t).ext he, h.hp.same he fun _ _ => rfl, h.fr, h.lv⟩, he⟩

theorem countP_lt {p q : Nat → Bool} (hpq : ∀ x, q x = true → p x = true) {i : Nat} (hp : p i = true) (hq : q i = false) : ∀ (l : List Nat), i ∈ l → l.countP q < l.countP p
  | [], h => by simp at h
  | x :: l, h => by
    have hle : l.countP q ≤ l.countP p := List.countP_mono_left fun x _ => hpq x
    rcases List.mem_cons.1 h with rfl | h
    · rw [List.countP_cons_of_neg (by simp [hq]), List.countP_cons_of_pos hp]; omega
    · have ih := countP_lt hpq hp hq l h
      cases hx : q x with
      | true => rw [List.countP_cons_of_pos hx, List.countP_cons_of_pos (hpq x hx)]; omega
      | false =>
        rw [List.countP_cons_of_neg (by simp [hx])]
        cases hx' : p x with
        | true => rw [List.countP_cons_of_pos hx']; omega
        | false => rw [List.countP_cons_of_neg (by simp [hx'])]; exact ih

section
variable {P : Program} {T : TypeId → TE} {O : Nat → Orc} {ops : Array Oper} {st0 : St} {N : Nat} {E : Prot} {w0 : World} {φ0 : Phi} {M : Array Nat}

/-- At the start nothing has come up. -/
theorem RI.start {a : Act} (h : Rel N E st0 φ0 a w0) : RI P T O ops st0 N E w0 φ0 (fun _ => false) φ0 a w0 := by
  obtain ⟨m, _, a2, a3, a4⟩ := nextPut (T := T) (O := O) (ops := ops) (st0 := st0) ops.size 0 (by omega)
  have n3 := runS_nx (T := T) (O := O) (ops := ops) (st0 := st0) 0 m (Nat.zero_le _) a2
  have n4 := runS_keep (T := T) (O := O) (ops := ops) (st0 := st0) 0 m (Nat.zero_le _) a2 (fun s o' hs1 hs2 hs => a3 s (by omega) hs2)
  refine ⟨h.sz, h.df, Ext.refl _ _, h.old, fun t _ => h.tm t, fun i o t _ hD => by (simp at hD), fun i o ho _ j hj => ?_, h.lv, fun i o _ hD => by (simp at hD), m, a2, fun s o ho hp => ?_, a4, ?_, fun id hid => h.fr id (Nat.le_trans n3 hid)⟩
  · have n5 := runS_nx (T := T) (O := O) (ops := ops) (st0 := st0) 0 i (Nat.zero_le _) (Nat.le_of_lt (Array.getElem?_eq_some_iff.1 ho).1)
    exact h.fr _ (Nat.le_trans n5 (Nat.le_add_right _ _))
  · constructor
    · intro h; simp at h
    · intro hlt; exact absurd (a3 s (by omega) hlt) hp
  · refine h.hp.congr fun k hk => n4 k ?_
    rcases Nat.lt_or_ge k st0.nx with h' | h'
    · exact h'
    · exact absurd (h.fr k h') hk

/-- At the end all have. -/
theorem RI.finish (hR : RegOk ops M N) (hG : ∀ (j : Nat) o, ops[j]? = some o → RGood T O ops st0 j o) {D : Nat → Bool} (hD : ∀ i, i < ops.size → D i = true) {φ : Phi} {a : Act} {w : World} (h : RI P T O ops st0 N E w0 φ0 D φ a w) :
    Rel N E (clr ops (runS T O ops st0 ops.size).1) φ a w := by
  obtain ⟨m, hm, hput, hmp, hH, hfr⟩ := h.st
  have hmn : m = ops.size := by
    rcases Nat.lt_or_ge m ops.size with hlt | hge
    · have ho : ops[m]? = some (ops[m]'hlt) := by simp [hlt]
      have := (hput m _ ho (hmp hlt)).1 (hD m hlt)
      omega
    · omega
  subst hmn
  have hclr : (clr ops (runS T O ops st0 ops.size).1).H = (runS T O ops st0 ops.size).1.H ∧ (clr ops (runS T O ops st0 ops.size).1).nx = (runS T O ops st0 ops.size).1.nx := by unfold clr; split <;> exact ⟨rfl, rfl⟩
  have htm : ∀ t, (∀ (i : Nat) o, ops[i]? = some o → o.dst = some t → o.guard = none) → V w (E.up φ) (some φ) ((runS T O ops st0 ops.size).1.t t) (a.tmps.getD t undef) := by
    intro t ht
    by_cases hex : ∃ (i : Nat) (o : Oper), ops[i]? = some o ∧ o.dst = some t
    · obtain ⟨i, o, ho, hd⟩ := hex
      have hil := (Array.getElem?_eq_some_iff.1 ho).1
      rw [runS_inn ho hd _ (Nat.le_refl _) hil (fun k o' _ hne ho' hd' => hne (hR.uniq k i o' o t ho' ho hd' hd))]
      exact (h.inn i o t ho (hD i hil) hd).1 (pc_none hG ho (ht i o ho hd))
    · rw [runS_out _ (Nat.le_refl _) (fun i (o : Oper) _ ho hd => hex ⟨i, o, ho, hd⟩)]
      exact h.out t fun i o ho _ hd => hex ⟨i, o, ho, hd⟩
  refine ⟨h.sz, h.df, h.old, fun t => ?_, by rw [hclr.1]; exact hH, by rw [hclr.2]; exact hfr, by rw [hclr.2]; exact h.live (Nat.le_refl _) fun s o hs _ _ => hD s hs⟩
  have hno : (gdOf ops).any (Nat.beq t) = false → V w (E.up φ) (some φ) ((runS T O ops st0 ops.size).1.t t) (a.tmps.getD t undef) := by
    intro hno
    refine htm t fun i o ho hd => ?_
    cases hg : o.guard with
    | none => rfl
    | some g =>
      exfalso
      have hmem : t ∈ gdOf ops := by
        unfold gdOf
        rw [List.mem_filterMap]
        exact ⟨o, by have := Array.mem_of_getElem? ho; simpa using this, by simp [hg, hd]⟩
      have := List.any_eq_false.1 hno t hmem
      simp at this
  unfold clr
  split
  · rename_i hl; exact hno (by rw [hl]; rfl)
  · show V w _ _ (bif (gdOf ops).any (Nat.beq t) then VV.dead else _) _
    cases hq : (gdOf ops).any (Nat.beq t) with
    | true => exact .dead
    | false => exact hno hq

theorem any_ok (hT : TOk P T) (hO : ∀ i, OrcOk P (O i)) (hR : RegOk ops (Region.before ops) N) (hG : ∀ (j : Nat) o, ops[j]? = some o → RGood T O ops st0 j o) {Q : Exit → Act → World → Prop}
    (hQ : ∀ D φ a w, (∀ i, i < ops.size → D i = true) → RI P T O ops st0 N E w0 φ0 D φ a w → Q .normal a w) :
    ∀ (fuel : Nat) (listed : Array Bool) (φ : Phi) (a : Act) (w : World), listed.size = ops.size → Closed ops (fun i => listed.getD i false) → (List.range ops.size).countP (fun i => !listed.getD i false) ≤ fuel →
      RI P T O ops st0 N E w0 φ0 (fun i => listed.getD i false) φ a w → wpAny P .any ops Q fuel listed a w := by
  have hnil : ∀ (listed : Array Bool), listed.size = ops.size → Region.ready .any ops listed = [] → ∀ i, i < ops.size → listed.getD i false = true := by
    intro listed hs hr i
    induction i using Nat.strongRecOn with
    | _ i ih =>
      intro hi
      cases hq : listed.getD i false with
      | true => rfl
      | false =>
        exfalso
        have ho : ops[i]? = some (ops[i]'hi) := by simp [hi]
        have hil : i < listed.size := by omega
        have : i ∈ Region.ready .any ops listed := mem_ready.2 ⟨by simp [Array.getD, hil] at hq ⊢; exact hq, _, ho, fun e he hb => ih e.on (hR.low i _ e ho he hb) (by have := hR.low i _ e ho he hb; omega)⟩
        rw [hr] at this
        simp at this
  intro fuel
  induction fuel with
  | zero =>
    intro listed φ a w hs hcl hc h
    have hall : ∀ i, i < ops.size → listed.getD i false = true := by
      intro i hi
      have := List.countP_eq_zero.1 (Nat.le_zero.1 hc) i (List.mem_range.2 hi)
      simpa using this
    refine ⟨?_, hQ _ φ a w hall h⟩
    rw [List.eq_nil_iff_forall_not_mem]
    intro j hj
    obtain ⟨h0, o, ho, _⟩ := mem_ready.1 hj
    have hjl : j < listed.size := by rw [hs]; exact (Array.getElem?_eq_some_iff.1 ho).1
    have := hall j (by omega)
    simp [Array.getD, hjl] at h0 this
    rw [h0] at this
    simp at this
  | succ fuel ih =>
    intro listed φ a w hs hcl hc h
    refine ⟨fun hr => hQ _ φ a w (hnil listed hs hr) h, fun i hi => ?_⟩
    obtain ⟨h0, o, ho, hdeps⟩ := mem_ready.1 hi
    have hil : i < ops.size := (Array.getElem?_eq_some_iff.1 ho).1
    have hif : listed.getD i false = false := by
      have : i < listed.size := by omega
      simp [Array.getD, this] at h0 ⊢; exact h0
    have hplus : (fun j => (listed.setIfInBounds i true).getD j false) = plus (fun j => listed.getD j false) i := by
      funext j
      simp only [plus]
      by_cases hji : j = i
      · subst hji; simp [Array.getD, show j < listed.size by omega]
      · rw [getD_set_ne false (Ne.symm hji)]; simp [hji]
    refine h.step hT hO hR hG hcl ho hif hdeps fun φ' a' w' h' => ih _ φ' a' w' (by simpa using hs) ?_ ?_ (by rw [hplus]; exact h')
    · rw [hplus]
      intro k ok e hk hD he hb
      rcases plus_iff.1 hD with rfl | hD
      · rw [ho] at hk
        simp only [Option.some.injEq] at hk
        subst hk
        exact plus_iff.2 (.inr (hdeps e he hb))
      · exact plus_iff.2 (.inr (hcl k ok e hk hD he hb))
    · have hlt := countP_lt (p := fun j => !listed.getD j false) (q := fun j => !(listed.setIfInBounds i true).getD j false) (fun x hx => by
        have e : (listed.setIfInBounds i true).getD x false = plus (fun j => listed.getD j false) i x := congrFun hplus x
        simp only [e, plus, Bool.not_or, Bool.and_eq_true] at hx
        exact hx.2) (i := i) (by simp only [hif, Bool.not_false]) (by
          have e : (listed.setIfInBounds i true).getD i false = plus (fun j => listed.getD j false) i i := congrFun hplus i
          simp only [e, plus, beq_self_eq_true, Bool.true_or, Bool.not_true]) (List.range ops.size) (List.mem_range.2 hil)
      omega

theorem ops_ok (hT : TOk P T) (hO : ∀ i, OrcOk P (O i)) (hR : RegOk ops (Region.before ops) N) (hG : ∀ (j : Nat) o, ops[j]? = some o → RGood T O ops st0 j o) {Q : Exit → Act → World → Prop}
    (hQ : ∀ D φ a w, (∀ i, i < ops.size → D i = true) → RI P T O ops st0 N E w0 φ0 D φ a w → Q .normal a w) :
    ∀ (n k : Nat) (φ : Phi) (a : Act) (w : World), k + n = ops.size → RI P T O ops st0 N E w0 φ0 (fun i => decide (i < k)) φ a w → wpOps P ops Q (List.range' k n) a w
  | 0, k, φ, a, w, hk, h => hQ _ φ a w (fun i hi => by simp; omega) h
  | n + 1, k, φ, a, w, hk, h => by
    rw [List.range'_succ, wpOps_cons]
    have ho : ops[k]? = some (ops[k]'(by omega)) := by simp [show k < ops.size by omega]
    have hcl : Closed ops (fun i => decide (i < k)) := by
      intro i o e hi hD he hb
      have := hR.low i o e hi he hb
      simp at hD ⊢; omega
    refine h.step hT hO hR hG hcl ho (by simp) (fun e he hb => by have := hR.low k _ e ho he hb; simpa using this) fun φ' a' w' h' => ops_ok hT hO hR hG hQ n (k + 1) φ' a' w' (by omega) ?_
    have e : (fun i => decide (i < k + 1)) = plus (fun i => decide (i < k)) k := by
      funext i
      simp only [plus]
      by_cases hik : i = k
      · subst hik; simp
      · have : (i < k + 1) ↔ i < k := by omega
        simp [this, hik]
    rw [e]; exact h'

/-- **A region.** -/
theorem region_ok (hT : TOk P T) (hO : ∀ i, OrcOk P (O i)) (hmx : P.follows .mixedOrders = true) (hB : regB ops N = true) {K : St → Prop} {id : Nat} {draw : Bool} {a : Act} (h : xops T O ops 0 ops.toList st0 [] fun st' => K (clr ops st')) (hrel : Rel N E st0 φ0 a w0) :
    (Code.region id ops draw).wp P (fun e a' w' => e = .normal ∧ ∃ st' φ', K st' ∧ Rel N E st' φ' a' w' ∧ Ext w0 φ0 w' φ') a w0 := by
  have hR := regOk_of hB
  obtain ⟨hG', hK⟩ := xops_good (T := T) (O := O) (st0 := st0) ops.toList 0 (by simp) (Nat.zero_le _) h
  have hG : ∀ (j : Nat) o, ops[j]? = some o → RGood T O ops st0 j o := fun j o => hG' j o (Nat.zero_le _)
  cases draw with
  | false =>
    refine wp_region ?_
    rw [List.range_eq_range']
    refine ops_ok hT hO hR hG (fun D φ a w hD hI => ⟨rfl, _, φ, hK, hI.finish hR hG hD, hI.ext⟩) ops.size 0 φ0 a w0 (by omega) ?_
    have e : (fun i => decide (i < 0)) = fun _ => false := by funext i; simp
    rw [e]; exact RI.start hrel
  | true =>
    obtain ⟨hrel', hext⟩ := hrel.drew
    refine wp_region_any hmx ?_
    refine any_ok hT hO hR hG (w0 := { w0 with drawn := w0.drawn + 1 }) (φ0 := φ0) (fun D φ a w hD hI => ⟨rfl, _, φ, hK, hI.finish hR hG hD, hext.trans hI.ext⟩) ops.size _ φ0 a _ (by simp) ?_ ?_ ?_
    · intro i o e hi hD
      have h0 : (Array.replicate ops.size false).getD i false = false := by simp [Array.getD]
      exact absurd (h0.symm.trans hD) (by simp)
    · have := List.countP_le_length (p := fun i => !(Array.replicate ops.size false).getD i false) (l := List.range ops.size)
      simpa using this
    · have e : (fun i => (Array.replicate ops.size false).getD i false) = fun _ => false := by funext i; simp [Array.getD]
      rw [e]; exact RI.start hrel'
end

/-! ### Calls: what a callee hands back is of a known shape -/
/-- What a function hands back: of a type, as objects and a tree; whether it is lent what it may write. -/
structure Shp where
  α : Type
  enc : α → List Ob × VV
  lend : Bool := false
abbrev Shs := FuncId → Shp
def Shs.ld (Sh : Shs) : FuncId → Bool := fun f => (Sh f).lend
/-- A call of a function: which, with what. -/
def vtarget (ld : FuncId → Bool) (st : St) : Op → Option (FuncId × List Nat × List Ob × List VV)
  | .call c =>
    match c.callee with
    | .value f => vask ld st (st.val f) (c.args.toList.map st.val)
    | _ => none
  | _ => none
def noOrc (ld : FuncId → Bool) : Orc := ⟨ld, fun _ _ _ => (([], .dead), [False])⟩
def xopsE (P : Program) (T : TypeId → TE) (Sh : Shs) (ops : Array Oper) : Nat → List Oper → St → List Bool → (St → Prop) → Prop
  | _, [], st, _, K => K st
  | k, o :: rest, st, pcs, K =>
    match vguard ops st pcs o with
    | none => False
    | some pc =>
      match vtarget Sh.ld st o.op, o.guard with
      | some q, none => ∃ y : (Sh q.1).α, VSpec P q.1 q.2.2.1 q.2.2.2 ((Sh q.1).enc y).1 ((Sh q.1).enc y).2 ∧
          (bif okPut ops k (vback st (Sh.ld q.1) q.2.1 ((Sh q.1).enc y).1 ((Sh q.1).enc y).2) then
            conj (vback st (Sh.ld q.1) q.2.1 ((Sh q.1).enc y).1 ((Sh q.1).enc y).2).chk
              (xopsE P T Sh ops (k + 1) rest (st.after o (vback st (Sh.ld q.1) q.2.1 ((Sh q.1).enc y).1 ((Sh q.1).enc y).2)) (pcs ++ [pc]) K) else False)
      | some q, some _ => ∃ y : (Sh q.1).α, (pc = true → VSpec P q.1 q.2.2.1 q.2.2.2 ((Sh q.1).enc y).1 ((Sh q.1).enc y).2) ∧
          (match (vback st (Sh.ld q.1) q.2.1 ((Sh q.1).enc y).1 ((Sh q.1).enc y).2).new, (vback st (Sh.ld q.1) q.2.1 ((Sh q.1).enc y).1 ((Sh q.1).enc y).2).put, (vback st (Sh.ld q.1) q.2.1 ((Sh q.1).enc y).1 ((Sh q.1).enc y).2).chk with
          | [], none, [] => xopsE P T Sh ops (k + 1) rest (st.after o (vback st (Sh.ld q.1) q.2.1 ((Sh q.1).enc y).1 ((Sh q.1).enc y).2)) (pcs ++ [pc]) K
          | _, _, _ => False)
      | none, g =>
        bif okPut ops k (vop T (noOrc Sh.ld) st o.op) then
          match g, (vop T (noOrc Sh.ld) st o.op).new, (vop T (noOrc Sh.ld) st o.op).put with
          | none, _, _ => conj (vop T (noOrc Sh.ld) st o.op).chk (xopsE P T Sh ops (k + 1) rest (st.after o (vop T (noOrc Sh.ld) st o.op)) (pcs ++ [pc]) K)
          | some _, [], none => conjIf pc (vop T (noOrc Sh.ld) st o.op).chk (xopsE P T Sh ops (k + 1) rest (st.after o (vop T (noOrc Sh.ld) st o.op)) (pcs ++ [pc]) K)
          | _, _, _ => False
        else False

theorem vop_target {T : TypeId → TE} {O : Orc} {st : St} {op : Op} {q : FuncId × List Nat × List Ob × List VV} (h : vtarget O.lend st op = some q) :
    vop T O st op = (vback st (O.lend q.1) q.2.1 (O.run q.1 q.2.2.1 q.2.2.2).1.1 (O.run q.1 q.2.2.1 q.2.2.2).1.2).also (O.run q.1 q.2.2.1 q.2.2.2).2 := by
  cases op <;> simp only [vtarget, reduceCtorEq] at h
  rename_i c
  split at h
  · rename_i f hf
    simp only [vop, hf, vcall, h]
  · cases h
theorem vop_noTarget {T : TypeId → TE} {O O' : Orc} {st : St} {op : Op} (hl : O.lend = O'.lend) (h : vtarget O.lend st op = none) : vop T O st op = vop T O' st op := by
  cases op <;> first | rfl | skip
  case slice t x lo hi mx => cases mx <;> rfl
  case call c =>
    simp only [vtarget] at h
    simp only [vop]
    cases hc : c.callee with
    | invoke r n => rfl
    | builtin b => cases b <;> rfl
    | value f =>
      simp only [hc] at h
      simp only [vcall, ← hl, h]
theorem conj_mk {K : Prop} : ∀ {l : List Prop}, (∀ p ∈ l, p) → K → conj l K
  | [], _, hk => hk
  | p :: _, h, hk => ⟨h p (List.mem_cons_self ..), conj_mk (fun q hq => h q (List.mem_cons_of_mem _ hq)) hk⟩
theorem conjIf_mk {pc : Bool} {K : Prop} : ∀ {l : List Prop}, (pc = true → ∀ p ∈ l, p) → K → conjIf pc l K
  | [], _, hk => hk
  | p :: _, h, hk => ⟨fun hpc => h hpc p (List.mem_cons_self ..), conjIf_mk (fun hpc q hq => h hpc q (List.mem_cons_of_mem _ hq)) hk⟩
theorem xops_congr {T : TypeId → TE} {O O' : Nat → Orc} {ops : Array Oper} {K : St → Prop} : ∀ (l : List Oper) (k : Nat) (st : St) (pcs : List Bool), (∀ i, k ≤ i → O i = O' i) → xops T O ops k l st pcs K → xops T O' ops k l st pcs K
  | [], _, _, _, _, h => h
  | o :: rest, k, st, pcs, he, h => by
    have e := he k (Nat.le_refl _)
    simp only [xops] at h ⊢
    split
    · rename_i hg; rw [hg] at h; exact h
    · rename_i pc hg
      rw [hg] at h
      simp only at h
      rw [← e]
      cases hpu : okPut ops k (vop T (O k) st o.op) with
      | false => rw [hpu] at h; exact h.elim
      | true =>
        rw [hpu] at h
        simp only [cond_true] at h ⊢
        split
        · rename_i hgd
          rw [hgd] at h
          simp only at h
          obtain ⟨h1, h2⟩ := conj_iff h
          exact conj_mk h1 (xops_congr rest (k + 1) _ _ (fun i hi => he i (by omega)) h2)
        · rename_i gd hgd hn hp
          rw [hgd, hn, hp] at h
          simp only at h
          obtain ⟨h1, h2⟩ := conjIf_iff h
          exact conjIf_mk h1 (xops_congr rest (k + 1) _ _ (fun i hi => he i (by omega)) h2)
        · rename_i x1 x2
          split at h
          · rename_i hgd; exact absurd hgd x1
          · rename_i gd hgd hn hp; exact absurd hp (x2 gd hgd hn)
          · exact h.elim
theorem xopsE_xops {P : Program} {T : TypeId → TE} {Sh : Shs} {ops : Array Oper} {K : St → Prop} : ∀ (l : List Oper) (k : Nat) (st : St) (pcs : List Bool), xopsE P T Sh ops k l st pcs K →
    ∃ O : Nat → Orc, (∀ i, OrcOk P (O i)) ∧ xops T O ops k l st pcs K
  | [], _, _, _, h => ⟨fun _ => noOrc Sh.ld, fun _ f hs xs h => (h False (by simp [noOrc])).elim, h⟩
  | o :: rest, k, st, pcs, h => by
    simp only [xopsE] at h
    split at h
    · exact h.elim
    · rename_i pc hg
      have fin : ∀ (Ok : Orc), OrcOk P Ok → ∀ (O' : Nat → Orc), (∀ i, OrcOk P (O' i)) → ∃ O : Nat → Orc, (∀ i, OrcOk P (O i)) ∧ O k = Ok ∧ ∀ i, k + 1 ≤ i → O' i = O i := by
        intro Ok h1 O' h2
        refine ⟨fun i => if i = k then Ok else O' i, fun i => ?_, if_pos rfl, fun i hi => (if_neg (by omega)).symm⟩
        show OrcOk P (if i = k then Ok else O' i)
        split
        · exact h1
        · exact h2 i
      split at h
      · rename_i q hq hgd
        obtain ⟨y, hy, hk⟩ := h
        cases hpu : okPut ops k (vback st (Sh.ld q.1) q.2.1 ((Sh q.1).enc y).1 ((Sh q.1).enc y).2) with
        | false => rw [hpu] at hk; exact hk.elim
        | true =>
          rw [hpu] at hk
          simp only [cond_true] at hk
          obtain ⟨hc1, hc2⟩ := conj_iff hk
          obtain ⟨O', h2, h3⟩ := xopsE_xops rest (k + 1) _ _ hc2
          obtain ⟨O, o1, o2, o3⟩ := fin ⟨Sh.ld, fun f hs ys => ((Sh q.1).enc y, [VSpec P f hs ys ((Sh q.1).enc y).1 ((Sh q.1).enc y).2])⟩ (fun f hs ys hp => hp _ (List.mem_cons_self ..)) O' h2
          refine ⟨O, o1, ?_⟩
          have ev : vop T (O k) st o.op = (vback st (Sh.ld q.1) q.2.1 ((Sh q.1).enc y).1 ((Sh q.1).enc y).2).also [VSpec P q.1 q.2.2.1 q.2.2.2 ((Sh q.1).enc y).1 ((Sh q.1).enc y).2] := by
            rw [o2]
            exact vop_target (O := ⟨Sh.ld, fun f hs ys => ((Sh q.1).enc y, [VSpec P f hs ys ((Sh q.1).enc y).1 ((Sh q.1).enc y).2])⟩) hq
          have ep : ∀ ps, okPut ops k ((vback st (Sh.ld q.1) q.2.1 ((Sh q.1).enc y).1 ((Sh q.1).enc y).2).also ps) = true := fun ps => hpu
          simp only [xops, hg, hgd, ev, ep, cond_true]
          refine conj_mk ?_ (xops_congr rest (k + 1) _ _ o3 h3)
          intro p hp
          rcases List.mem_append.1 hp with hp | hp
          · exact hc1 p hp
          · simp only [List.mem_singleton] at hp; subst hp; exact hy
      · rename_i q gd hq hgd
        obtain ⟨y, hy, hk⟩ := h
        split at hk
        · rename_i e1 e2 e3
          obtain ⟨O', h2, h3⟩ := xopsE_xops rest (k + 1) _ _ hk
          obtain ⟨O, o1, o2, o3⟩ := fin ⟨Sh.ld, fun f hs ys => ((Sh q.1).enc y, [VSpec P f hs ys ((Sh q.1).enc y).1 ((Sh q.1).enc y).2])⟩ (fun f hs ys hp => hp _ (List.mem_cons_self ..)) O' h2
          refine ⟨O, o1, ?_⟩
          have ev : vop T (O k) st o.op = (vback st (Sh.ld q.1) q.2.1 ((Sh q.1).enc y).1 ((Sh q.1).enc y).2).also [VSpec P q.1 q.2.2.1 q.2.2.2 ((Sh q.1).enc y).1 ((Sh q.1).enc y).2] := by
            rw [o2]
            exact vop_target (O := ⟨Sh.ld, fun f hs ys => ((Sh q.1).enc y, [VSpec P f hs ys ((Sh q.1).enc y).1 ((Sh q.1).enc y).2])⟩) hq
          have ep : ∀ ps, okPut ops k ((vback st (Sh.ld q.1) q.2.1 ((Sh q.1).enc y).1 ((Sh q.1).enc y).2).also ps) = true := fun ps => by
            unfold okPut
            show (match (vback st (Sh.ld q.1) q.2.1 ((Sh q.1).enc y).1 ((Sh q.1).enc y).2).put with
              | some _ => _
              | none => _) = true
            rw [e2]
          have en : ∀ ps, ((vback st (Sh.ld q.1) q.2.1 ((Sh q.1).enc y).1 ((Sh q.1).enc y).2).also ps).new = [] := fun _ => e1
          have eu : ∀ ps, ((vback st (Sh.ld q.1) q.2.1 ((Sh q.1).enc y).1 ((Sh q.1).enc y).2).also ps).put = none := fun _ => e2
          simp only [xops, hg, hgd, ev, ep, cond_true, en, eu]
          refine conjIf_mk ?_ (xops_congr rest (k + 1) _ _ o3 h3)
          intro hpc p hp
          rcases List.mem_append.1 hp with hp | hp
          · rw [e3] at hp; simp at hp
          · simp only [List.mem_singleton] at hp; subst hp; exact hy hpc
        · exact hk.elim
      · rename_i hnt
        have bad : OrcOk P (noOrc Sh.ld) := fun f hs xs h => (h False (by simp [noOrc])).elim
        cases hpu : okPut ops k (vop T (noOrc Sh.ld) st o.op) with
        | false => rw [hpu] at h; exact h.elim
        | true =>
          rw [hpu] at h
          simp only [cond_true] at h
          split at h
          · rename_i hgd
            obtain ⟨h1, h2⟩ := conj_iff h
            obtain ⟨O', h3, h4⟩ := xopsE_xops rest (k + 1) _ _ h2
            obtain ⟨O, o1, o2, o3⟩ := fin _ bad O' h3
            refine ⟨O, o1, ?_⟩
            simp only [xops, hg, hgd, o2, hpu, cond_true]
            exact conj_mk h1 (xops_congr rest (k + 1) _ _ o3 h4)
          · rename_i gd hgd hn hp
            obtain ⟨h1, h2⟩ := conjIf_iff h
            obtain ⟨O', h3, h4⟩ := xopsE_xops rest (k + 1) _ _ h2
            obtain ⟨O, o1, o2, o3⟩ := fin _ bad O' h3
            refine ⟨O, o1, ?_⟩
            simp only [xops, hg, hgd, o2, hpu, cond_true, hn, hp]
            exact conjIf_mk h1 (xops_congr rest (k + 1) _ _ o3 h4)
          · exact h.elim
/-- **A region**, the shapes of callees' results known. -/
theorem region_okE {P : Program} {T : TypeId → TE} {Sh : Shs} {ops : Array Oper} {st0 : St} {N : Nat} {E : Prot} {w0 : World} {φ0 : Phi} (hT : TOk P T) (hmx : P.follows .mixedOrders = true) (hB : regB ops N = true) {K : St → Prop} {id : Nat} {draw : Bool} {a : Act}
    (h : xopsE P T Sh ops 0 ops.toList st0 [] fun st' => K (clr ops st')) (hrel : Rel N E st0 φ0 a w0) :
    (Code.region id ops draw).wp P (fun e a' w' => e = .normal ∧ ∃ st' φ', K st' ∧ Rel N E st' φ' a' w' ∧ Ext w0 φ0 w' φ') a w0 := by
  obtain ⟨O, hO, hx⟩ := xopsE_xops ops.toList 0 st0 [] h
  exact region_ok hT hO hmx hB hx hrel
end Go.Proofs.Ytnodhjlpoaahbaa
