/-
  A region of operations: each comes up when it may, in whatever order; what has come up so far says what the text's run says.
-/
import Derived.Test.YtnodhjlpoaahbaaViReg2
namespace Go.Proofs.Ytnodhjlpoaahbaa
open Go.RowKit
section
variable {P : Program} {T : TypeId → TE} {O : Nat → Orc} {ops : Array Oper} {st0 : St} {M : Array Nat} {N : Nat} {A : Nat → Prop} {B : Nat} {w0 : World} {φ0 : Phi}

theorem runS_keep (i m : Nat) (him : i ≤ m) (hm : m ≤ ops.size) (hp : ∀ s o, i ≤ s → s < m → ops[s]? = some o → (rR T O ops st0 s).put = none) :
    (runS T O ops st0 i).1.nx ≤ (runS T O ops st0 m).1.nx ∧ ∀ id, id < (runS T O ops st0 i).1.nx → (runS T O ops st0 m).1.H id = (runS T O ops st0 i).1.H id := by
  induction m with
  | zero => (obtain rfl : i = 0 := (by omega)); exact ⟨Nat.le_refl _, fun _ _ => rfl⟩
  | succ m ih =>
    by_cases hi : i = m + 1
    · subst hi; exact ⟨Nat.le_refl _, fun _ _ => rfl⟩
    · obtain ⟨h1, h2⟩ := ih (by omega) (by omega) fun s o hs1 hs2 => hp s o hs1 (by omega)
      have ho : ops[m]? = some (ops[m]'(by omega)) := by simp [show m < ops.size by omega]
      have e := (runS_succ (T := T) (O := O) (st0 := st0) ho).1
      have hnp := hp m _ (by omega) (by omega) ho
      rw [e]
      unfold St.after
      rw [hnp]
      cases hn : (rR T O ops st0 m).new with
      | none =>
        have e2 : ∀ (s : St) d x, (s.put d x).nx = s.nx ∧ (s.put d x).H = s.H := by intro s d x; cases d <;> exact ⟨rfl, rfl⟩
        simp only [(e2 _ _ _).1, (e2 _ _ _).2]
        exact ⟨h1, h2⟩
      | some cs =>
        have e2 : ∀ (s : St) d x, (s.put d x).nx = s.nx ∧ (s.put d x).H = s.H := by intro s d x; cases d <;> exact ⟨rfl, rfl⟩
        simp only [(e2 _ _ _).1, (e2 _ _ _).2]
        refine ⟨by omega, fun id hid => ?_⟩
        have hb : Nat.beq id (runS T O ops st0 m).1.nx = false := by
          cases hq : Nat.beq id (runS T O ops st0 m).1.nx with
          | true => have := Nat.eq_of_beq_eq_true hq; omega
          | false => rfl
        simp only [hb, cond_false]
        exact h2 id hid
theorem runS_nx (i m : Nat) (him : i ≤ m) (hm : m ≤ ops.size) : (runS T O ops st0 i).1.nx ≤ (runS T O ops st0 m).1.nx := by
  induction m with
  | zero => (obtain rfl : i = 0 := (by omega)); exact Nat.le_refl _
  | succ m ih =>
    by_cases hi : i = m + 1
    · subst hi; exact Nat.le_refl _
    · have h1 := ih (by omega) (by omega)
      have ho : ops[m]? = some (ops[m]'(by omega)) := by simp [show m < ops.size by omega]
      rw [(runS_succ (T := T) (O := O) (st0 := st0) ho).1]
      have e2 : ∀ (s : St) d x, (s.put d x).nx = s.nx := by intro s d x; cases d <;> rfl
      unfold St.after
      rw [e2]
      split
      · show _ ≤ _ + 1; omega
      · exact h1
      · exact h1
theorem runS_new {i : Nat} {o : Oper} {cs : List VV} (ho : ops[i]? = some o) (hn : (rR T O ops st0 i).new = some cs) :
    (runS T O ops st0 (i + 1)).1.nx = (runS T O ops st0 i).1.nx + 1 ∧ (runS T O ops st0 (i + 1)).1.H (runS T O ops st0 i).1.nx = cs := by
  rw [(runS_succ (T := T) (O := O) (st0 := st0) ho).1]
  have e2 : ∀ (s : St) d x, (s.put d x).nx = s.nx ∧ (s.put d x).H = s.H := by intro s d x; cases d <;> exact ⟨rfl, rfl⟩
  unfold St.after
  simp only [(e2 _ _ _).1, (e2 _ _ _).2, hn]
  refine ⟨trivial, ?_⟩
  have hb : ∀ n, Nat.beq n n = true := fun n => Nat.beq_refl n
  simp only [hb, cond_true]
theorem runS_put {i : Nat} {o : Oper} {id off : Nat} {cs : List VV} (ho : ops[i]? = some o) (hn : (rR T O ops st0 i).new = none) (hp : (rR T O ops st0 i).put = some (id, off, cs)) :
    (runS T O ops st0 (i + 1)).1.nx = (runS T O ops st0 i).1.nx ∧ ∀ k, (runS T O ops st0 (i + 1)).1.H k = if k = id then ((runS T O ops st0 i).1.H id).take off ++ cs ++ ((runS T O ops st0 i).1.H id).drop (off + cs.length) else (runS T O ops st0 i).1.H k := by
  rw [(runS_succ (T := T) (O := O) (st0 := st0) ho).1]
  have e2 : ∀ (s : St) d x, (s.put d x).nx = s.nx ∧ (s.put d x).H = s.H := by intro s d x; cases d <;> exact ⟨rfl, rfl⟩
  unfold St.after
  simp only [(e2 _ _ _).1, (e2 _ _ _).2, hn, hp]
  refine ⟨trivial, fun k => ?_⟩
  cases hq : Nat.beq k id with
  | true => have := Nat.eq_of_beq_eq_true hq; subst this; simp
  | false =>
    have hne : k ≠ id := by rintro rfl; simp at hq
    simp [hne]

/-- What has come up so far says what the text's run says. -/
structure RI (P : Program) (T : TypeId → TE) (O : Nat → Orc) (ops : Array Oper) (st0 : St) (N : Nat) (A : Nat → Prop) (B : Nat) (w0 : World) (φ0 : Phi) (D : Nat → Bool) (φ : Phi) (a : Act) (w : World) : Prop where
  sz : a.tmps.size = N
  df : a.defers = []
  ext : Ext w0 φ0 w φ
  old : ∀ k, A k → k < w.heap.size
  bas : B ≤ w.heap.size
  out : ∀ t, (∀ (i : Nat) o, ops[i]? = some o → D i = true → o.dst ≠ some t) → V w (Mut A φ) (some φ) (st0.t t) (a.tmps.getD t undef)
  inn : ∀ (i : Nat) o t, ops[i]? = some o → D i = true → o.dst = some t → (rPc T O ops st0 i = true → V w (Mut A φ) (some φ) (rR T O ops st0 i).val (a.tmps.getD t undef)) ∧ (rPc T O ops st0 i = false → a.tmps.getD t undef = undef)
  al : ∀ (i : Nat) o, ops[i]? = some o → D i = false → (rR T O ops st0 i).new ≠ none → φ (runS T O ops st0 i).1.nx = none
  st : ∃ m, m ≤ ops.size ∧ (∀ (s : Nat) o, ops[s]? = some o → isPut o.op = true → (D s = true ↔ s < m)) ∧ (m < ops.size → ∃ o, ops[m]? = some o ∧ isPut o.op = true) ∧
    HRel A B (runS T O ops st0 m).1.H φ w ∧ ∀ id, (runS T O ops st0 m).1.nx ≤ id → φ id = none

theorem put_getD (a : Act) (d : Option Nat) (v : Value) (t : Nat) (hd : ∀ k, d = some k → k < a.tmps.size) : (a.put d v).tmps.getD t undef = if d = some t then v else a.tmps.getD t undef := by
  cases d with
  | none => simp [Act.put]
  | some d =>
    have := hd d rfl
    simp only [Act.put, Array.getD_eq_getD_getElem?, Option.some.injEq]
    by_cases h : d = t
    · subst h; simp [this]
    · rw [Array.getElem?_setIfInBounds_ne h, if_neg h]

theorem put_of_notPut {O : Orc} {op : Op} {st : St} (h : isPut op = false) : (vop T O st op).put = none := by
  cases op <;> first | rfl | cases h | skip
  case alloc e => simp only [vop]; cases (T e).k.known <;> rfl
  case box e x => simp only [vop]; cases vfix (st.val x) <;> rfl
  case slice t x lo hi mx => cases mx <;> rfl
  case call c =>
    simp only [vop]
    cases c.callee with
    | value f => rfl
    | invoke r n => rfl
    | builtin b => cases b <;> rfl
theorem put_of_put {O : Orc} {op : Op} {st : St} (h : isPut op = true) (hc : ∀ p ∈ (vop T O st op).chk, p) : (vop T O st op).put ≠ none ∧ (vop T O st op).new = none := by
  cases op <;> first | cases h | skip
  simp only [vop] at hc ⊢
  unfold vstore at hc ⊢
  split at hc
  · generalize (_ && _ : Bool) = q at hc ⊢
    cases q with
    | false => exact not_bad hc
    | true => exact ⟨by simp, by simp⟩
  · exact not_bad hc
theorem new_loud {O : Orc} {op : Op} {st : St} {cs : List VV} (h : (vop T O st op).new = some cs) : isLoud op = true := by
  cases op <;> first | rfl | cases h | skip
  case slice t x lo hi mx => cases mx <;> cases h
  case call c =>
    simp only [vop] at h
    cases hc : c.callee with
    | value f => rw [hc] at h; cases h
    | invoke r n => rw [hc] at h; cases h
    | builtin b => rw [hc] at h; cases b <;> cases h
/-- Only a loud operation looks at the boxes. -/
theorem quiet_H {O : Orc} {op : Op} {st : St} (h : isLoud op = false) (H : Nat → List VV) : vop T O { st with H := H } op = vop T O st op := by
  cases op <;> first | rfl | cases h | skip
  case slice t x lo hi mx => cases mx <;> rfl
  case call c =>
    simp only [vop, isLoud] at h ⊢
    cases hc : c.callee with
    | value f => rw [hc] at h; simp at h
    | invoke r n => rfl
    | builtin b => cases b <;> rfl
end
end Go.Proofs.Ytnodhjlpoaahbaa
