/-
  A region of operations: each comes up when it may, in whatever order; what has come up so far says what the text's run says.
-/
import Derived.Test.YtnodhjlpoaahbaaVjReg2
namespace Go.Proofs.Ytnodhjlpoaahbaa
open Go.RowKit
section
variable {P : Program} {T : TypeId → TE} {O : Nat → Orc} {ops : Array Oper} {st0 : St} {M : Array Nat} {N : Nat} {E : Prot} {w0 : World} {φ0 : Phi}

theorem St.put_nx (s : St) (d : Option Nat) (x : VV) : (s.put d x).nx = s.nx := by cases d <;> rfl
theorem St.put_H (s : St) (d : Option Nat) (x : VV) : (s.put d x).H = s.H := by cases d <;> rfl
theorem runS_at {i : Nat} {o : Oper} (ho : ops[i]? = some o) : (runS T O ops st0 (i + 1)).1.nx = (runS T O ops st0 i).1.nx + (rR T O ops st0 i).new.length ∧
    (runS T O ops st0 (i + 1)).1.H = addH ((rR T O ops st0 i).base (runS T O ops st0 i).1) (runS T O ops st0 i).1.nx (rR T O ops st0 i).new := by
  rw [(runS_succ (T := T) (O := O) (st0 := st0) ho).1]
  unfold St.after
  rw [St.put_nx, St.put_H]
  exact ⟨rfl, rfl⟩
theorem runS_nx (i m : Nat) (him : i ≤ m) (hm : m ≤ ops.size) : (runS T O ops st0 i).1.nx ≤ (runS T O ops st0 m).1.nx := by
  induction m with
  | zero => (obtain rfl : i = 0 := (by omega)); exact Nat.le_refl _
  | succ m ih =>
    by_cases hi : i = m + 1
    · subst hi; exact Nat.le_refl _
    · have h1 := ih (by omega) (by omega)
      have ho : ops[m]? = some (ops[m]'(by omega)) := by simp [show m < ops.size by omega]
      rw [(runS_at (T := T) (O := O) (st0 := st0) ho).1]
      omega
theorem runS_keep (i m : Nat) (him : i ≤ m) (hm : m ≤ ops.size) (hp : ∀ s o, i ≤ s → s < m → ops[s]? = some o → (rR T O ops st0 s).put = none) :
    ∀ id, id < (runS T O ops st0 i).1.nx → (runS T O ops st0 m).1.H id = (runS T O ops st0 i).1.H id := by
  induction m with
  | zero => (obtain rfl : i = 0 := (by omega)); exact fun _ _ => rfl
  | succ m ih =>
    by_cases hi : i = m + 1
    · subst hi; exact fun _ _ => rfl
    · intro id hid
      have h2 := ih (by omega) (by omega) (fun s o hs1 hs2 => hp s o hs1 (by omega)) id hid
      have hnx := runS_nx (T := T) (O := O) (ops := ops) (st0 := st0) i m (by omega) (by omega)
      have ho : ops[m]? = some (ops[m]'(by omega)) := by simp [show m < ops.size by omega]
      rw [(runS_at (T := T) (O := O) (st0 := st0) ho).2, addH_out (.inl (by omega))]
      unfold Res.base
      rw [hp m _ (by omega) (by omega) ho]
      exact h2
theorem runS_new {i j : Nat} {o : Oper} {ob : Ob} (ho : ops[i]? = some o) (hn : (rR T O ops st0 i).new[j]? = some ob) :
    (runS T O ops st0 (i + 1)).1.H ((runS T O ops st0 i).1.nx + j) = ob := by
  rw [(runS_at (T := T) (O := O) (st0 := st0) ho).2]
  exact addH_at hn

/-- What has come up so far says what the text's run says. -/
structure RI (P : Program) (T : TypeId → TE) (O : Nat → Orc) (ops : Array Oper) (st0 : St) (N : Nat) (E : Prot) (w0 : World) (φ0 : Phi) (D : Nat → Bool) (φ : Phi) (a : Act) (w : World) : Prop where
  sz : a.tmps.size = N
  df : a.defers = []
  ext : Ext w0 φ0 w φ
  old : ∀ k, E.fz k → k < w.heap.size
  out : ∀ t, (∀ (i : Nat) o, ops[i]? = some o → D i = true → o.dst ≠ some t) → V w (E.up φ) (some φ) (st0.t t) (a.tmps.getD t undef)
  inn : ∀ (i : Nat) o t, ops[i]? = some o → D i = true → o.dst = some t → (rPc T O ops st0 i = true → V w (E.up φ) (some φ) (rR T O ops st0 i).val (a.tmps.getD t undef)) ∧ (rPc T O ops st0 i = false → a.tmps.getD t undef = undef)
  al : ∀ (i : Nat) o, ops[i]? = some o → D i = false → ∀ j, j < (rR T O ops st0 i).new.length → φ ((runS T O ops st0 i).1.nx + j) = none
  lv : ∀ id, id < st0.nx → φ id ≠ none
  nw : ∀ (i : Nat) o, ops[i]? = some o → D i = true → ∀ j, j < (rR T O ops st0 i).new.length → φ ((runS T O ops st0 i).1.nx + j) ≠ none
  st : ∃ m, m ≤ ops.size ∧ (∀ (s : Nat) o, ops[s]? = some o → (rR T O ops st0 s).put ≠ none → (D s = true ↔ s < m)) ∧ (m < ops.size → (rR T O ops st0 m).put ≠ none) ∧
    HRel E (runS T O ops st0 m).1.H φ w ∧ ∀ id, (runS T O ops st0 m).1.nx ≤ id → φ id = none

theorem put_getD (a : Act) (d : Option Nat) (v : Value) (t : Nat) (hd : ∀ k, d = some k → k < a.tmps.size) : (a.put d v).tmps.getD t undef = if d = some t then v else a.tmps.getD t undef := by
  cases d with
  | none => simp [Act.put]
  | some d =>
    have := hd d rfl
    simp only [Act.put, Array.getD_eq_getD_getElem?, Option.some.injEq]
    by_cases h : d = t
    · subst h; simp [this]
    · rw [Array.getElem?_setIfInBounds_ne h, if_neg h]

/-- Only a loud operation makes objects or writes. -/
theorem quiet_new {O : Orc} {op : Op} {st : St} (h : isLoud op = false) : (vop T O st op).new = [] ∧ (vop T O st op).put = none := by
  cases op <;> first | exact ⟨rfl, rfl⟩ | cases h | skip
  case slice t x lo hi mx => cases mx <;> exact ⟨rfl, rfl⟩
  case call c =>
    simp only [vop, isLoud] at h ⊢
    cases hc : c.callee with
    | value f => rw [hc] at h; simp at h
    | invoke r n => exact ⟨rfl, rfl⟩
    | builtin b => cases b <;> first | exact ⟨rfl, rfl⟩ | (rw [hc] at h; simp at h)
theorem loud_of {O : Orc} {op : Op} {st : St} (h : (vop T O st op).new.length ≠ 0 ∨ (vop T O st op).put ≠ none) : isLoud op = true := by
  cases hq : isLoud op with
  | true => rfl
  | false =>
    obtain ⟨h1, h2⟩ := quiet_new (T := T) (O := O) (st := st) hq
    rw [h1, h2] at h
    simp at h
/-- Only a loud operation looks at the objects. -/
theorem quiet_H {O : Orc} {op : Op} {st : St} (h : isLoud op = false) (H : Nat → Ob) : vop T O { st with H := H } op = vop T O st op := by
  cases op <;> first | rfl | cases h | skip
  case slice t x lo hi mx => cases mx <;> rfl
  case call c =>
    simp only [vop, isLoud] at h ⊢
    cases hc : c.callee with
    | value f => rw [hc] at h; simp at h
    | invoke r n => rfl
    | builtin b => cases b <;> first | rfl | (rw [hc] at h; simp at h)
theorem ord_at {i s : Nat} {os : Oper} (h : ordB ops M i = true) (hs : ops[s]? = some os) (hl : isLoud os.op = true) : (s < i → rbit M i s = true) ∧ (i < s → rbit M s i = true) := by
  have := List.all_eq_true.1 h s (List.mem_range.2 (Array.getElem?_eq_some_iff.1 hs).1)
  simp only [hs, hl, Bool.not_true, Bool.false_or] at this
  constructor
  · intro hlt
    have hb : Nat.blt s i = true := Nat.ble_eq_true_of_le hlt
    rw [beq_false_of_ne (by omega), hb] at this
    exact this
  · intro hlt
    have hb : Nat.blt s i = false := by
      cases hq : Nat.blt s i with
      | true => have := Nat.le_of_ble_eq_true hq; omega
      | false => rfl
    rw [beq_false_of_ne (by omega), hb] at this
    exact this
end
end Go.Proofs.Ytnodhjlpoaahbaa
