/-
  A region of operations: an operation comes up.
-/
import Derived.Test.YtnodhjlpoaahbaaVjReg3
namespace Go.Proofs.Ytnodhjlpoaahbaa
open Go.RowKit
section
variable {P : Program} {T : TypeId → TE} {O : Nat → Orc} {ops : Array Oper} {st0 : St} {M : Array Nat} {N : Nat} {E : Prot} {w0 : World} {φ0 : Phi} {D : Nat → Bool} {φ : Phi} {a : Act} {w : World}

/-- With one more that has come up. -/
def plus (D : Nat → Bool) (i : Nat) (j : Nat) : Bool := j == i || D j
theorem plus_iff {i j : Nat} : plus D i j = true ↔ j = i ∨ D j = true := by simp [plus]

section
variable (hR : RegOk ops M N) (hG : ∀ (j : Nat) o, ops[j]? = some o → RGood T O ops st0 j o)
include hR hG
omit hR in
theorem pc_none {i : Nat} {o : Oper} (ho : ops[i]? = some o) (hg : o.guard = none) : rPc T O ops st0 i = true := by
  have := (hG i o ho).pc
  simp only [vguard, hg, Option.some.injEq] at this
  exact this.symm
/-- A guarded operation's guard, known. -/
theorem pc_some {i k : Nat} {want : Bool} {o : Oper} (ho : ops[i]? = some o) (hg : o.guard = some (k, want)) :
    ∃ ok d b, ops[k]? = some ok ∧ ok.dst = some d ∧ (rR T O ops st0 k).val = .sc (.bool b) ∧ k < i ∧ rPc T O ops st0 i = (rPc T O ops st0 k && (b == want)) := by
  have hgd := (hG i o ho).pc
  obtain ⟨hki, _⟩ := hR.guard i o k want ho hg
  have hi := (Array.getElem?_eq_some_iff.1 ho).1
  have hok : ops[k]? = some (ops[k]'(by omega)) := by simp [show k < ops.size by omega]
  have hp := (runS_pcs (T := T) (O := O) (ops := ops) (st0 := st0) i (by omega)).2 k hki
  simp only [vguard, hg, hp, hok, Option.bind_some] at hgd
  split at hgd
  · rename_i p d e1 e2
    simp only [Option.some.injEq] at e1
    subst e1
    split at hgd
    · rename_i b hb
      simp only [Option.some.injEq] at hgd
      rw [runS_inn hok e2 i (by omega) hki (fun k' o' _ hne ho' hd' => hne (hR.uniq k' k o' _ d ho' hok hd' e2))] at hb
      refine ⟨_, d, b, hok, e2, ?_, hki, hgd.symm⟩
      unfold boolOf at hb
      split at hb
      · rename_i b' e3; simp only [Option.some.injEq] at hb; subst hb; exact e3
      · cases hb
    · cases hgd
  · cases hgd
theorem gImp_ok : ∀ (f i j : Nat), i < ops.size → j < ops.size → gImp ops f i j = true → rPc T O ops st0 i = true → rPc T O ops st0 j = true
  | 0, _, _, _, _, h, _ => by cases h
  | f + 1, i, j, hi, hj, h, hp => by
    have hoi : ops[i]? = some (ops[i]'hi) := by simp [hi]
    have hoj : ops[j]? = some (ops[j]'hj) := by simp [hj]
    simp only [gImp, hoi, hoj, Option.bind_some] at h
    split at h
    · rename_i hg; exact pc_none hG hoj hg
    · rename_i g hg
      split at h
      · cases h
      · rename_i h0 hg0
        rw [Bool.or_eq_true] at h
        obtain ⟨k, w1⟩ := h0
        obtain ⟨k2, w2⟩ := g
        obtain ⟨ok, d, b, h1, h2, h3, h4, h5⟩ := pc_some hR hG hoi hg0
        rcases h with h | h
        · have e : (k, w1) = (k2, w2) := by simpa using h
          simp only [Prod.mk.injEq] at e
          obtain ⟨rfl, rfl⟩ := e
          obtain ⟨ok', d', b', h1', h2', h3', h4', h5'⟩ := pc_some hR hG hoj hg
          rw [h3] at h3'
          simp only [VV.sc.injEq, Value.bool.injEq] at h3'
          subst h3'
          rw [h5', ← h5]; exact hp
        · rw [h5, Bool.and_eq_true] at hp
          exact gImp_ok f k j (by omega) hj h hp.1
end

/-- What an operand that is read says, if its writer (if there is one) is wanted. -/
theorem read_ok (hR : RegOk ops M N) (hcl : Closed ops D) (h : RI P T O ops st0 N E w0 φ0 D φ a w) {i : Nat} {o : Oper} (ho : ops[i]? = some o) (hi : D i = false) (hdeps : ∀ e ∈ o.after, Region.binds .any e = true → D e.on = true)
    {ok : Nat → Bool} {y : Operand} (hrd : RdOk ops M i ok y) (hok : ∀ j, j < ops.size → ok j = true → rPc T O ops st0 j = true) : V w (E.up φ) (some φ) ((runS T O ops st0 i).1.val y) (a.eval y) := by
  have hil := (Array.getElem?_eq_some_iff.1 ho).1
  cases y with
  | const v => exact V.litC v
  | global g => exact .dead
  | func f => exact .fn rfl fun j x hx => by simp at hx
  | tmp t =>
    show V w _ _ ((runS T O ops st0 i).1.t t) (a.tmps.getD t undef)
    by_cases hex : ∃ j oj, ops[j]? = some oj ∧ oj.dst = some t ∧ j ≠ i
    · obtain ⟨j, oj, hj, hd, hne⟩ := hex
      have hjl := (Array.getElem?_eq_some_iff.1 hj).1
      obtain ⟨h1, h2⟩ := hrd t rfl j oj hj hd hne
      rcases Nat.lt_or_ge j i with hlt | hge
      · obtain ⟨hm, hk⟩ := h1 hlt
        have hDj := mask_closed hR hcl i o j ho hdeps hjl hm
        rw [runS_inn hj hd i (by omega) hlt (fun k' o' _ hne' ho' hd' => hne' (hR.uniq k' j o' oj t ho' hj hd' hd))]
        exact (h.inn j oj t hj hDj hd).1 (hok j hjl hk)
      · have hgt : i < j := by omega
        have hm := h2 hgt
        have hDj : D j = false := by
          cases hq : D j with
          | false => rfl
          | true =>
            have := mask_closed hR hcl j oj i hj (fun e he hb => hcl j oj e hj hq he hb) hil hm
            rw [hi] at this; cases this
        rw [runS_out i (by omega) (fun k' o' hk' ho' hd' => by have := hR.uniq k' j o' oj t ho' hj hd' hd; omega)]
        exact h.out t fun k' o' ho' hD' hd' => by
          have := hR.uniq k' j o' oj t ho' hj hd' hd
          subst this
          rw [hDj] at hD'; cases hD'
    · have hno : ∀ (k' : Nat) o', ops[k']? = some o' → o'.dst = some t → k' = i := fun k' o' ho' hd' => Classical.byContradiction fun hne => hex ⟨k', o', ho', hd', hne⟩
      rw [runS_out i (by omega) (fun k' o' hk' ho' hd' => by have := hno k' o' ho' hd'; omega)]
      exact h.out t fun k' o' ho' hD' hd' => by
        have := hno k' o' ho' hd'
        subst this
        rw [hi] at hD'; cases hD'

theorem wanted_ok (hR : RegOk ops M N) (hG : ∀ (j : Nat) o, ops[j]? = some o → RGood T O ops st0 j o) (hcl : Closed ops D) (h : RI P T O ops st0 N E w0 φ0 D φ a w) {i : Nat} {o : Oper} (ho : ops[i]? = some o)
    (hdeps : ∀ e ∈ o.after, Region.binds .any e = true → D e.on = true) : Region.wanted o (yielded ops a.tmps) = rPc T O ops st0 i := by
  have hil := (Array.getElem?_eq_some_iff.1 ho).1
  unfold Region.wanted
  cases hg : o.guard with
  | none => simp only; exact (pc_none hG ho hg).symm
  | some g =>
    obtain ⟨k, want⟩ := g
    obtain ⟨ok, d, b, h1, h2, h3, h4, h5⟩ := pc_some hR hG ho hg
    have hDk := mask_closed hR hcl i o k ho hdeps (by omega) (hR.guard i o k want ho hg).2
    obtain ⟨g1, g2⟩ := h.inn k ok d h1 hDk h2
    have hd : d < a.tmps.size := by rw [h.sz]; exact hR.dst k ok d h1 h2
    have hget : a.tmps[d]? = some (a.tmps.getD d undef) := by simp [Array.getD, hd]
    simp only [yielded, h1, Option.bind_some, h2, hget]
    rw [h5]
    cases hp : rPc T O ops st0 k with
    | true =>
      have := g1 hp
      rw [h3] at this
      rw [this.sc_inv]
      simp only [Bool.true_and]
      cases b <;> cases want <;> rfl
    | false =>
      rw [g2 hp]
      rfl
end
end Go.Proofs.Ytnodhjlpoaahbaa
