/-
  What a program may see of a region, once: which operations wait for which; that no order can be told from another.
-/
import Derived.Test.YtnodhjlpoaahbaaVjReg
namespace Go.Proofs.Ytnodhjlpoaahbaa
open Go.RowKit

/-- If the operation i is wanted, j is. -/
def gImp (ops : Array Oper) : Nat → Nat → Nat → Bool
  | 0, _, _ => false
  | f + 1, i, j =>
    match (ops[j]?).bind (·.guard) with
    | none => true
    | some g =>
      match (ops[i]?).bind (·.guard) with
      | none => false
      | some h => h == g || gImp ops f h.1 j
def pickOk (ops : Array Oper) (n i : Nat) (c : Operand) (want : Bool) (j : Nat) : Bool :=
  match (ops[j]?).bind (·.guard), c with
  | some (k, w), .tmp t => w == want && (ops[k]?).bind (·.dst) == some t && gImp ops n i k && Nat.blt k i
  | _, _ => false
def rdB (ops : Array Oper) (M : Array Nat) (i : Nat) (ok : Nat → Bool) : Operand → Bool
  | .tmp t => (List.range ops.size).all fun j =>
    match ops[j]? with
    | some oj => !(oj.dst == some t) || Nat.beq j i || (bif Nat.blt j i then rbit M i j && ok j else rbit M j i)
    | none => true
  | _ => true
def readsB (ops : Array Oper) (M : Array Nat) (i : Nat) : Op → Bool
  | .pick c x y => rdB ops M i (gImp ops ops.size i) c && rdB ops M i (fun j => gImp ops ops.size i j || pickOk ops ops.size i c true j) x && rdB ops M i (fun j => gImp ops ops.size i j || pickOk ops ops.size i c false j) y
  | op => op.operands.toList.all (rdB ops M i (gImp ops ops.size i))
def opB (ops : Array Oper) (M : Array Nat) (N i : Nat) (o : Oper) : Bool :=
  (o.after.toList.all fun e => !Region.binds .any e || Nat.blt e.on i) &&
  ((List.range ops.size).all fun j => !rbit M i j || o.after.toList.any fun e => Region.binds .any e && (Nat.beq e.on j || rbit M e.on j)) &&
  (match o.dst with
    | none => true
    | some d => Nat.blt d N && (List.range ops.size).all fun j => Nat.beq j i || !((ops[j]?).bind (·.dst) == some d)) &&
  (match o.guard with
    | none => true
    | some (k, _) => Nat.blt k i && rbit M i k) &&
  readsB ops M i o.op
def regB (ops : Array Oper) (N : Nat) : Bool :=
  let M := Region.before ops
  (List.range ops.size).all fun i =>
    match ops[i]? with
    | some o => opB ops M N i o
    | none => false

/-- The same, as a proposition. -/
def RdOk (ops : Array Oper) (M : Array Nat) (i : Nat) (ok : Nat → Bool) (y : Operand) : Prop :=
  ∀ t, y = .tmp t → ∀ (j : Nat) oj, ops[j]? = some oj → oj.dst = some t → j ≠ i → (j < i → rbit M i j = true ∧ ok j = true) ∧ (i < j → rbit M j i = true)
structure RegOk (ops : Array Oper) (M : Array Nat) (N : Nat) : Prop where
  low : ∀ (i : Nat) o e, ops[i]? = some o → e ∈ o.after → Region.binds .any e = true → e.on < i
  mask : ∀ (i : Nat) o j, ops[i]? = some o → j < ops.size → rbit M i j = true → ∃ e ∈ o.after, Region.binds .any e = true ∧ (e.on = j ∨ rbit M e.on j = true)
  dst : ∀ (i : Nat) o d, ops[i]? = some o → o.dst = some d → d < N
  uniq : ∀ (i j : Nat) oi oj d, ops[i]? = some oi → ops[j]? = some oj → oi.dst = some d → oj.dst = some d → i = j
  guard : ∀ (i : Nat) o k w, ops[i]? = some o → o.guard = some (k, w) → k < i ∧ rbit M i k = true
  reads : ∀ (i : Nat) o, ops[i]? = some o → (∀ c x y, o.op ≠ .pick c x y) → ∀ y ∈ o.op.operands.toList, RdOk ops M i (gImp ops ops.size i) y
  pick : ∀ (i : Nat) o c x y, ops[i]? = some o → o.op = .pick c x y → RdOk ops M i (gImp ops ops.size i) c ∧ RdOk ops M i (fun j => gImp ops ops.size i j || pickOk ops ops.size i c true j) x ∧ RdOk ops M i (fun j => gImp ops ops.size i j || pickOk ops ops.size i c false j) y

theorem rd_of {ops : Array Oper} {M : Array Nat} {i : Nat} {ok : Nat → Bool} {y : Operand} (h : rdB ops M i ok y = true) : RdOk ops M i ok y := by
  rintro t rfl j oj hj hd hne
  simp only [rdB, List.all_eq_true, List.mem_range] at h
  have := h j (Array.getElem?_eq_some_iff.1 hj).1
  rw [hj] at this
  simp only [hd, beq_self_eq_true, Bool.not_true, Bool.false_or] at this
  have hb : Nat.beq j i = false := by
    cases hq : Nat.beq j i with
    | true => exact absurd (Nat.eq_of_beq_eq_true hq) hne
    | false => rfl
  rw [hb, Bool.false_or] at this
  constructor
  · intro hlt
    have hl : Nat.blt j i = true := Nat.ble_eq_true_of_le hlt
    rw [hl, cond_true, Bool.and_eq_true] at this
    exact this
  · intro hlt
    have hl : Nat.blt j i = false := by
      cases hq : Nat.blt j i with
      | true => have := Nat.le_of_ble_eq_true hq; omega
      | false => rfl
    rw [hl, cond_false] at this
    exact this
theorem regOk_of {ops : Array Oper} {N : Nat} (h : regB ops N = true) : RegOk ops (Region.before ops) N := by
  have hop : ∀ (i : Nat) o, ops[i]? = some o → opB ops (Region.before ops) N i o = true := by
    intro i o ho
    have := List.all_eq_true.1 h i (List.mem_range.2 (Array.getElem?_eq_some_iff.1 ho).1)
    simp only [ho] at this
    exact this
  have split : ∀ (i : Nat) o, ops[i]? = some o → _ := fun i o ho => by
    have := hop i o ho
    unfold opB at this
    simp only [Bool.and_eq_true] at this
    exact this
  refine ⟨?_, ?_, ?_, ?_, ?_, ?_, ?_⟩
  · intro i o e ho he hb
    obtain ⟨⟨⟨⟨h1, _⟩, _⟩, _⟩, _⟩ := split i o ho
    have := List.all_eq_true.1 h1 e (by simpa using he)
    rw [hb] at this
    exact Nat.le_of_ble_eq_true (by simpa [Nat.blt] using this)
  · intro i o j ho hj hb
    obtain ⟨⟨⟨⟨_, h1⟩, _⟩, _⟩, _⟩ := split i o ho
    have := List.all_eq_true.1 h1 j (List.mem_range.2 hj)
    rw [hb, Bool.not_true, Bool.false_or, List.any_eq_true] at this
    obtain ⟨e, he, hq⟩ := this
    rw [Bool.and_eq_true, Bool.or_eq_true] at hq
    exact ⟨e, by simpa using he, hq.1, hq.2.imp Nat.eq_of_beq_eq_true id⟩
  · intro i o d ho hd
    obtain ⟨⟨⟨⟨_, _⟩, h1⟩, _⟩, _⟩ := split i o ho
    rw [hd] at h1
    simp only [Bool.and_eq_true] at h1
    exact Nat.le_of_ble_eq_true h1.1
  · intro i j oi oj d hi hj hdi hdj
    obtain ⟨⟨⟨⟨_, _⟩, h1⟩, _⟩, _⟩ := split i oi hi
    rw [hdi] at h1
    simp only [Bool.and_eq_true] at h1
    have := List.all_eq_true.1 h1.2 j (List.mem_range.2 (Array.getElem?_eq_some_iff.1 hj).1)
    rw [hj, Option.bind_some, hdj] at this
    simp only [beq_self_eq_true, Bool.not_true, Bool.or_false] at this
    exact (Nat.eq_of_beq_eq_true this).symm
  · intro i o k w ho hg
    obtain ⟨⟨⟨⟨_, _⟩, _⟩, h1⟩, _⟩ := split i o ho
    rw [hg] at h1
    simp only [Bool.and_eq_true] at h1
    exact ⟨Nat.le_of_ble_eq_true h1.1, h1.2⟩
  · intro i o ho hnp y hy
    obtain ⟨⟨⟨⟨_, _⟩, _⟩, _⟩, h1⟩ := split i o ho
    unfold readsB at h1
    split at h1
    · rename_i c x y' e; exact absurd e (hnp c x y')
    · exact rd_of (List.all_eq_true.1 h1 y hy)
  · intro i o c x y ho hp
    obtain ⟨⟨⟨⟨_, _⟩, _⟩, _⟩, h1⟩ := split i o ho
    rw [hp] at h1
    simp only [readsB, Bool.and_eq_true] at h1
    exact ⟨rd_of h1.1.1, rd_of h1.1.2, rd_of h1.2⟩

section
variable {ops : Array Oper} {M : Array Nat} {N : Nat}
/-- Whoever has come up, and all that it waited for. -/
def Closed (ops : Array Oper) (D : Nat → Bool) : Prop := ∀ (i : Nat) o e, ops[i]? = some o → D i = true → e ∈ o.after → Region.binds .any e = true → D e.on = true
theorem mask_closed (hR : RegOk ops M N) {D : Nat → Bool} (hD : Closed ops D) : ∀ (i : Nat) o (j : Nat), ops[i]? = some o → (∀ e ∈ o.after, Region.binds .any e = true → D e.on = true) → j < ops.size → rbit M i j = true → D j = true := by
  intro i
  induction i using Nat.strongRecOn with
  | _ i ih =>
    intro o j ho hdeps hj hb
    obtain ⟨e, he, hbd, hq⟩ := hR.mask i o j ho hj hb
    have hDe := hdeps e he hbd
    rcases hq with hq | hq
    · rw [← hq]; exact hDe
    · have hlt := hR.low i o e ho he hbd
      have hil := (Array.getElem?_eq_some_iff.1 ho).1
      have hoe : ops[e.on]? = some (ops[e.on]'(by omega)) := by simp [show e.on < ops.size by omega]
      exact ih e.on hlt _ j hoe (fun e' he' hb' => hD e.on _ e' hoe hDe he' hb') hj hq
end
end Go.Proofs.Ytnodhjlpoaahbaa
