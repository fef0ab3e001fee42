/-
  A region of operations: the run in the text's order says what every order comes to.
-/
import Derived.Test.YtnodhjlpoaahbaaVjEach
namespace Go.Proofs.Ytnodhjlpoaahbaa
open Go.RowKit

def Res.base (r : Res) (st : St) : Nat → Ob :=
  match r.put with
  | some H' => H'
  | none => st.H
def St.after (st : St) (o : Oper) (r : Res) : St :=
  St.put { st with H := addH (r.base st) st.nx r.new, nx := st.nx + r.new.length } o.dst r.val
def boolOf : VV → Option Bool
  | .sc (.bool b) => some b
  | _ => none
/-- Is the operation wanted? -/
def vguard (ops : Array Oper) (st : St) (pcs : List Bool) (o : Oper) : Option Bool :=
  match o.guard with
  | none => some true
  | some (j, want) =>
    match pcs[j]?, (ops[j]?).bind (·.dst) with
    | some p, some d =>
      match boolOf (st.t d) with
      | some b => some (p && (b == want))
      | none => none
    | _, _ => none
def conj : List Prop → Prop → Prop
  | [], K => K
  | p :: ps, K => p ∧ conj ps K
def conjIf (pc : Bool) : List Prop → Prop → Prop
  | [], K => K
  | p :: ps, K => (pc = true → p) ∧ conjIf pc ps K
def rbit (M : Array Nat) (i j : Nat) : Bool := (M.getD i 0).testBit j
def isLoud : Op → Bool
  | .load .. | .store .. | .alloc _ | .box .. | .buildSlice .. | .makeSlice .. => true
  | .call c => match c.callee with
    | .builtin .len | .builtin .max | .builtin .min => false
    | _ => true
  | _ => false
/-- Before or behind all that looks at memory. -/
def ordB (ops : Array Oper) (M : Array Nat) (i : Nat) : Bool := (List.range ops.size).all fun s =>
  match ops[s]? with
  | some os => !isLoud os.op || Nat.beq s i || (bif Nat.blt s i then rbit M i s else rbit M s i)
  | none => true
def okPut (ops : Array Oper) (k : Nat) (r : Res) : Bool :=
  match r.put with
  | some _ => ordB ops (Region.before ops) k
  | none => true
def xops (T : TypeId → TE) (O : Nat → Orc) (ops : Array Oper) : Nat → List Oper → St → List Bool → (St → Prop) → Prop
  | _, [], st, _, K => K st
  | k, o :: rest, st, pcs, K =>
    match vguard ops st pcs o with
    | none => False
    | some pc =>
      bif okPut ops k (vop T (O k) st o.op) then
        match o.guard, (vop T (O k) st o.op).new, (vop T (O k) st o.op).put with
        | none, _, _ => conj (vop T (O k) st o.op).chk (xops T O ops (k + 1) rest (st.after o (vop T (O k) st o.op)) (pcs ++ [pc]) K)
        | some _, [], none => conjIf pc (vop T (O k) st o.op).chk (xops T O ops (k + 1) rest (st.after o (vop T (O k) st o.op)) (pcs ++ [pc]) K)
        | _, _, _ => False
      else False

theorem conj_iff {K : Prop} : ∀ {l : List Prop}, conj l K → (∀ p ∈ l, p) ∧ K
  | [], h => ⟨fun p hp => by simp at hp, h⟩
  | q :: l, h => by
    obtain ⟨h1, h2⟩ := conj_iff h.2
    refine ⟨fun p hp => ?_, h2⟩
    rcases List.mem_cons.1 hp with rfl | hp
    · exact h.1
    · exact h1 p hp
theorem conjIf_iff {pc : Bool} {K : Prop} : ∀ {l : List Prop}, conjIf pc l K → (pc = true → ∀ p ∈ l, p) ∧ K
  | [], h => ⟨fun _ p hp => by simp at hp, h⟩
  | q :: l, h => by
    obtain ⟨h1, h2⟩ := conjIf_iff h.2
    refine ⟨fun hpc p hp => ?_, h2⟩
    rcases List.mem_cons.1 hp with rfl | hp
    · exact h.1 hpc
    · exact h1 hpc p hp

/-! ### The run in the text's order -/
section
variable (T : TypeId → TE) (O : Nat → Orc) (ops : Array Oper) (st0 : St)
def runS : Nat → St × List Bool
  | 0 => (st0, [])
  | i + 1 =>
    match ops[i]? with
    | none => runS i
    | some o => ((runS i).1.after o (vop T (O i) (runS i).1 o.op), (runS i).2 ++ [(vguard ops (runS i).1 (runS i).2 o).getD false])
def rPc (i : Nat) : Bool :=
  match ops[i]? with
  | none => false
  | some o => (vguard ops (runS T O ops st0 i).1 (runS T O ops st0 i).2 o).getD false
def rR (i : Nat) : Res :=
  match ops[i]? with
  | none => .bad
  | some o => vop T (O i) (runS T O ops st0 i).1 o.op
end

section
variable {P : Program} {T : TypeId → TE} {O : Nat → Orc} {ops : Array Oper} {st0 : St}

theorem runS_succ {i : Nat} {o : Oper} (ho : ops[i]? = some o) : (runS T O ops st0 (i + 1)).1 = (runS T O ops st0 i).1.after o (rR T O ops st0 i) ∧ (runS T O ops st0 (i + 1)).2 = (runS T O ops st0 i).2 ++ [rPc T O ops st0 i] := by
  simp only [runS, rR, rPc, ho]
  exact ⟨trivial, trivial⟩
theorem runS_pcs : ∀ (i : Nat), i ≤ ops.size → (runS T O ops st0 i).2.length = i ∧ ∀ k, k < i → (runS T O ops st0 i).2[k]? = some (rPc T O ops st0 k)
  | 0, _ => ⟨rfl, fun k hk => by omega⟩
  | i + 1, hi => by
    obtain ⟨h1, h2⟩ := runS_pcs i (by omega)
    have ho : ops[i]? = some (ops[i]'(by omega)) := by simp [show i < ops.size by omega]
    obtain ⟨_, e⟩ := runS_succ (T := T) (O := O) (st0 := st0) ho
    rw [e]
    refine ⟨by simp [h1], fun k hk => ?_⟩
    by_cases hki : k < i
    · rw [List.getElem?_append_left (by omega)]; exact h2 k hki
    · obtain rfl : k = i := by omega
      rw [List.getElem?_append_right (by omega)]; simp [h1]

/-- What holds of each operation in the text's run. -/
structure RGood (T : TypeId → TE) (O : Nat → Orc) (ops : Array Oper) (st0 : St) (i : Nat) (o : Oper) : Prop where
  pc : vguard ops (runS T O ops st0 i).1 (runS T O ops st0 i).2 o = some (rPc T O ops st0 i)
  chk : rPc T O ops st0 i = true → ∀ p ∈ (rR T O ops st0 i).chk, p
  plain : o.guard ≠ none → (rR T O ops st0 i).new = [] ∧ (rR T O ops st0 i).put = none
  ord : (rR T O ops st0 i).put ≠ none → ordB ops (Region.before ops) i = true
theorem xops_good {K : St → Prop} : ∀ (l : List Oper) (i : Nat), l = ops.toList.drop i → i ≤ ops.size → xops T O ops i l (runS T O ops st0 i).1 (runS T O ops st0 i).2 K →
    (∀ j o, i ≤ j → ops[j]? = some o → RGood T O ops st0 j o) ∧ K (runS T O ops st0 ops.size).1
  | [], i, hl, hi, h => by
    have hlen := congrArg List.length hl
    simp at hlen
    obtain rfl : i = ops.size := by omega
    refine ⟨fun j o hj ho => ?_, h⟩
    have := (Array.getElem?_eq_some_iff.1 ho).1
    omega
  | o :: rest, i, hl, hi, h => by
    have hlen := congrArg List.length hl
    simp at hlen
    have hi' : i < ops.size := by omega
    have ho : ops[i]? = some o := by
      have := congrArg (·[0]?) hl
      simp only [List.getElem?_cons_zero, List.getElem?_drop, Nat.add_zero] at this
      simpa using this.symm
    have hrest : rest = ops.toList.drop (i + 1) := by
      have := congrArg List.tail hl
      simpa using this
    obtain ⟨e1, e2⟩ := runS_succ (T := T) (O := O) (st0 := st0) ho
    simp only [xops] at h
    split at h
    · exact h.elim
    · rename_i pc hpc
      have hp : rPc T O ops st0 i = pc := by simp only [rPc, ho, hpc, Option.getD_some]
      have hr : rR T O ops st0 i = vop T (O i) (runS T O ops st0 i).1 o.op := by simp only [rR, ho]
      rw [← hr] at h
      cases hpu : okPut ops i (rR T O ops st0 i) with
      | false => rw [hpu] at h; exact h.elim
      | true =>
      rw [hpu] at h
      simp only [cond_true] at h
      have hord : (rR T O ops st0 i).put ≠ none → ordB ops (Region.before ops) i = true := by
        intro hn
        unfold okPut at hpu
        obtain ⟨H', hH'⟩ := Option.ne_none_iff_exists'.1 hn
        rw [hH'] at hpu
        exact hpu
      have key : RGood T O ops st0 i o ∧ xops T O ops (i + 1) rest ((runS T O ops st0 i).1.after o (rR T O ops st0 i)) ((runS T O ops st0 i).2 ++ [pc]) K := by
        split at h
        · rename_i hg
          obtain ⟨h1, h2⟩ := conj_iff h
          exact ⟨⟨by rw [hpc, hp], fun _ => h1, fun hn => absurd hg hn, hord⟩, h2⟩
        · rename_i hg hn hp2
          obtain ⟨h1, h2⟩ := conjIf_iff h
          exact ⟨⟨by rw [hpc, hp], fun hq => h1 (by rw [← hp]; exact hq), fun _ => ⟨hn, hp2⟩, hord⟩, h2⟩
        · exact h.elim
      obtain ⟨hg, hx⟩ := key
      rw [← hp, ← e1, ← e2] at hx
      obtain ⟨h3, h4⟩ := xops_good rest (i + 1) hrest hi' hx
      refine ⟨fun j oj hj hoj => ?_, h4⟩
      by_cases hji : j = i
      · subst hji
        rw [ho] at hoj
        simp only [Option.some.injEq] at hoj
        subst hoj
        exact hg
      · exact h3 j oj (by omega) hoj

theorem after_t (st : St) (o : Oper) (r : Res) (t : Nat) : (st.after o r).t t = if o.dst = some t then r.val else st.t t := by
  have h0 : ∀ (s : St) (d : Option Nat), (s.put d r.val).t t = if d = some t then r.val else s.t t := by
    intro s d
    cases d with
    | none => simp [St.put]
    | some d =>
      simp only [St.put]
      cases hq : Nat.beq t d with
      | true => have := Nat.eq_of_beq_eq_true hq; subst this; simp
      | false =>
        have hne : d ≠ t := by rintro rfl; simp at hq
        simp [hne]
  unfold St.after
  rw [h0]
/-- The temporaries in the text's run: written by no operation, or by one. -/
theorem runS_out {t : Nat} : ∀ (i : Nat), i ≤ ops.size → (∀ j o, j < i → ops[j]? = some o → o.dst ≠ some t) → (runS T O ops st0 i).1.t t = st0.t t
  | 0, _, _ => rfl
  | i + 1, hi, h => by
    have ho : ops[i]? = some (ops[i]'(by omega)) := by simp [show i < ops.size by omega]
    rw [(runS_succ ho).1, after_t, if_neg (h i _ (by omega) ho)]
    exact runS_out i (by omega) fun j o hj => h j o (by omega)
theorem runS_inn {t j : Nat} {oj : Oper} (hoj : ops[j]? = some oj) (hd : oj.dst = some t) : ∀ (i : Nat), i ≤ ops.size → j < i → (∀ k o, k < i → k ≠ j → ops[k]? = some o → o.dst ≠ some t) → (runS T O ops st0 i).1.t t = (rR T O ops st0 j).val
  | 0, _, hj, _ => by omega
  | i + 1, hi, hj, h => by
    have ho : ops[i]? = some (ops[i]'(by omega)) := by simp [show i < ops.size by omega]
    rw [(runS_succ ho).1, after_t]
    by_cases hji : j = i
    · subst hji
      rw [ho] at hoj
      simp only [Option.some.injEq] at hoj
      rw [hoj, if_pos hd]
    · rw [if_neg (h i _ (by omega) (by omega) ho)]
      exact runS_inn hoj hd i (by omega) (by omega) fun k o hk => h k o (by omega)
end
end Go.Proofs.Ytnodhjlpoaahbaa
