/-
  What is the run's own, written: into a box, into an array; what is appended.
-/
import Derived.Test.YtnodhjlpoaahbaaVjSnap
namespace Go.Proofs.Ytnodhjlpoaahbaa
open Go.RowKit

def updP (φ : Phi) (id : Nat) (p : Pl) : Phi := fun k => if k = id then some p else φ k
section
variable {P : Program} {T : TypeId → TE} {w w' : World} {E : Prot} {φ : Phi} {H H' : Nat → Ob}
theorem updP_at {id : Nat} {p : Pl} : updP φ id p id = some p := if_pos rfl
theorem updP_ne {id k : Nat} {p : Pl} (h : k ≠ id) : updP φ id p k = φ k := if_neg h

/-- One object, turned. -/
theorem HRel.upd (hr : HRel E H φ w) (hz : ∀ k, E.fz k → k < w.heap.size) {id : Nat} {p p' : Pl} (hid : φ id = some p) (hup : PlUp p p') (hos : w'.os = w.os) (htape : w'.tape = w.tape) (hout : w'.output = w.output) (hsize : w.heap.size ≤ w'.heap.size)
    (hblk : ∀ k, k < w.heap.size → ¬ PlB p k → w'.heap[k]? = w.heap[k]?) (hnew : ∀ k, PlB p' k → PlB p k ∨ w.heap.size ≤ k) :
    Ext w φ w' (updP φ id p') ∧ ∀ o, ObV w' E (updP φ id p') o p' → ∀ H', H' id = o → (∀ k, k ≠ id → φ k ≠ none → H' k = H k) → HRel E H' (updP φ id p') w' := by
  have hown : ∀ k, Own (updP φ id p') k → Own φ k ∨ w.heap.size ≤ k := by
    rintro k ⟨i, hb0⟩
    obtain ⟨q, hq, hb⟩ := blk_iff.1 hb0
    by_cases hi : i = id
    · subst hi
      rw [updP_at] at hq
      simp only [Option.some.injEq] at hq
      subst hq
      exact (hnew k hb).imp (fun h => ⟨i, blk_iff.2 ⟨p, hid, h⟩⟩) fun h => h
    · rw [updP_ne hi] at hq; exact .inl ⟨i, blk_iff.2 ⟨q, hq, hb⟩⟩
  have hext : Ext w φ w' (updP φ id p') := by
    refine ⟨hos, htape, hout, hsize, fun k hk hn => hblk k hk fun hb => hn ⟨id, blk_iff.2 ⟨p, hid, hb⟩⟩, fun i q e => ?_, hown⟩
    by_cases hi : i = id
    · subst hi; rw [hid] at e; simp only [Option.some.injEq] at e; subst e; exact ⟨p', updP_at, hup⟩
    · exact ⟨q, by rw [updP_ne hi]; exact e, PlUp.refl q⟩
  refine ⟨hext, fun o ho H' hH hH' => ⟨hr.sub, fun i q e => ?_, fun i j k hi hj => ?_, fun k hk hf => ?_⟩⟩
  · by_cases hi : i = id
    · subst hi
      rw [updP_at] at e
      simp only [Option.some.injEq] at e
      subst e
      rw [hH]; exact ho
    · rw [updP_ne hi] at e
      rw [hH' i hi (by rw [e]; simp)]
      refine (hr.ob i q e).ext hext fun k hk hlt => hblk k hlt fun hb => hi ?_
      exact hr.inj i id k (blk_iff.2 ⟨q, e, hk⟩) (blk_iff.2 ⟨p, hid, hb⟩)
  · obtain ⟨q, hq, hqb⟩ := blk_iff.1 hi
    obtain ⟨r, hr', hrb⟩ := blk_iff.1 hj
    have old : ∀ {i' : Nat} {q' : Pl}, i' ≠ id → φ i' = some q' → PlB q' k → PlB p' k → False := by
      intro i' q' hne e hb hb'
      rcases hnew k hb' with h | h
      · exact hne (hr.inj i' id k (blk_iff.2 ⟨q', e, hb⟩) (blk_iff.2 ⟨p, hid, h⟩))
      · have := hr.lt ⟨i', blk_iff.2 ⟨q', e, hb⟩⟩; omega
    by_cases h1 : i = id <;> by_cases h2 : j = id
    · rw [h1, h2]
    · subst h1
      rw [updP_at] at hq
      simp only [Option.some.injEq] at hq
      subst hq
      rw [updP_ne h2] at hr'
      exact (old h2 hr' hrb hqb).elim
    · subst h2
      rw [updP_at] at hr'
      simp only [Option.some.injEq] at hr'
      subst hr'
      rw [updP_ne h1] at hq
      exact (old h1 hq hqb hrb).elim
    · rw [updP_ne h1] at hq
      rw [updP_ne h2] at hr'
      exact hr.inj i j k (blk_iff.2 ⟨q, hq, hqb⟩) (blk_iff.2 ⟨r, hr', hrb⟩)
  · rcases hown k hk with h | h
    · exact hr.free k h hf
    · have := hz k hf; omega

/-- It writes what is the run's own. -/
def Puts (P : Program) (E : Prot) (φ : Phi) (H' : Nat → Ob) (lo hi : Nat) (x : VV) (o : Oper) (a : Act) (w : World) : Prop :=
  ∀ (K : Act → World → Prop) (Q : Exit → Act → World → Prop), (∀ v w' φ', HRel E H' φ' w' → Ext w φ w' φ' → (∀ id, φ' id ≠ none ↔ φ id ≠ none ∨ (lo ≤ id ∧ id < hi)) → V w' (E.up φ') (some φ') x v → K (a.put o.dst v) w') → o.wp P a w K Q
theorem Puts.of {o : Oper} {a : Act} {x : VV} {lo hi : Nat} {S : Sem Value} (he : execOp a.eval o = (do pure (.value (← S)) : Sem Next))
    (h : ∃ v w' φ', S.run P w = .ok v w' ∧ HRel E H' φ' w' ∧ Ext w φ w' φ' ∧ (∀ id, φ' id ≠ none ↔ φ id ≠ none ∨ (lo ≤ id ∧ id < hi)) ∧ V w' (E.up φ') (some φ') x v) : Puts P E φ H' lo hi x o a w := by
  obtain ⟨v, w', φ', hr, h1, h2, h3, h4⟩ := h
  intro K Q hK
  unfold Oper.wp
  rw [he, Sem.run_bind, hr]
  exact hK v w' φ' h1 h2 h3 h4

/-- A row of cells, written over at a place. -/
def over (c : List Value) (off : Nat) (vs : List Value) : List Value := c.take off ++ vs ++ c.drop (off + vs.length)
theorem over_len {c : List Value} {off : Nat} {vs : List Value} (h : off + vs.length ≤ c.length) : (over c off vs).length = c.length := by simp [over]; omega
theorem over_in {c : List Value} {off : Nat} {vs : List Value} (h : off + vs.length ≤ c.length) {j : Nat} (hj : j < vs.length) : (over c off vs).getD (off + j) undef = vs.getD j undef := by
  unfold over
  simp only [List.getD]
  rw [List.append_assoc, List.getElem?_append_right (by simp; omega), List.getElem?_append_left (by simp; omega)]
  congr 2; simp; omega
theorem over_out {c : List Value} {off : Nat} {vs : List Value} (h : off + vs.length ≤ c.length) {j : Nat} (hj : j < off ∨ off + vs.length ≤ j) : (over c off vs).getD j undef = c.getD j undef := by
  unfold over
  simp only [List.getD]
  rcases hj with hj | hj
  · rw [List.append_assoc, List.getElem?_append_left (by simp; omega), List.getElem?_take_of_lt hj]
  · rw [List.getElem?_append_right (by simp; omega), List.getElem?_drop]
    congr 2; simp; omega
theorem toArray_getD (l : List Value) (j : Nat) : l.toArray.getD j undef = l.getD j undef := by simp [Array.getD_eq_getD_getElem?]
theorem getD_toList (c : Array Value) (j : Nat) : c.toList.getD j undef = c.getD j undef := by simp [Array.getD_eq_getD_getElem?]

/-- A store into a block of the run's own. -/
theorem setRow_facts {b : Nat} {c : Array Value} {ty : TypeId} (hc : w.heap[b]? = some (.cells c ty (0, 0))) (c' : Array Value) :
    (w.setRow b c').heap[b]? = some (.cells c' ty (0, 0)) ∧ (∀ k, k ≠ b → (w.setRow b c').heap[k]? = w.heap[k]?) ∧ (w.setRow b c').heap.size = w.heap.size ∧ (w.setRow b c').os = w.os ∧ (w.setRow b c').tape = w.tape ∧ (w.setRow b c').output = w.output :=
  ⟨setRow_heap w b c c' ty (0, 0) hc, fun k hk => setRow_other w b k c' hk, by simp, rfl, rfl, rfl⟩
end
end Go.Proofs.Ytnodhjlpoaahbaa
