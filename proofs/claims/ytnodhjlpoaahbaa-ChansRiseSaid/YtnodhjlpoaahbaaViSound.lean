/-
  An operation of the run, whatever it is: what it leaves in memory says what the tree's operation says.
-/
import Derived.Test.YtnodhjlpoaahbaaViRun4
namespace Go.Proofs.Ytnodhjlpoaahbaa
open Go.RowKit

/-- The run's boxes hold what the state says. -/
structure HRel (A : Nat → Prop) (B : Nat) (H : Nat → List VV) (φ : Phi) (w : World) : Prop where
  box : ∀ id b, φ id = some b → B ≤ b ∧ ∃ c ty, w.heap[b]? = some (.cells c ty (0, 0)) ∧ Says w (Mut A φ) (some φ) (H id) c
  inj : ∀ i j b, φ i = some b → φ j = some b → i = j

theorem Says.ext {w w' : World} {φ φ' : Phi} {A : Nat → Prop} {cs : List VV} {vs : Array Value} (h : Says w (Mut A φ) (some φ) cs vs) (e : Ext w φ w' φ') : Says w' (Mut A φ') (some φ') cs vs :=
  ⟨h.1, fun j x hx => (h.2 j x hx).ext e⟩
theorem HRel.below {A : Nat → Prop} {B : Nat} {H : Nat → List VV} {φ : Phi} {w w' : World} (h : HRel A B H φ w) (hb : Below w.heap.size w w') : HRel A B H φ w' := by
  refine ⟨fun id b e => ?_, h.inj⟩
  obtain ⟨h1, c, ty, h2, h3⟩ := h.box id b e
  have hlt : b < w.heap.size := by
    rcases Nat.lt_or_ge b w.heap.size with h' | h'
    · exact h'
    · rw [Array.getElem?_eq_none h'] at h2; cases h2
  exact ⟨h1, c, ty, (hb.block b hlt).trans h2, h3.ext (Ext.of_below hb)⟩

/-! ### Callees -/
def Callable (P : Program) (f : FuncId) : Prop := ∃ fn, P.funcs[f]? = some fn ∧ fn.body.isNone = false ∧ (fn.name == "runtime.NumGoroutine") = false
/-- A function, called with arguments that say this, hands back what says that; of what was there nothing has turned. -/
structure VSpec (P : Program) (f : FuncId) (xs : List VV) (r : VV) : Prop where
  callable : Callable P f
  call : ∀ (w : World) (A : Nat → Prop) (vs : Array Value), (∀ k, A k → k < w.heap.size) → Says w A (some fun _ => none) xs vs →
    Calls P f vs w fun e w' => ∃ v, e = .returned v ∧ V w' A none r v ∧ Below w.heap.size w w'
def OrcOk (P : Program) (O : Orc) : Prop := ∀ f xs, (∀ p ∈ (O f xs).2, p) → VSpec P f xs (O f xs).1

section
variable {P : Program} {T : TypeId → TE} {O : Orc} {w : World} {A : Nat → Prop} {B : Nat} {φ : Phi} {st : St} {Hc : Nat → List VV} {a : Act}

theorem snap1_ok (hH : HRel A B Hc φ w) (hHc : ∀ id, id < st.nx → Hc id = st.H id) {x y : VV} {v : Value} (h : V w (Mut A φ) (some φ) x v) (hs : snap1 st x = some y) : V w (Mut A φ) (some fun _ => none) y v := by
  cases x with
  | dead => simp only [snap1, Option.some.injEq] at hs; subst hs; exact .dead
  | sc u => simp only [snap1, Option.some.injEq] at hs; subst hs; exact h.lies rfl
  | sl n sz f => simp only [snap1, Option.some.injEq] at hs; subst hs; exact h.lies rfl
  | tp cs =>
    simp only [snap1, Option.some.injEq] at hs; subst hs
    obtain ⟨b, off, rfl, h1, _, u, h3, h4⟩ := h.tp_inv
    exact .tp u h1 (by simp) h3 h4
  | bp id off =>
    simp only [snap1] at hs
    cases hq : (Nat.blt id st.nx && ((st.H id).drop off).all VV.lies) with
    | false => rw [hq] at hs; cases hs
    | true =>
      rw [hq] at hs
      simp only [cond_true, Option.some.injEq] at hs
      subst hs
      rw [Bool.and_eq_true] at hq
      obtain ⟨hq1, hq2⟩ := hq
      obtain ⟨b, hb, rfl⟩ := h.bp_inv
      obtain ⟨_, c, ty, h2, h3⟩ := hH.box id b hb
      rw [hHc id (Nat.le_of_ble_eq_true hq1)] at h3
      have hlt : b < w.heap.size := by
        rcases Nat.lt_or_ge b w.heap.size with h' | h'
        · exact h'
        · rw [Array.getElem?_eq_none h'] at h2; cases h2
      refine .tp (fun j => c.getD (off + j) undef) hlt (by simp) (fun j x hx => ?_) (fun j x hx => ?_)
      · rw [List.getElem?_drop] at hx
        have : off + j < c.size := by rw [h3.1]; exact (List.getElem?_eq_some_iff.1 hx).1
        simp [World.cell?, h2, Array.getD, this]
      · have hl : x.lies = true := List.all_eq_true.1 hq2 x (List.mem_of_getElem? hx)
        rw [List.getElem?_drop] at hx
        exact (h3.2 _ x hx).lies hl
  | agg cs =>
    simp only [snap1] at hs
    cases hq : cs.all VV.lies with
    | false => rw [hq] at hs; cases hs
    | true =>
      rw [hq] at hs
      simp only [cond_true, Option.some.injEq] at hs
      subst hs
      obtain ⟨vs, rfl, h1, h2⟩ := h.agg_inv
      exact .agg h1 fun j x hx => (h2 j x hx).lies (List.all_eq_true.1 hq x (List.mem_of_getElem? hx))
  | tup cs => simp [snap1] at hs
  | fn g cs =>
    simp only [snap1] at hs
    cases hq : cs.all VV.lies with
    | false => rw [hq] at hs; cases hs
    | true =>
      rw [hq] at hs
      simp only [cond_true, Option.some.injEq] at hs
      subst hs
      cases h with | fn h1 h2 => exact .fn h1 fun j x hx => (h2 j x hx).lies (List.all_eq_true.1 hq x (List.mem_of_getElem? hx))
theorem snapL_ok {f : VV → Option VV} : ∀ {xs ys : List VV}, snapL f xs = some ys → ys.length = xs.length ∧ ∀ (j : Nat) y, ys[j]? = some y → ∃ x, xs[j]? = some x ∧ f x = some y
  | [], ys, h => by simp only [snapL, Option.some.injEq] at h; subst h; exact ⟨rfl, fun j y h => by simp at h⟩
  | x :: xs, ys, h => by
    simp only [snapL] at h
    split at h
    · rename_i y ys' h1 h2
      simp only [Option.some.injEq] at h
      subst h
      obtain ⟨e1, e2⟩ := snapL_ok h2
      refine ⟨by simp [e1], fun j z hz => ?_⟩
      match j, hz with
      | 0, hz => simp only [List.getElem?_cons_zero, Option.some.injEq] at hz; subst hz; exact ⟨x, rfl, h1⟩
      | j + 1, hz => exact e2 j z hz
    · cases h
theorem snap_ok (hH : HRel A B Hc φ w) (hHc : ∀ id, id < st.nx → Hc id = st.H id) {x y : VV} {v : Value} (h : V w (Mut A φ) (some φ) x v) (hs : snap st x = some y) : V w (Mut A φ) (some fun _ => none) y v := by
  cases x with
  | fn g cs =>
    simp only [snap, Option.map_eq_some_iff] at hs
    obtain ⟨ys, hs, rfl⟩ := hs
    obtain ⟨e1, e2⟩ := snapL_ok hs
    cases h with | fn h1 h2 =>
    refine .fn (by rw [h1, e1]) fun j y hy => ?_
    obtain ⟨x, hx, hxy⟩ := e2 j y hy
    exact snap1_ok hH hHc (h2 j x hx) hxy
  | _ => exact snap1_ok hH hHc h hs

/-- The operation yields what is said, of the old blocks none has turned. -/
def Quiet (P : Program) (A : Nat → Prop) (φ : Phi) (x : VV) (o : Oper) (a : Act) (w : World) : Prop :=
  ∀ (K : Act → World → Prop) (Q : Exit → Act → World → Prop), (∀ v w', Below w.heap.size w w' → V w' (Mut A φ) (some φ) x v → K (a.put o.dst v) w') → o.wp P a w K Q
theorem Quiet.of {o : Oper} {x : VV} {S : Sem Value} (he : execOp a.eval o = (do pure (.value (← S)) : Sem Next)) (h : ∃ v, S.run P w = .ok v w ∧ V w (Mut A φ) (some φ) x v) : Quiet P A φ x o a w := by
  obtain ⟨v, hr, hV⟩ := h
  intro K Q hK
  unfold Oper.wp
  rw [he, Sem.run_bind, hr]
  exact hK v w (Below.refl _ _) hV

theorem s_call (hO : OrcOk P O) (hH : HRel A B Hc φ w) (hHc : ∀ id, id < st.nx → Hc id = st.H id) (hA : ∀ k, A k → k < w.heap.size) {o : Oper} {c : Call} {f : Operand} (ho : o.op = .call c) (hf : c.callee = .value f)
    (h1 : V w (Mut A φ) (some φ) (st.val f) (a.eval f)) (h2 : ∀ y ∈ c.args.toList, V w (Mut A φ) (some φ) (st.val y) (a.eval y)) (hc : ∀ p ∈ (vcall O st (st.val f) (c.args.toList.map st.val)).chk, p) :
    Quiet P A φ (vcall O st (st.val f) (c.args.toList.map st.val)).val o a w := by
  generalize hx : st.val f = x at *
  unfold vcall at hc ⊢
  split at hc
  · rename_i g caps
    split at hc
    · rename_i xs hs
      generalize hv : a.eval f = vf at h1
      cases h1 with | fn e1 e2 =>
      rename_i vs
      have hsp := hO g xs hc
      obtain ⟨fn, hfn, hb, hnm⟩ := hsp.callable
      have hsays : Says w (Mut A φ) (some fun _ => none) xs (c.args.map a.eval ++ vs) := by
        obtain ⟨l1, l2⟩ := snapL_ok hs
        refine ⟨by rw [l1]; simp [e1], fun j y hy => ?_⟩
        obtain ⟨x, hx, hxy⟩ := l2 j y hy
        refine snap_ok hH hHc ?_ hxy
        by_cases hj : j < c.args.size
        · rw [List.getElem?_append_left (by simpa using hj)] at hx
          rw [List.getElem?_map] at hx
          obtain ⟨z, hz, rfl⟩ := Option.map_eq_some_iff.1 hx
          have := h2 z (List.mem_of_getElem? hz)
          have hz' : c.args[j] = z := by have := (List.getElem?_eq_some_iff.1 hz).2; simpa using this
          have e : (c.args.map a.eval ++ vs).getD j undef = a.eval z := by
            simp [Array.getD, Array.getElem_append, hj, hz', show j < c.args.size + vs.size by omega]
          rw [e]; exact this
        · rw [List.getElem?_append_right (by simp; omega)] at hx
          have := e2 _ x hx
          have hjl := (List.getElem?_eq_some_iff.1 hx).1
          simp at hjl this
          have e : (c.args.map a.eval ++ vs).getD j undef = vs[j - c.args.size]'(by omega) := by
            simp [Array.getD, Array.getElem_append, hj, show j < c.args.size + vs.size by omega]
          rw [e]
          rw [Array.getElem?_eq_getElem (by omega)] at this
          exact this
      have hcall := hsp.call w (Mut A φ) (c.args.map a.eval ++ vs) (by
        rintro k (hk | ⟨id, e⟩)
        · exact hA k hk
        · obtain ⟨_, c', ty, h2', _⟩ := hH.box id k e
          rcases Nat.lt_or_ge k w.heap.size with h' | h'
          · exact h'
          · rw [Array.getElem?_eq_none h'] at h2'; cases h2') hsays
      intro K Q hK
      have hrun : (execOp a.eval o).run P w = .ok (.enter g (c.args.map a.eval ++ vs)) w := by
        unfold execOp
        rw [ho]
        simp only [resolve, hf, hv, Deferred.ofValue, Sem.run_bind, Sem.run_pure, Result.andThen_ok, invoke, callFunc, run_program, hfn, hnm, hb, Bool.false_eq_true, if_false, Array.empty_append]
      unfold Oper.wp
      rw [hrun, Oper.upon_enter]
      refine hcall.mono ?_
      rintro e w' ⟨v, rfl, hV, hB⟩
      exact hK v w' hB (hV.mono (Nat.le_refl _) (fun k _ hk => ⟨rfl, hk⟩) (by trivial : ModeUp w' w' none none)).held
    · exact not_bad hc
  · exact not_bad hc
end
end Go.Proofs.Ytnodhjlpoaahbaa
