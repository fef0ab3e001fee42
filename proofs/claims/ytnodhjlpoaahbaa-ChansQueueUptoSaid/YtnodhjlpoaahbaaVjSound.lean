/-
  Calls: what a function hands back; what a run is told of it.
-/
import Derived.Test.YtnodhjlpoaahbaaVjRel
namespace Go.Proofs.Ytnodhjlpoaahbaa
open Go.RowKit

/-- An object, some day: a box where it was, an array somewhere. -/
def PlK : Pl → Pl → Prop
  | .box b, q => q = .box b
  | .arr _ _ _, q => ∃ c n hd, q = .arr c n hd
theorem PlK.refl (p : Pl) : PlK p p := by cases p with
  | box b => rfl
  | arr c n hd => exact ⟨c, n, hd, rfl⟩
theorem PlK.trans {p q r : Pl} (h : PlK p q) (k : PlK q r) : PlK p r := by
  cases p with
  | box b => simp only [PlK] at h; subst h; exact k
  | arr c n hd => obtain ⟨_, _, _, rfl⟩ := h; exact k
theorem PlUp.kind {p q : Pl} (h : PlUp p q) : PlK p q := by
  cases p with
  | box b => exact h
  | arr c n hd => obtain ⟨c', n', hd', e, _⟩ := h; exact ⟨c', n', hd', e⟩
/-- What a run may have done to memory: its own objects have been written, others made; some have been left; the first ones are there. -/
structure Fr (b : Nat) (w : World) (φ : Phi) (w' : World) (φ' : Phi) : Prop where
  os : w'.os = w.os
  tape : w'.tape = w.tape
  output : w'.output = w.output
  size : w.heap.size ≤ w'.heap.size
  block : ∀ k, k < w.heap.size → ¬ Own φ k → w'.heap[k]? = w.heap[k]?
  new : ∀ k, Own φ' k → Own φ k ∨ w.heap.size ≤ k
  kind : ∀ id p, id < b → φ id = some p → ∃ p', φ' id = some p' ∧ PlK p p'
theorem Fr.refl (b : Nat) (w : World) (φ : Phi) : Fr b w φ w φ := ⟨rfl, rfl, rfl, Nat.le_refl _, fun _ _ _ => rfl, fun _ h => .inl h, fun _ p _ h => ⟨p, h, PlK.refl p⟩⟩
theorem Fr.of_ext {b : Nat} {w w' : World} {φ φ' : Phi} (h : Ext w φ w' φ') : Fr b w φ w' φ' :=
  ⟨h.os, h.tape, h.output, h.size, h.block, h.new, fun id p _ e => let ⟨p', e', hp⟩ := h.up id p e; ⟨p', e', hp.kind⟩⟩
theorem Fr.trans {b : Nat} {w w' w'' : World} {φ φ' φ'' : Phi} (h : Fr b w φ w' φ') (k : Fr b w' φ' w'' φ'') : Fr b w φ w'' φ'' where
  os := k.os.trans h.os
  tape := k.tape.trans h.tape
  output := k.output.trans h.output
  size := Nat.le_trans h.size k.size
  block := fun b hb hn => (k.block b (Nat.lt_of_lt_of_le hb h.size) fun e => by
    rcases h.new b e with e | e
    · exact hn e
    · omega).trans (h.block b hb hn)
  new := fun b e => by
    rcases k.new b e with e | e
    · exact h.new b e
    · exact .inr (Nat.le_trans h.size e)
  kind := fun id p hb e => by
    obtain ⟨q, e1, h1⟩ := h.kind id p hb e
    obtain ⟨r, e2, h2⟩ := k.kind id q hb e1
    exact ⟨r, e2, h1.trans h2⟩

def Callable (P : Program) (f : FuncId) : Prop := ∃ fn, P.funcs[f]? = some fn ∧ fn.body.isNone = false ∧ (fn.name == "runtime.NumGoroutine") = false
def obsH (hs : List Ob) : Nat → Ob := fun id => hs.getD id (.gone 0)
/-- A function, lent these objects, called with arguments that say this, hands back those objects (the lent ones first) and what says that. -/
structure VSpec (P : Program) (f : FuncId) (hs : List Ob) (xs : List VV) (hs' : List Ob) (r : VV) : Prop where
  callable : Callable P f
  call : ∀ (w : World) (E : Prot) (φ : Phi) (vs : Array Value), (∀ k, E.fz k → k < w.heap.size) → HRel E (obsH hs) φ w → (∀ id, φ id ≠ none ↔ id < hs.length) → Says w (E.up φ) (some φ) xs vs →
    Calls P f vs w fun e w' => ∃ v φ', e = .returned v ∧ HRel E (obsH hs') φ' w' ∧ Fr hs.length w φ w' φ' ∧ (∀ id, φ' id ≠ none ↔ id < hs'.length) ∧ V w' (E.up φ') (some φ') r v
def OrcOk (P : Program) (O : Orc) : Prop := ∀ f hs xs, (∀ p ∈ (O.run f hs xs).2, p) → VSpec P f hs xs (O.run f hs xs).1.1 (O.run f hs xs).1.2

theorem backL_at {nb : Bool} {st : St} {ids : List Nat} : ∀ {os : List Ob} {j0 j : Nat}, (backL nb st ids j0 os)[j]? = (os[j]?).map (backOb nb st ids (j0 + j))
  | [], _, _ => by simp [backL]
  | o :: os, j0, 0 => by simp [backL]
  | o :: os, j0, j + 1 => by
    simp only [backL, List.getElem?_cons_succ]
    rw [backL_at, show j0 + 1 + j = j0 + (j + 1) by omega]
theorem backL_len {nb : Bool} {st : St} {ids : List Nat} : ∀ {os : List Ob} {j0 : Nat}, (backL nb st ids j0 os).length = os.length
  | [], _ => rfl
  | o :: os, j0 => by simp [backL, backL_len]

/-- It makes objects. -/
def Makes (P : Program) (E : Prot) (φ : Phi) (nx : Nat) (obs : List Ob) (x : VV) (o : Oper) (a : Act) (w : World) : Prop :=
  ∀ (K : Act → World → Prop) (Q : Exit → Act → World → Prop), (∀ v w' pls, News w E φ nx obs pls w' → V w' (E.up (addP φ nx pls)) (some (addP φ nx pls)) x v → K (a.put o.dst v) w') → o.wp P a w K Q
theorem Makes.of {P : Program} {E : Prot} {φ : Phi} {nx : Nat} {obs : List Ob} {x : VV} {a : Act} {w : World} {o : Oper} {S : Sem Value} (he : execOp a.eval o = (do pure (.value (← S)) : Sem Next))
    (h : ∃ v w' pls, S.run P w = .ok v w' ∧ News w E φ nx obs pls w' ∧ V w' (E.up (addP φ nx pls)) (some (addP φ nx pls)) x v) : Makes P E φ nx obs x o a w := by
  obtain ⟨v, w', pls, hr, h1, h2⟩ := h
  intro K Q hK
  unfold Oper.wp
  rw [he, Sem.run_bind, hr]
  exact hK v w' pls h1 h2
/-- It makes none. -/
theorem Makes.quiet {P : Program} {E : Prot} {φ : Phi} {nx : Nat} {x : VV} {a : Act} {w : World} {o : Oper} {S : Sem Value} (he : execOp a.eval o = (do pure (.value (← S)) : Sem Next))
    (h : ∃ v, S.run P w = .ok v w ∧ V w (E.up φ) (some φ) x v) : Makes P E φ nx [] x o a w := by
  obtain ⟨v, hr, h2⟩ := h
  exact Makes.of he ⟨v, w, [], hr, News.none (Below.refl _ _), by rw [addP_nil]; exact h2⟩

section
variable {P : Program} {T : TypeId → TE} {O : Orc} {w : World} {E : Prot} {φ : Phi} {st : St} {Hc : Nat → Ob} {a : Act}
/-- The call itself. -/
theorem wp_call {o : Oper} {c : Call} {f : Operand} {g : FuncId} {vs : Array Value} (ho : o.op = .call c) (hf : c.callee = .value f) (hv : a.eval f = .func (.func g) #[] vs) (hc : Callable P g)
    {K : Act → World → Prop} {Q : Exit → Act → World → Prop} {R : Ending → World → Prop} (hcall : Calls P g (c.args.map a.eval ++ vs) w R) (hK : ∀ e w', R e w' → ∃ v, e = .returned v ∧ K (a.put o.dst v) w') : o.wp P a w K Q := by
  obtain ⟨fn, hfn, hb, hnm⟩ := hc
  have hrun : (execOp a.eval o).run P w = .ok (.enter g (c.args.map a.eval ++ vs)) w := by
    unfold execOp
    rw [ho]
    simp only [resolve, hf, hv, Deferred.ofValue, Sem.run_bind, Sem.run_pure, Result.andThen_ok, invoke, callFunc, run_program, hfn, hnm, hb, Bool.false_eq_true, if_false, Array.empty_append]
  unfold Oper.wp
  rw [hrun, Oper.upon_enter]
  refine hcall.mono ?_
  intro e w' h
  obtain ⟨v, rfl, hk⟩ := hK e w' h
  exact hk
/-- What is handed to the callee, one by one. -/
theorem args_at {c : Call} {caps : List VV} {vs : Array Value} {R : VV → Value → Prop} (h2 : ∀ y ∈ c.args.toList, R (st.val y) (a.eval y)) (e1 : vs.size = caps.length) (e2 : ∀ (j : Nat) x, caps[j]? = some x → R x (vs.getD j undef)) :
    (c.args.map a.eval ++ vs).size = (c.args.toList.map st.val ++ caps).length ∧ ∀ (j : Nat) x, (c.args.toList.map st.val ++ caps)[j]? = some x → R x ((c.args.map a.eval ++ vs).getD j undef) := by
  refine ⟨by simp [e1], fun j x hx => ?_⟩
  by_cases hj : j < c.args.size
  · rw [List.getElem?_append_left (by simpa using hj)] at hx
    rw [List.getElem?_map] at hx
    obtain ⟨z, hz, rfl⟩ := Option.map_eq_some_iff.1 hx
    have := h2 z (List.mem_of_getElem? hz)
    have hz' : c.args[j] = z := by have := (List.getElem?_eq_some_iff.1 hz).2; simpa using this
    have e : (c.args.map a.eval ++ vs).getD j undef = a.eval z := by
      simp [Array.getD, hj, hz', show j < c.args.size + vs.size by omega]
    rw [e]; exact this
  · rw [List.getElem?_append_right (by simp; omega)] at hx
    have := e2 _ x hx
    have hjl := (List.getElem?_eq_some_iff.1 hx).1
    simp at hjl this
    have e : (c.args.map a.eval ++ vs).getD j undef = vs[j - c.args.size]'(by omega) := by
      simp [Array.getD, Array.getElem_append, hj, show j < c.args.size + vs.size by omega]
    rw [e]
    rw [Array.getElem?_eq_getElem (by omega)] at this
    exact this

theorem outG_mono {ids : List Nat} {j g c : Nat} (h : g ≤ c) : outG st ids j g ≤ outG st ids j c ∧ (outG st ids j g = outG st ids j c → g = c) := by
  unfold outG
  cases ids[j]? with
  | some id => exact ⟨by show (st.H id).gen + 1 + g ≤ (st.H id).gen + 1 + c; omega, fun e => by have e' : (st.H id).gen + 1 + g = (st.H id).gen + 1 + c := e; omega⟩
  | none => exact ⟨h, fun e => e⟩
theorem relPl_id {og : Nat → Nat} (h : ∀ g, og g = g) (p : Pl) : relPl og p = p := by cases p <;> simp [relPl, h]

/-- What a callee that is lent nothing hands back. -/
theorem back_news {w' : World} {φ2 : Phi} {os : List Ob} {r : VV} {v : Value} {nx : Nat} (hnx : nx = st.nx) (hid : ∀ i, i < os.length → φ (nx + i) = none)
    (h1 : HRel (E.up φ).lend (obsH os) φ2 w') (h2 : Fr 0 w (fun _ => none) w' φ2) (h3 : ∀ id, φ2 id ≠ none ↔ id < os.length) (h4 : V w' ((E.up φ).lend.up φ2) (some φ2) r v) :
    ∃ pls, News w E φ nx (backL true st [] 0 os) pls w' ∧ V w' (E.up (addP φ nx pls)) (some (addP φ nx pls)) (backV true st [] r) v := by
  subst hnx
  let pls : List Pl := (List.range os.length).map fun j => (φ2 j).getD (.box 0)
  have hpls : ∀ (j : Nat) p, pls[j]? = some p ↔ φ2 j = some p := by
    intro j p
    show ((List.range os.length).map fun j => (φ2 j).getD (.box 0))[j]? = some p ↔ _
    rw [List.getElem?_map]
    by_cases hj : j < os.length
    · obtain ⟨q, hq⟩ := Option.ne_none_iff_exists'.1 ((h3 j).2 hj)
      simp [hj, hq]
    · have : φ2 j = none := Classical.byContradiction fun h => hj ((h3 j).1 h)
      simp [hj, this]
  have hlen : pls.length = os.length := by simp [pls]
  have hnone : ∀ k, ¬ Own (fun _ => none : Phi) k := by
    rintro k ⟨id, hb⟩
    obtain ⟨p, hp, _⟩ := blk_iff.1 hb
    cases hp
  have hroom : Room w pls w' := by
    refine ⟨⟨h2.os, h2.tape, h2.output, h2.size, fun k hk => h2.block k hk (hnone k)⟩, fun i p k hi hb => ?_, fun i j p q k hi hj hpb hqb => ?_⟩
    · exact (h2.new k ⟨i, blk_iff.2 ⟨p, (hpls i p).1 hi, hb⟩⟩).resolve_left (hnone k)
    · exact h1.inj i j k (blk_iff.2 ⟨p, (hpls i p).1 hi, hpb⟩) (blk_iff.2 ⟨q, (hpls j q).1 hj, hqb⟩)
  have hid' : ∀ i, i < pls.length → φ (st.nx + i) = none := fun i hi => hid i (by rw [← hlen]; exact hi)
  have hrel : Reloc true (fun j => some (outId st [] j)) (fun j g => some (outG st [] j g)) ((E.up φ).lend.up φ2) φ2 (E.up (addP φ st.nx pls)) (addP φ st.nx pls) := by
    have hout : ∀ j, outId st [] j = st.nx + j := fun j => by simp [outId]
    refine ⟨?_, fun e => Bool.noConfusion e, fun id i b hi hb => ?_, fun id i gen g c len hd hi hg hph hgc => ?_⟩
    · rintro k (hk | hk)
      · exact .inl (.inl hk)
      · rcases (hroom.own hid').1 hk with hk | ⟨i, p, hi, hb⟩
        · exact .inl (.inr hk)
        · exact .inr ⟨i, blk_iff.2 ⟨p, (hpls i p).1 hi, hb⟩⟩
    · simp only [Option.some.injEq] at hi
      rw [← hi, hout]
      exact addP_at ((hpls id _).2 hb)
    · simp only [Option.some.injEq] at hi hg
      rw [← hi, hout]
      have hg' : g = gen := by rw [← hg]; rfl
      subst hg'
      exact ⟨c, addP_at ((hpls id _).2 hph), hgc, fun e => e⟩
  refine ⟨pls, ⟨hroom, by rw [hlen, backL_len], fun i o p hi hp => ?_⟩, relF_ok hrel _ _ _ h4⟩
  rw [backL_at] at hi
  obtain ⟨o', ho', rfl⟩ := Option.map_eq_some_iff.1 hi
  have hob := h1.ob i p ((hpls i p).1 hp)
  have hoo : obsH os i = o' := by simp [obsH, ho']
  rw [hoo] at hob
  have := relOb_ok (og := outG st [] (0 + i)) hrel hob
  rw [relPl_id (og := outG st [] (0 + i)) fun g => rfl] at this
  exact this
end
end Go.Proofs.Ytnodhjlpoaahbaa
