/-
  Functions on trees: what a function hands back.
-/
import Derived.Test.YtnodhjlpoaahbaaVjCode
namespace Go.Proofs.Ytnodhjlpoaahbaa
open Go.RowKit

def St.init (hs : List Ob) (xs : List VV) : St := { t := fun i => xs.getD i .dead, H := obsH hs, nx := hs.length }
def vres1 (T : TypeId → TE) (st : St) : ResultVar → Option VV
  | .tmp t => some (st.t t)
  | .cell p t => match vload T st t (st.t p) with
    | { val := x, new := _, put := _, chk := [] } => some x
    | _ => none
def vresL (T : TypeId → TE) (st : St) : List ResultVar → Option (List VV)
  | [] => some []
  | r :: rs => match vres1 T st r, vresL T st rs with
    | some x, some xs => some (x :: xs)
    | _, _ => none
def vresults (T : TypeId → TE) (st : St) (rs : List ResultVar) : Option VV :=
  match vresL T st rs with
  | some [x] => some x
  | some xs => some (.tup xs)
  | none => none
/-- What is handed out: the lent objects, what the result speaks of, the result. -/
def outOb (b : Nat) (st : St) (x : VV) : Option (List Ob × VV) :=
  bif okOut st b (outIds st b (refsF 8 x)) then some ((outIds st b (refsF 8 x)).map (lendOb st (outIds st b (refsF 8 x))), lendV st (outIds st b (refsF 8 x)) x) else none
/-- (pub: the result is frozen for good.) -/
def outSt (T : TypeId → TE) (pub : Bool) (b : Nat) (rs : List ResultVar) (st : St) : Option (List Ob × VV) :=
  match vresults T st rs with
  | some x =>
    bif pub then
      match pubF st.H (st.nx + 4) x with
      | some (y, ids) => outOb b { st with H := goneIds ids st.H } y
      | none => none
    else outOb b st x
  | none => none
/-- A function's end. -/
def retK (T : TypeId → TE) (pub : Bool) (b : Nat) (rs : List ResultVar) (hs : List Ob) (r : VV) : Exit → St → Prop
  | .normal, st | .ret, st => match outSt T pub b rs st with
    | some (hs', r') => leO hs' hs ∧ VV.le r' r
    | none => False
  | _, _ => False

section
variable {P : Program} {T : TypeId → TE} {Sh : Shs} {N b : Nat} {L : Ann} {w : World} {E : Prot} {φ : Phi} {st : St} {a : Act}
theorem vres1_ok (hT : TOk P T) (h : Rel N E st φ a w) {r : ResultVar} {x : VV} (hr : vres1 T st r = some x) :
    ∃ v, (match r with | .tmp t => pure (a.tmps.getD t undef) | .cell p t => do loadVar t (← asAddr (a.tmps.getD p undef)) : Sem Value).run P w = .ok v w ∧ V w (E.up φ) (some φ) x v := by
  cases r with
  | tmp t =>
    simp only [vres1, Option.some.injEq] at hr
    subst hr
    exact ⟨_, rfl, h.tm t⟩
  | cell p t =>
    simp only [vres1] at hr
    split at hr
    · rename_i y n u hl
      simp only [Option.some.injEq] at hr
      subst hr
      have hp := h.tm p
      obtain ⟨v, e1, e2⟩ := s_load (P := P) hT h.hp (fun _ _ => rfl) hp (t := t) (by rw [hl]; intro p hp; simp at hp)
      rw [hl] at e2
      refine ⟨v, ?_, e2⟩
      have haddr : ∃ ad, a.tmps.getD p undef = .pointer (some ad) := by
        generalize a.tmps.getD p undef = vp at hp
        generalize st.t p = z at hp hl
        cases z with
        | bp id off => obtain ⟨b, _, e⟩ := hp.bp_inv; exact ⟨_, e⟩
        | ep id gen sz i o => obtain ⟨_, _, _, b, _, _, e, _⟩ := hp.ep_inv; exact ⟨_, e⟩
        | tp cs => obtain ⟨b, off, e, _⟩ := hp.tp_inv; exact ⟨_, e⟩
        | _ => simp [vload, Res.bad] at hl
      obtain ⟨ad, e⟩ := haddr
      rw [e] at e1
      simp only [e, asAddr, Sem.run_bind, Sem.run_pure, Result.andThen_ok]
      simpa [Instr.loadAt, Instr.sureAddr] using e1
    · cases hr
theorem vresL_ok (hT : TOk P T) (h : Rel N E st φ a w) : ∀ (rs : List ResultVar) (xs : List VV), vresL T st rs = some xs →
    ∃ vs : List Value, (rs.mapM (fun r => match r with | .tmp t => pure (a.tmps.getD t undef) | .cell p t => do loadVar t (← asAddr (a.tmps.getD p undef)) : ResultVar → Sem Value)).run P w = .ok vs w ∧ Says w (E.up φ) (some φ) xs vs.toArray
  | [], xs, hx => by
    simp only [vresL, Option.some.injEq] at hx
    subst hx
    exact ⟨[], rfl, rfl, fun j x h => by simp at h⟩
  | r :: rs, xs, hx => by
    simp only [vresL] at hx
    split at hx
    · rename_i x xs' h1 h2
      simp only [Option.some.injEq] at hx
      subst hx
      obtain ⟨v, e1, e2⟩ := vres1_ok hT h h1
      obtain ⟨vs, g1, g2⟩ := vresL_ok hT h rs xs' h2
      refine ⟨v :: vs, ?_, by simp [← g2.1], fun j y hy => ?_⟩
      · rw [List.mapM_cons]
        simp only [Sem.run_bind, e1, g1, Result.andThen_ok, Sem.run_pure]
      · match j, hy with
        | 0, hy => simp only [List.getElem?_cons_zero, Option.some.injEq] at hy; subst hy; exact e2
        | j + 1, hy =>
          have := g2.2 j y hy
          simpa [Array.getD_eq_getD_getElem?] using this
    · cases hx
theorem vresults_ok (hT : TOk P T) (h : Rel N E st φ a w) {fn : Func} {r : VV} (hr : vresults T st fn.results.toList = some r) : ∃ v, (results fn a.tmps).run P w = .ok v w ∧ V w (E.up φ) (some φ) r v := by
  unfold vresults at hr
  cases hx : vresL T st fn.results.toList with
  | none => rw [hx] at hr; cases hr
  | some xs =>
    obtain ⟨vs, g1, g2⟩ := vresL_ok hT h _ xs hx
    have hrun : (results fn a.tmps).run P w = .ok (if h : vs.toArray.size = 1 then vs.toArray[0] else .tuple vs.toArray) w := by
      unfold results
      rw [Array.mapM_eq_mapM_toList, Sem.run_bind, Sem.run_map]
      have key : ∀ (r : Result (List Value)), r = .ok vs w → ((r.andThen fun a w' => Result.ok a.toArray w').andThen fun a w' => Sem.run P (pure (if h : a.size = 1 then a[0] else Value.tuple a)) w') = .ok (if h : vs.toArray.size = 1 then vs.toArray[0] else .tuple vs.toArray) w := by rintro _ rfl; rfl
      exact key _ g1
    refine ⟨_, hrun, ?_⟩
    rw [hx] at hr
    match xs, hr, g2 with
    | [], hr, g2 =>
      simp only [Option.some.injEq] at hr
      subst hr
      have h0 : vs.toArray.size = 0 := g2.1
      rw [dif_neg (by omega)]
      exact .tup g2.1 g2.2
    | [x], hr, g2 =>
      simp only [Option.some.injEq] at hr
      subst hr
      have h0 : vs.toArray.size = 1 := g2.1
      rw [dif_pos h0]
      have := g2.2 0 x rfl
      simp only [Array.getD] at this
      rw [dif_pos (by omega)] at this
      exact this
    | x :: y :: xs, hr, g2 =>
      simp only [Option.some.injEq] at hr
      subst hr
      have h0 : vs.toArray.size = xs.length + 2 := by rw [g2.1]; simp
      rw [dif_neg (by omega)]
      exact .tup g2.1 g2.2

/-- What a program sees of a function once: its regions, its name, how many arguments. -/
def fnB (fn : Func) (n : Nat) : Bool := fn.body.isSome && regsB fn.ntmps (fn.body.getD .skip) && !(fn.name == "runtime.NumGoroutine") && Nat.ble n fn.ntmps
/-- A function's text. -/
def bodyOf (fn : Func) : Code := fn.body.getD .skip

theorem outOb_ok (h : HRel E st.H φ w) (hlv : ∀ id, id < st.nx → φ id ≠ none) {x : VV} {v : Value} (hx : V w (E.up φ) (some φ) x v) {hs : List Ob} {r : VV} (ho : outOb b st x = some (hs, r)) :
    ∃ φ', HRel E (obsH hs) φ' w ∧ Fr b w φ w φ' ∧ (∀ id, φ' id ≠ none ↔ id < hs.length) ∧ V w (E.up φ') (some φ') r v := by
  unfold outOb at ho
  generalize outIds st b (refsF 8 x) = ids at ho
  cases hk : okOut st b ids with
  | false => rw [hk] at ho; cases ho
  | true =>
    rw [hk] at ho
    simp only [cond_true, Option.some.injEq, Prod.mk.injEq] at ho
    obtain ⟨rfl, rfl⟩ := ho
    obtain ⟨hk1, hk2⟩ := okOut_iff hk
    refine ⟨lendP ids φ, h.lend hk1 (fun _ h => .inl h) (fun _ h => .inl h) h.sub (fun j id e => by simp [obsH, e]), lend_fr hk2, fun id => ?_, relF_ok (lend_reloc h (fun _ h => .inl h) fun _ h => .inl h) _ _ _ hx⟩
    rw [List.length_map]
    exact lend_there hk1 hlv id
theorem outSt_ok (hT : TOk P T) (h : Rel N E st φ a w) {fn : Func} {pub : Bool} {hs : List Ob} {r : VV} (ho : outSt T pub b fn.results.toList st = some (hs, r)) :
    ∃ v φ', (results fn a.tmps).run P w = .ok v w ∧ HRel E (obsH hs) φ' w ∧ Fr b w φ w φ' ∧ (∀ id, φ' id ≠ none ↔ id < hs.length) ∧ V w (E.up φ') (some φ') r v := by
  unfold outSt at ho
  split at ho
  · rename_i x hx
    obtain ⟨v, h1, h2⟩ := vresults_ok hT h hx
    cases pub with
    | false =>
      obtain ⟨φ', k1, k2, k3, k4⟩ := outOb_ok h.hp h.lv h2 ho
      exact ⟨v, φ', h1, k1, k2, k3, k4⟩
    | true =>
      simp only [cond_true] at ho
      split at ho
      · rename_i y ids hp
        have h3 := pubF_ok (ids := ids) h.hp _ x y v ids h2 hp fun _ h => h
        obtain ⟨φ', k1, k2, k3, k4⟩ := outOb_ok (st := { st with H := goneIds ids st.H }) (h.hp.gone (ids := ids)) (fun id hid e => h.lv id hid (goneP_none.1 e)) (V.held (V.unhold h3)) ho
        exact ⟨v, φ', h1, k1, (Fr.of_ext goneP_ext).trans k2, k3, k4⟩
      · cases ho
  · cases ho

/-- What is asked of a function's text. -/
def fnGoal (P : Program) (T : TypeId → TE) (Sh : Shs) (L : Ann) (pub : Bool) (fn : Func) (hs : List Ob) (xs : List VV) (hs' : List Ob) (r : VV) : Prop :=
  xc P T Sh fn.ntmps L [] (bodyOf fn) (retK T pub L.base fn.results.toList hs' r) (St.init hs xs)
/-- **A function.** -/
theorem vspec_of (hT : TOk P T) (hmx : P.follows .mixedOrders = true) {f : FuncId} {fn : Func} {hs : List Ob} {xs : List VV} {hs' : List Ob} {r : VV} (Sh : Shs) (L : Ann) (pub : Bool) (hf : P.funcs[f]? = some fn)
    (hfn : fnB fn xs.length = true) (hb : L.base = hs.length) (h : fnGoal P T Sh L pub fn hs xs hs' r) : VSpec P f hs xs hs' r := by
  unfold fnGoal bodyOf at h
  unfold fnB at hfn
  simp only [Bool.and_eq_true, Bool.not_eq_true'] at hfn
  obtain ⟨⟨⟨hb1, hB⟩, hn⟩, hx⟩ := hfn
  obtain ⟨c, hbd⟩ := Option.isSome_iff_exists.1 hb1
  rw [hbd, Option.getD_some] at h hB
  refine ⟨⟨fn, hf, by rw [hbd]; rfl, hn⟩, fun w E φ vs hz hH hφ hs1 => ?_⟩
  have hxl := Nat.le_of_ble_eq_true hx
  have hrel : Rel fn.ntmps E (St.init hs xs) φ { tmps := vs ++ Array.replicate (fn.ntmps - vs.size) undef, defers := [] } w := by
    refine ⟨?_, rfl, hz, fun t => ?_, hH, fun id hid => ?_, fun id hid => (hφ id).2 hid⟩
    · simp [hs1.1]; omega
    · show V w _ _ (xs.getD t .dead) _
      cases hq : xs[t]? with
      | none => rw [List.getD_eq_getElem?_getD, hq]; exact .dead
      | some x =>
        have ht : t < vs.size := by rw [hs1.1]; exact (List.getElem?_eq_some_iff.1 hq).1
        rw [List.getD_eq_getElem?_getD, hq]
        have := hs1.2 t x hq
        have e : (vs ++ Array.replicate (fn.ntmps - vs.size) undef).getD t undef = vs.getD t undef := by
          simp [Array.getD_eq_getD_getElem?, Array.getElem?_append_left ht]
        rw [e]
        exact this
    · have hid' : hs.length ≤ id := hid
      exact Classical.byContradiction fun hn => by have := (hφ id).1 hn; omega
  refine calls_of_wp hf hbd (Go.wp_mono ((xc_sat hT hmx c hB _ _ _ h).h E φ _ w hrel) ?_)
  rintro e a' w' ⟨st', φ', h1, h2, h3⟩
  have key : (match outSt T pub L.base fn.results.toList st' with
    | some (hs'', r') => leO hs'' hs' ∧ VV.le r' r
    | none => False) → a'.defers = [] ∧ ∃ v, (results fn a'.tmps).run P w' = .ok v w' ∧ ∃ v' φ'', Ending.returned v = .returned v' ∧ HRel E (obsH hs') φ'' w' ∧ Fr hs.length w φ w' φ'' ∧ (∀ id, φ'' id ≠ none ↔ id < hs'.length) ∧ V w' (E.up φ'') (some φ'') r v' := by
    intro hres
    split at hres
    · rename_i hs'' r' ho
      obtain ⟨v, φ'', g1, g2, g3, g4, g5⟩ := outSt_ok hT h2 ho
      have hl := (leO_at hres.1).1
      refine ⟨h2.df, v, g1, v, φ'', rfl, g2.le hres.1, ?_, fun id => by rw [← hl]; exact g4 id, hres.2 _ _ _ _ g5⟩
      rw [← hb]
      exact h3.trans g3
    · exact hres.elim
  cases e with
  | normal => exact key h1
  | ret => exact key h1
  | _ => exact h1.elim
/-- A contract that is asked less. -/
theorem VSpec.le {f : FuncId} {hs hs' hs1 hs2 : List Ob} {xs xs1 : List VV} {r r' : VV} (h : VSpec P f hs xs hs' r) (h1 : leO hs1 hs) (h2 : leL xs1 xs) (h3 : leO hs' hs2) (h4 : VV.le r r') : VSpec P f hs1 xs1 hs2 r' := by
  refine ⟨h.callable, fun w E φ vs hz hH hφ hs0 => ?_⟩
  obtain ⟨k1, k2⟩ := leL_at h2
  have hl1 := (leO_at h1).1
  have hl3 := (leO_at h3).1
  refine (h.call w E φ vs hz (hH.le h1) (fun id => by rw [← hl1]; exact hφ id) ⟨hs0.1.trans k1, fun j y hy => let ⟨x, hx, hle⟩ := k2 j y hy; hle _ _ _ _ (hs0.2 j x hx)⟩).mono ?_
  rintro e w' ⟨v, φ', e1, g1, g2, g3, g4⟩
  exact ⟨v, φ', e1, g1.le h3, by rw [hl1]; exact g2, fun id => by rw [← hl3]; exact g3 id, h4 _ _ _ _ g4⟩
end
end Go.Proofs.Ytnodhjlpoaahbaa
