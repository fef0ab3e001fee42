/-
  Functions on trees: what a function hands back.
-/
import Derived.Test.YtnodhjlpoaahbaaViCode
namespace Go.Proofs.Ytnodhjlpoaahbaa
open Go.RowKit

def St.init (xs : List VV) : St := { t := fun i => xs.getD i .dead, H := fun _ => [], nx := 0 }
/-- A result that may leave the run: no pointer. -/
def VV.out1 : VV → Bool
  | .agg cs => cs.all VV.lies
  | x => x.lies
def VV.out : VV → Bool
  | .tup cs => cs.all VV.out1
  | x => x.out1
def vres1 (T : TypeId → TE) (st : St) : ResultVar → Option VV
  | .tmp t => some (st.t t)
  | .cell p t => match vload T st t (st.t p) with
    | { val := x, new := none, put := none, chk := [] } => some x
    | _ => none
def vresL (T : TypeId → TE) (st : St) : List ResultVar → Option (List VV)
  | [] => some []
  | r :: rs => match vres1 T st r, vresL T st rs with
    | some x, some xs => some (x :: xs)
    | _, _ => none
def vresults (T : TypeId → TE) (st : St) (rs : List ResultVar) : Option VV :=
  match vresL T st rs with
  | some [x] => some x
  | some xs => some (.tup xs)
  | none => none
/-- A function's end. -/
def retK (T : TypeId → TE) (rs : List ResultVar) (r : VV) : Exit → St → Prop
  | .normal, st | .ret, st => vresults T st rs = some r
  | _, _ => False

section
variable {P : Program} {T : TypeId → TE} {Sh : Shs} {N : Nat} {L : Ann} {w : World} {A : Nat → Prop} {B : Nat} {φ : Phi} {st : St} {a : Act}
theorem vres1_ok (hT : TOk P T) (h : Rel N A B st φ a w) {r : ResultVar} {x : VV} (hr : vres1 T st r = some x) :
    ∃ v, (match r with | .tmp t => pure (a.tmps.getD t undef) | .cell p t => do loadVar t (← asAddr (a.tmps.getD p undef)) : Sem Value).run P w = .ok v w ∧ V w (Mut A φ) (some φ) x v := by
  cases r with
  | tmp t =>
    simp only [vres1, Option.some.injEq] at hr
    subst hr
    exact ⟨_, rfl, h.tm t⟩
  | cell p t =>
    simp only [vres1] at hr
    split at hr
    · rename_i y hl
      simp only [Option.some.injEq] at hr
      subst hr
      have hp := h.tm p
      generalize st.t p = z at hp hl
      cases z with
      | bp id off =>
        simp only [vload] at hl
        cases hq : Nat.blt id st.nx with
        | false => rw [hq] at hl; cases hl
        | true =>
          rw [hq] at hl
          simp only [cond_true] at hl
          obtain ⟨b, hb, e⟩ := hp.bp_inv
          obtain ⟨_, c, ty, h2, h3⟩ := h.hp.box id b hb
          have hlt := h.hp.lt hb
          obtain ⟨v, e1, e2⟩ := s_take (P := P) (w := w) (A := Mut A φ) (m := some φ) hT (t := t) (cs := (st.H id).drop off) (b := b) (o := off) (u := fun j => c.getD (off + j) undef) (fun j x hx => by
            rw [List.getElem?_drop] at hx
            have : off + j < c.size := by rw [h3.1]; exact (List.getElem?_eq_some_iff.1 hx).1
            simp [World.cell?, h2, Array.getD, this]) (fun j x hx => by rw [List.getElem?_drop] at hx; exact h3.2 _ x hx) (by rw [hl]; intro p hp; simp at hp)
          rw [hl] at e2
          refine ⟨v, ?_, e2⟩
          simp only [e, asAddr, Sem.run_bind, Sem.run_pure, Result.andThen_ok]
          simpa [Instr.loadAt, Instr.sureAddr] using e1
      | tp cs =>
        simp only [vload] at hl
        obtain ⟨b, off, e, h1, h2, u, h3, h4⟩ := hp.tp_inv
        obtain ⟨v, e1, e2⟩ := s_take (P := P) (w := w) (A := Mut A φ) (m := some φ) hT (t := t) (cs := cs) (b := b) (o := off) (u := u) h3 (fun j x hx => (h4 j x hx).held) (by rw [hl]; intro p hp; simp at hp)
        rw [hl] at e2
        refine ⟨v, ?_, e2⟩
        simp only [e, asAddr, Sem.run_bind, Sem.run_pure, Result.andThen_ok]
        simpa [Instr.loadAt, Instr.sureAddr] using e1
      | _ => simp [vload, Res.bad] at hl
    · cases hr
theorem vresL_ok (hT : TOk P T) (h : Rel N A B st φ a w) : ∀ (rs : List ResultVar) (xs : List VV), vresL T st rs = some xs →
    ∃ vs : List Value, (rs.mapM (fun r => match r with | .tmp t => pure (a.tmps.getD t undef) | .cell p t => do loadVar t (← asAddr (a.tmps.getD p undef)) : ResultVar → Sem Value)).run P w = .ok vs w ∧ Says w (Mut A φ) (some φ) xs vs.toArray
  | [], xs, hx => by
    simp only [vresL, Option.some.injEq] at hx
    subst hx
    exact ⟨[], rfl, rfl, fun j x h => by simp at h⟩
  | r :: rs, xs, hx => by
    simp only [vresL] at hx
    split at hx
    · rename_i x xs' h1 h2
      simp only [Option.some.injEq] at hx
      subst hx
      obtain ⟨v, e1, e2⟩ := vres1_ok hT h h1
      obtain ⟨vs, g1, g2⟩ := vresL_ok hT h rs xs' h2
      refine ⟨v :: vs, ?_, by simp [← g2.1], fun j y hy => ?_⟩
      · rw [List.mapM_cons]
        simp only [Sem.run_bind, e1, g1, Result.andThen_ok, Sem.run_pure]
      · match j, hy with
        | 0, hy => simp only [List.getElem?_cons_zero, Option.some.injEq] at hy; subst hy; exact e2
        | j + 1, hy =>
          have := g2.2 j y hy
          simpa [Array.getD_eq_getD_getElem?] using this
    · cases hx
theorem V.out1 {x : VV} {v : Value} {m : Option Phi} (h : V w A m x v) (ho : x.out1 = true) : V w A none x v := by
  cases x with
  | agg cs =>
    obtain ⟨vs, rfl, h1, h2⟩ := h.agg_inv
    exact .agg h1 fun j x hx => (h2 j x hx).lies (List.all_eq_true.1 ho x (List.mem_of_getElem? hx))
  | _ => exact h.lies ho
theorem V.out {x : VV} {v : Value} {m : Option Phi} (h : V w A m x v) (ho : x.out = true) : V w A none x v := by
  cases x with
  | tup cs =>
    cases h with | tup h1 h2 => exact .tup h1 fun j x hx => (h2 j x hx).out1 (List.all_eq_true.1 ho x (List.mem_of_getElem? hx))
  | _ => exact h.out1 ho
theorem vresults_ok (hT : TOk P T) (h : Rel N A B st φ a w) {fn : Func} {r : VV} (hr : vresults T st fn.results.toList = some r) : ∃ v, (results fn a.tmps).run P w = .ok v w ∧ V w (Mut A φ) (some φ) r v := by
  unfold vresults at hr
  cases hx : vresL T st fn.results.toList with
  | none => rw [hx] at hr; cases hr
  | some xs =>
    obtain ⟨vs, g1, g2⟩ := vresL_ok hT h _ xs hx
    have hrun : (results fn a.tmps).run P w = .ok (if h : vs.toArray.size = 1 then vs.toArray[0] else .tuple vs.toArray) w := by
      unfold results
      rw [Array.mapM_eq_mapM_toList, Sem.run_bind, Sem.run_map]
      have key : ∀ (r : Result (List Value)), r = .ok vs w → ((r.andThen fun a w' => Result.ok a.toArray w').andThen fun a w' => Sem.run P (pure (if h : a.size = 1 then a[0] else Value.tuple a)) w') = .ok (if h : vs.toArray.size = 1 then vs.toArray[0] else .tuple vs.toArray) w := by rintro _ rfl; rfl
      exact key _ g1
    refine ⟨_, hrun, ?_⟩
    rw [hx] at hr
    match xs, hr, g2 with
    | [], hr, g2 =>
      simp only [Option.some.injEq] at hr
      subst hr
      have h0 : vs.toArray.size = 0 := g2.1
      rw [dif_neg (by omega)]
      exact .tup g2.1 g2.2
    | [x], hr, g2 =>
      simp only [Option.some.injEq] at hr
      subst hr
      have h0 : vs.toArray.size = 1 := g2.1
      rw [dif_pos h0]
      have := g2.2 0 x rfl
      simp only [Array.getD] at this
      rw [dif_pos (by omega)] at this
      exact this
    | x :: y :: xs, hr, g2 =>
      simp only [Option.some.injEq] at hr
      subst hr
      have h0 : vs.toArray.size = xs.length + 2 := by rw [g2.1]; simp
      rw [dif_neg (by omega)]
      exact .tup g2.1 g2.2

/-- What a program sees of a function once: its regions, its name, how many arguments. -/
def fnB (fn : Func) (n : Nat) : Bool := fn.body.isSome && regsB fn.ntmps (fn.body.getD .skip) && !(fn.name == "runtime.NumGoroutine") && Nat.ble n fn.ntmps
/-- A function's text. -/
def bodyOf (fn : Func) : Code := fn.body.getD .skip
/-- What is asked of a function's text. -/
def fnGoal (P : Program) (T : TypeId → TE) (Sh : Shs) (L : Ann) (fn : Func) (xs : List VV) (r : VV) : Prop :=
  xc P T Sh fn.ntmps L [] (bodyOf fn) (retK T fn.results.toList r) (St.init xs)
/-- **A function.** -/
theorem vspec_of (hT : TOk P T) (hmx : P.follows .mixedOrders = true) {f : FuncId} {fn : Func} {xs : List VV} {r : VV} (Sh : Shs) (L : Ann) (hf : P.funcs[f]? = some fn)
    (hfn : fnB fn xs.length = true) (hr : r.out = true) (h : fnGoal P T Sh L fn xs r) : VSpec P f xs r := by
  unfold fnGoal bodyOf at h
  unfold fnB at hfn
  simp only [Bool.and_eq_true, Bool.not_eq_true'] at hfn
  obtain ⟨⟨⟨hb1, hB⟩, hn⟩, hx⟩ := hfn
  obtain ⟨c, hb⟩ := Option.isSome_iff_exists.1 hb1
  rw [hb, Option.getD_some] at h hB
  refine ⟨⟨fn, hf, by rw [hb]; rfl, hn⟩, fun w A vs hA hs => ?_⟩
  have hxl := Nat.le_of_ble_eq_true hx
  have hrel : Rel fn.ntmps A w.heap.size (St.init xs) (fun _ => none) { tmps := vs ++ Array.replicate (fn.ntmps - vs.size) undef, defers := [] } w := by
    refine ⟨?_, rfl, hA, Nat.le_refl _, fun t => ?_, ⟨fun id b e => by simp at e, fun i j b e => by simp at e⟩, fun _ _ => rfl⟩
    · simp [hs.1]; omega
    · show V w _ _ (xs.getD t .dead) _
      cases hq : xs[t]? with
      | none => rw [List.getD_eq_getElem?_getD, hq]; exact .dead
      | some x =>
        have ht : t < vs.size := by rw [hs.1]; exact (List.getElem?_eq_some_iff.1 hq).1
        rw [List.getD_eq_getElem?_getD, hq]
        have := hs.2 t x hq
        have e : (vs ++ Array.replicate (fn.ntmps - vs.size) undef).getD t undef = vs.getD t undef := by
          simp [Array.getD_eq_getD_getElem?, Array.getElem?_append_left ht]
        rw [e]
        refine this.mono (Nat.le_refl _) (fun k _ hk => ⟨rfl, ?_⟩) ⟨fun id b e => e, fun k _ hn => ⟨rfl, hn⟩⟩
        rintro (h | ⟨id, e⟩)
        · exact hk h
        · simp at e
  refine calls_of_wp hf hb (Go.wp_mono ((xc_sat hT hmx c hB _ _ _ h).h A w.heap.size _ _ w hrel) ?_)
  rintro e a' w' ⟨st', φ', h1, h2, h3⟩
  have hbel : Below w.heap.size w w' := ⟨h3.os, h3.tape, h3.output, h3.size, fun k hk => h3.block k hk (by simp)⟩
  have key : vresults T st' fn.results.toList = some r → a'.defers = [] ∧ ∃ v, (results fn a'.tmps).run P w' = .ok v w' ∧ ∃ v', Ending.returned v = .returned v' ∧ V w' A none r v' ∧ Below w.heap.size w w' := by
    intro hres
    obtain ⟨v, g1, g2⟩ := vresults_ok hT h2 hres
    exact ⟨h2.df, v, g1, v, rfl, (g2.out hr).less fun k hk => .inl hk, hbel⟩
  cases e with
  | normal => exact key h1
  | ret => exact key h1
  | _ => exact h1.elim
end
end Go.Proofs.Ytnodhjlpoaahbaa
