/-
  An operation of the run, whatever it is: three ways: it yields, it makes a box, it stores into one.
-/
import Derived.Test.YtnodhjlpoaahbaaViSound
namespace Go.Proofs.Ytnodhjlpoaahbaa
open Go.RowKit
section
variable {P : Program} {T : TypeId → TE} {O : Orc} {w : World} {A : Nat → Prop} {B : Nat} {φ : Phi} {st : St} {Hc : Nat → List VV} {a : Act}

/-- What must be known of what the operation reads. -/
def Reads (w : World) (A : Nat → Prop) (φ : Phi) (st : St) (a : Act) : Op → Prop
  | .pick c x y => V w (Mut A φ) (some φ) (st.val c) (a.eval c) ∧ (a.eval c = .bool true → V w (Mut A φ) (some φ) (st.val x) (a.eval x)) ∧ (a.eval c = .bool false → V w (Mut A φ) (some φ) (st.val y) (a.eval y))
  | op => ∀ y ∈ op.operands.toList, V w (Mut A φ) (some φ) (st.val y) (a.eval y)

/-- It makes a box. -/
def Makes (P : Program) (A : Nat → Prop) (φ : Phi) (cs : List VV) (o : Oper) (a : Act) (w : World) : Prop :=
  ∀ (K : Act → World → Prop) (Q : Exit → Act → World → Prop), (∀ c ty, Says w (Mut A φ) (some φ) cs c → K (a.put o.dst (.pointer (some ⟨w.heap.size, 0, none⟩))) (w.alloc (.cells c ty))) → o.wp P a w K Q
/-- It stores into one. -/
def Stores (P : Program) (A : Nat → Prop) (φ : Phi) (id off : Nat) (cs : List VV) (o : Oper) (a : Act) (w : World) : Prop :=
  ∀ (K : Act → World → Prop) (Q : Exit → Act → World → Prop), (∀ b c ty (vs : List Value), φ id = some b → w.heap[b]? = some (.cells c ty (0, 0)) → Says w (Mut A φ) (some φ) cs vs.toArray → off + vs.length ≤ c.size →
    K (a.put o.dst undef) (w.setRow b (c.toList.take off ++ vs ++ c.toList.drop (off + vs.length)).toArray)) → o.wp P a w K Q

theorem V.one_cell {x : VV} {v : Value} {m : Option Phi} (h : V w A m x v) (h1 : x.one = true) : v.oneCell' = true := by
  cases h <;> first | exact h1 | rfl | cases h1
theorem one_fix {x : VV} (h : x.one = true) : vfix x = true := by
  cases x with
  | sc v => cases v <;> first | rfl | cases h
  | _ => first | rfl | cases h
theorem cells_fix {x : VV} (h : x.cells.all VV.one = true) : vfix x = true := by
  cases x with
  | agg cs => rfl
  | _ => (simp [VV.cells] at h; exact one_fix h)

theorem s_store (hT : TOk P T) (hH : HRel A B Hc φ w) (hHc : ∀ id, id < st.nx → Hc id = st.H id) {t : TypeId} {x y : VV} {o : Oper} {oa ox : Operand} (ho : o.op = .store t oa ox) (hx : V w (Mut A φ) (some φ) x (a.eval oa)) (hy : V w (Mut A φ) (some φ) y (a.eval ox))
    (hc : ∀ p ∈ (vstore T st t x y).chk, p) : ∃ id off cs, (vstore T st t x y).put = some (id, off, cs) ∧ (vstore T st t x y).new = none ∧ id < st.nx ∧ off + cs.length ≤ (st.H id).length ∧ Stores P A φ id off cs o a w := by
  unfold vstore at hc ⊢
  split at hc
  · rename_i id off
    cases hq : (Nat.blt id st.nx && (T t).k.known && Nat.beq y.cells.length (T t).sz && Nat.ble (off + y.cells.length) (st.H id).length && y.cells.all VV.one) with
    | false => rw [hq] at hc; exact not_bad hc
    | true =>
      simp only [Bool.and_eq_true] at hq
      obtain ⟨⟨⟨⟨hq1, hq2⟩, hq3⟩, hq4⟩, hq5⟩ := hq
      have h1 : id < st.nx := Nat.le_of_ble_eq_true hq1
      have h3 := Nat.eq_of_beq_eq_true hq3
      have h4 := Nat.le_of_ble_eq_true hq4
      obtain ⟨it, z, hit, hs, _⟩ := hT.size (known_ne hq2)
      refine ⟨id, off, y.cells, rfl, rfl, h1, h4, ?_⟩
      intro K Q hK
      obtain ⟨b, hb, hb2⟩ := hx.bp_inv
      obtain ⟨_, c, ty, hc2, hc3⟩ := hH.box id b hb
      rw [hHc id h1] at hc3
      have hcells := hy.cells (cells_fix hq5)
      have hfit : off + (a.eval ox).cells.toList.length ≤ c.size := by rw [Array.length_toList, hcells.1, hc3.1]; exact h4
      have hone : ∀ v ∈ (a.eval ox).cells.toList, v.oneCell' = true := by
        intro v hv
        obtain ⟨j, hj, rfl⟩ := List.getElem_of_mem hv
        have hj' : j < y.cells.length := by rw [← hcells.1]; simpa using hj
        have hV := hcells.2 j y.cells[j] (by simp [hj'])
        have e : (a.eval ox).cells.getD j undef = (a.eval ox).cells.toList[j] := by
          have : j < (a.eval ox).cells.size := by simpa using hj
          simp [Array.getD, this]
        rw [e] at hV
        exact hV.one_cell (List.all_eq_true.1 hq5 _ (List.getElem_mem _))
      have hrun := run_storeCells_at P b off ty (a.eval ox).cells.toList 0 c w hc2 (by simpa using hfit) hone
      have hsz : (a.eval ox).cells.size = it.size := by rw [hcells.1, h3, hs]
      unfold Oper.wp execOp
      rw [ho]
      simp only [hb2, Instr.storeAt, Instr.sureAddr, storeVar, sizeOf, typeInfo, Sem.run_bind, Sem.run_pure, Result.andThen_ok, run_program, hit, hsz, ne_eq, not_true, if_false, hrun, Nat.add_zero]
      exact hK b c ty _ hb hc2 (by simpa using hcells) hfit
  · exact not_bad hc

theorem parts_ok {ps : Array (Nat × Operand)} (h : ∀ y ∈ (ps.toList.map (·.2)), V w (Mut A φ) (some φ) (st.val y) (a.eval y)) :
    (ps.toList.map fun p => (p.1, st.val p.2)).length = (ps.map fun (i, x) => (i, a.eval x)).toList.length ∧ ∀ (j : Nat) p q, (ps.toList.map fun p => (p.1, st.val p.2))[j]? = some p → (ps.map fun (i, x) => (i, a.eval x)).toList[j]? = some q → p.1 = q.1 ∧ V w (Mut A φ) (some φ) p.2 q.2 := by
  refine ⟨by simp, fun j p q hp hq => ?_⟩
  rw [List.getElem?_map] at hp
  rw [Array.toList_map, List.getElem?_map] at hq
  obtain ⟨z, hz, rfl⟩ := Option.map_eq_some_iff.1 hp
  rw [hz] at hq
  simp only [Option.map_some, Option.some.injEq] at hq
  subst hq
  exact ⟨rfl, h _ (List.mem_map.2 ⟨z, List.mem_of_getElem? hz, rfl⟩)⟩

theorem vlens_shape {xs : List VV} {ts : List TypeId} (hc : ∀ p ∈ (vlens T xs ts).chk, p) : ∃ x t, xs = [x] ∧ ts = [t] :=
  match xs, ts, hc with
  | [x], [t], _ => ⟨x, t, rfl, rfl⟩
  | [], _, hc => not_bad hc
  | _ :: _ :: _, _, hc => not_bad hc
  | [_], [], hc => not_bad hc
  | [_], _ :: _ :: _, hc => not_bad hc
/-- **Every operation.** -/
theorem vop_ok (hT : TOk P T) (hO : OrcOk P O) (hH : HRel A B Hc φ w) (hHc : ∀ id, id < st.nx → Hc id = st.H id) (hA : ∀ k, A k → k < w.heap.size) {o : Oper} (hr : Reads w A φ st a o.op) (hc : ∀ p ∈ (vop T O st o.op).chk, p) :
    ((vop T O st o.op).new = none ∧ (vop T O st o.op).put = none ∧ Quiet P A φ (vop T O st o.op).val o a w) ∨
    (∃ cs, (vop T O st o.op).new = some cs ∧ (vop T O st o.op).put = none ∧ (vop T O st o.op).val = .bp st.nx 0 ∧ Makes P A φ cs o a w) ∨
    (∃ id off cs, (vop T O st o.op).put = some (id, off, cs) ∧ (vop T O st o.op).new = none ∧ id < st.nx ∧ off + cs.length ≤ (st.H id).length ∧ (vop T O st o.op).val = .dead ∧ Stores P A φ id off cs o a w) := by
  have hMut : ∀ k, Mut A φ k → k < w.heap.size := by
    rintro k (hk | ⟨id, e⟩)
    · exact hA k hk
    · obtain ⟨_, c', ty, h2', _⟩ := hH.box id k e
      rcases Nat.lt_or_ge k w.heap.size with h' | h'
      · exact h'
      · rw [Array.getElem?_eq_none h'] at h2'; cases h2'
  cases hop : o.op <;> rw [hop] at hr hc <;> simp only [vop] at hc ⊢
  case move x => exact .inl ⟨rfl, rfl, Quiet.of (S := pure (a.eval x)) (by unfold execOp; rw [hop]; rfl) ⟨_, rfl, hr x (by simp [Op.operands])⟩⟩
  case assign x => exact .inl ⟨rfl, rfl, Quiet.of (S := pure (a.eval x)) (by unfold execOp; rw [hop]; rfl) ⟨_, rfl, hr x (by simp [Op.operands])⟩⟩
  case pick c x y => exact .inl ⟨rfl, rfl, Quiet.of (by unfold execOp; rw [hop]; simp only [pure_bind, bind_assoc]) (s_pick hr.1 hr.2.1 hr.2.2 hc)⟩
  case binOp op t x y t' =>
    obtain ⟨v, h1, h2⟩ := s_bin (w := w) hT (ox := x) (oy := y) (hr x (by simp [Op.operands])) (hr y (by simp [Op.operands])) hc
    exact .inl ⟨rfl, rfl, Quiet.of (by unfold execOp; rw [hop]) ⟨v, h1, h2⟩⟩
  case unOp op t x => exact .inl ⟨rfl, rfl, Quiet.of (by unfold execOp; rw [hop]) (s_un (hr x (by simp [Op.operands])) hc)⟩
  case fieldAddr s x f => exact .inl ⟨rfl, rfl, Quiet.of (by unfold execOp; rw [hop]) (s_fieldAt hT (hr x (by simp [Op.operands])) hc)⟩
  case field s x f => exact .inl ⟨rfl, rfl, Quiet.of (by unfold execOp; rw [hop]) (s_field hT (hr x (by simp [Op.operands])) hc)⟩
  case indexAddr t x i => exact .inl ⟨rfl, rfl, Quiet.of (by unfold execOp; rw [hop]) (s_indexAt hT (hr x (by simp [Op.operands])) (hr i (by simp [Op.operands])) (fun id b e => .inr ⟨id, e⟩) hc)⟩
  case index t x i => exact .inl ⟨rfl, rfl, Quiet.of (by unfold execOp; rw [hop]) (s_index hT (hr x (by simp [Op.operands])) (hr i (by simp [Op.operands])) hc)⟩
  case extract x i => exact .inl ⟨rfl, rfl, Quiet.of (by unfold execOp; rw [hop]) (s_extract (hr x (by simp [Op.operands])) hc)⟩
  case convert s d x => exact .inl ⟨rfl, rfl, Quiet.of (by unfold execOp; rw [hop]) (s_conv hT (hr x (by simp [Op.operands])) hc)⟩
  case load t x =>
    have hx := hr x (by simp [Op.operands])
    refine .inl ⟨rfl, rfl, Quiet.of (by unfold execOp; rw [hop]) ?_⟩
    show ∃ v, _ ∧ V w _ _ (vload T st t (st.val x)).val v
    generalize st.val x = z at *
    cases z with
    | bp id off =>
      simp only [vload, Res.q] at hc ⊢
      cases hq : Nat.blt id st.nx with
      | false => rw [hq] at hc; exact not_bad hc
      | true =>
        rw [hq] at hc
        simp only [cond_true] at hc ⊢
        obtain ⟨b, hb, e⟩ := hx.bp_inv
        obtain ⟨_, c, ty, h2, h3⟩ := hH.box id b hb
        rw [hHc id (Nat.le_of_ble_eq_true hq)] at h3
        rw [e]
        refine s_take hT (u := fun j => c.getD (off + j) undef) (fun j x hx => ?_) (fun j x hx => ?_) hc
        · rw [List.getElem?_drop] at hx
          have : off + j < c.size := by rw [h3.1]; exact (List.getElem?_eq_some_iff.1 hx).1
          simp [World.cell?, h2, Array.getD, this]
        · rw [List.getElem?_drop] at hx
          exact h3.2 _ x hx
    | tp cs =>
      simp only [vload, Res.q] at hc ⊢
      obtain ⟨b, off, e, h1, h2, u, h3, h4⟩ := hx.tp_inv
      rw [e]
      exact s_take hT h3 (fun j x hx => (h4 j x hx).held) hc
    | _ => exact not_bad hc
  case slice t x lo hi mx =>
    cases mx with
    | some _ => exact not_bad hc
    | none =>
      refine .inl ⟨rfl, rfl, Quiet.of (S := Instr.sliceAt t (a.eval x) (lo.map a.eval) (hi.map a.eval) none) (by unfold execOp; rw [hop]; rfl) (s_slice hT (hr x (by simp [Op.operands])) ?_ ?_ hc)⟩
      · cases lo with
        | none => trivial
        | some l => exact hr l (by simp [Op.operands])
      · cases hi with
        | none => trivial
        | some l => exact hr l (by simp [Op.operands])
  case build t ps =>
    have hp := parts_ok (st := st) (a := a) (φ := φ) (A := A) (w := w) (ps := ps) (by have hr' : ∀ y ∈ (Op.build t ps).operands.toList, V w (Mut A φ) (some φ) (st.val y) (a.eval y) := hr; simpa [Op.operands] using hr')
    exact .inl ⟨rfl, rfl, Quiet.of (by unfold execOp; rw [hop]) (s_build hT hp.1 hp.2 hc)⟩
  case buildSlice t n ps =>
    have hp := parts_ok (st := st) (a := a) (φ := φ) (A := A) (w := w) (ps := ps) (by have hr' : ∀ y ∈ (Op.buildSlice t n ps).operands.toList, V w (Mut A φ) (some φ) (st.val y) (a.eval y) := hr; simpa [Op.operands] using hr')
    obtain ⟨v, w', h1, h2, h3⟩ := s_buildSlice (w := w) hT hMut hp.1 hp.2 hc
    refine .inl ⟨rfl, rfl, ?_⟩
    intro K Q hK
    unfold Oper.wp execOp
    rw [hop]
    simp only [Sem.run_bind, h1, Result.andThen_ok]
    exact hK v w' h2 h3
  case nilCheck x =>
    have hx := hr x (by simp [Op.operands])
    refine .inl ⟨rfl, rfl, ?_⟩
    intro K Q hK
    have run : ∀ v, ((∃ b, v = .pointer (some b)) ∨ ∃ g cs, v = .func (.func g) #[] cs) → a.eval x = v → (execOp a.eval o).run P w = .ok (.value v) w := by
      rintro v (⟨b, rfl⟩ | ⟨g, cs, rfl⟩) e <;> (unfold execOp; rw [hop]; simp only [e]; rfl)
    have key : (execOp a.eval o).run P w = .ok (.value (a.eval x)) w ∧ V w (Mut A φ) (some φ) (vnil (st.val x)).val (a.eval x) := by
      generalize st.val x = z at hx hc ⊢
      cases z with
      | bp id off =>
        obtain ⟨b, hb, e2⟩ := hx.bp_inv
        exact ⟨run _ (.inl ⟨_, e2⟩) rfl, hx⟩
      | tp cs =>
        obtain ⟨b, off, e2, _⟩ := hx.tp_inv
        exact ⟨run _ (.inl ⟨_, e2⟩) rfl, hx⟩
      | fn g cs =>
        cases g with
        | func g =>
          refine ⟨run _ (.inr ?_) rfl, hx⟩
          generalize a.eval x = v at hx
          cases hx with | fn h1 h2 => exact ⟨g, _, rfl⟩
        | _ => exact not_bad hc
      | _ => exact not_bad hc
    unfold Oper.wp
    rw [key.1]
    exact hK _ w (Below.refl _ _) key.2
  case makeFunc f first caps =>
    cases hq : first.isEmpty with
    | false => rw [hq] at hc; exact not_bad hc
    | true =>
      have h0 : first = #[] := by simpa using hq
      subst h0
      refine .inl ⟨rfl, rfl, ?_⟩
      show Quiet P A φ (.fn f (caps.toList.map st.val)) o a w
      refine Quiet.of (S := Instr.makeFunc f ((#[] : Array Operand).map a.eval) (caps.map a.eval)) (by unfold execOp; rw [hop]) ⟨.func f #[] (caps.map a.eval), by simp [Instr.makeFunc], ?_⟩
      refine .fn (by simp) fun j y hy => ?_
      rw [List.getElem?_map] at hy
      obtain ⟨z, hz, rfl⟩ := Option.map_eq_some_iff.1 hy
      have hm := hr z (by simp [Op.operands]; exact Array.mem_toList_iff.1 (List.mem_of_getElem? hz))
      obtain ⟨hj, rfl⟩ := List.getElem?_eq_some_iff.1 hz
      have e : (caps.map a.eval).getD j undef = a.eval caps.toList[j] := by
        have : j < caps.size := by simpa using hj
        simp [Array.getD, this]
      rw [e]; exact hm
  case box e x =>
    cases hq : vfix (st.val x) with
    | false => rw [hq] at hc; exact not_bad hc
    | true =>
      simp only [cond_true]
      refine .inr (.inl ⟨_, rfl, by trivial, by trivial, ?_⟩)
      intro K Q hK
      unfold Oper.wp execOp
      rw [hop]
      simp only [Instr.box, newVar, newRow, Sem.run_bind, Sem.run_pure, Result.andThen_ok, run_newObj]
      exact hK (a.eval x).cells e ((hr x (by simp [Op.operands])).cells hq)
  case alloc e =>
    cases hq : (T e).k.known with
    | false => rw [hq] at hc; exact not_bad hc
    | true =>
      simp only [cond_true]
      obtain ⟨ie, z, hie, hs, hz, hzz⟩ := hT.size (known_ne hq)
      refine .inr (.inl ⟨_, rfl, by trivial, by trivial, ?_⟩)
      intro K Q hK
      unfold Oper.wp execOp
      rw [hop]
      simp only [Instr.alloc, zeroValue, typeInfo, newVar, newRow, Sem.run_bind, Sem.run_pure, Result.andThen_ok, run_program, hie, hz, run_newObj]
      exact hK z.cells e (by rw [hzz]; exact Says.zero z.cells)
  case store t x y =>
    obtain ⟨id, off, cs, h1, h2, h3, h4, h5⟩ := s_store hT hH hHc hop (hr x (by simp [Op.operands])) (hr y (by simp [Op.operands])) hc
    refine .inr (.inr ⟨id, off, cs, h1, h2, h3, h4, ?_, h5⟩)
    unfold vstore at h1 ⊢
    split
    · cases hq : (_ && _ : Bool) <;> rfl
    · rfl
  case call c =>
    cases hcl : c.callee with
    | value f =>
      rw [hcl] at hc
      refine .inl ⟨rfl, rfl, ?_⟩
      exact s_call hO hH hHc hA hop hcl (hr f (by simp [Op.operands, Call.operands, hcl])) (fun y hy => hr y (by simp [Op.operands, Call.operands, hcl]; right; simpa using hy)) hc
    | invoke r n => rw [hcl] at hc; exact not_bad hc
    | builtin b =>
      rw [hcl] at hc
      cases b <;> try exact not_bad hc
      refine .inl ⟨rfl, rfl, ?_⟩
      replace hc : ∀ p ∈ (vlens T (c.args.toList.map st.val) c.argTypes.toList).chk, p := hc
      show Quiet P A φ (vlens T (c.args.toList.map st.val) c.argTypes.toList).val o a w
      have shape : ∃ x t, c.args = #[x] ∧ c.argTypes = #[t] := by
        obtain ⟨x', t, e1, e2⟩ := vlens_shape hc
        have hl : c.args.toList.length = 1 := by have := congrArg List.length e1; simpa using this
        match hm : c.args.toList, hl with
        | [x], _ => exact ⟨x, t, Array.ext' (by simpa using hm), Array.ext' (by simpa using e2)⟩
      obtain ⟨x, t, hargs, htys⟩ := shape
      have hx := hr x (by simp [Op.operands, Call.operands, hcl, hargs])
      rw [hargs, htys] at hc ⊢
      obtain ⟨v, h1, h2⟩ := s_len (w := w) (ty := o.type) hT hx hc
      intro K Q hK
      unfold Oper.wp execOp
      rw [hop]
      simp only [resolve, hcl, hargs, htys, Sem.run_bind, Sem.run_pure, Result.andThen_ok, invoke, builtin, List.map_toArray, List.map_cons, List.map_nil, h1]
      exact hK v w (Below.refl _ _) h2
  all_goals exact not_bad hc
end
end Go.Proofs.Ytnodhjlpoaahbaa
