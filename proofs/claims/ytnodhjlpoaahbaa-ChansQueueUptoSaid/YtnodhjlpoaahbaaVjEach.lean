/-
  An operation of the run, whatever it is: it makes objects, or it writes what is the run's own.
-/
import Derived.Test.YtnodhjlpoaahbaaVjCall
namespace Go.Proofs.Ytnodhjlpoaahbaa
open Go.RowKit
section
variable {P : Program} {T : TypeId → TE} {O : Orc} {w : World} {E : Prot} {φ : Phi} {st : St} {Hc : Nat → Ob} {a : Act}

/-- What must be known of what the operation reads. -/
def Reads (w : World) (E : Prot) (φ : Phi) (st : St) (a : Act) : Op → Prop
  | .pick c x y => V w (E.up φ) (some φ) (st.val c) (a.eval c) ∧ (a.eval c = .bool true → V w (E.up φ) (some φ) (st.val x) (a.eval x)) ∧ (a.eval c = .bool false → V w (E.up φ) (some φ) (st.val y) (a.eval y))
  | op => ∀ y ∈ op.operands.toList, V w (E.up φ) (some φ) (st.val y) (a.eval y)

theorem parts_ok {ps : Array (Nat × Operand)} (h : ∀ y ∈ (ps.toList.map (·.2)), V w (E.up φ) (some φ) (st.val y) (a.eval y)) :
    (ps.toList.map fun p => (p.1, st.val p.2)).length = (ps.map fun (i, x) => (i, a.eval x)).toList.length ∧ ∀ (j : Nat) p q, (ps.toList.map fun p => (p.1, st.val p.2))[j]? = some p → (ps.map fun (i, x) => (i, a.eval x)).toList[j]? = some q → p.1 = q.1 ∧ V w (E.up φ) (some φ) p.2 q.2 := by
  refine ⟨by simp, fun j p q hp hq => ?_⟩
  rw [List.getElem?_map] at hp
  rw [Array.toList_map, List.getElem?_map] at hq
  obtain ⟨z, hz, rfl⟩ := Option.map_eq_some_iff.1 hp
  rw [hz] at hq
  simp only [Option.map_some, Option.some.injEq] at hq
  subst hq
  exact ⟨rfl, h _ (List.mem_map.2 ⟨z, List.mem_of_getElem? hz, rfl⟩)⟩
theorem vlens_shape {xs : List VV} {ts : List TypeId} (hc : ∀ p ∈ (vlens T xs ts).chk, p) : ∃ x t, xs = [x] ∧ ts = [t] :=
  match xs, ts, hc with
  | [x], [t], _ => ⟨x, t, rfl, rfl⟩
  | [], _, hc => not_bad hc
  | _ :: _ :: _, _, hc => not_bad hc
  | [_], [], hc => not_bad hc
  | [_], _ :: _ :: _, hc => not_bad hc
theorem vapps_shape {xs : List VV} {ts : List TypeId} (hc : ∀ p ∈ (vapps T st xs ts).chk, p) : ∃ x y t, xs = [x, y] ∧ ts = [t, t] := by
  unfold vapps at hc
  split at hc
  · rename_i x y t t'
    cases hq : Nat.beq t t' with
    | false => rw [hq] at hc; exact not_bad hc
    | true => have := Nat.eq_of_beq_eq_true hq; subst this; exact ⟨x, y, t, rfl, rfl⟩
  · exact not_bad hc
theorem vmm_shape {b : Bool} {xs : List VV} (hc : ∀ p ∈ (vmm b xs).chk, p) : ∃ k x y, xs = [.sc (.int k x), .sc (.int k y)] := by
  unfold vmm at hc
  split at hc
  · rename_i k x k' y
    cases hq : decide (k = k') with
    | false => rw [hq] at hc; exact not_bad hc
    | true => have := of_decide_eq_true hq; subst this; exact ⟨k, x, y, rfl⟩
  · exact not_bad hc
theorem two_of {β : Type} {f : Operand → β} {args : Array Operand} {x y : β} (h : args.toList.map f = [x, y]) : ∃ u v, args = #[u, v] ∧ f u = x ∧ f v = y := by
  have hl : args.toList.length = 2 := by have := congrArg List.length h; simpa using this
  match hm : args.toList, hl with
  | [u, v], _ =>
    rw [hm] at h
    simp only [List.map_cons, List.map_nil, List.cons.injEq, and_true] at h
    exact ⟨u, v, Array.ext' (by simpa using hm), h.1, h.2⟩

theorem put_build {t : TypeId} {n : Nat} {ps : List (Nat × VV)} : (vbuildSlice T st t n ps).put = none := by
  unfold vbuildSlice
  split
  · generalize (_ && _ : Bool) = q
    cases q with
    | false => rfl
    | true =>
      simp only [cond_true]
      split
      · rename_i cs _
        cases cs.all VV.one <;> rfl
      · rfl
  · rfl
theorem new_build {t : TypeId} {n : Nat} {ps : List (Nat × VV)} (hc : ∀ p ∈ (vbuildSlice T st t n ps).chk, p) : (vbuildSlice T st t n ps).new.length ≠ 0 := by
  revert hc
  unfold vbuildSlice
  split
  · generalize (_ && _ : Bool) = q
    cases q with
    | false => intro hc; exact not_bad hc
    | true =>
      simp only [cond_true]
      split
      · rename_i cs _
        cases cs.all VV.one with
        | false => intro hc; exact not_bad hc
        | true => intro _ h; cases h
      · intro hc; exact not_bad hc
  · intro hc; exact not_bad hc
theorem put_make {t : TypeId} {x y : VV} : (vmake T st t x y).put = none := by
  unfold vmake
  split
  · generalize (_ && _ : Bool) = q; cases q <;> rfl
  · rfl
theorem put_store {t : TypeId} {zx zy : VV} (hc : ∀ p ∈ (vstore T st t zx zy).chk, p) : ∃ H', (vstore T st t zx zy).put = some H' := by
  revert hc
  unfold vstore
  split
  · rename_i id off
    generalize (_ && _ : Bool) = q
    cases q with
    | false => intro hc; exact not_bad hc
    | true =>
      simp only [cond_true]
      split
      · cases Nat.ble (off + zy.cells.length) (List.length _) with
        | false => intro hc; exact not_bad hc
        | true => intro _; exact ⟨_, rfl⟩
      · intro hc; exact not_bad hc
  · generalize (_ && _ : Bool) = q
    cases q with
    | false => intro hc; exact not_bad hc
    | true =>
      simp only [cond_true]
      split
      · split
        · generalize (_ && _ : Bool) = q
          cases q with
          | false => intro hc; exact not_bad hc
          | true => intro _; exact ⟨_, rfl⟩
        · intro hc; exact not_bad hc
      · intro hc; exact not_bad hc
  · intro hc; exact not_bad hc
theorem put_append {t : TypeId} {zx zy : VV} (hc : ∀ p ∈ (vappend T st t zx zy).chk, p) : ∃ H', (vappend T st t zx zy).put = some H' := by
  revert hc
  unfold vappend
  split
  · generalize (_ && _ : Bool) = q
    cases q with
    | false => intro hc; exact not_bad hc
    | true =>
      simp only [cond_true]
      split
      · split
        · intro _; exact ⟨_, rfl⟩
        · generalize (_ && _ : Bool) = q
          cases q with
          | false => intro hc; exact not_bad hc
          | true =>
            simp only [cond_true]
            split
            · generalize (_ && _ : Bool) = q
              cases q with
              | false => intro hc; exact not_bad hc
              | true => intro _; exact ⟨_, rfl⟩
            · generalize (_ && _ : Bool) = q
              cases q with
              | false => intro hc; exact not_bad hc
              | true =>
                simp only [cond_true]
                split
                · generalize (_ && _ : Bool) = q
                  cases q with
                  | false => intro hc; exact not_bad hc
                  | true => intro _; exact ⟨_, rfl⟩
                · intro hc; exact not_bad hc
            · intro hc; exact not_bad hc
        · intro hc; exact not_bad hc
      · intro hc; exact not_bad hc
  · intro hc; exact not_bad hc
theorem s_mm {b : Bool} {k : IntKind} {x y : Int} : ∃ v, ((bif b then Builtin.max_ #[] 0 #[.int k x, .int k y] else Builtin.min_ #[] 0 #[.int k x, .int k y]) : Sem Value).run P w = .ok v w ∧ V w E (some φ) (vmm b [.sc (.int k x), .sc (.int k y)]).val v := by
  cases b with
  | true =>
    refine ⟨.int k (max x y), ?_, ?_⟩
    · have : (if y > x then y else x) = max x y := by split <;> omega
      simp [Builtin.max_, Builtin.max2, this]
    · simp only [vmm, decide_true, cond_true, Res.ok]; exact .sc
  | false =>
    refine ⟨.int k (min x y), ?_, ?_⟩
    · have : (if y < x then y else x) = min x y := by split <;> omega
      simp [Builtin.min_, Builtin.min2, this]
    · simp only [vmm, decide_true, cond_true, cond_false, Res.ok]; exact .sc

theorem s_load (hT : TOk P T) (hH : HRel E Hc φ w) (hHc : ∀ id, id < st.nx → Hc id = st.H id) {t : TypeId} {x : VV} {vx : Value} (hx : V w (E.up φ) (some φ) x vx) (hc : ∀ p ∈ (vload T st t x).chk, p) :
    ∃ v, (Instr.loadAt t vx).run P w = .ok v w ∧ V w (E.up φ) (some φ) (vload T st t x).val v := by
  cases x with
  | bp id off =>
    simp only [vload] at hc ⊢
    cases hq : Nat.blt id st.nx with
    | false => rw [hq] at hc; exact not_bad hc
    | true =>
      rw [hq] at hc
      simp only [cond_true] at hc ⊢
      obtain ⟨b, hb, e⟩ := hx.bp_inv
      have hob := hH.ob id _ hb
      rw [hHc id (Nat.le_of_ble_eq_true hq)] at hob
      cases hHi : st.H id with
      | arr => rw [hHi] at hc; exact not_bad hc
      | gone => rw [hHi] at hc; exact not_bad hc
      | box cs =>
        rw [hHi] at hob hc
        obtain ⟨c, ty, h2, h3⟩ := hob
        rw [e]
        refine s_take hT (u := fun j => c.getD (off + j) undef) (fun j x hx => ?_) (fun j x hx => ?_) hc
        · rw [List.getElem?_drop] at hx
          exact cell_at h2 (by rw [h3.1]; exact (List.getElem?_eq_some_iff.1 hx).1)
        · rw [List.getElem?_drop] at hx
          exact h3.2 _ x hx
  | ep id gen sz i o =>
    simp only [vload] at hc ⊢
    cases hq : Nat.blt id st.nx with
    | false => rw [hq] at hc; exact not_bad hc
    | true =>
      rw [hq] at hc
      simp only [cond_true] at hc ⊢
      obtain ⟨c, len, hd, b, hph, hg, e, hcur⟩ := hx.ep_inv
      have hob := hH.ob id _ hph
      rw [hHc id (Nat.le_of_ble_eq_true hq)] at hob
      cases hHi : st.H id with
      | box cs => rw [hHi] at hc; exact not_bad hc
      | gone => rw [hHi] at hc; exact not_bad hc
      | arr fr g n s f =>
        rw [hHi] at hob hc
        obtain ⟨rfl, rfl, hrow⟩ := hob
        simp only at hc ⊢
        cases hq2 : (Nat.beq gen g && Nat.beq s sz) with
        | false => rw [hq2] at hc; exact not_bad hc
        | true =>
          rw [hq2] at hc
          simp only [cond_true] at hc ⊢
          rw [Bool.and_eq_true] at hq2
          have hsz := Nat.eq_of_beq_eq_true hq2.2
          subst hsz
          obtain ⟨hil, cap, rfl⟩ := hcur (Nat.eq_of_beq_eq_true hq2.1)
          obtain ⟨cs, ty, h1, h2, h3, h4, h5, h6, h7⟩ := hrow
          rw [e]
          have hj : ∀ (j : Nat) y, ((f i).drop o)[j]? = some y → (f i)[o + j]? = some y ∧ i * s + o + j < cs.size := by
            intro j y hy
            rw [List.getElem?_drop] at hy
            have := (List.getElem?_eq_some_iff.1 hy).1
            rw [h5 i hil] at this
            have h8 : (i + 1) * s ≤ cap * s := Nat.mul_le_mul_right _ (by omega)
            rw [Nat.add_mul] at h8
            exact ⟨hy, by rw [h2]; omega⟩
          refine s_take hT (u := fun j => cs.getD (i * s + o + j) undef) (fun j y hy => cell_at h1 (hj j y hy).2) (fun j y hy => ?_) hc
          have := (h6 i (o + j) y hil (hj j y hy).1).held
          rw [← Nat.add_assoc] at this
          exact this
  | tp cs =>
    simp only [vload] at hc ⊢
    obtain ⟨b, off, e, h1, h2, u, h3, h4⟩ := hx.tp_inv
    rw [e]
    exact s_take hT h3 (fun j x hx => (h4 j x hx).held) hc
  | _ => exact not_bad hc

theorem box_news {vs : Array Value} {cs : List VV} {ty : TypeId} (hid : φ st.nx = none) (hs : Says w (E.up φ) (some φ) cs vs) :
    News w E φ st.nx [.box cs] [.box w.heap.size] (w.alloc (.cells vs ty)) ∧ V (w.alloc (.cells vs ty)) (E.up (addP φ st.nx [.box w.heap.size])) (some (addP φ st.nx [.box w.heap.size])) (.bp st.nx 0) (.pointer (some ⟨w.heap.size, 0, none⟩)) := by
  have hroom : Room w [.box w.heap.size] (w.alloc (.cells vs ty)) := Room.one ((Below.refl _ w).alloc (Nat.le_refl _) _) fun k hk => by simp only [PlB] at hk; omega
  have hext := hroom.ext (φ := φ) (nx := st.nx) fun i hi => by
    simp only [List.length_cons, List.length_nil, Nat.zero_add, Nat.lt_one_iff] at hi
    subst hi; exact hid
  exact ⟨News.one hroom ⟨vs, ty, heap_alloc_new _ _, hs.ext hext⟩, .bp (addP_at (i := 0) rfl)⟩

/-- **Every operation.** -/
theorem vop_ok (hT : TOk P T) (hO : OrcOk P O) (hH : HRel E Hc φ w) (hHc : ∀ id, id < st.nx → Hc id = st.H id) (hz : ∀ k, E.fz k → k < w.heap.size) {o : Oper} (hr : Reads w E φ st a o.op) (hc : ∀ p ∈ (vop T O st o.op).chk, p) :
    ((vop T O st o.op).put = none ∧ ((∀ i, i < (vop T O st o.op).new.length → φ (st.nx + i) = none) → Makes P E φ st.nx (vop T O st o.op).new (vop T O st o.op).val o a w)) ∨
    (∃ H', (vop T O st o.op).put = some H' ∧ ((∀ id, st.nx ≤ id → φ id = none) → (∀ id, id < st.nx → φ id ≠ none) → HRel E st.H φ w →
      Puts P E φ (addH H' st.nx (vop T O st o.op).new) st.nx (st.nx + (vop T O st o.op).new.length) (vop T O st o.op).val o a w)) := by
  cases hop : o.op <;> rw [hop] at hr hc <;> simp only [vop] at hc ⊢
  case move x => exact .inl ⟨rfl, fun _ => Makes.quiet (S := pure (a.eval x)) (by unfold execOp; rw [hop]; rfl) ⟨_, rfl, hr x (by simp [Op.operands])⟩⟩
  case assign x => exact .inl ⟨rfl, fun _ => Makes.quiet (S := pure (a.eval x)) (by unfold execOp; rw [hop]; rfl) ⟨_, rfl, hr x (by simp [Op.operands])⟩⟩
  case pick c x y => exact .inl ⟨rfl, fun _ => Makes.quiet (by unfold execOp; rw [hop]; simp only [pure_bind, bind_assoc]) (s_pick hr.1 hr.2.1 hr.2.2 hc)⟩
  case binOp op t x y t' =>
    obtain ⟨v, h1, h2⟩ := s_bin (w := w) hT (ox := x) (oy := y) (hr x (by simp [Op.operands])) (hr y (by simp [Op.operands])) hc
    exact .inl ⟨rfl, fun _ => Makes.quiet (by unfold execOp; rw [hop]) ⟨v, h1, h2⟩⟩
  case unOp op t x => exact .inl ⟨rfl, fun _ => Makes.quiet (by unfold execOp; rw [hop]) (s_un (hr x (by simp [Op.operands])) hc)⟩
  case fieldAddr s x f => exact .inl ⟨rfl, fun _ => Makes.quiet (by unfold execOp; rw [hop]) (s_fieldAt hT (hr x (by simp [Op.operands])) hc)⟩
  case field s x f => exact .inl ⟨rfl, fun _ => Makes.quiet (by unfold execOp; rw [hop]) (s_field hT (hr x (by simp [Op.operands])) hc)⟩
  case indexAddr t x i => exact .inl ⟨rfl, fun _ => Makes.quiet (by unfold execOp; rw [hop]) (s_indexAt hT (hr x (by simp [Op.operands])) (hr i (by simp [Op.operands])) (fun k hk => hk.imp (hH.sub k) fun h => h) hc)⟩
  case index t x i => exact .inl ⟨rfl, fun _ => Makes.quiet (by unfold execOp; rw [hop]) (s_index hT (hr x (by simp [Op.operands])) (hr i (by simp [Op.operands])) hc)⟩
  case extract x i => exact .inl ⟨rfl, fun _ => Makes.quiet (by unfold execOp; rw [hop]) (s_extract (hr x (by simp [Op.operands])) hc)⟩
  case convert s d x => exact .inl ⟨rfl, fun _ => Makes.quiet (by unfold execOp; rw [hop]) (s_conv hT (hr x (by simp [Op.operands])) hc)⟩
  case load t x => exact .inl ⟨rfl, fun _ => Makes.quiet (by unfold execOp; rw [hop]) (s_load hT hH hHc (hr x (by simp [Op.operands])) hc)⟩
  case slice t x lo hi mx =>
    cases mx with
    | some _ => exact not_bad hc
    | none =>
      refine .inl ⟨rfl, fun _ => Makes.quiet (S := Instr.sliceAt t (a.eval x) (lo.map a.eval) (hi.map a.eval) none) (by unfold execOp; rw [hop]; rfl) (s_slice hT (hr x (by simp [Op.operands])) ?_ ?_ hc)⟩
      · cases lo with
        | none => trivial
        | some l => exact hr l (by simp [Op.operands])
      · cases hi with
        | none => trivial
        | some l => exact hr l (by simp [Op.operands])
  case build t ps =>
    have hp := parts_ok (st := st) (a := a) (φ := φ) (E := E) (w := w) (ps := ps) (by have hr' : ∀ y ∈ (Op.build t ps).operands.toList, V w (E.up φ) (some φ) (st.val y) (a.eval y) := hr; simpa [Op.operands] using hr')
    exact .inl ⟨rfl, fun _ => Makes.quiet (by unfold execOp; rw [hop]) (s_build hT hp.1 hp.2 hc)⟩
  case buildSlice t n ps =>
    have hp := parts_ok (st := st) (a := a) (φ := φ) (E := E) (w := w) (ps := ps) (by have hr' : ∀ y ∈ (Op.buildSlice t n ps).operands.toList, V w (E.up φ) (some φ) (st.val y) (a.eval y) := hr; simpa [Op.operands] using hr')
    refine .inl ⟨put_build, fun hid => Makes.of (S := Instr.buildSlice t n (ps.map fun (i, x) => (i, a.eval x))) (by unfold execOp; rw [hop]) ?_⟩
    have hnew := new_build hc
    exact (s_buildSlice hT (by have := hid 0 (by omega); simpa using this) hp.1 hp.2 hc).2
  case makeSlice t n m =>
    exact .inl ⟨put_make, fun _ => Makes.of (S := Instr.makeSlice t (a.eval n) (a.eval m)) (by unfold execOp; rw [hop]) (s_make hT (hr n (by simp [Op.operands])) (hr m (by simp [Op.operands])) hc).2⟩
  case nilCheck x =>
    have hx := hr x (by simp [Op.operands])
    refine .inl ⟨rfl, fun _ => ?_⟩
    intro K Q hK
    have run : ∀ v, ((∃ b, v = .pointer (some b)) ∨ ∃ g cs, v = .func (.func g) #[] cs) → a.eval x = v → (execOp a.eval o).run P w = .ok (.value v) w := by
      rintro v (⟨b, rfl⟩ | ⟨g, cs, rfl⟩) e <;> (unfold execOp; rw [hop]; simp only [e]; rfl)
    have key : (execOp a.eval o).run P w = .ok (.value (a.eval x)) w ∧ V w (E.up φ) (some φ) (vnil (st.val x)).val (a.eval x) := by
      generalize st.val x = z at hx hc ⊢
      cases z with
      | bp id off =>
        obtain ⟨b, hb, e2⟩ := hx.bp_inv
        exact ⟨run _ (.inl ⟨_, e2⟩) rfl, hx⟩
      | ep id gen sz i off =>
        obtain ⟨_, _, _, b, _, _, e2, _⟩ := hx.ep_inv
        exact ⟨run _ (.inl ⟨_, e2⟩) rfl, hx⟩
      | tp cs =>
        obtain ⟨b, off, e2, _⟩ := hx.tp_inv
        exact ⟨run _ (.inl ⟨_, e2⟩) rfl, hx⟩
      | fn g cs =>
        cases g with
        | func g =>
          refine ⟨run _ (.inr ?_) rfl, hx⟩
          generalize a.eval x = v at hx
          cases hx with | fn h1 h2 => exact ⟨g, _, rfl⟩
        | _ => exact not_bad hc
      | _ => exact not_bad hc
    unfold Oper.wp
    rw [key.1]
    exact hK _ w [] (News.none (Below.refl _ _)) (by rw [addP_nil]; exact key.2)
  case makeFunc f first caps =>
    cases hq : first.isEmpty with
    | false => rw [hq] at hc; exact not_bad hc
    | true =>
      have h0 : first = #[] := by simpa using hq
      subst h0
      refine .inl ⟨rfl, fun _ => ?_⟩
      refine Makes.quiet (S := Instr.makeFunc f ((#[] : Array Operand).map a.eval) (caps.map a.eval)) (by unfold execOp; rw [hop]) ⟨.func f #[] (caps.map a.eval), by simp [Instr.makeFunc], ?_⟩
      show V w (E.up φ) (some φ) (.fn f (caps.toList.map st.val)) _
      refine .fn (by simp) fun j y hy => ?_
      rw [List.getElem?_map] at hy
      obtain ⟨z, hz, rfl⟩ := Option.map_eq_some_iff.1 hy
      have hm := hr z (by simp [Op.operands]; exact Array.mem_toList_iff.1 (List.mem_of_getElem? hz))
      obtain ⟨hj, rfl⟩ := List.getElem?_eq_some_iff.1 hz
      have e : (caps.map a.eval).getD j undef = a.eval caps.toList[j] := by
        have : j < caps.size := by simpa using hj
        simp [Array.getD, this]
      rw [e]; exact hm
  case box e x =>
    cases hq : vfix (st.val x) with
    | false => rw [hq] at hc; exact not_bad hc
    | true =>
      simp only [cond_true]
      refine .inl ⟨by trivial, fun hid => ?_⟩
      intro K Q hK
      unfold Oper.wp execOp
      rw [hop]
      simp only [Instr.box, newVar, newRow, Sem.run_bind, Sem.run_pure, Result.andThen_ok, run_newObj]
      obtain ⟨n1, n2⟩ := box_news (ty := e) (by have := hid 0 (by simp); simpa using this) ((hr x (by simp [Op.operands])).cells hq)
      exact hK _ _ _ n1 n2
  case alloc e =>
    cases hq : (T e).k.known with
    | false => rw [hq] at hc; exact not_bad hc
    | true =>
      simp only [cond_true]
      obtain ⟨ie, z, hie, hs, hz', hzz⟩ := hT.size (known_ne hq)
      refine .inl ⟨by trivial, fun hid => ?_⟩
      intro K Q hK
      unfold Oper.wp execOp
      rw [hop]
      simp only [Instr.alloc, zeroValue, typeInfo, newVar, newRow, Sem.run_bind, Sem.run_pure, Result.andThen_ok, run_program, hie, hz', run_newObj]
      obtain ⟨n1, n2⟩ := box_news (ty := e) (E := E) (st := st) (vs := z.cells) (cs := z.cells.toList.map litVV) (by have := hid 0 (by simp); simpa using this) (Says.zero z.cells)
      rw [hzz] at hK
      exact hK _ _ _ n1 n2
  case store t x y =>
    obtain ⟨H', hH'⟩ := put_store hc
    refine .inr ⟨H', hH', fun _ _ hHs => ?_⟩
    obtain ⟨H2, h1, h2, h3, h4⟩ := s_store hT hHs hz hop (hr x (by simp [Op.operands])) (hr y (by simp [Op.operands])) hc
    rw [hH'] at h1
    simp only [Option.some.injEq] at h1
    subst h1
    rw [h2, h3]
    intro K Q hK
    refine h4 K Q fun v w' φ' g1 g2 g3 g4 => hK v w' φ' (by simpa [addH] using g1) g2 (fun id => ?_) g4
    rw [g3]
    refine ⟨fun h => h.imp (fun h => h) fun h => by omega, fun h => h.imp (fun h => h) fun h => ?_⟩
    simp only [List.length_nil] at h
    omega
  case call c =>
    cases hcl : c.callee with
    | value f =>
      rw [hcl] at hc
      exact s_call hO hH hHc hz hop hcl (hr f (by simp [Op.operands, Call.operands, hcl])) (fun y hy => hr y (by simp [Op.operands, Call.operands, hcl]; right; simpa using hy)) hc
    | invoke r n => rw [hcl] at hc; exact not_bad hc
    | builtin b =>
      rw [hcl] at hc
      cases b <;> try exact not_bad hc
      case append =>
        replace hc : ∀ p ∈ (vapps T st (c.args.toList.map st.val) c.argTypes.toList).chk, p := hc
        obtain ⟨x', y', t, e1, e2⟩ := vapps_shape hc
        obtain ⟨x, y, hargs, rfl, rfl⟩ := two_of e1
        have htys : c.argTypes = #[t, t] := Array.ext' (by simpa using e2)
        have hx := hr x (by simp [Op.operands, Call.operands, hcl, hargs])
        have hy := hr y (by simp [Op.operands, Call.operands, hcl, hargs])
        have hv : vapps T st (c.args.toList.map st.val) c.argTypes.toList = vappend T st t (st.val x) (st.val y) := by rw [e1, e2]; simp [vapps]
        show ((vapps T st (c.args.toList.map st.val) c.argTypes.toList).put = none ∧ _) ∨ _
        rw [hv] at hc ⊢
        obtain ⟨H', hH'⟩ := put_append hc
        refine .inr ⟨H', hH', fun hfr hlv hHs => ?_⟩
        obtain ⟨H2, h1, h2⟩ := s_append (ty := o.type) hT hHs hz hfr hx hy hc
        rw [hH'] at h1
        simp only [Option.some.injEq] at h1
        subst h1
        refine Puts.of (S := Builtin.append_ #[t, t] o.type #[a.eval x, a.eval y]) ?_ h2
        unfold execOp
        rw [hop]
        simp only [resolve, hcl, hargs, htys, invoke, builtin, List.map_toArray, List.map_cons, List.map_nil, pure_bind]
      case len =>
        refine .inl ⟨rfl, fun _ => ?_⟩
        replace hc : ∀ p ∈ (vlens T (c.args.toList.map st.val) c.argTypes.toList).chk, p := hc
        show Makes P E φ st.nx [] (vlens T (c.args.toList.map st.val) c.argTypes.toList).val o a w
        have shape : ∃ x t, c.args = #[x] ∧ c.argTypes = #[t] := by
          obtain ⟨x', t, e1, e2⟩ := vlens_shape hc
          have hl : c.args.toList.length = 1 := by have := congrArg List.length e1; simpa using this
          match hm : c.args.toList, hl with
          | [x], _ => exact ⟨x, t, Array.ext' (by simpa using hm), Array.ext' (by simpa using e2)⟩
        obtain ⟨x, t, hargs, htys⟩ := shape
        have hx := hr x (by simp [Op.operands, Call.operands, hcl, hargs])
        rw [hargs, htys] at hc ⊢
        obtain ⟨v, h1, h2⟩ := s_len (w := w) (ty := o.type) hT hx hc
        intro K Q hK
        unfold Oper.wp execOp
        rw [hop]
        simp only [resolve, hcl, hargs, htys, Sem.run_bind, Sem.run_pure, Result.andThen_ok, invoke, builtin, List.map_toArray, List.map_cons, List.map_nil, h1]
        exact hK v w [] (News.none (Below.refl _ _)) (by rw [addP_nil]; exact h2)
      case max =>
        refine .inl ⟨rfl, fun _ => ?_⟩
        replace hc : ∀ p ∈ (vmm true (c.args.toList.map st.val)).chk, p := hc
        show Makes P E φ st.nx [] (vmm true (c.args.toList.map st.val)).val o a w
        obtain ⟨k, x', y', e1⟩ := vmm_shape hc
        obtain ⟨x, y, hargs, e2, e3⟩ := two_of e1
        have hx := hr x (by simp [Op.operands, Call.operands, hcl, hargs])
        have hy := hr y (by simp [Op.operands, Call.operands, hcl, hargs])
        rw [e2] at hx
        rw [e3] at hy
        rw [e1]
        intro K Q hK
        unfold Oper.wp execOp
        rw [hop]
        obtain ⟨v, h1, h2⟩ := s_mm (P := P) (w := w) (E := E.up φ) (φ := φ) (b := true) (k := k) (x := x') (y := y')
        simp only [cond_true] at h1
        have h1' : (Builtin.max_ c.argTypes o.type #[.int k x', .int k y']).run P w = .ok v w := h1
        simp only [resolve, hcl, hargs, Sem.run_bind, Sem.run_pure, Result.andThen_ok, invoke, builtin, List.map_toArray, List.map_cons, List.map_nil, hx.sc_inv, hy.sc_inv, h1']
        exact hK v w [] (News.none (Below.refl _ _)) (by rw [addP_nil]; exact h2)
      case min =>
        refine .inl ⟨rfl, fun _ => ?_⟩
        replace hc : ∀ p ∈ (vmm false (c.args.toList.map st.val)).chk, p := hc
        show Makes P E φ st.nx [] (vmm false (c.args.toList.map st.val)).val o a w
        obtain ⟨k, x', y', e1⟩ := vmm_shape hc
        obtain ⟨x, y, hargs, e2, e3⟩ := two_of e1
        have hx := hr x (by simp [Op.operands, Call.operands, hcl, hargs])
        have hy := hr y (by simp [Op.operands, Call.operands, hcl, hargs])
        rw [e2] at hx
        rw [e3] at hy
        rw [e1]
        intro K Q hK
        unfold Oper.wp execOp
        rw [hop]
        obtain ⟨v, h1, h2⟩ := s_mm (P := P) (w := w) (E := E.up φ) (φ := φ) (b := false) (k := k) (x := x') (y := y')
        simp only [cond_false] at h1
        have h1' : (Builtin.min_ c.argTypes o.type #[.int k x', .int k y']).run P w = .ok v w := h1
        simp only [resolve, hcl, hargs, Sem.run_bind, Sem.run_pure, Result.andThen_ok, invoke, builtin, List.map_toArray, List.map_cons, List.map_nil, hx.sc_inv, hy.sc_inv, h1']
        exact hK v w [] (News.none (Below.refl _ _)) (by rw [addP_nil]; exact h2)
  all_goals exact not_bad hc
end
end Go.Proofs.Ytnodhjlpoaahbaa
