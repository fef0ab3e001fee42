/-
  Each operation, run: slices of slices, functions, what is built, boxes, stores.
-/
import Derived.Test.YtnodhjlpoaahbaaVjRun2
namespace Go.Proofs.Ytnodhjlpoaahbaa
open Go.RowKit
section
variable {P : Program} {T : TypeId → TE} {w : World} {E : Prot} {m : Option Phi}

/-- A bound, given or not. -/
def OV (w : World) (E : Prot) (m : Option Phi) : Option VV → Option Value → Prop
  | none, none => True
  | some x, some v => V w E m x v
  | _, _ => False
theorem vbound_run {d : Int} {x : Option VV} {v : Option Value} {n : Int} (h : vbound d x = some n) (hx : OV w E m x v) :
    (x = none ∧ v = none ∧ n = d) ∨ ∃ k, v = some (.int k n) := by
  unfold vbound at h
  split at h
  · cases v with
    | none => exact .inl ⟨rfl, rfl, by simpa using h.symm⟩
    | some _ => exact hx.elim
  · rename_i k n'
    cases v with
    | none => exact hx.elim
    | some v =>
      have e : v = .int k n' := V.sc_inv hx
      simp only [Option.some.injEq] at h
      exact .inr ⟨k, by rw [e, h]⟩
  · cases h
theorem run_bound {k : IntKind} {i : Int} {y : Nat} {c : BoundsCode} (h0 : 0 ≤ i) (h1 : i ≤ y) : (Instr.sliceBound (.int k i) y c).run P w = .ok i.toNat w := by
  simp [Instr.sliceBound, asIntOf, h0, h1]
/-- The bounds of a slice expression, known. -/
theorem run_bounds {isS : Bool} {len cap : Nat} {lo hi : Option Value} {l h : Int} (hl : (lo = none ∧ l = 0) ∨ ∃ k, lo = some (.int k l)) (hh : (hi = none ∧ h = len) ∨ ∃ k, hi = some (.int k h)) (h0 : 0 ≤ l) (h1 : l ≤ h) (h2 : h ≤ len) (h3 : len ≤ cap) :
    (Instr.sliceBounds isS len cap lo hi none).run P w = .ok (l.toNat, h.toNat, cap) w := by
  have g1 : 0 ≤ h := by omega
  have g2 : h ≤ (cap : Int) := by omega
  have g4 : (h.toNat : Int) = h := by omega
  rcases hl with ⟨rfl, rfl⟩ | ⟨k1, rfl⟩ <;> rcases hh with ⟨rfl, rfl⟩ | ⟨k2, rfl⟩ <;> simp [Instr.sliceBounds, Instr.sliceBound, asIntOf, h0, h1, g1, g2, g4]

theorem V.reslice {fz : Bool} {n sz cap l h : Nat} {f : Nat → List VV} {a : Option Addr} (hx : V w E m (.sl fz n sz f) (.slice a n cap)) (h1 : l ≤ h) (h2 : h ≤ n) :
    V w E m (.sl fz (h - l) sz fun i => f (l + i)) (.slice (if cap = l then a else a.map (·.add (l * sz))) (h - l) (cap - l)) := by
  obtain ⟨a', cap', e, hc1, hc2, hpos⟩ := hx.sl_inv
  simp only [Value.slice.injEq, true_and] at e
  obtain ⟨rfl, rfl⟩ := e
  refine V.sl_mk (by omega) (by omega) fun hp => ?_
  have hn : 0 < n := by omega
  have hne : ¬ cap = l := by omega
  obtain ⟨b, off, e, hb1, hb2, hlen, u, hc, hv⟩ := hpos hn
  have hlt : ∀ i, i < h - l → l + i < n := fun i hi => by omega
  refine ⟨b, off + l * sz, ?_, hb1, hb2, fun i hi => hlen _ (hlt i hi), fun i j => u (l + i) j, fun i j x hi hj => ?_, fun i j x hi hj => hv _ _ _ (hlt i hi) hj⟩
  · rw [e, if_neg hne]; simp [Addr.add_lit]
  · have := hc (l + i) j x (hlt i hi) hj
    rwa [Nat.add_mul, ← Nat.add_assoc] at this
theorem s_slice (hT : TOk P T) {t : TypeId} {x : VV} {lo hi : Option VV} {vx : Value} {vlo vhi : Option Value} (hx : V w E m x vx)
    (hlo : OV w E m lo vlo) (hhi : OV w E m hi vhi) (h : ∀ p ∈ (vslice T t x lo hi).chk, p) :
    ∃ v, (Instr.sliceAt t vx vlo vhi none).run P w = .ok v w ∧ V w E m (vslice T t x lo hi).val v := by
  unfold vslice at h ⊢
  split at h
  · rename_i e fz n sz f hk
    have ht := hT.sl hk
    split at h
    · rename_i l hh hbl hbh
      cases hq : ((T e).k.known && Nat.beq (T e).sz sz) with
      | false => rw [hq] at h; exact not_bad h
      | true =>
        rw [hq] at h
        simp only [cond_true] at h ⊢
        rw [Bool.and_eq_true] at hq
        obtain ⟨hq1, hq2⟩ := hq
        obtain ⟨ie, z, hie, hs, _⟩ := hT.size (known_ne hq1)
        have hsz : ie.size = sz := by rw [← hs]; exact Nat.eq_of_beq_eq_true hq2
        obtain ⟨h0, h1, h2⟩ : 0 ≤ l ∧ l ≤ hh ∧ hh ≤ n := h _ (List.mem_cons_self ..)
        have hx' := hx
        obtain ⟨a, cap, rfl, hc1, hc2, hpos⟩ := hx.sl_inv
        clear hpos
        have hb := run_bounds (P := P) (w := w) (isS := true) (len := n) (cap := cap) (lo := vlo) (hi := vhi)
          ((vbound_run hbl hlo).imp (fun ⟨_, a, b⟩ => ⟨a, b⟩) id) ((vbound_run hbh hhi).imp (fun ⟨_, a, b⟩ => ⟨a, b⟩) id) h0 h1 h2 hc1
        refine ⟨.slice (if cap = l.toNat then a else a.map (·.add (l.toNat * ie.size))) (hh.toNat - l.toNat) (cap - l.toNat), ?_, ?_⟩
        · simp [Instr.sliceAt, Instr.slice, run_underlying ht, hb, sizeOf, typeInfo, hie]
        · rw [show (hh - l).toNat = hh.toNat - l.toNat by omega, hsz]
          exact V.reslice hx' (by omega) (by omega)
    · exact not_bad h
  · rename_i e ki gen n hk
    have ht := hT.sl hk
    split at h
    · rename_i hh hbl hbh
      cases hq : (T e).k.known with
      | false => rw [hq] at h; exact not_bad h
      | true =>
        rw [hq] at h
        simp only [cond_true] at h ⊢
        obtain ⟨ie, z, hie, hs, _⟩ := hT.size (known_ne hq)
        obtain ⟨h1, h2⟩ : 0 ≤ hh ∧ hh ≤ n := h _ (List.mem_cons_self ..)
        cases hx with
        | @ow _ φ _ _ _ c len hd hd0 _ hp hg h0 hv =>
        have hle : (vlo = none ∧ (0 : Int) = 0) ∨ ∃ k, vlo = some (.int k 0) := (vbound_run hbl hlo).imp (fun ⟨_, a, b⟩ => ⟨a, b⟩) id
        have hhe : (vhi = none ∧ hh = n) ∨ ∃ k, vhi = some (.int k hh) := (vbound_run hbh hhi).imp (fun ⟨_, a, b⟩ => ⟨a, b⟩) id
        match hd0, h0, hv with
        | none, h0, hv =>
          obtain ⟨rfl, rfl⟩ := h0
          obtain rfl : hh = 0 := by omega
          have hb := run_bounds (P := P) (w := w) (isS := true) (len := 0) (cap := 0) (lo := vlo) (hi := vhi) hle hhe (Int.le_refl 0) (Int.le_refl 0) (Int.le_refl 0) (Nat.le_refl _)
          refine ⟨.slice none 0 0, by simp [Instr.sliceAt, Instr.slice, run_underlying ht, hb, sizeOf, typeInfo, hie], .ow hp hg (hd0 := none) ⟨rfl, rfl⟩ fun e => ?_⟩
          exact ⟨(hv e).1, Nat.zero_le _⟩
        | some (b, cap), h0, hv =>
          obtain ⟨rfl, hcap⟩ := h0
          have hb := run_bounds (P := P) (w := w) (isS := true) (len := n) (cap := cap) (lo := vlo) (hi := vhi) hle hhe (Int.le_refl 0) h1 h2 hcap
          refine ⟨.slice (some ⟨b, 0, none⟩) hh.toNat cap, ?_, .ow hp hg (hd0 := some (b, cap)) ⟨rfl, by omega⟩ fun e => ⟨(hv e).1, by have := (hv e).2; omega⟩⟩
          have e0 : (⟨b, 0, none⟩ : Addr).add (0 * ie.size) = ⟨b, 0, none⟩ := by rw [Addr.add_lit]; simp
          have e1 : Int.toNat (Int.ofNat 0) = 0 := rfl
          simp [Instr.sliceAt, Instr.slice, run_underlying ht, hb, sizeOf, typeInfo, hie, Addr.add_lit]
    · exact not_bad h
  · rename_i e hk
    have ht := hT.sl hk
    split at h
    · rename_i l hh hbl hbh
      cases hq : (T e).k.known with
      | false => rw [hq] at h; exact not_bad h
      | true =>
        rw [hq] at h
        simp only [cond_true] at h ⊢
        obtain ⟨ie, z, hie, hs, _⟩ := hT.size (known_ne hq)
        obtain ⟨rfl, rfl⟩ : l = 0 ∧ hh = 0 := h _ (List.mem_cons_self ..)
        obtain rfl := hx.nl_inv
        have hb := run_bounds (P := P) (w := w) (isS := true) (len := 0) (cap := 0) (lo := vlo) (hi := vhi)
          ((vbound_run hbl hlo).imp (fun ⟨_, a, b⟩ => ⟨a, b⟩) id) ((vbound_run hbh hhi).imp (fun ⟨_, a, b⟩ => ⟨a, b⟩) id) (Int.le_refl 0) (Int.le_refl 0) (Int.le_refl 0) (Nat.le_refl _)
        exact ⟨.slice none 0 0, by simp [Instr.sliceAt, Instr.slice, run_underlying ht, hb, sizeOf, typeInfo, hie], .nl⟩
    · exact not_bad h
  · rename_i s hk
    have ht := hT.str hk
    split at h
    · rename_i l hh hbl hbh
      rw [hx.sc_inv]
      obtain ⟨h0, h1, h2⟩ : 0 ≤ l ∧ l ≤ hh ∧ hh ≤ s.size := h _ (List.mem_cons_self ..)
      have hb := run_bounds (P := P) (w := w) (isS := false) (len := s.size) (cap := s.size) (lo := vlo) (hi := vhi)
        ((vbound_run hbl hlo).imp (fun ⟨_, a, b⟩ => ⟨a, b⟩) id) ((vbound_run hbh hhi).imp (fun ⟨_, a, b⟩ => ⟨a, b⟩) id) h0 h1 h2 (Nat.le_refl _)
      refine ⟨_, ?_, .sc⟩
      simp [Instr.sliceAt, Instr.slice, run_underlying ht, hb]
    · exact not_bad h
  · exact not_bad h

/-! ### What is built -/
/-- Cells that say what trees say. -/
def Says (w : World) (E : Prot) (m : Option Phi) (cs : List VV) (vs : Array Value) : Prop := vs.size = cs.length ∧ ∀ (j : Nat) x, cs[j]? = some x → V w E m x (vs.getD j undef)
theorem Says.set {cs : List VV} {vs : Array Value} (h : Says w E m cs vs) {i : Nat} {x : VV} {v : Value} (hv : V w E m x v) : Says w E m (cs.set i x) (vs.setIfInBounds i v) := by
  refine ⟨by simp [h.1], fun j y hy => ?_⟩
  by_cases hji : i = j
  · subst hji
    rw [List.getElem?_set_self'] at hy
    cases hc : cs[i]? with
    | none => rw [hc] at hy; cases hy
    | some z =>
      rw [hc] at hy
      simp only [Option.map_eq_map, Option.map_some, Option.some.injEq, Function.const_apply] at hy
      subst hy
      have : i < vs.size := by rw [h.1]; exact (List.getElem?_eq_some_iff.1 hc).1
      simpa [Array.getD, this] using hv
  · rw [List.getElem?_set_ne hji] at hy
    have := h.2 j y hy
    have e : (vs.setIfInBounds i v).getD j undef = vs.getD j undef := by simp [Array.getD_eq_getD_getElem?, Array.getElem?_setIfInBounds_ne hji]
    rw [e]; exact this
theorem V.cells {x : VV} {v : Value} (h : V w E m x v) (hf : vfix x = true) : Says w E m x.cells v.cells := by
  have one : ∀ {x : VV} {v : Value}, V w E m x v → v.cells = #[v] → x.cells = [x] → Says w E m x.cells v.cells := by
    intro x v h e1 e2
    rw [e1, e2]
    refine ⟨rfl, fun j y hy => ?_⟩
    match j, hy with
    | 0, hy => simp only [List.getElem?_cons_zero, Option.some.injEq] at hy; subst hy; exact h
    | j + 1, hy => simp at hy
  cases h with
  | dead => cases hf
  | sc =>
    cases v with
    | agg cs => cases hf
    | _ => exact one .sc rfl rfl
  | nl => exact one .nl rfl rfl
  | nil h => exact one (.nil h) rfl rfl
  | sl u h1 h2 h3 h4 h5 h6 h7 => exact one (.sl u h1 h2 h3 h4 h5 h6 h7) rfl rfl
  | ow h h1 h2 h3 =>
    have h' := V.ow (w := w) (E := E) h h1 h2 h3
    rename_i hd0
    match hd0, h2 with
    | none, h2 => obtain ⟨_, rfl⟩ := h2; exact one h' rfl rfl
    | some (b, cap), h2 => obtain ⟨rfl, _⟩ := h2; exact one h' rfl rfl
  | ep h h1 h2 => exact one (.ep h h1 h2) rfl rfl
  | tp u h1 h2 h3 h4 => exact one (.tp u h1 h2 h3 h4) rfl rfl
  | bp h => exact one (.bp h) rfl rfl
  | agg h1 h2 => exact ⟨h1, h2⟩
  | tup => cases hf
  | fn h1 h2 => exact one (.fn h1 h2) rfl rfl
theorem foldl_set : ∀ (l : List Value) (k off : Nat) (vs : Array Value), ((l.zipIdx k).foldl (fun cs (c, j) => cs.setIfInBounds (off + j) c) vs) = (l.zipIdx 0).foldl (fun cs (c, j) => cs.setIfInBounds (off + k + j) c) vs
  | [], _, _, _ => rfl
  | v :: l, k, off, vs => by
    simp only [List.zipIdx_cons, List.foldl_cons, Nat.add_zero, Nat.zero_add]
    rw [foldl_set l (k + 1) off, foldl_set l 1 (off + k)]
    simp only [Nat.add_assoc]
theorem Says.fold : ∀ (xs : List VV) (l : List Value) (off : Nat) (cs : List VV) (vs : Array Value), Says w E m cs vs → l.length = xs.length → (∀ (j : Nat) x v, xs[j]? = some x → l[j]? = some v → V w E m x v) →
    Says w E m (vset cs off xs) ((l.zipIdx 0).foldl (fun cs (c, j) => cs.setIfInBounds (off + j) c) vs)
  | [], l, off, cs, vs, h, hl, _ => by
    have : l = [] := List.eq_nil_of_length_eq_zero hl
    subst this
    exact h
  | x :: xs, v :: l, off, cs, vs, h, hl, hv => by
    simp only [vset, List.zipIdx_cons, List.foldl_cons, Nat.add_zero, Nat.zero_add]
    rw [foldl_set l 1 off]
    exact Says.fold xs l (off + 1) _ _ (h.set (hv 0 x v rfl rfl)) (by simpa using hl) fun j y u hy hu => hv (j + 1) y u hy hu
  | _ :: _, [], _, _, _, _, hl, _ => by simp at hl
theorem zip_fold (v : Value) (off : Nat) (vs : Array Value) : v.cells.zipIdx.foldl (fun cs (c, j) => cs.setIfInBounds (off + j) c) vs = (v.cells.toList.zipIdx 0).foldl (fun cs (c, j) => cs.setIfInBounds (off + j) c) vs := by
  rw [← Array.foldl_toList]; congr 1; simp
theorem s_fill {place : Nat → Option (Nat × Nat)} : ∀ (ps : List (Nat × VV)) (qs : List (Nat × Value)) (cs cs' : List VV) (vs : Array Value), Says w E m cs vs →
    ps.length = qs.length → (∀ (j : Nat) p q, ps[j]? = some p → qs[j]? = some q → p.1 = q.1 ∧ V w E m p.2 q.2) → (∀ p ∈ ps, vfix p.2 = true) → vfill place cs ps = some cs' →
    ∃ vs', Instr.fill place vs qs = some vs' ∧ Says w E m cs' vs'
  | [], qs, cs, cs', vs, h, hl, _, _, hf => by
    have : qs = [] := List.eq_nil_of_length_eq_zero hl.symm
    subst this
    simp only [vfill, Option.some.injEq] at hf
    subst hf
    exact ⟨vs, rfl, h⟩
  | (i, x) :: ps, (i', v) :: qs, cs, cs', vs, h, hl, hv, hfx, hf => by
    obtain ⟨e, hV⟩ := hv 0 _ _ rfl rfl
    simp only at e hV
    subst e
    simp only [vfill] at hf
    cases hp : place i with
    | none => rw [hp] at hf; cases hf
    | some os =>
      obtain ⟨off, size⟩ := os
      rw [hp] at hf
      simp only at hf
      have hcx := hV.cells (hfx _ (List.mem_cons_self ..))
      cases hq : (Nat.beq x.cells.length size && Nat.ble (off + x.cells.length) cs.length) with
      | false => rw [hq] at hf; cases hf
      | true =>
        rw [hq] at hf
        simp only [cond_true] at hf
        rw [Bool.and_eq_true] at hq
        have h1 := Nat.eq_of_beq_eq_true hq.1
        have h2 := Nat.le_of_ble_eq_true hq.2
        have hstep : Says w E m (vset cs off x.cells) (v.cells.zipIdx.foldl (fun cs (c, j) => cs.setIfInBounds (off + j) c) vs) := by
          rw [zip_fold]
          refine Says.fold _ _ off _ _ h (by simpa using hcx.1) fun j y u hy hu => ?_
          have := hcx.2 j y hy
          have hu' : v.cells[j]? = some u := by simpa using hu
          obtain ⟨hj, rfl⟩ := Array.getElem?_eq_some_iff.1 hu'
          simpa [Array.getD, hj] using this
        obtain ⟨vs', e1, e2⟩ := s_fill ps qs _ cs' _ hstep (by simpa using hl) (fun j p q hp hq => hv (j + 1) p q hp hq) (fun p hp => hfx p (List.mem_cons_of_mem _ hp)) hf
        refine ⟨vs', ?_, e2⟩
        simp only [Instr.fill, hp]
        rw [if_neg]
        · exact e1
        · rw [hcx.1, h.1]
          simp only [Bool.or_eq_true, decide_eq_true_eq, not_or]
          exact ⟨fun h' => h' h1, by omega⟩
  | _ :: _, [], _, _, _, _, hl, _, _, _ => by simp at hl
theorem Says.zero (z : Array Value) : Says w E m (z.toList.map litVV) z := by
  refine ⟨by simp, fun j x hx => ?_⟩
  rw [List.getElem?_map] at hx
  obtain ⟨y, hy, rfl⟩ := Option.map_eq_some_iff.1 hx
  obtain ⟨hj, rfl⟩ := Array.getElem?_eq_some_iff.1 (by simpa using hy : z[j]? = some y)
  have : z.getD j undef = z[j] := by simp [Array.getD, hj]
  rw [this]; exact V.litVV _
theorem mapM_size (fs : List Field) (hk : ∀ f ∈ fs, ∃ i, P.info? f.type = some i) : (fs.mapM (fun f => do pure (f.offset, ← sizeOf f.type) : Field → Sem (Nat × Nat))).run P w = .ok (fs.map fun f => (f.offset, ((P.info? f.type).map (·.size)).getD 0)) w := by
  induction fs with
  | nil => rfl
  | cons f fs ih =>
    obtain ⟨i, hi⟩ := hk f (List.mem_cons_self ..)
    have ih' := ih fun f hf => hk f (List.mem_cons_of_mem _ hf)
    have hs : (sizeOf f.type).run P w = .ok i.size w := by simp [sizeOf, typeInfo, hi]
    rw [List.mapM_cons]
    simp only [Sem.run_bind, ih', hs, Result.andThen_ok, hi, Sem.run_pure, List.map_cons, Option.map_some, Option.getD_some]

theorem s_build (hT : TOk P T) {t : TypeId} {ps : List (Nat × VV)} {qs : Array (Nat × Value)} (hl : ps.length = qs.toList.length) (hv : ∀ (j : Nat) p q, ps[j]? = some p → qs.toList[j]? = some q → p.1 = q.1 ∧ V w E m p.2 q.2)
    (h : ∀ p ∈ (vbuild T t ps).chk, p) : ∃ v, (Instr.build t qs).run P w = .ok v w ∧ V w E m (vbuild T t ps).val v := by
  unfold vbuild at h ⊢
  cases hq : ps.all fun p => vfix p.2 with
  | false => rw [hq] at h; exact not_bad h
  | true =>
    rw [hq] at h
    simp only [cond_true] at h ⊢
    have hfx : ∀ p ∈ ps, vfix p.2 = true := by simpa using hq
    split at h
    · rename_i fs hk
      obtain ⟨F, hF, rfl⟩ := hT.agg hk
      obtain ⟨it, z, hit, hst, hz, hzz⟩ := hT.size (by rw [hk]; simp : (T t).k ≠ .other)
      cases hq2 : (F.toList.map fun f => (f.offset, f.type)).all fun f => (T f.2).k.known with
      | false => rw [hq2] at h; exact not_bad h
      | true =>
        rw [hq2] at h
        simp only [cond_true] at h ⊢
        have hkn : ∀ f ∈ F.toList, (T f.type).k.known = true := fun f hf => List.all_eq_true.1 hq2 (f.offset, f.type) (List.mem_map.2 ⟨f, hf, rfl⟩)
        split at h
        · rename_i cs hcs
          rw [hzz] at hcs
          obtain ⟨vs, e1, e2⟩ := s_fill (w := w) (E := E) (m := m) ps qs.toList _ cs _ (Says.zero z.cells) hl hv hfx hcs
          refine ⟨.agg vs, ?_, .agg e2.1 e2.2⟩
          have hm := mapM_size (P := P) (w := w) F.toList fun f hf => by obtain ⟨i, _, hi, _⟩ := hT.size (known_ne (hkn f hf)); exact ⟨i, hi⟩
          have hplace : (fun i => (F.map fun f => (f.offset, ((P.info? f.type).map (·.size)).getD 0))[i]?) = fun (i : Nat) => ((F.toList.map fun f => (f.offset, f.type))[i]?).map fun (f : Nat × TypeId) => (f.1, (T f.2).sz) := by
            funext i
            rw [Array.getElem?_map, List.getElem?_map, Option.map_map]
            cases hf : F[i]? with
            | none => simp [hf]
            | some f =>
              have hmem : f ∈ F.toList := by have := Array.mem_of_getElem? hf; simpa using this
              obtain ⟨i', _, hi, hs, _⟩ := hT.size (known_ne (hkn f hmem))
              simp [hf, hi, hs]
          have hm' : (F.mapM (fun f => do pure (f.offset, ← sizeOf f.type) : Field → Sem (Nat × Nat))).run P w = .ok (F.map fun f => (f.offset, ((P.info? f.type).map (·.size)).getD 0)) w := by
            rw [Array.mapM_eq_mapM_toList, Sem.run_map, hm]
            simp
            exact Array.ext' (by simp)
          have e1' : Instr.fill (fun i => (F.map fun f => (f.offset, ((P.info? f.type).map (·.size)).getD 0))[i]?) z.cells qs.toList = some vs := by rw [hplace]; exact e1
          simp only [Instr.build, Sem.run_bind, zeroValue, typeInfo, run_program, hit, hz, Sem.run_pure, Result.andThen_ok, run_underlying hF, hm', e1']
        · exact not_bad h
    · rename_i n e hk
      have ht := hT.arr hk
      obtain ⟨it, z, hit, hst, hz, hzz⟩ := hT.size (by rw [hk]; simp : (T t).k ≠ .other)
      cases hq2 : (T e).k.known with
      | false => rw [hq2] at h; exact not_bad h
      | true =>
        rw [hq2] at h
        simp only [cond_true] at h ⊢
        obtain ⟨ie, _, hie, hs, _⟩ := hT.size (known_ne hq2)
        split at h
        · rename_i cs hcs
          rw [hzz] at hcs
          obtain ⟨vs, e1, e2⟩ := s_fill (w := w) (E := E) (m := m) ps qs.toList _ cs _ (Says.zero z.cells) hl hv hfx hcs
          refine ⟨.agg vs, ?_, .agg e2.1 e2.2⟩
          rw [hs] at e1
          simp only [Instr.build, Sem.run_bind, zeroValue, sizeOf, typeInfo, run_program, hit, hz, hie, Sem.run_pure, Result.andThen_ok, run_underlying ht, e1]
        · exact not_bad h
    · exact not_bad h
end
end Go.Proofs.Ytnodhjlpoaahbaa
