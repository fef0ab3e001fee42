/-
  Layer 13's statement on putting: the contracts that it asks, the walk.
-/
import Derived.Test.YtiflenddalmfaaaCpS
import Derived.Test.YtiflenddalmfaaaLawKit
import Derived.Lib.SliceRun
namespace Go.Proofs.Ytiflenddalmfaaa
open Go.RowKit

theorem small_def {l : List (List Int)} (h1 : l.length * 24 ≤ reachBytes) (h2 : ∀ m ∈ l, m.length * 8 ≤ reachBytes) : Small l := by
  have e := reachBytes_lt
  exact ⟨by omega, fun m hm => by have := h2 m hm; omega⟩
/-- What the reading says, said of trees. -/
theorem v_is_M {w : World} {E : Prot} (hE : ∀ k, ¬ E.fz k) {m : Option Phi} {x : List Int} {v : Value} (h : Is pM w [v] x) : V w E m (encM true x) v ∧ WfM x := by
  obtain ⟨ao, cap, rfl, h1, h2, h3, h4⟩ := is_ints h
  refine ⟨V.sl_mk h1 h2 fun hp => ?_, fun y hy => ?_⟩
  · obtain ⟨b, off, rfl, hb, hc⟩ := h4 hp
    refine ⟨b, off, rfl, hb, hE b, fun i _ => rfl, fun i _ => .int .i64 (x.getD i 0), fun i j y hi hy => ?_, fun i j y hi hy => ?_⟩
    · match j, hy with
      | 0, _ =>
        have := hc i hi
        simp only [Nat.mul_one, Nat.add_zero]
        exact this
      | j + 1, hy => simp at hy
    · match j, hy with
      | 0, hy => simp only [List.getElem?_cons_zero, Option.some.injEq] at hy; subst hy; exact .sc
      | j + 1, hy => simp at hy
  · obtain ⟨i, hi, rfl⟩ := List.mem_iff_getElem.1 hy
    have := h3 i hi
    rwa [getD_of (List.getElem?_eq_getElem hi)] at this
theorem v_is_Q {w : World} {E : Prot} (hE : ∀ k, ¬ E.fz k) {m : Option Phi} {q : List (List Int)} {v : Value} (h : Is pQ w [v] q) : V w E m (encQ q) v ∧ WfQ q := by
  obtain ⟨ao, cap, rfl, h1, h2, h3⟩ := is_slice1 h
  refine ⟨V.sl_mk h1 h2 fun hp => ?_, fun y hy => ?_⟩
  · obtain ⟨b, off, rfl, hb, hel⟩ := h3 hp
    refine ⟨b, off, rfl, hb, hE b, fun i _ => rfl, fun i _ => (w.cell? ⟨b, off + i, none⟩).getD undef, fun i j y hi hy => ?_, fun i j y hi hy => ?_⟩
    · match j, hy with
      | 0, _ =>
        obtain ⟨u, h4, _⟩ := hel i (q.getD i []) (by simp [List.getD, hi])
        simp only [Nat.mul_one, Nat.add_zero]
        rw [h4]; rfl
      | j + 1, hy => simp at hy
    · match j, hy with
      | 0, hy =>
        simp only [List.getElem?_cons_zero, Option.some.injEq] at hy; subst hy
        obtain ⟨u, h4, hu⟩ := hel i (q.getD i []) (by simp [List.getD, hi])
        show V w E.hold none _ ((w.cell? ⟨b, off + i, none⟩).getD undef)
        rw [h4]; exact (v_is_M (E := E.hold) hE hu).1
      | j + 1, hy => simp at hy
  · obtain ⟨i, hi, rfl⟩ := List.mem_iff_getElem.1 hy
    have hp : 0 < q.length := by omega
    obtain ⟨b, off, rfl, hb, hel⟩ := h3 hp
    obtain ⟨u, h4, hu⟩ := hel i q[i] (List.getElem?_eq_getElem hi)
    exact (v_is_M (m := m) hE hu).2
theorem v_is_Ts {w : World} {E : Prot} (hE : ∀ k, ¬ E.fz k) {m : Option Phi} {l : List D.Type} {v : Value} (h : Is (Pkg.slice 2 16 p_Type) w [v] l) : V w E m (encTs l) v ∧ WfTs l := by
  obtain ⟨ao, cap, rfl, h1, h2, h3⟩ := is_slice h
  have key : ∀ (cs : List Value) (y : D.Type), Is p_Type w cs y → cs = [.int .i64 y.Bits, .bool y.Signed] ∧ (Lit.int .i64 y.Bits).wf = true := by
    intro cs y hy
    obtain ⟨b, rfl, hw, hb⟩ := is_cons_int.1 (is_via.1 hy)
    obtain ⟨c, rfl, hc⟩ := is_cons_bool.1 hb
    obtain rfl := is_unit.1 hc
    exact ⟨rfl, hw⟩
  refine ⟨V.sl_mk h1 h2 fun hp => ?_, fun y hy => ?_⟩
  · obtain ⟨b, off, rfl, hb, hel⟩ := h3 hp
    refine ⟨b, off, rfl, hb, hE b, fun i _ => rfl, fun i j => ([.int .i64 (l.getD i default).Bits, .bool (l.getD i default).Signed] : List Value).getD j undef, fun i j y hi hy => ?_, fun i j y hi hy => ?_⟩
    · obtain ⟨es, he, hc, hx⟩ := hel i (l.getD i default) (by simp [List.getD, hi])
      obtain ⟨rfl, _⟩ := key _ _ hx
      match j, hy with
      | 0, _ => exact hc 0 (by omega)
      | 1, _ => exact hc 1 (by omega)
      | j + 2, hy => simp [encT] at hy
    · match j, hy with
      | 0, hy => simp only [encT, List.getElem?_cons_zero, Option.some.injEq] at hy; subst hy; exact .sc
      | 1, hy => simp only [encT, List.getElem?_cons_succ, List.getElem?_cons_zero, Option.some.injEq] at hy; subst hy; exact .sc
      | j + 2, hy => simp [encT] at hy
  · obtain ⟨i, hi, rfl⟩ := List.mem_iff_getElem.1 hy
    obtain ⟨b, off, rfl, hb, hel⟩ := h3 (by omega)
    obtain ⟨es, he, hc, hx⟩ := hel i l[i] (List.getElem?_eq_getElem hi)
    exact (key _ _ hx).2
theorem V.tup2_inv {w : World} {E : Prot} {m : Option Phi} {x y : VV} {v : Value} (h : V w E m (.tup [x, y]) v) : ∃ a b, v = .tuple #[a, b] ∧ V w E m x a ∧ V w E m y b := by
  cases h with
  | @tup _ _ _ vs h1 h2 =>
    obtain ⟨l⟩ := vs
    match l, h1, h2 with
    | [a, b], _, h2 => exact ⟨a, b, rfl, h2 0 x rfl, h2 1 y rfl⟩
theorem says_one {w : World} {E : Prot} {m : Option Phi} {x : VV} {a : Value} (h1 : V w E m x a) : Says w E m [x] #[a] :=
  ⟨rfl, fun j z hz => by
    match j, hz with
    | 0, hz => simp only [List.getElem?_cons_zero, Option.some.injEq] at hz; subst hz; exact h1
    | j + 1, hz => simp at hz⟩
theorem says_four {w : World} {E : Prot} {m : Option Phi} {x y z u : VV} {a b c d : Value} (h1 : V w E m x a) (h2 : V w E m y b) (h3 : V w E m z c) (h4 : V w E m u d) : Says w E m [x, y, z, u] #[a, b, c, d] :=
  ⟨rfl, fun j t ht => by
    match j, ht with
    | 0, ht => simp only [List.getElem?_cons_zero, Option.some.injEq] at ht; subst ht; exact h1
    | 1, ht => simp only [List.getElem?_cons_succ, List.getElem?_cons_zero, Option.some.injEq] at ht; subst ht; exact h2
    | 2, ht => simp only [List.getElem?_cons_succ, List.getElem?_cons_zero, Option.some.injEq] at ht; subst ht; exact h3
    | 3, ht => simp only [List.getElem?_cons_succ, List.getElem?_cons_zero, Option.some.injEq] at ht; subst ht; exact h4
    | j + 4, ht => simp at ht⟩
theorem putQ_wf {room : Int} {fs : List D.Type} {q : List (List Int)} {m : List Int} {sorted : Bool} (h : WfQ q) : WfQ (putQ room fs q m sorted) := by
  intro y hy
  unfold putQ at hy
  split at hy
  · unfold putX putAt at hy
    rcases List.mem_append.1 hy with hy | hy
    · exact h y (List.mem_of_mem_take hy)
    · rcases List.mem_cons.1 hy with rfl | hy
      · exact fitM_wf _ _
      · exact h y (List.mem_of_mem_drop hy)
  · cases hy
abbrev E0 : Prot := ⟨fun _ => False, fun _ => False⟩
/-- The sizes. -/
structure SzOk (q : List (List Int)) (m : List Int) : Prop where
  small : Small q
  q1 : (q.length + 3) * 24 ≤ 140737488355328
  m1 : (m.length + 1) * 8 ≤ 140737488355328
theorem rput_calls {w : World} {fv qv mv : Value} {fs : List D.Type} {q : List (List Int)} {m : List Int} (room sh : Int) (sorted : Bool) (hfs : Is (Pkg.slice 2 16 p_Type) w [fv] fs) (hq : Is pQ w [qv] q) (hm : Is pM w [mv] m) (hs : SzOk q m) :
    Calls Try.prog 7 #[.agg #[.int .i64 room, fv], .agg #[.int .i64 sh, qv], mv, .bool sorted] w fun e w' =>
      (∃ ov, e = .returned (.tuple #[.agg #[.int .i64 (putSh room fs q m sh), ov], .int .i64 (putE room fs q m)]) ∧ Is pQ w' [ov] (putQ room fs q m sorted)) ∧ Below w.heap.size w w' := by
  obtain ⟨a1, _⟩ := v_is_Ts (E := E0) (fun _ h => h) (m := none) hfs
  obtain ⟨a2, b2⟩ := v_is_Q (E := E0) (fun _ h => h) (m := none) hq
  obtain ⟨a3, _⟩ := v_is_M (E := E0) (fun _ h => h) (m := none) hm
  refine ((rput_spec room sh sorted (fs := fs) (m := m) b2 hs.q1 hs.m1).start trivial (fun k hk => by cases hk) (says_four (v_agg2 .sc a1) (v_agg2 .sc a2) a3 .sc)).mono ?_
  rintro e w' ⟨v, rfl, hb, hv⟩
  obtain ⟨x, y, rfl, hx, hy⟩ := V.tup2_inv hv
  obtain ⟨s, ov, rfl, h1, h2⟩ := V.agg2_inv hx
  rw [h1.sc_inv, hy.sc_inv]
  exact ⟨⟨ov, rfl, is_of_Q h2 (putQ_wf b2)⟩, hb⟩
theorem lcopied_calls {w : World} {qv : Value} {q : List (List Int)} (sh : Int) (hq : Is pQ w [qv] q) (hs : Small q) :
    Calls Try.prog 5 #[.agg #[.int .i64 sh, qv]] w fun e w' => (∃ ov, e = .returned (.agg #[.int .i64 sh, ov]) ∧ Is pQ w' [ov] q) ∧ Below w.heap.size w w' := by
  obtain ⟨a2, b2⟩ := v_is_Q (E := E0) (fun _ h => h) (m := none) hq
  refine ((copied_spec (sh := sh) hs).start trivial (fun k hk => by cases hk) (says_one (v_agg2 .sc a2))).mono ?_
  rintro e w' ⟨v, rfl, hb, hv⟩
  obtain ⟨s, ov, rfl, h1, h2⟩ := V.agg2_inv hv
  rw [h1.sc_inv]
  exact ⟨⟨ov, rfl, is_of_Q h2 b2⟩, hb⟩
/-- What the walk keeps. -/
structure PlI (w : World) (room sh : Int) (fv qv : Value) (q : List (List Int)) (X : Nat) (ov : Value) (W : World) : Prop where
  bs : W.heap[w.heap.size]? = some (.cells #[.int .i64 room, fv] 24 (0, 0))
  bc : W.heap[w.heap.size + 1]? = some (.cells #[.int .i64 sh, qv] 27 (0, 0))
  bw : W.heap[X]? = some (.cells #[.int .i64 sh, ov] 27 (0, 0))
  is : Is pQ W [ov] q
  bel : Below w.heap.size w W
theorem PlI.next {w W W' : World} {room sh : Int} {fv qv ov : Value} {q : List (List Int)} {X : Nat} (h : PlI w room sh fv qv q X ov W) (hb : Below W.heap.size W W') : PlI w room sh fv qv q X ov W' :=
  ⟨(hb.block _ (blk_lt h.bs)).trans h.bs, (hb.block _ (blk_lt h.bc)).trans h.bc, (hb.block _ (blk_lt h.bw)).trans h.bw, h.is.below stays_Q hb, h.bel.trans (hb.mono h.bel.size)⟩
set_option maxRecDepth 100000 in
set_option maxHeartbeats 2000000 in
theorem law_calls {w : World} {fv qv mv : Value} {fs : List D.Type} {q : List (List Int)} {m : List Int} (room sh : Int) (hfs : Is (Pkg.slice 2 16 p_Type) w [fv] fs) (hq : Is pQ w [qv] q) (hm : Is pM w [mv] m) (hs : SzOk q m) :
    Calls Try.prog 3 #[.agg #[.int .i64 room, fv], .agg #[.int .i64 sh, qv], mv] w fun e w' => e = .returned (.bool true) ∧ Below w.heap.size w w' := by
  obtain ⟨qo, qc, rfl, hq1, hq2, hq3⟩ := is_slice1 hq
  have hqm := hq2
  unfold maxLen at hqm
  go_enter Try.func3, Try.ntmps3
  have s0 := ((Below.refl _ w).alloc (Nat.le_refl _) (.cells #[.int .i64 room, fv] 24)).alloc (by simp) (.cells #[.int .i64 sh, .slice qo q.length qc] 27)
  go_wp2_with fail
  refine (shown13 _).mono ?_
  rintro e w1 ⟨rfl, hb1⟩
  have b1 : w1.heap[w.heap.size]? = some (.cells #[.int .i64 room, fv] 24 (0, 0)) := (hb1.block _ (by simp; omega)).trans ((Below.heap_alloc _ _ _ (by simp)).trans (heap_alloc_new _ _))
  have b2 : w1.heap[w.heap.size + 1]? = some (.cells #[.int .i64 sh, .slice qo q.length qc] 27 (0, 0)) := (hb1.block _ (by simp)).trans (by
    have := heap_alloc_new (w.alloc (.cells #[.int .i64 room, fv] 24)) (.cells #[.int .i64 sh, .slice qo q.length qc] 27)
    simpa using this)
  have s1 := s0.trans (hb1.mono s0.size)
  have c0 := cell_of_blk (i := 0) b2 rfl
  have c1 := cell_of_blk (i := 1) b2 rfl
  clear hb1 s0
  go_wp2_with fail
  refine (lcopied_calls sh (hq.below stays_Q s1) hs.small).mono ?_
  rintro e w2 ⟨⟨ov, rfl, ho⟩, hb2⟩
  obtain ⟨wo, wc, rfl, _⟩ := is_slice1 ho
  have hI : PlI w room sh fv (.slice qo q.length qc) q w2.heap.size (.slice wo q.length wc) (w2.alloc (.cells #[.int .i64 sh, .slice wo q.length wc] 27)) := by
    have l1 := (hb2.block _ (blk_lt b1)).trans b1
    have l2 := (hb2.block _ (blk_lt b2)).trans b2
    have hA := below_one w2 (.cells #[.int .i64 sh, .slice wo q.length wc] 27)
    exact ⟨(hA.block _ (blk_lt l1)).trans l1, (hA.block _ (blk_lt l2)).trans l2, heap_alloc_new _ _, ho.below stays_Q hA, s1.trans ((hb2.trans (hA.mono hb2.size)).mono s1.size)⟩
  clear b1 b2 s1 c0 c1 ho hb2
  go_wp2_with fail
  go_loopw [9] (fun i wr => ∃ k : Nat, k ≤ 2 ∧ i = .int .i64 k ∧ PlI w room sh fv (.slice qo q.length qc) q w2.heap.size (.slice wo q.length wc) wr) (fun i _ => 2 - (intOf i).toNat)
  case atStart => exact ⟨0, by omega, rfl, hI⟩
  case round =>
    clear hI
    obtain ⟨k, hk, rfl, hI⟩ := hrel
    generalize w2.heap.size = X at hI ⊢
    have s0 := cell_of_blk (i := 0) hI.bs rfl
    have s1 := cell_of_blk (i := 1) hI.bs rfl
    have c0 := cell_of_blk (i := 0) hI.bc rfl
    have c1 := cell_of_blk (i := 1) hI.bc rfl
    by_cases hlt : k < 2
    · go_wp2_with fail
      refine (put_calls room sh _ (hfs.below (Pkg.stays_slice stays_Type) hI.bel) (hq.below stays_Q hI.bel) (hm.below stays_M hI.bel) hs.small (by have := hs.q1; omega) (by have := hs.m1; omega)).mono ?_
      rintro e w3 ⟨⟨av, vs, rfl, hO⟩, hb3⟩
      have hI3 := hI.next hb3
      have hR : ∀ W, Below w.heap.size w W → _ := fun W hB => rput_calls room sh ((k : Int) == 1) (hfs.below (Pkg.stays_slice stays_Type) hB) (hq.below stays_Q hB) (hm.below stays_M hB) hs
      generalize putQ room fs q m ((k : Int) == 1) = Q' at hO hR ⊢
      generalize putSh room fs q m sh = S' at hO hR ⊢
      generalize putE room fs q m = E' at hR ⊢
      obtain ⟨ao', ac', rfl, _⟩ := own_one hO.row
      have hA := below_one w3 (.cells #[.int .i64 S', .slice ao' Q'.length ac'] 27)
      have hI4 := hI3.next hA
      have hO4 := hO.alloc (.cells #[.int .i64 S', .slice ao' Q'.length ac'] 27)
      have hY4 : (w3.alloc (.cells #[.int .i64 S', .slice ao' Q'.length ac'] 27)).heap[w3.heap.size]? = some (.cells #[.int .i64 S', .slice ao' Q'.length ac'] 27 (0, 0)) := heap_alloc_new _ _
      have t4 := hb3.trans (hA.mono hb3.size)
      have s0 := cell_of_blk (i := 0) hI4.bs rfl
      have s1 := cell_of_blk (i := 1) hI4.bs rfl
      have c0 := cell_of_blk (i := 0) hI4.bc rfl
      have c1 := cell_of_blk (i := 1) hI4.bc rfl
      clear hA hO hI3 hb3
      go_wp2_with fail
      refine (hR _ hI4.bel).mono ?_
      rintro e w5 ⟨⟨bv, rfl, hP⟩, hb5⟩
      generalize hW4 : w3.alloc (.cells #[.int .i64 S', .slice ao' Q'.length ac'] 27) = w4 at hI4 hO4 hY4 t4 hb5
      obtain ⟨bo, bc, rfl, _⟩ := is_slice1 hP
      have hB := below_one w5 (.cells #[.int .i64 S', .slice bo Q'.length bc] 27)
      have hY6 := (hB.block _ (blk_lt ((hb5.block _ (blk_lt hY4)).trans hY4))).trans ((hb5.block _ (blk_lt hY4)).trans hY4)
      have hZ6 : (w5.alloc (.cells #[.int .i64 S', .slice bo Q'.length bc] 27)).heap[w5.heap.size]? = some (.cells #[.int .i64 S', .slice bo Q'.length bc] 27 (0, 0)) := heap_alloc_new _ _
      have hO6 := (hO4.same fun b _ hb => hb5.block b hb).alloc (.cells #[.int .i64 S', .slice bo Q'.length bc] 27)
      have hP6 := hP.below stays_Q hB
      have t6 := t4.trans ((hb5.trans (hB.mono hb5.size)).mono t4.size)
      have y0 := cell_of_blk (i := 0) hY6 rfl
      have y1 := cell_of_blk (i := 1) hY6 rfl
      have z0 := cell_of_blk (i := 0) hZ6 rfl
      have z1 := cell_of_blk (i := 1) hZ6 rfl
      clear s0 s1 c0 c1 hI4 hO4 hY4 t4 hb5 hB hP hR hW4
      go_wp2_with fail
      refine (same_same S' hO6.is hP6).mono ?_
      rintro e w7 ⟨rfl, hb7⟩
      have hY7 := (hb7.block _ (blk_lt hY6)).trans hY6
      have hO7 := hO6.same fun b _ hb => hb7.block b hb
      have t7 := t6.trans (hb7.mono t6.size)
      have y0 := cell_of_blk (i := 0) hY7 rfl
      have y1 := cell_of_blk (i := 1) hY7 rfl
      clear z0 z1 hO6 hP6 hZ6 hY6 t6 hb7
      go_wp2_with fail
      refine (spoil_calls hO7 t7.size).mono ?_
      rintro e w8 ⟨rfl, hb8⟩
      have hI8 := hI.next (t7.trans hb8)
      have c0 := cell_of_blk (i := 0) hI8.bc rfl
      have c1 := cell_of_blk (i := 1) hI8.bc rfl
      have x0 := cell_of_blk (i := 0) hI8.bw rfl
      have x1 := cell_of_blk (i := 1) hI8.bw rfl
      clear y0 y1 hY7 hO7 t7 hb8 hI
      go_wp2_with fail
      refine (same_same sh (hq.below stays_Q hI8.bel) hI8.is).mono ?_
      rintro e w9 ⟨rfl, hb9⟩
      have hI9 := hI8.next hb9
      clear hI8 c0 c1 x0 x1 hb9
      go_wp2
      go_roundw
      case rel => exact ⟨k + 1, by omega, by go_num, hI9⟩
      case measure => simp [intOf]; omega
    · go_wp2_with fail
      go_loopw [16] (fun i wr => ∃ k : Nat, k ≤ q.length ∧ i = .int .i64 k ∧ PlI w room sh fv (.slice qo q.length qc) q X (.slice wo q.length wc) wr) (fun i _ => q.length - (intOf i).toNat)
      case atStart => exact ⟨0, Nat.zero_le _, rfl, hI⟩
      case round =>
        clear hI s0 s1 c0 c1 hlt hk
        obtain ⟨k, hk, rfl, hI⟩ := hrel
        have c1 := cell_of_blk (i := 1) hI.bc rfl
        by_cases hlt : k < q.length
        · obtain ⟨b, off, rfl, hbl, hel⟩ := hq3 (by omega)
          obtain ⟨u, hu, hum⟩ := hel k (q.getD k []) (by simp [List.getD, hlt])
          have hu1 := (hI.bel.cell (p := ⟨b, off + k, none⟩) hbl).trans hu
          have hum1 := hum.below stays_M hI.bel
          have hm1 := hm.below stays_M hI.bel
          clear hel hq3 hu
          go_wp2_with fail
          refine (less_calls hum1 hm1).mono ?_
          rintro e w4 ⟨rfl, n, rfl⟩
          have hI4 := hI.next (below_drewN (Below.refl _ _) n)
          have c1 := cell_of_blk (i := 1) hI4.bc rfl
          have hu2 := (hI4.bel.cell (p := ⟨b, off + k, none⟩) hbl).trans ((hI.bel.cell (p := ⟨b, off + k, none⟩) hbl).symm.trans hu1)
          have hum2 := hum.below stays_M hI4.bel
          have hm2 := hm.below stays_M hI4.bel
          have HI := Lib.hid hI
          clear hI hu1 hum1 hm1
          go_wp2_with fail
          refine (rless_calls hum2 hm2).mono ?_
          rintro e w5 ⟨rfl, n', rfl⟩
          clear hI4 c1 hu2 hum2 hm2
          go_wp2
          go_roundw
          case rel => exact ⟨k + 1, by omega, by go_num, HI.out.next (below_drewN (Below.refl _ _) _)⟩
          case measure => simp [intOf]; omega
        · obtain rfl : k = q.length := by omega
          go_wp2
          go_ret
          exact ⟨rfl, hI.bel⟩
end Go.Proofs.Ytiflenddalmfaaa
