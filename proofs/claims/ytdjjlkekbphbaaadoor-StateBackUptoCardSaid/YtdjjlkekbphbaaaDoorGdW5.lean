/-
  Layer 11 on trees, V: what a proctype uses.
-/
import Derived.Test.YtdjjlkekbphbaaaDoorGdW4
namespace Go.Proofs.YtdjjlkekbphbaaaDoor
open Go.RowKit

/-- A model whose expressions were looked at. -/
structure Ready (m : D.Model) : Prop where
  wf : wf_Model m
  ex : ∀ k : Nat, k < m.Exprs.length → exprP m k = true
def InE (m : D.Model) (l : List Int) : Prop := ∀ x ∈ l, 0 ≤ x ∧ x < m.Exprs.length
theorem exAt_mem {m : D.Model} {k : Int} (h0 : 0 ≤ k) (h : k < m.Exprs.length) : exAt m k ∈ m.Exprs := getD_mem (by omega)
theorem Ready.at {m : D.Model} (h : Ready m) {k : Int} (h0 : 0 ≤ k) (hk : k < m.Exprs.length) : exprP m k = true := by
  have := h.ex k.toNat (by omega)
  rwa [show ((k.toNat : Nat) : Int) = k by omega] at this
theorem Ready.held {m : D.Model} (h : Ready m) {k : Int} (h0 : 0 ≤ k) (hk : k < m.Exprs.length) : InE m (heldP (exAt m k)) := fun x hx => by
  have := held_in (h.at h0 hk) x hx; omega
theorem Ready.small {m : D.Model} (h : Ready m) : ∀ x ∈ m.Exprs, x.Args.length ≤ 1048576 ∧ x.V.Dims.length ≤ 1048576 := fun x hx =>
  ⟨(h.wf.Exprs.2 x hx).Args.1, (h.wf.Exprs.2 x hx).V.Dims.1⟩
theorem Ready.slots {m : D.Model} (h : Ready m) {k : Int} (h0 : 0 ≤ k) (hk : k < m.Exprs.length) (h2 : (exAt m k).Op = 2) : (exAt m k).V.Scope ≠ 0 → (exAt m k).V.Scope ≠ 1 → 0 ≤ (exAt m k).V.Type_ ∧ (exAt m k).V.Type_ < m.Procs.length := by
  have hx := h.at h0 hk
  unfold exprP at hx
  simp only [Bool.and_eq_true] at hx
  obtain ⟨_, hO⟩ := hx
  generalize exAt m k = x at *
  rw [if_neg (by omega), if_pos h2] at hO
  simp only [Bool.and_eq_true, variableP] at hO
  obtain ⟨⟨⟨⟨⟨⟨hs0, hs2⟩, _⟩, _⟩, _⟩, hW⟩, _⟩ := hO
  intro n0 n1
  have hs : x.V.Scope = 2 := by simp at hs0 hs2; omega
  simp only [hs, decide_true, cond_true, Bool.and_eq_true] at hW
  have := hW.2
  unfold procP at this
  simp at this; omega
/-- What holds when one more is looked at. -/
structure Inv (m : D.Model) (i run : Int) (n : Nat) (b : Bool) (seen : List Bool) (todo : List Int) (k : Nat) : Prop where
  sl : seen.length = m.Exprs.length
  le : k ≤ todo.length
  mem : InE m todo
  sum : todo.length + load m seen = n
  res : usesL m i run (todo.length - k + load m seen + 1) seen (todo.drop k) = b
section
variable {m : D.Model} {i run : Int} {n : Nat} {b : Bool} {seen : List Bool} {todo : List Int} {k : Nat}
theorem Inv.at (h : Inv m i run n b seen todo k) (hk : k < todo.length) : 0 ≤ todo.getD k 0 ∧ todo.getD k 0 < m.Exprs.length := h.mem _ (getD_mem hk)
theorem Inv.step (h : Inv m i run n b seen todo k) (hk : k < todo.length) :
    (bif seen.getD (todo.getD k 0).toNat false then usesL m i run (todo.length - (k + 1) + load m seen + 1) seen (todo.drop (k + 1)) else bif useBad m i run (todo.getD k 0) then false
      else usesL m i run (todo.length - (k + 1) + load m seen + 1) (seen.set (todo.getD k 0).toNat true) (todo.drop (k + 1) ++ heldP (exAt m (todo.getD k 0)))) = b := by
  have := h.res
  rw [drop_cons (d := 0) hk, show todo.length - k + load m seen + 1 = (todo.length - (k + 1) + load m seen + 1) + 1 by omega] at this
  exact this
theorem Inv.had (h : Inv m i run n b seen todo k) (hk : k < todo.length) (hs : seen.getD (todo.getD k 0).toNat false = true) : Inv m i run n b seen todo (k + 1) := by
  have := h.step hk
  rw [hs, cond_true] at this
  exact ⟨h.sl, hk, h.mem, h.sum, this⟩
theorem Inv.bad (h : Inv m i run n b seen todo k) (hk : k < todo.length) (hs : seen.getD (todo.getD k 0).toNat false = false) (hu : useBad m i run (todo.getD k 0) = true) : false = b := by
  have := h.step hk
  rw [hs, cond_false, hu, cond_true] at this
  exact this
theorem Inv.more (hr : Ready m) (h : Inv m i run n b seen todo k) (hk : k < todo.length) (hs : seen.getD (todo.getD k 0).toNat false = false) (hu : useBad m i run (todo.getD k 0) = false) :
    Inv m i run n b (seen.set (todo.getD k 0).toNat true) (todo ++ heldP (exAt m (todo.getD k 0))) (k + 1) := by
  have ht := h.at hk
  have hl := load_set (m := m) hs (by rw [h.sl]; omega) h.sl
  have := h.step hk
  rw [hs, cond_false, hu, cond_false] at this
  have hsum := h.sum
  have hx : m.Exprs.getD (todo.getD k 0).toNat default = exAt m (todo.getD k 0) := rfl
  rw [hx] at hl
  refine ⟨by simp [h.sl], by simp; omega, fun x hxm => ?_, by rw [List.length_append]; omega, ?_⟩
  · rcases List.mem_append.1 hxm with hxm | hxm
    · exact h.mem x hxm
    · exact hr.held ht.1 ht.2 x hxm
  · rw [List.drop_append_of_le_length hk, List.length_append]
    rw [show todo.length + (heldP (exAt m (todo.getD k 0))).length - (k + 1) + load m (seen.set (todo.getD k 0).toNat true) + 1 = todo.length - (k + 1) + load m seen + 1 by omega]
    exact this
end
theorem useBad_eq (m : D.Model) (i run k : Int) : useBad m i run k = ((bif bif (exAt m k).Op == 39 then k != run else false then true else bif i == m.Claim then bif bif (exAt m k).Op == 31 then true else (exAt m k).Op == 39 then true else bif (exAt m k).Op == 2 then (exAt m k).V.Scope == 1 else false else false) ||
    ((exAt m k).Op == 2 && decide (slotsP m i (exAt m k).V < reachP (exAt m k).V))) := by
  unfold useBad
  simp only [ieq, bif_and, bif_or, bne, Bool.or_assoc, decide_not]
theorem set_row {l : List Bool} {t j : Nat} (hj : j < l.length) : (bif j.beq t then [VV.sc (.bool true)] else [.sc (.bool (l.getD j false))]) = [boolV ((l.set t true).getD j false)] := by
  cases hq : j.beq t with
  | true =>
    have := Nat.eq_of_beq_eq_true hq; subst this
    simp [List.getD, hj, boolV]
  | false =>
    have hne : t ≠ j := by rintro rfl; simp at hq
    simp [List.getD, hne, boolV]
theorem app_row {l r : List Int} {F : Nat → List VV} (hF : ∀ i, i < l.length → F i = [intV (l.getD i 0)]) {i : Nat} (hi : i < (l ++ r).length) : (bif i.blt l.length then F i else (fun j => [intV (r.getD j 0)]) (i - l.length)) = rowsIn (l ++ r) i :=
  rows_app (f := fun n => [intV n]) (d := 0) (l := l) (r := r) (G := fun j => [intV (r.getD j 0)]) hF (fun _ _ => rfl) hi
theorem uses_spec {m : D.Model} {i run : Int} {list : List Int} (hr : Ready m) (hi0 : 0 ≤ i) (hi : i < m.Procs.length) (hin : InE m list) (hlen : list.length ≤ 2097152) :
    VSpec Tryd.prog 102 [] [tpM m, intV i, encL_Int false list, intV run] [] (boolV (usesP m i list run)) := by
  have hN := hr.wf.Exprs.1
  have hload := load_le hr.small (noneSeen m)
  have hmul : m.Exprs.length * 2097156 ≤ 1048576 * 2097156 := Nat.mul_le_mul_right _ hN
  generalize hb : usesP m i list run = b
  have inv0 : Inv m i run (list.length + load m (noneSeen m)) b (noneSeen m) list 0 := ⟨by simp [noneSeen], Nat.zero_le _, hin, rfl, by rw [← hb]; rfl⟩
  generalize hn : list.length + load m (noneSeen m) = n at inv0
  have hn2 : n ≤ 4398046511104 := by omega
  have small : ∀ {t : Int}, 0 ≤ t → t < m.Exprs.length → (exAt m t).Args.length ≤ 1048576 ∧ (exAt m t).V.Dims.length ≤ 1048576 := fun h0 h1 => hr.small _ (exAt_mem h0 h1)
  have wfv : ∀ {t : Int}, 0 ≤ t → t < m.Exprs.length → wf_Var (exAt m t).V := fun h0 h1 => (hr.wf.Exprs.2 _ (exAt_mem h0 h1)).V
  refine vspec_raw tb_ok mixed Tryd.func102 (by kernel_rfl) rfl (uses_raw _ m i list run) ?_
  refine scope_raw tb_ok mixed 0 (fun g st => ∃ (seen : List Bool) (todo : List Int) (k : Nat), Inv m i run n b seen todo k ∧ g = todo.length - k + load m seen ∧ st = stUses m i list run seen todo k) (by kernel_rfl) (by kernel_rfl) (by kernel_rfl) (by kernel_rfl) (Asks.raw (uses0_raw _ m i list run _) ?_) fun g st h => ?_
  · have hnn : ((m.Exprs.length : Int).toNat) = m.Exprs.length := by omega
    rw [hnn]
    have hto : Int.toNat 0 = 0 := rfl
    have hz : ∀ j, j < m.Exprs.length → (noneSeen m).getD j false = false := fun j hj => by simp [noneSeen, List.getD, hj]
    have hsl : (noneSeen m).length = m.Exprs.length := by simp [noneSeen]
    refine ⟨⟨by omega, by omega, by omega⟩, by omega, fun _ _ => rfl, fun h => leafB ?_, fun h => ?_⟩
    · have h0 : list.length = 0 := by simp at h; omega
      have := inv0.res
      rw [List.eq_nil_of_length_eq_zero h0] at this
      rw [← this]; rfl
    · have h0 : 0 < list.length := by simp at h; omega
      have ht := inv0.at h0
      rw [hto]
      have hs := hz (list.getD 0 0).toNat (by omega)
      have hbad := useBad_eq m i run (list.getD 0 0)
      have more := fun hu => inv0.more hr h0 hs hu
      have bad := fun hu => inv0.bad h0 hs hu
      have hsm := small ht.1 ht.2
      have hwv := wfv ht.1 ht.2
      have hsum := inv0.sum
      have hsl2 := hr.slots ht.1 ht.2
      refine ⟨⟨by omega, by omega⟩, ⟨by omega, by omega⟩, fun h => (by cases h), fun _ => ⟨⟨by omega, by omega⟩, ⟨by omega, by omega⟩, fun hc => leafB (bad (by rw [hbad, Bool.or_eq_true]; exact .inl hc)), fun hc => ?_⟩⟩
      have fin : useBad m i run (list.getD 0 0) = false → (list.length + (heldP (exAt m (list.getD 0 0))).length) * 8 ≤ 140737488355328 ∧ ∃ g, Up (fun st => ∃ (seen : List Bool) (todo : List Int) (k : Nat), Inv m i run n b seen todo k ∧ g = todo.length - k + load m seen ∧ st = stUses m i list run seen todo k)
          (mkSt [(0, tpM m), (1, intV i), (2, encL_Int false list), (3, intV run), (9, .ow 0 0 m.Exprs.length), (10, .ow 1 0 (list.length + (heldP (exAt m (list.getD 0 0))).length)), (11, intV (IntKind.i64.wrap (0 + 1)))]
            [.arr true 0 m.Exprs.length 1 (fun j => bif j.beq (list.getD 0 0).toNat then [.sc (.bool true)] else [.sc (.bool false)]), .arr true 0 (list.length + (heldP (exAt m (list.getD 0 0))).length) 1 (fun j => bif j.blt list.length then (fun j => [intV (list.getD j 0)]) j else (fun j => [intV ((heldP (exAt m (list.getD 0 0))).getD j 0)]) (j - list.length))]) := by
        intro hu
        have hm := more hu
        have hm2 := hm.sum
        generalize heldP (exAt m (list.getD 0 0)) = H at hm hm2 ⊢
        generalize (list.getD 0 0).toNat = t at hm hm2 ⊢
        rw [List.length_append] at hm2
        refine ⟨by omega, (list ++ H).length - (0 + 1) + load m ((noneSeen m).set t true), ?_⟩
        have hw1 : IntKind.i64.wrap (0 + 1) = ((1 : Nat) : Int) := rfl
        have hnl : m.Exprs.length = ((noneSeen m).set t true).length := by simp [noneSeen]
        refine Up.mk (l' := [(0, tpM m), (1, intV i), (2, encL_Int false list), (3, intV run), (9, .ow 0 0 ((noneSeen m).set t true).length), (10, .ow 1 0 (list ++ H).length), (11, intV ((1 : Nat) : Int))])
          (hs' := [.arr true 0 ((noneSeen m).set t true).length 1 (rowsBo ((noneSeen m).set t true)), .arr true 0 (list ++ H).length 1 (rowsIn (list ++ H))]) ?_ ?_ ⟨_, _, _, hm, rfl, rfl⟩
        · rw [hw1, ← hnl, List.length_append]; exact leT_refl _
        · rw [← hnl, ← List.length_append]
          refine ⟨Ob.le_arr fun j hj => leL_eq ?_, Ob.le_arr fun j hj => leL_eq (app_row (fun i hi => rfl) hj), trivial⟩
          have := set_row (l := noneSeen m) (t := t) (j := j) (by omega)
          rw [hz j hj] at this
          exact this
      refine ⟨fun h2 => ⟨_, reach_spec hwv, _, slots_spec (fun _ => ⟨hi0, hi⟩) (hsl2 (eq_of_beq h2)), fun h3 => leafB (bad ?_), fun h3 => ?_⟩, fun h2 => ?_⟩
      · rw [hbad, Bool.or_eq_true, Bool.and_eq_true]; exact .inr ⟨h2, h3⟩
      · have hu : useBad m i run (list.getD 0 0) = false := by
          rw [hbad, Bool.or_eq_false_iff, Bool.and_eq_false_iff]; exact ⟨hc, .inr h3⟩
        obtain ⟨f1, f2⟩ := fin hu
        exact ⟨heldP (exAt m (list.getD 0 0)), held_spec hsm.1 hsm.2, f1, fun i hi => rfl, f2⟩
      · have hu : useBad m i run (list.getD 0 0) = false := by
          rw [hbad, Bool.or_eq_false_iff, Bool.and_eq_false_iff]; exact ⟨hc, .inl h2⟩
        obtain ⟨f1, f2⟩ := fin hu
        exact ⟨heldP (exAt m (list.getD 0 0)), held_spec hsm.1 hsm.2, f1, fun i hi => rfl, f2⟩
  · obtain ⟨seen, todo, k, inv, rfl, rfl⟩ := h
    refine Asks.raw (uses1_raw _ m i list run seen todo k _) ⟨fun h => leafB ?_, fun h => ?_⟩
    · have h0 : k = todo.length := by simp at h; omega
      have := inv.res
      rw [List.drop_eq_nil_of_le (by omega)] at this
      rw [← this, usesL]
    · have hle := inv.le
      have h0 : k < todo.length := by simp at h; omega
      have ht := inv.at h0
      have hto : (k : Int).toNat = k := by omega
      rw [hto]
      have hbad := useBad_eq m i run (todo.getD k 0)
      have hsm := small ht.1 ht.2
      have hwv := wfv ht.1 ht.2
      have hsum := inv.sum
      have hsle := inv.sl
      have hsl2 := hr.slots ht.1 ht.2
      refine ⟨⟨by omega, by omega⟩, ⟨by omega, by omega⟩, fun hs => ?_, fun hs => ?_⟩
      · have hh := inv.had h0 hs
        refine ⟨todo.length - (k + 1) + load m seen, by omega, Up.of ⟨seen, todo, k + 1, hh, rfl, ?_⟩⟩
        rw [wrap_succ (by omega)]; rfl
      have more := fun hu => inv.more hr h0 hs hu
      have bad := fun hu => inv.bad h0 hs hu
      refine ⟨⟨by omega, by omega⟩, ⟨by omega, by omega⟩, fun hc => leafB (bad (by rw [hbad, Bool.or_eq_true]; exact .inl hc)), fun hc => ?_⟩
      have fin : useBad m i run (todo.getD k 0) = false → (todo.length + (heldP (exAt m (todo.getD k 0))).length) * 8 ≤ 140737488355328 ∧ ∃ g', g' < todo.length - k + load m seen ∧ Up (fun st => ∃ (seen : List Bool) (todo : List Int) (k : Nat), Inv m i run n b seen todo k ∧ g' = todo.length - k + load m seen ∧ st = stUses m i list run seen todo k)
          (mkSt [(0, tpM m), (1, intV i), (2, encL_Int false list), (3, intV run), (9, .ow 0 0 seen.length), (10, .ow 1 0 (todo.length + (heldP (exAt m (todo.getD k 0))).length)), (11, intV (IntKind.i64.wrap (k + 1)))]
            [.arr true 0 seen.length 1 (fun j => bif j.beq (todo.getD k 0).toNat then [.sc (.bool true)] else [.sc (.bool (seen.getD j false))]), .arr true 0 (todo.length + (heldP (exAt m (todo.getD k 0))).length) 1 (fun j => bif j.blt todo.length then rowsIn todo j else (fun j => [intV ((heldP (exAt m (todo.getD k 0))).getD j 0)]) (j - todo.length))]) := by
        intro hu
        have hm := more hu
        have hm2 := hm.sum
        generalize heldP (exAt m (todo.getD k 0)) = H at hm hm2 ⊢
        generalize (todo.getD k 0).toNat = t at hm hm2 ⊢
        rw [List.length_append] at hm2
        refine ⟨by omega, (todo ++ H).length - (k + 1) + load m (seen.set t true), by rw [List.length_append]; omega, ?_⟩
        have hnl : seen.length = (seen.set t true).length := by simp
        refine Up.mk (l' := [(0, tpM m), (1, intV i), (2, encL_Int false list), (3, intV run), (9, .ow 0 0 (seen.set t true).length), (10, .ow 1 0 (todo ++ H).length), (11, intV ((k + 1 : Nat) : Int))])
          (hs' := [.arr true 0 (seen.set t true).length 1 (rowsBo (seen.set t true)), .arr true 0 (todo ++ H).length 1 (rowsIn (todo ++ H))]) ?_ ?_ ⟨_, _, _, hm, rfl, rfl⟩
        · rw [wrap_succ (by omega), ← hnl, List.length_append]; exact leT_refl _
        · rw [← hnl, ← List.length_append]
          exact ⟨Ob.le_arr fun j hj => leL_eq (set_row hj), Ob.le_arr fun j hj => leL_eq (app_row (fun i hi => rfl) hj), trivial⟩
      refine ⟨fun h2 => ⟨_, reach_spec hwv, _, slots_spec (fun _ => ⟨hi0, hi⟩) (hsl2 (eq_of_beq h2)), fun h3 => leafB (bad ?_), fun h3 => ?_⟩, fun h2 => ?_⟩
      · rw [hbad, Bool.or_eq_true, Bool.and_eq_true]; exact .inr ⟨h2, h3⟩
      · have hu : useBad m i run (todo.getD k 0) = false := by
          rw [hbad, Bool.or_eq_false_iff, Bool.and_eq_false_iff]; exact ⟨hc, .inr h3⟩
        obtain ⟨f1, f2⟩ := fin hu
        exact ⟨heldP (exAt m (todo.getD k 0)), held_spec hsm.1 hsm.2, f1, fun i hi => rfl, f2⟩
      · have hu : useBad m i run (todo.getD k 0) = false := by
          rw [hbad, Bool.or_eq_false_iff, Bool.and_eq_false_iff]; exact ⟨hc, .inl h2⟩
        obtain ⟨f1, f2⟩ := fin hu
        exact ⟨heldP (exAt m (todo.getD k 0)), held_spec hsm.1 hsm.2, f1, fun i hi => rfl, f2⟩
/-- The same list, however it is said. -/
theorem uses_at {m : D.Model} {i run : Int} {list : List Int} {n : Nat} {F : Nat → List VV} (hr : Ready m) (hi0 : 0 ≤ i) (hi : i < m.Procs.length) (hin : InE m list) (hlen : list.length ≤ 2097152) (hn : n = list.length) (hF : ∀ j, j < list.length → F j = [intV (list.getD j 0)]) :
    VSpec Tryd.prog 102 [] [tpM m, intV i, .sl false n 1 F, intV run] [] (boolV (usesP m i list run)) := by
  subst hn
  exact (uses_spec hr hi0 hi hin hlen).le trivial ⟨VV.le_refl _, VV.le_refl _, VV.le_sl (.inl rfl) fun j hj => leL_eq (hF j hj), VV.le_refl _, trivial⟩ trivial (VV.le_refl _)
def wayList (s : D.Stmt) : List Int := s.Args ++ ((if 0 ≤ s.A then [s.A] else []) ++ (if 0 ≤ s.B then [s.B] else []))
theorem placeP_in {m : D.Model} {a : Int} (h : placeP m a = true) : 0 ≤ a ∧ a < m.Exprs.length := inP_iff.1 h
theorem targetP_in {m : D.Model} {a : Int} (h : targetP m a = true) : 0 ≤ a ∧ a < m.Exprs.length := by
  unfold targetP at h
  simp only [Bool.and_eq_true] at h
  exact placeP_in h.1.1
theorem matchedP_in {m : D.Model} {a : Int} {args mt : List Int} (h : matchedP m a args mt = true) : 1 ≤ args.length ∧ args.length ≤ 8 ∧ mt.length = args.length ∧ ∀ x ∈ args, 0 ≤ x ∧ x < a := by
  unfold matchedP at h
  simp only [Bool.and_eq_true, decide_eq_true_eq] at h
  exact ⟨h.1.1.1.1, h.1.1.1.2, h.1.1.2, belowP_iff.1 h.1.2⟩
/-- The parts of a statement are some of the model's. -/
theorem stmt_in {m : D.Model} {s : D.Stmt} (h : statementP m s = true) : InE m s.Args ∧ (0 ≤ s.A → s.A < m.Exprs.length) ∧ (0 ≤ s.B → s.B < m.Exprs.length) := by
  have none : ∀ {n t : Bool}, emptyP s true n t = true → InE m s.Args := fun he => by
    unfold emptyP at he
    simp only [Bool.and_eq_true, Bool.not_true, Bool.false_or, decide_eq_true_eq] at he
    have : s.Args = [] := List.eq_nil_of_length_eq_zero (by omega)
    rw [this]; intro x hx; cases hx
  unfold statementP at h
  split at h
  · simp only [Bool.and_eq_true, decide_eq_true_eq] at h
    exact ⟨none h.2, fun _ => (placeP_in h.1.1).2, fun h0 => by omega⟩
  split at h
  · simp only [Bool.and_eq_true] at h
    exact ⟨none h.2, fun _ => (targetP_in h.1.1).2, fun _ => (placeP_in h.1.2).2⟩
  split at h
  · simp only [Bool.and_eq_true, decide_eq_true_eq] at h
    exact ⟨belowP_iff.1 h.1.1.1.2, fun h0 => by omega, fun h0 => by omega⟩
  split at h
  · simp only [Bool.and_eq_true, decide_eq_true_eq] at h
    exact ⟨belowP_iff.1 h.1.1.1.2, fun _ => (placeP_in h.1.1.1.1.1.1.1).2, fun h0 => by omega⟩
  split at h
  · simp only [Bool.and_eq_true, decide_eq_true_eq] at h
    have ht := h.1.1.1.2
    unfold takenP at ht
    simp only [Bool.and_eq_true] at ht
    exact ⟨(matchedP_in ht.1).2.2.2, fun _ => (placeP_in h.1.1.1.1.1).2, fun h0 => by omega⟩
  split at h
  · simp only [Bool.and_eq_true, decide_eq_true_eq] at h
    exact ⟨none h.2, fun h0 => by omega, fun h0 => by omega⟩
  split at h
  · simp only [Bool.and_eq_true, decide_eq_true_eq] at h
    exact ⟨none h.2, fun _ => (targetP_in h.1.1.1.1).2, fun h0 => by omega⟩
  · cases h
theorem wayList_in {m : D.Model} {s : D.Stmt} (h : statementP m s = true) : InE m (wayList s) := by
  obtain ⟨h1, h2, h3⟩ := stmt_in h
  intro x hx
  unfold wayList at hx
  rcases List.mem_append.1 hx with hx | hx
  · exact h1 x hx
  rcases List.mem_append.1 hx with hx | hx
  · split at hx
    · rename_i h0; obtain rfl := List.mem_singleton.1 hx; exact ⟨h0, h2 h0⟩
    · cases hx
  · split at hx
    · rename_i h0; obtain rfl := List.mem_singleton.1 hx; exact ⟨h0, h3 h0⟩
    · cases hx
theorem way_spec {m : D.Model} {i : Int} {s : D.Stmt} (hr : Ready m) (hi0 : 0 ≤ i) (hi : i < m.Procs.length) (hs : SmallS s) : VSpec Tryd.prog 101 [] [tpM m, intV i, .agg (enc_Stmt s)] [] (boolV (wayP m i s)) := by
  have ha := hs.a
  have hkn : ∀ {k : Int}, (s.Kind == k) = true → s.Kind = k := fun h => by simpa using h
  have hkf : ∀ {k : Int}, (s.Kind == k) = false → s.Kind ≠ k := fun h => by simpa using h
  have ec : (bif bif bif bif i == m.Claim then s.Kind != 1 else false then s.Kind != 3 else false then s.Kind != 7 else false then s.Kind != 8 else false) = (decide (i = m.Claim) && (decide (s.Kind ≠ 1) && (decide (s.Kind ≠ 3) && (decide (s.Kind ≠ 7) && decide (s.Kind ≠ 8))))) := by
    simp only [ieq, bif_and, bne, Bool.and_assoc, decide_not]
  refine vspec_raw tb_ok mixed Tryd.func101 (by kernel_rfl) rfl (way_raw _ m i s) ⟨statementP m s, statement_spec hs, ?_⟩
  rw [ec]
  have ew : wayP m i s = (statementP m s && !(decide (i = m.Claim) && (decide (s.Kind ≠ 1) && (decide (s.Kind ≠ 3) && (decide (s.Kind ≠ 7) && decide (s.Kind ≠ 8))))) && usesP m i (wayList s) (if s.Kind = 1 then s.A else if s.Kind = 2 then s.B else -1)) := rfl
  generalize (decide (i = m.Claim) && (decide (s.Kind ≠ 1) && (decide (s.Kind ≠ 3) && (decide (s.Kind ≠ 7) && decide (s.Kind ≠ 8))))) = cl at ew ⊢
  refine ⟨fun h => leafB ?_, fun h => ?_⟩
  · rw [ew]
    cases hq : statementP m s
    · rfl
    · rw [hq] at h
      have : cl = true := by simpa using h
      rw [this]; rfl
  · have hq : statementP m s = true := by
      cases hq : statementP m s with
      | true => rfl
      | false => rw [hq] at h; simp at h
    have hcl : cl = false := by rw [hq] at h; simpa using h
    rw [hq, hcl] at ew
    simp only [Bool.not_false, Bool.true_and] at ew
    have hin := wayList_in hq
    have go : ∀ (run : Int) (n : Nat) (F : Nat → List VV), n = (wayList s).length → (∀ j, j < (wayList s).length → F j = [intV ((wayList s).getD j 0)]) → VSpec Tryd.prog 102 [] [tpM m, intV i, .sl false n 1 F, intV run] [] (boolV (usesP m i (wayList s) run)) := fun run n F hn hF =>
      uses_at hr hi0 hi hin (by unfold wayList; simp only [List.length_append]; split <;> split <;> simp <;> omega) hn hF
    have r1 : s.Kind = 1 → wayP m i s = usesP m i (wayList s) s.A := fun h => by rw [ew, if_pos h]
    have r2 : s.Kind ≠ 1 → s.Kind = 2 → wayP m i s = usesP m i (wayList s) s.B := fun h h' => by rw [ew, if_neg h, if_pos h']
    have r3 : s.Kind ≠ 1 → s.Kind ≠ 2 → wayP m i s = usesP m i (wayList s) (-1) := fun h h' => by rw [ew, if_neg h, if_neg h']
    generalize wayP m i s = b at r1 r2 r3 ⊢
    refine ⟨by omega, fun _ _ => rfl, fun hA => ⟨by omega, fun hB => ⟨by omega, ?_⟩, fun hB => ?_⟩, fun hA => ⟨fun hB => ⟨by omega, ?_⟩, fun hB => ?_⟩⟩
    · have hL : wayList s = (s.Args ++ [s.A]) ++ [s.B] := by unfold wayList; rw [if_pos (by simpa using hA), if_pos (by simpa using hB), List.append_assoc]
      have c1 : s.Args.length + 1 + 1 = (wayList s).length := by rw [hL]; simp
      have e1 : s.Args.length + 1 = (s.Args ++ [s.A]).length := by simp
      have c2 : ∀ j, j < (wayList s).length → (bif Nat.blt j (s.Args.length + 1) then (fun j => bif Nat.blt j s.Args.length then [VV.sc (.int .i64 (s.Args.getD j 0))] else (fun i => List.take 1 (List.drop (i * 1) [VV.sc (.int .i64 s.A)])) (j - s.Args.length)) j else (fun i => List.take 1 (List.drop (i * 1) [VV.sc (.int .i64 s.B)])) (j - (s.Args.length + 1))) = [intV ((wayList s).getD j 0)] := by
        rw [hL, e1]
        exact fun j hj => rows_app (f := fun n => [intV n]) (d := 0) (l := s.Args ++ [s.A]) (r := [s.B]) (F := fun j => bif Nat.blt j s.Args.length then [VV.sc (.int .i64 (s.Args.getD j 0))] else (fun i => List.take 1 (List.drop (i * 1) [VV.sc (.int .i64 s.A)])) (j - s.Args.length)) (fun i hi => rows_app (f := fun n => [intV n]) (d := 0) (l := s.Args) (r := [s.A]) (F := fun j => [.sc (.int .i64 (s.Args.getD j 0))]) (fun i hi => rfl) row_one hi) row_one hj
      exact ⟨fun k1 => ⟨_, go _ _ _ c1 c2, leafB (r1 (hkn k1)).symm⟩, fun k1 => ⟨fun k2 => ⟨_, go _ _ _ c1 c2, leafB (r2 (hkf k1) (hkn k2)).symm⟩, fun k2 => ⟨_, go _ _ _ c1 c2, leafB (r3 (hkf k1) (hkf k2)).symm⟩⟩⟩
    · have hL : wayList s = s.Args ++ [s.A] := by unfold wayList; rw [if_pos (by simpa using hA), if_neg (by simpa using hB), List.append_nil]
      have c1 : s.Args.length + 1 = (wayList s).length := by rw [hL]; simp
      have c2 : ∀ j, j < (wayList s).length → (bif Nat.blt j s.Args.length then [VV.sc (.int .i64 (s.Args.getD j 0))] else (fun i => List.take 1 (List.drop (i * 1) [VV.sc (.int .i64 s.A)])) (j - s.Args.length)) = [intV ((wayList s).getD j 0)] := by
        rw [hL]
        exact fun j hj => rows_app (f := fun n => [intV n]) (d := 0) (l := s.Args) (r := [s.A]) (F := fun j => [.sc (.int .i64 (s.Args.getD j 0))]) (fun i hi => rfl) row_one hj
      exact ⟨fun k1 => ⟨_, go _ _ _ c1 c2, leafB (r1 (hkn k1)).symm⟩, fun k1 => ⟨fun k2 => ⟨_, go _ _ _ c1 c2, leafB (r2 (hkf k1) (hkn k2)).symm⟩, fun k2 => ⟨_, go _ _ _ c1 c2, leafB (r3 (hkf k1) (hkf k2)).symm⟩⟩⟩
    · have hL : wayList s = s.Args ++ [s.B] := by unfold wayList; rw [if_neg (by simpa using hA), if_pos (by simpa using hB), List.nil_append]
      have c1 : s.Args.length + 1 = (wayList s).length := by rw [hL]; simp
      have c2 : ∀ j, j < (wayList s).length → (bif Nat.blt j s.Args.length then [VV.sc (.int .i64 (s.Args.getD j 0))] else (fun i => List.take 1 (List.drop (i * 1) [VV.sc (.int .i64 s.B)])) (j - s.Args.length)) = [intV ((wayList s).getD j 0)] := by
        rw [hL]
        exact fun j hj => rows_app (f := fun n => [intV n]) (d := 0) (l := s.Args) (r := [s.B]) (F := fun j => [.sc (.int .i64 (s.Args.getD j 0))]) (fun i hi => rfl) row_one hj
      exact ⟨fun k1 => ⟨_, go _ _ _ c1 c2, leafB (r1 (hkn k1)).symm⟩, fun k1 => ⟨fun k2 => ⟨_, go _ _ _ c1 c2, leafB (r2 (hkf k1) (hkn k2)).symm⟩, fun k2 => ⟨_, go _ _ _ c1 c2, leafB (r3 (hkf k1) (hkf k2)).symm⟩⟩⟩
    · have hL : wayList s = s.Args := by unfold wayList; rw [if_neg (by simpa using hA), if_neg (by simpa using hB), List.append_nil, List.append_nil]
      have c1 : s.Args.length = (wayList s).length := by rw [hL]
      have c2 : ∀ j, j < (wayList s).length → [intV (s.Args.getD j 0)] = [intV ((wayList s).getD j 0)] := by rw [hL]; exact fun _ _ => rfl
      exact ⟨fun k1 => ⟨_, go _ _ _ c1 c2, leafB (r1 (hkn k1)).symm⟩, fun k1 => ⟨fun k2 => ⟨_, go _ _ _ c1 c2, leafB (r2 (hkf k1) (hkn k2)).symm⟩, fun k2 => ⟨_, go _ _ _ c1 c2, leafB (r3 (hkf k1) (hkf k2)).symm⟩⟩⟩
end Go.Proofs.YtdjjlkekbphbaaaDoor
