/-
  Messages and queues in memory of the call's own; the walks of slices.Clone and of layer 13's copied.
-/
import Derived.Test.YtiflenddalmfaaaChMsg
import Derived.Test.YtiflenddalmfaaaAppend
import Derived.Test.YtiflenddalmfaaaCellRet
import Derived.BigRegion
import Derived.Deep.RegionLaw
import Derived.Deep.AppendLies
import Derived.Lib.SliceRun
namespace Go.Proofs.Ytiflenddalmfaaa
open Go.RowKit

theorem info_parts' {P : Program} {t : TypeId} {z : Value} {s b : Nat} (h : (P.info? t).map (fun i => (i.zero, i.size, i.bytes)) = some (some z, s, b)) : ∃ i, P.info? t = some i ∧ i.zero = some z ∧ i.size = s ∧ i.bytes = b := by
  cases hi : P.info? t with
  | none => rw [hi] at h; cases h
  | some i => rw [hi] at h; simp only [Option.map_some, Option.some.injEq, Prod.mk.injEq] at h; exact ⟨i, rfl, h⟩
theorem info_i64 : (Try.prog.info? 2).map (fun i => (i.zero, i.size, i.bytes)) = some (some (.int .i64 0), 1, 8) := by kernel_rfl
theorem info_msg : (Try.prog.info? 29).map (fun i => (i.zero, i.size, i.bytes)) = some (some (.slice none 0 0), 1, 24) := by kernel_rfl

/-- A message in memory of the call's own. -/
structure OwnM (w : World) (n0 : Nat) (v : Value) (xs : List Int) : Prop where
  row : w.ownsRow n0 2 1 v xs.length (xs.map (Value.int .i64))
  wf : ∀ i, i < xs.length → (Lit.int .i64 (xs.getD i 0)).wf = true
/-- A queue in memory of the call's own, and each message of it. -/
structure OwnQ (w : World) (n0 : Nat) (v : Value) (vs : List Value) (q : List (List Int)) : Prop where
  row : w.ownsRow n0 29 1 v q.length vs
  len : vs.length = q.length
  each : ∀ (i : Nat) (u : Value) (m : List Int), vs[i]? = some u → q[i]? = some m → OwnM w n0 u m

theorem OwnM.same {w w' : World} {n0 : Nat} {v : Value} {xs : List Int} (h : OwnM w n0 v xs) (hs : ∀ k, v.ownBlock = some k → w'.heap[k]? = w.heap[k]?) : OwnM w' n0 v xs :=
  ⟨ownsRow_same h.row hs, h.wf⟩
theorem OwnM.base {w : World} {n0 n1 : Nat} {v : Value} {xs : List Int} (h : OwnM w n0 v xs) (hb : n1 ≤ n0) : OwnM w n1 v xs :=
  ⟨⟨h.row.1, h.row.2.imp id fun ⟨g, cap, cur, e, h1, h2⟩ => ⟨g, cap, cur, e, Nat.le_trans hb h1, h2⟩⟩, h.wf⟩
theorem own_one {w : World} {n0 : Nat} {e : TypeId} {v : Value} {n : Nat} {xs : List Value} (h : w.ownsRow n0 e 1 v n xs) :
    ∃ ao cap, v = .slice ao n cap ∧ n ≤ cap ∧ cap ≤ maxLen ∧ (0 < n → ∃ g, ao = some ⟨g, 0, none⟩ ∧ n0 ≤ g ∧ g < w.heap.size ∧ ∀ j, j < n → w.cell? ⟨g, j, none⟩ = xs[j]?) := by
  rcases h.2 with ⟨rfl, rfl⟩ | ⟨g, cap, cur, rfl, hb, hg, h1, h2, _⟩
  · exact ⟨none, 0, rfl, Nat.le_refl _, Nat.zero_le _, fun h => by omega⟩
  · exact ⟨_, cap, rfl, h1, h2, fun _ => ⟨g, rfl, hb, blk_lt hg, fun j hj => h.cellAt j (by omega)⟩⟩
theorem OwnM.is {w : World} {n0 : Nat} {v : Value} {xs : List Int} (h : OwnM w n0 v xs) : Is pM w [v] xs := by
  obtain ⟨ao, cap, rfl, h1, h2, h3⟩ := own_one h.row
  refine ⟨ao, cap, rfl, h1, h2, fun hp => ?_⟩
  obtain ⟨g, rfl, hb, hg, hc⟩ := h3 hp
  refine ⟨g, 0, rfl, hg, fun i x hx => ⟨[.int .i64 x], rfl, fun k hk => ?_, rfl, ?_⟩⟩
  · obtain rfl : k = 0 := by omega
    have hi : i < xs.length := (List.getElem?_eq_some_iff.1 hx).1
    have := hc i hi
    rw [List.getElem?_map, hx] at this
    simpa using this
  · obtain ⟨hi, rfl⟩ := List.getElem?_eq_some_iff.1 hx
    have := h.wf i hi
    simpa [List.getD, hi] using this
theorem OwnQ.is {w : World} {n0 : Nat} {v : Value} {vs : List Value} {q : List (List Int)} (h : OwnQ w n0 v vs q) : Is pQ w [v] q := by
  obtain ⟨ao, cap, rfl, h1, h2, h3⟩ := own_one h.row
  refine ⟨ao, cap, rfl, h1, h2, fun hp => ?_⟩
  obtain ⟨g, rfl, hb, hg, hc⟩ := h3 hp
  refine ⟨g, 0, rfl, hg, fun i x hx => ?_⟩
  have hi : i < q.length := (List.getElem?_eq_some_iff.1 hx).1
  have hv : i < vs.length := by rw [h.len]; exact hi
  refine ⟨[vs[i]], rfl, fun k hk => ?_, (h.each i vs[i] x (by simp [hv]) hx).is⟩
  obtain rfl : k = 0 := by omega
  have := hc i hi
  simpa [hv] using this
/-- The queue stays where its block and its messages' blocks do. -/
theorem OwnQ.same {w w' : World} {n0 : Nat} {v : Value} {vs : List Value} {q : List (List Int)} (h : OwnQ w n0 v vs q) (hs : ∀ k, n0 ≤ k → k < w.heap.size → w'.heap[k]? = w.heap[k]?) : OwnQ w' n0 v vs q :=
  ⟨ownsRow_same h.row fun k hk => hs k (h.row.lt k hk).1 (h.row.lt k hk).2, h.len, fun i u m hu hm => (h.each i u m hu hm).same fun _ hk => hs _ ((h.each i u m hu hm).row.lt _ hk).1 ((h.each i u m hu hm).row.lt _ hk).2⟩

theorem ints_cells {w : World} {b off : Nat} {xs : List Int} (hc : ∀ i, i < xs.length → w.cell? ⟨b, off + i, none⟩ = some (.int .i64 (xs.getD i 0))) :
    ∀ (j : Nat) (u : Value), (xs.map (Value.int .i64))[j]? = some u → w.cell? ((⟨b, off, none⟩ : Addr).add j) = some u := by
  intro j u hj
  rw [List.getElem?_map] at hj
  obtain ⟨x, hx, rfl⟩ := Option.map_eq_some_iff.1 hj
  obtain ⟨hi, rfl⟩ := List.getElem?_eq_some_iff.1 hx
  rw [Addr.add_lit, hc j hi]; simp [List.getD, hi]

set_option maxHeartbeats 1000000 in
theorem clone_calls {w : World} {v : Value} {xs : List Int} (h : Is pM w [v] xs) (hr : xs.length * 8 ≤ 140737488355328) :
    Calls Try.prog 26 #[v] w fun e w' => ∃ v', e = .returned v' ∧ OwnM w' w.heap.size v' xs ∧ Below w.heap.size w w' := by
  obtain ⟨ao, cap, rfl, h1, h2, hw, h3⟩ := is_ints h
  have q22 : ∀ (w : World) (a : Option Addr) (n c n' c' : Nat), (binOp .eql 29 (.slice a n c) (.slice none n' c')).run Try.prog w = .ok (.bool a.isNone) w := fun w a n c n' c' => Lib.run_eql_slice_nil w _ _ a n c n' c' Try.underlying29
  obtain ⟨ki, khi, khz0, khz1, khz2⟩ := info_parts' info_i64
  cases ao with
  | none =>
    have h0 : xs = [] := by
      apply List.eq_nil_of_length_eq_zero
      apply Classical.byContradiction
      intro hp
      obtain ⟨_, _, e, _⟩ := h3 (by omega)
      cases e
    subst h0
    clear h3
    go_enter Try.func26, Try.ntmps26
    go_wp2
    go_ret
    exact ⟨_, rfl, ⟨World.ownsRow_nil _ _ _ _, fun i hi => by simp at hi⟩, Below.refl _ _⟩
  | some a =>
    have hn : ∀ (j : Nat) (u : Value), (xs.map (Value.int .i64))[j]? = some u → w.cell? (a.add j) = some u := by
      intro j u hj
      have hp : 0 < xs.length := by have := (List.getElem?_eq_some_iff.1 hj).1; simp at this; omega
      obtain ⟨b, off, e, _, hc⟩ := h3 hp
      simp only [Option.some.injEq] at e
      subst e
      exact ints_cells hc j u hj
    have HN := Lib.hid hn
    clear h3 hn h
    have hlen := h2
    unfold maxLen at hlen
    go_enter Try.func26, Try.ntmps26
    go_wp2_with (at_builtin; refine wpList_append_own _ rfl _ _ 29 rfl w.heap.size 2 ki (.int .i64 0) 1 8 Try.underlying29 khi khz0 khz1 khz2 rfl (by decide) _ _ _ rfl (World.ownsRow_made w #[] 0 (Nat.le_refl _) (Nat.zero_le _) (by simp)) a xs.length cap (xs.map (Value.int .i64)) rfl ?qc1 ?qc2 ?qc3 ?qc4 ?qc5 ?qc6 ?_)
    case qc1 => simp
    case qc2 => intro j u hj; have := HN.out j u hj; exact Lib.cell?_alloc_some _ this
    case qc3 => intro u hu; simp at hu; obtain ⟨x, _, rfl⟩ := hu; rfl
    case qc4 => unfold maxLen; omega
    case qc5 => omega
    case qc6 => simp
    intro v' w1 hown hgrow _
    go_wp2
    go_ret
    exact ⟨v', rfl, ⟨by simpa using hown, hw⟩, ((Below.refl _ w).alloc (Nat.le_refl _) _).grown hgrow (by simp) (by intro k hk; simp [Value.ownBlock] at hk; omega)⟩

/-- Within what a slice may hold. -/
def Small (q : List (List Int)) : Prop := q.length * 24 ≤ 140737488355328 ∧ ∀ m ∈ q, m.length * 8 ≤ 140737488355328
theorem take_more {α : Type} {q : List α} {k : Nat} {m : α} (h : q[k]? = some m) : q.take (k + 1) = q.take k ++ [m] := by
  obtain ⟨hk, rfl⟩ := List.getElem?_eq_some_iff.1 h
  rw [List.take_succ_eq_append_getElem hk]
/-- One message more. -/
theorem OwnQ.more {w w' : World} {n0 : Nat} {v v' u : Value} {vs : List Value} {q : List (List Int)} {m : List Int} (h : OwnQ w n0 v vs q) (hm : OwnM w n0 u m)
    (hr : w'.ownsRow n0 29 1 v' (q.length + 1) (vs ++ [u])) (hg : w.grownBy w' v.ownBlock) : OwnQ w' n0 v' (vs ++ [u]) (q ++ [m]) := by
  have sep : ∀ (x : Value) (l : List Int), OwnM w n0 x l → OwnM w' n0 x l := fun x l hx => hx.same fun k hk => hg.block k (hx.row.lt k hk).2 fun e => by
    obtain ⟨c1, e1⟩ := ownsRow_blk hx.row hk
    obtain ⟨c2, e2⟩ := ownsRow_blk h.row e.symm
    exact blk_ne e1 e2 (by decide) rfl
  refine ⟨by simpa using hr, by simp [h.len], fun i x l hx hl => ?_⟩
  by_cases hi : i < q.length
  · rw [List.getElem?_append_left (by rw [h.len]; exact hi)] at hx
    rw [List.getElem?_append_left hi] at hl
    exact sep x l (h.each i x l hx hl)
  · have hil : i < q.length + 1 := by have := (List.getElem?_eq_some_iff.1 hl).1; simpa using this
    obtain rfl : i = q.length := by omega
    rw [List.getElem?_append_right (Nat.le_refl _)] at hl
    rw [List.getElem?_append_right (by rw [h.len]; exact Nat.le_refl _)] at hx
    simp [h.len] at hx hl
    subst hx hl
    exact sep _ _ hm

/-- A store into a block of another kind. -/
theorem OwnQ.set {w : World} {n0 B i : Nat} {v : Value} {vs : List Value} {q : List (List Int)} {c : Array Value} {t : TypeId} {f : Nat × Nat} (h : OwnQ w n0 v vs q) (hB : w.heap[B]? = some (.cells c t f))
    (h1 : 29 ≠ t) (h2 : 2 ≠ t) (u : Value) : OwnQ (w.setCell ⟨B, i, none⟩ u) n0 v vs q :=
  ⟨ownsRow_same h.row fun k hk => Below.heap_setCell _ _ _ _ (by rintro rfl; obtain ⟨cur, hcur⟩ := ownsRow_blk h.row hk; exact blk_ne hcur hB h1 rfl), h.len, fun j x m hx hm => (h.each j x m hx hm).same fun k hk =>
    Below.heap_setCell _ _ _ _ (by rintro rfl; obtain ⟨cur, hcur⟩ := ownsRow_blk (h.each j x m hx hm).row hk; exact blk_ne hcur hB h2 rfl)⟩
theorem OwnQ.alloc {w : World} {n0 : Nat} {v : Value} {vs : List Value} {q : List (List Int)} (h : OwnQ w n0 v vs q) (o : Obj) : OwnQ (w.alloc o) n0 v vs q :=
  h.same fun _ _ hk => Below.heap_alloc _ _ _ hk
theorem OwnM.alloc {w : World} {n0 : Nat} {v : Value} {m : List Int} (h : OwnM w n0 v m) (o : Obj) : OwnM (w.alloc o) n0 v m :=
  h.same fun _ hk => Below.heap_alloc _ _ _ (h.row.lt _ hk).2
theorem OwnQ.nil (w : World) (n0 : Nat) : OwnQ w n0 (.slice none 0 0) [] [] := ⟨World.ownsRow_nil _ _ _ _, rfl, fun i x m h => by simp at h⟩

set_option maxRecDepth 100000 in
set_option maxHeartbeats 1000000 in
theorem copied_calls {w : World} {qv : Value} {q : List (List Int)} (sh : Int) (h : Is pQ w [qv] q) (hr : Small q) :
    Calls Try.prog 17 #[.agg #[.int .i64 sh, qv]] w fun e w' => ∃ ov vs, e = .returned (.agg #[.int .i64 sh, ov]) ∧ OwnQ w' w.heap.size ov vs q ∧ Below w.heap.size w w' := by
  obtain ⟨ao, cap, rfl, h1, h2, h3⟩ := is_slice1 h
  obtain ⟨ki, khi, khz0, khz1, khz2⟩ := info_parts' info_msg
  have hlen := h2
  unfold maxLen at hlen
  obtain ⟨hr1, hr2⟩ := hr
  go_enter Try.func17, Try.ntmps17
  go_wp2
  go_loopw [12] (fun i wr => ∃ k : Nat, k ≤ q.length ∧ i = .int .i64 k ∧ ∃ ov vs, wr.heap[w.heap.size + 1]? = some (.cells #[.int .i64 0, .slice none 0 0] 27 (0, 0)) ∧ wr.heap[w.heap.size + 2]? = some (.cells #[.int .i64 sh, ov] 27 (0, 0)) ∧ OwnQ wr w.heap.size ov vs (q.take k) ∧ Below w.heap.size w wr) (fun i _ => q.length - (intOf i).toNat)
  case atStart =>
    refine ⟨0, Nat.zero_le _, rfl, .slice none 0 0, [], ?_, ?_, by simpa using OwnQ.nil _ _, ?_⟩
    · have := heap_alloc_new (w.alloc (.cells #[.int .i64 sh, .slice ao q.length cap] 27)) (.cells #[.int .i64 0, .slice none 0 0] 27)
      rw [Below.heap_alloc _ _ _ (by simp)]
      simpa using this
    · have := heap_alloc_new ((w.alloc (.cells #[.int .i64 sh, .slice ao q.length cap] 27)).alloc (.cells #[.int .i64 0, .slice none 0 0] 27)) (.cells #[.int .i64 sh, .slice none 0 0] 27)
      simpa using this
    · exact (((Below.refl _ w).alloc (Nat.le_refl _) _).alloc (by simp) _).alloc (by simp; omega) _
  case round =>
    obtain ⟨k, hk, rfl, ov, vs, hres, hblk, hown, hb⟩ := hrel
    by_cases hlt : k < q.length
    · obtain ⟨b, off, rfl, hbl, hc⟩ := h3 (by omega)
      obtain ⟨u, hu, hm⟩ := hc k q[k] (by simp [hlt])
      rw [← hb.cell (p := ⟨b, off + k, none⟩) hbl] at hu
      have hm' := hm.below stays_M hb
      have hml := hr2 q[k] (by simp)
      have hc1 : wr.cell? ⟨w.heap.size + 2, 1, none⟩ = some ov := cell_of_blk hblk rfl
      have hf1 : wr.frozen? ⟨w.heap.size + 2, 1, none⟩ = false := free_of_blk hblk
      have hsz := blk_lt hblk
      have hkl : (q.take k).length = k := by simp; omega
      have HQ : Hid (q[k]? = some q[k]) := by unfold Hid; simp [hlt]
      clear hr2 hc h3 h
      generalize q[k] = m at *
      go_wp2
      go_region_law (first
        | (go_simp; go_at_call 26; refine (clone_calls (hm'.drewN stays_M _) hml).mono ?_; rintro e w2 ⟨v', rfl, hm2, hb2⟩
           obtain ⟨ao', cap', rfl, _⟩ := own_one hm2.row
           obtain ⟨hc2, hf2⟩ := bcell hb2
           have hown2 : OwnQ w2 w.heap.size ov vs (q.take k) := hown.same fun _ _ hk => hb2.block _ hk
           have hs2 := hb2.size
           simp at hs2
           have hblk2 : w2.heap[w.heap.size + 2]? = some (.cells #[.int .i64 sh, ov] 27 (0, 0)) := (hb2.block _ hsz).trans hblk
           have c2 : w2.cell? ⟨w.heap.size + 2, 1, none⟩ = some ov := cell_of_blk hblk2 rfl
           have hs3 := blk_lt hblk2
           have c3 := Lib.cell?_alloc_some (.cells #[.slice ao' m.length cap'] 29) c2)
        | (refine step_append_lies _ rfl (.tmp 17) (.tmp 20) 25 rfl w.heap.size 29 ki (.slice none 0 0) 1 24 Try.underlying25 khi khz0 khz1 khz2 rfl (by decide) ov k vs (by simp [Act.eval]) (by have := hown2.row.alloc (.cells #[.slice ao' m.length cap'] 29); rwa [hkl] at this) ⟨w2.heap.size, 0, none⟩ 1 1 [.slice ao' m.length cap'] (by simp [Act.eval]) rfl (cell_one_new _ _ _) (by intro u hu; simp at hu; subst hu; rfl) (by decide) (by unfold maxLen; omega) (by omega) (by simp; omega) _ rfl ?_
           intro g cap3 w3 hown3 hgrow3 hat3 hlt3
           have hblk3 : w3.heap[w.heap.size + 2]? = some (.cells #[.int .i64 sh, ov] 27 (0, 0)) := by
             rw [hgrow3.block _ (by simp; omega) (fun e => by obtain ⟨cur, hcur⟩ := ownsRow_blk hown2.row e.symm; exact blk_ne hcur hblk2 (by decide) rfl), Below.heap_alloc _ _ _ (blk_lt hblk2)]; exact hblk2
           have e0 : w3.cell? ⟨w.heap.size + 2, 1, none⟩ = some ov := cell_of_blk hblk3 rfl
           have e1 : w3.frozen? ⟨w.heap.size + 2, 1, none⟩ = false := free_of_blk hblk3))
      all_goals
        have HO : Hid (OwnQ (w3.setCell ⟨w.heap.size + 2, 1, none⟩ (.slice (some ⟨g, 0, none⟩) (k + 1) cap3)) w.heap.size (.slice (some ⟨g, 0, none⟩) (k + 1) cap3) (vs ++ [.slice ao' m.length cap']) (q.take (k + 1))) := by
          unfold Hid
          rw [take_more HQ.out]
          exact ((hown2.alloc _).more ((hm2.base hb.size).alloc _) (by rw [hkl]; exact hown3) hgrow3).set hblk3 (by decide) (by decide) _
        have HB : Hid (Below w.heap.size w (w3.setCell ⟨w.heap.size + 2, 1, none⟩ (.slice (some ⟨g, 0, none⟩) (k + 1) cap3))) :=
          ((((below_drewN hb 1).trans (hb2.mono hb.size)).alloc (Nat.le_trans hb.size hs2) _).grown hgrow3 (by simp; have := hb.size; omega) (fun k hk => (hown2.row.lt k hk).1)).setCell (by simp) _
        have HK : Hid ((w3.setCell ⟨w.heap.size + 2, 1, none⟩ (.slice (some ⟨g, 0, none⟩) (k + 1) cap3)).heap[w.heap.size + 2]? = some (.cells #[.int .i64 sh, .slice (some ⟨g, 0, none⟩) (k + 1) cap3] 27 (0, 0))) := by
          unfold Hid; rw [blk_set hblk3]; rfl
        have HR : Hid ((w3.setCell ⟨w.heap.size + 2, 1, none⟩ (.slice (some ⟨g, 0, none⟩) (k + 1) cap3)).heap[w.heap.size + 1]? = some (.cells #[.int .i64 0, .slice none 0 0] 27 (0, 0))) := by
          unfold Hid
          have hres2 : w2.heap[w.heap.size + 1]? = _ := (hb2.block _ (blk_lt hres)).trans hres
          rw [Below.heap_setCell _ _ _ _ (by simp), hgrow3.block _ (by simp; omega) (fun e => by obtain ⟨cur, hcur⟩ := ownsRow_blk hown2.row e.symm; exact blk_ne hcur hres2 (by decide) rfl), Below.heap_alloc _ _ _ (blk_lt hres2)]; exact hres2
        clear hgrow3 hown3 hown2 hm2 hb2 hc2 hf2 hat3 e0 hblk3
        go_wp2
        go_roundw
        case rel => exact ⟨k + 1, by omega, by go_num, _, _, HR.out, HK.out, HO.out, HB.out⟩
        case measure => simp [intOf]; omega
    · obtain rfl : k = q.length := by omega
      have hc0 : wr.cell? ⟨w.heap.size + 2, 0, none⟩ = some (.int .i64 sh) := cell_of_blk hblk rfl
      have hc1 : wr.cell? ⟨w.heap.size + 2, 1, none⟩ = some ov := cell_of_blk hblk rfl
      have hsz := blk_lt hblk
      have r0 : wr.cell? ⟨w.heap.size + 1, 0, none⟩ = some (.int .i64 0) := cell_of_blk hres rfl
      have r1 : wr.cell? ⟨w.heap.size + 1, 1, none⟩ = some (.slice none 0 0) := cell_of_blk hres rfl
      have f0 : wr.frozen? ⟨w.heap.size + 1, 0, none⟩ = false := free_of_blk hres
      have f1 : wr.frozen? ⟨w.heap.size + 1, 1, none⟩ = false := free_of_blk hres
      obtain ⟨ao', cap', rfl, _⟩ := own_one hown.row
      rw [List.take_length] at hown
      go_wp2
      have hres' : ((wr.setCell ⟨w.heap.size + 1, 0, none⟩ (.int .i64 sh)).setCell ⟨w.heap.size + 1, 1, none⟩ (.slice ao' q.length cap')).heap[w.heap.size + 1]? = some (.cells #[.int .i64 sh, .slice ao' q.length cap'] 27 (0, 0)) := by
        rw [blk_set (blk_set hres _)]; rfl
      refine ret_cell1 rfl rfl hres' Try.underlying27 rfl (by kernel_rfl) rfl ⟨_, vs, rfl, ?_, ?_⟩
      · exact (hown.set hres (by decide) (by decide) _).set (blk_set hres _) (by decide) (by decide) _
      · exact (hb.setCell (by simp) _).setCell (by simp) _
end Go.Proofs.Ytiflenddalmfaaa
