/-
  slices.Insert of one message into a queue of the call's own: what it comes to.
-/
import Derived.Test.YtiflenddalmfaaaChInsert
namespace Go.Proofs.Ytiflenddalmfaaa
open Go.RowKit

theorem ownsRow_of_cells {w : World} {n0 g cap n : Nat} {e : TypeId} {cur : Array Value} {xs : List Value} (hg : w.heap[g]? = some (.cells cur e (0, 0))) (hb : n0 ≤ g) (hn : n ≤ cap) (hm : cap ≤ maxLen) (hs : cur.size = cap) (hl : xs.length = n)
    (hc : ∀ j, j < n → w.cell? ⟨g, j, none⟩ = xs[j]?) : w.ownsRow n0 e 1 (.slice (some ⟨g, 0, none⟩) n cap) n xs := by
  refine ⟨by simpa using hl, .inr ⟨g, cap, cur, rfl, hb, hg, hn, hm, by simpa using hs, ?_⟩⟩
  apply List.ext_getElem?
  intro j
  rw [List.getElem?_take]
  by_cases hj : j < n
  · rw [if_pos (by omega), ← hc j hj]
    simp [World.cell?, hg]
  · rw [if_neg (by omega), List.getElem?_eq_none (by omega)]
theorem setCells_blk {g : Nat} {t : TypeId} : ∀ (vs : List Value) (o : Nat) (w : World) (cur : Array Value), w.heap[g]? = some (.cells cur t (0, 0)) → ∃ cur', (w.setCells g o vs).heap[g]? = some (.cells cur' t (0, 0)) ∧ cur'.size = cur.size
  | [], _, _, cur, h => ⟨cur, h, rfl⟩
  | v :: r, o, w, cur, h => by
    obtain ⟨c', h1, h2⟩ := setCells_blk r (o + 1) (w.setCell ⟨g, o, none⟩ v) _ (heap_setCell_same w g o cur t v h)
    exact ⟨c', h1, by simpa using h2⟩
theorem setCells_in {g o j : Nat} {vs : List Value} {w : World} (h : ∀ j, j < vs.length → (w.cell? ⟨g, o + j, none⟩).isSome = true) (h1 : o ≤ j) (h2 : j < o + vs.length) : (w.setCells g o vs).cell? ⟨g, j, none⟩ = vs[j - o]? := by
  have := World.cell?_setCells_in g vs o w h (j - o) (by omega)
  rw [show o + (j - o) = j by omega] at this
  rw [this, List.getElem?_eq_getElem (by omega)]
theorem setCells_out {g o j : Nat} {vs : List Value} {w : World} (h : j < o ∨ o + vs.length ≤ j) : (w.setCells g o vs).cell? ⟨g, j, none⟩ = w.cell? ⟨g, j, none⟩ :=
  World.cell?_setCells_out g vs o w _ fun _ _ => h
theorem setCells_some {g o k : Nat} {vs : List Value} {w : World} (h : ∀ j, j < vs.length → (w.cell? ⟨g, o + j, none⟩).isSome = true) (hk : (w.cell? ⟨g, k, none⟩).isSome = true) : ((w.setCells g o vs).cell? ⟨g, k, none⟩).isSome = true :=
  isSome_setCells g vs o w h k hk
theorem setCells_far {g k : Nat} (hk : k ≠ g) : ∀ (vs : List Value) (o : Nat) (w : World), (w.setCells g o vs).heap[k]? = w.heap[k]?
  | [], _, _ => rfl
  | v :: r, o, w => by rw [World.setCells, setCells_far hk r, Below.heap_setCell _ _ _ _ hk]
theorem setCells_same : ∀ (vs : List Value) (o g : Nat) (w : World), (w.setCells g o vs).os = w.os ∧ (w.setCells g o vs).tape = w.tape ∧ (w.setCells g o vs).output = w.output ∧ (w.setCells g o vs).heap.size = w.heap.size
  | [], _, _, _ => ⟨rfl, rfl, rfl, rfl⟩
  | v :: r, o, g, w => by
    obtain ⟨h1, h2, h3, h4⟩ := setCells_same r (o + 1) g (w.setCell ⟨g, o, none⟩ v)
    exact ⟨h1, h2, h3, h4.trans (by simp [World.setCell])⟩

/-- One put in at a place. -/
def putAt {α : Type} (l : List α) (i : Nat) (x : α) : List α := l.take i ++ x :: l.drop i
theorem putAt_len {α : Type} {l : List α} {i : Nat} {x : α} (h : i ≤ l.length) : (putAt l i x).length = l.length + 1 := by
  unfold putAt; simp; omega
theorem putAt_lo {α : Type} {l : List α} {i j : Nat} {x : α} (h : i ≤ l.length) (hj : j < i) : (putAt l i x)[j]? = l[j]? := by
  unfold putAt
  rw [List.getElem?_append_left (by simp; omega), List.getElem?_take, if_pos hj]
theorem putAt_at {α : Type} {l : List α} {i : Nat} {x : α} (h : i ≤ l.length) : (putAt l i x)[i]? = some x := by
  unfold putAt
  rw [List.getElem?_append_right (by simp; omega)]
  simp [show i - min i l.length = 0 by omega]
theorem putAt_hi {α : Type} {l : List α} {i j : Nat} {x : α} (h : i ≤ l.length) (hj : i < j) : (putAt l i x)[j]? = l[j - 1]? := by
  unfold putAt
  rw [List.getElem?_append_right (by simp; omega), List.length_take, show min i l.length = i by omega, show j - i = (j - 1 - i) + 1 by omega, List.getElem?_cons_succ, List.getElem?_drop]
  congr 1; omega
theorem putAt_end {α : Type} (l : List α) (x : α) : putAt l l.length x = l ++ [x] := by simp [putAt]

theorem putAt_cells {w : World} {g i n : Nat} {vs : List Value} {xv : Value} (hl : vs.length = n) (hi : i < n) (hsp : ∀ j, j < n + 1 → (w.cell? ⟨g, j, none⟩).isSome = true) (hlo : ∀ j, j < i → w.cell? ⟨g, j, none⟩ = vs[j]?) (j : Nat) (hj : j < n + 1) :
    ((w.setCells g (i + 1) (vs.drop i)).setCells g i [xv]).cell? ⟨g, j, none⟩ = (putAt vs i xv)[j]? := by
  have hd : (vs.drop i).length = n - i := by simp [hl]
  have h0 : ∀ k, k < (vs.drop i).length → (w.cell? ⟨g, i + 1 + k, none⟩).isSome = true := fun k hk => hsp _ (by omega)
  rcases Nat.lt_trichotomy j i with h | h | h
  · rw [setCells_out (.inl h), setCells_out (.inl (by omega)), hlo j h, putAt_lo (by omega) h]
  · subst h
    rw [setCells_in (fun k hk => by simp at hk; subst hk; exact setCells_some h0 (hsp _ (by omega))) (Nat.le_refl _) (by simp), putAt_at (by omega)]; simp
  · rw [setCells_out (.inr (by simp; omega)), setCells_in h0 (by omega) (by omega), putAt_hi (by omega) h, List.getElem?_drop]
    congr 1; omega
theorem putAt_cells' {w : World} {g i n : Nat} {vs : List Value} {xv : Value} (hl : vs.length = n) (hi : i < n) (hsp : ∀ j, j < n + 1 → (w.cell? ⟨g, j, none⟩).isSome = true) (hlo : ∀ j, j < i → w.cell? ⟨g, j, none⟩ = vs[j]?) (j : Nat) (hj : j < n + 1) :
    ((w.setCells g i [xv]).setCells g (i + 1) (vs.drop i)).cell? ⟨g, j, none⟩ = (putAt vs i xv)[j]? := by
  have hd : (vs.drop i).length = n - i := by simp [hl]
  have h1 : ∀ k, k < [xv].length → (w.cell? ⟨g, i + k, none⟩).isSome = true := fun k hk => hsp _ (by simp at hk; omega)
  have h0 : ∀ k, k < (vs.drop i).length → ((w.setCells g i [xv]).cell? ⟨g, i + 1 + k, none⟩).isSome = true := fun k hk => setCells_some h1 (hsp _ (by omega))
  rcases Nat.lt_trichotomy j i with h | h | h
  · rw [setCells_out (.inl (by omega)), setCells_out (.inl h), hlo j h, putAt_lo (by omega) h]
  · subst h
    rw [setCells_out (.inl (by omega)), setCells_in h1 (Nat.le_refl _) (by simp), putAt_at (by omega)]; simp
  · rw [setCells_in h0 (by omega) (by omega), putAt_hi (by omega) h, List.getElem?_drop]
    congr 1; omega

/-- The queue behind it. -/
theorem OwnQ.putAt {w w' : World} {n0 i : Nat} {v v' u : Value} {vs : List Value} {q : List (List Int)} {m : List Int} (h : OwnQ w n0 v vs q) (hm : OwnM w n0 u m) (hi : i ≤ q.length)
    (hr : w'.ownsRow n0 29 1 v' (q.length + 1) (putAt vs i u)) (ht : ∀ k, k < w.heap.size → v.ownBlock ≠ some k → w'.heap[k]? = w.heap[k]?) : OwnQ w' n0 v' (putAt vs i u) (putAt q i m) := by
  have hl := h.len
  have sep : ∀ (x : Value) (l : List Int), OwnM w n0 x l → OwnM w' n0 x l := fun x l hx => hx.same fun k hk => ht k (hx.row.lt k hk).2 fun e => by
    obtain ⟨c1, e1⟩ := ownsRow_blk hx.row hk
    obtain ⟨c2, e2⟩ := ownsRow_blk h.row e
    exact blk_ne e1 e2 (by decide) rfl
  refine ⟨by rw [putAt_len hi]; exact hr, by rw [putAt_len hi, putAt_len (by omega), hl], fun j x l hx hl' => ?_⟩
  rcases Nat.lt_trichotomy j i with hj | hj | hj
  · rw [putAt_lo (by omega) hj] at hx hl'
    exact sep x l (h.each j x l hx hl')
  · subst hj
    rw [putAt_at (by omega)] at hx hl'
    cases hx; cases hl'
    exact sep _ _ hm
  · rw [putAt_hi (by omega) hj] at hx hl'
    exact sep x l (h.each _ x l hx hl')

theorem one_cell_of_own {w : World} {n0 n : Nat} {e : TypeId} {v : Value} {xs : List Value} (h : w.ownsRow n0 e 1 v n xs) : v.oneCell' = true := by
  rcases h.2 with ⟨rfl, _⟩ | ⟨g, cap, cur, rfl, _⟩ <;> rfl

set_option maxHeartbeats 1000000 in
set_option maxRecDepth 100000 in
theorem insert_calls {w : World} {n0 V : Nat} {qv xv : Value} {vs : List Value} {q : List (List Int)} {x : List Int} (i : Nat) (hq : OwnQ w n0 qv vs q) (hV : w.heap[V]? = some (.cells #[xv] 29 (0, 0))) (hne : qv.ownBlock ≠ some V)
    (hx : OwnM w n0 xv x) (hi : i ≤ q.length) (hbig : (q.length + 1) * 24 ≤ 140737488355328) (hn0 : n0 ≤ w.heap.size) :
    Calls Try.prog 20 #[qv, .int .i64 i, .slice (some ⟨V, 0, none⟩) 1 1] w fun e w' =>
      ∃ v', e = .returned v' ∧ OwnQ w' n0 v' (putAt vs i xv) (putAt q i x) ∧ Touch w w' (fun k => qv.ownBlock = some k) := by
  have hxv := one_cell_of_own hx.row
  have hV0 : w.cell? ⟨V, 0, none⟩ = some xv := cell_of_blk hV rfl
  have hlen := hq.len
  by_cases hin : i = q.length
  · subst hin
    obtain ⟨ki, khi, khz0, khz1, khz2⟩ := info_parts' info_msg
    obtain ⟨ao, cap, rfl, hcl, _⟩ := own_one hq.row
    rcases Nat.eq_or_lt_of_le hcl with rfl | hcl
    all_goals
      go_enter Try.func20, Try.ntmps20
      go_wp2_with (at_builtin; refine wpList_append3 _ rfl (.tmp 23) (.tmp 24) 25 rfl n0 29 ki (.slice none 0 0) 1 24 Try.underlying25 khi khz0 khz1 khz2 rfl (by decide) _ q.length vs rfl hq.row ⟨V, 0, none⟩ 1 1 [xv] rfl rfl ?k1 ?k2 ?k3 ?k4 hn0 ?kK)
      case k1 =>
        intro j u hj
        obtain rfl : j = 0 := by have := (List.getElem?_eq_some_iff.1 hj).1; simpa using this
        simp at hj; subst hj; exact hV0
      case k2 => intro u hu; simp at hu; subst hu; exact hxv
      case k3 => unfold maxLen; omega
      case k4 => omega
      case kK =>
        intro kv w2 hown2 hgrow2 _
        have HQ : Hid (OwnQ w2 n0 kv (putAt vs q.length xv) (putAt q q.length x)) :=
          hq.putAt hx (Nat.le_refl _) (by rw [show putAt vs q.length xv = vs ++ [xv] by rw [← hlen]; exact putAt_end _ _]; exact hown2) fun k hk hne => hgrow2.block k hk fun e => hne e.symm
        have HT : Hid (Touch w w2 (fun k => (Value.slice ao q.length _).ownBlock = some k)) := (Touch.refl w _).grown hgrow2 fun k hk => .inl hk
        clear hgrow2 hown2
        go_wp2
        go_ret
        exact ⟨_, rfl, HQ.out, HT.out⟩
  · have hlt : i < q.length := by omega
    rcases hq.row.2 with ⟨rfl, h0⟩ | ⟨g, cap, cur, rfl, hb, hg, h1, h2, h3, h4⟩
    · omega
    · have hcs : ∀ (j : Nat) (v : Value), vs[j]? = some v → w.cell? ⟨g, 0 + j, none⟩ = some v := by
        intro j v hj
        have := hq.row.cellAt j (by have := (List.getElem?_eq_some_iff.1 hj).1; omega)
        rw [Nat.zero_add, this, hj]
      have hvs : ∀ (j : Nat) (v : Value), [xv][j]? = some v → w.cell? ⟨V, 0 + j, none⟩ = some v := by
        intro j v hj
        obtain rfl : j = 0 := by have := (List.getElem?_eq_some_iff.1 hj).1; simpa using this
        simp at hj; subst hj
        exact hV0
      have h1c : ∀ v ∈ vs, v.oneCell' = true := by
        intro v hv
        obtain ⟨j, hj, rfl⟩ := List.getElem_of_mem hv
        exact one_cell_of_own (hq.each j vs[j] q[j] (by simp [hj]) (by simp [show j < q.length by omega])).row
      have h1v : ∀ v ∈ [xv], v.oneCell' = true := by intro v hv; simp at hv; subst hv; exact hxv
      have hgV : V ≠ g := by rintro rfl; exact hne rfl
      have hm2 := h2
      unfold maxLen at hm2
      by_cases hroom : q.length + 1 ≤ cap
      · refine (insert_shift g 0 q.length cap i V 0 1 1 vs [xv] w hlt (by omega) hroom (by omega) hgV hlen rfl hcs (fun j hj => ?_) (fun j _ => by rw [Nat.zero_add]; exact free_of_blk hg) hvs h1c h1v _ _ 1 cur.size (by simp [World.shape?, hV]; rfl) (by simp [World.shape?, hg]; rfl) (by omega) (free_of_blk hV) (free_of_blk hV)).mono ?_
        · rw [Nat.zero_add, cell_of_blk hg (by rw [Array.getElem?_eq_getElem (by omega)])]; rfl
        · rintro e w' ⟨rfl, rfl⟩
          rw [Nat.zero_add, Nat.zero_add]
          obtain ⟨c1, e1, z1⟩ := setCells_blk (vs.drop i) (i + 1) w.drew cur hg
          obtain ⟨c2, e2, z2⟩ := setCells_blk [xv] i _ c1 e1
          obtain ⟨s1, s2, s3, s4⟩ := setCells_same (vs.drop i) (i + 1) g w.drew
          obtain ⟨s5, s6, s7, s8⟩ := setCells_same [xv] i g (w.drew.setCells g (i + 1) (vs.drop i))
          have far : ∀ k, k ≠ g → ((w.drew.setCells g (i + 1) (vs.drop i)).setCells g i [xv]).heap[k]? = w.heap[k]? := fun k hk => by rw [setCells_far hk, setCells_far hk]; rfl
          refine ⟨_, rfl, hq.putAt hx hi (ownsRow_of_cells e2 hb hroom h2 (by omega) (by rw [putAt_len (by omega), hlen]) fun j hj => putAt_cells hlen hlt (fun k hk => ?_) (fun k hk => ?_) j hj) fun k _ hne => far k fun e => hne (by rw [e]; rfl),
            ⟨s5.trans s1, s6.trans s2, s7.trans s3, by rw [s8, s4]; exact Nat.le_refl _, fun k _ hne => far k fun e => hne (by rw [e]; rfl)⟩⟩
          · show (w.cell? _).isSome = true
            rw [cell_of_blk hg (by rw [Array.getElem?_eq_getElem (by omega)])]; rfl
          · show w.cell? _ = _
            exact hq.row.cellAt k (by omega)
      · refine (insert_grow g 0 q.length cap i V 0 1 1 vs [xv] w hlt (by omega) h1 (by omega) hbig hlen rfl hcs hvs h1c h1v).mono ?_
        rintro e w' ⟨rfl, rfl⟩
        generalize hROW : (vs.take i).toArray ++ Builtin.zeroCells (Value.slice none 0 0).cells (q.length + 1 - i) ++ Builtin.zeroCells (Value.slice none 0 0).cells (grownCap w (q.length + 1) cap 29 - (q.length + 1)) = ROW
        have hge := grownCap_ge w (q.length + 1) cap 29
        have hle := grownCap_le_maxLen w (q.length + 1) cap 29 (by unfold maxLen; omega)
        have hsz : ROW.size = grownCap w (q.length + 1) cap 29 := by rw [← hROW]; simp [Builtin.zeroCells, Value.cells]; omega
        have hlo : ∀ k, k < i → ROW[k]? = vs[k]? := fun k hk => by
          rw [← hROW, Array.append_assoc, Array.getElem?_append_left (by simp; omega)]; simp [hk]
        generalize grownCap w (q.length + 1) cap 29 = G at *
        obtain ⟨W1, hW1⟩ : ∃ W1, W1 = (w.alloc (.cells ROW 29)).drew := ⟨_, rfl⟩
        rw [← hW1]
        have hN : W1.heap[w.heap.size]? = some (.cells ROW 29 (0, 0)) := by rw [hW1]; exact heap_alloc_new w _
        have e0 : (W1.setCells w.heap.size i [xv]).drew.setCells w.heap.size (i + 1) (vs.drop i) = ((W1.setCells w.heap.size i [xv]).setCells w.heap.size (i + 1) (vs.drop i)).drew := (drew_setCells _ _ _ _).symm
        rw [e0]
        obtain ⟨c1, e1, z1⟩ := setCells_blk [xv] i W1 ROW hN
        obtain ⟨c2, e2, z2⟩ := setCells_blk (vs.drop i) (i + 1) _ c1 e1
        obtain ⟨s1, s2, s3, s4⟩ := setCells_same [xv] i w.heap.size W1
        obtain ⟨s5, s6, s7, s8⟩ := setCells_same (vs.drop i) (i + 1) w.heap.size (W1.setCells w.heap.size i [xv])
        have far : ∀ k, k < w.heap.size → ((W1.setCells w.heap.size i [xv]).setCells w.heap.size (i + 1) (vs.drop i)).heap[k]? = w.heap[k]? := fun k hk => by
          rw [setCells_far (by omega), setCells_far (by omega), hW1]; exact Below.heap_alloc _ _ _ hk
        refine ⟨_, rfl, hq.putAt hx hi (ownsRow_of_cells (w := ((W1.setCells w.heap.size i [xv]).setCells w.heap.size (i + 1) (vs.drop i)).drew) e2 hn0 hge hle (by omega) (by rw [putAt_len (by omega), hlen]) fun j hj => putAt_cells' hlen hlt (fun k hk => ?_) (fun k hk => ?_) j hj) fun k hk _ => far k hk,
          ⟨?_, ?_, ?_, ?_, fun k hk _ => far k hk⟩⟩
        · rw [cell_of_blk hN (by rw [Array.getElem?_eq_getElem (by omega)])]; rfl
        · have : ROW[k]? = some ROW[k] := by rw [Array.getElem?_eq_getElem (by omega)]
          rw [cell_of_blk hN this, ← this]; exact hlo k hk
        · exact (s5.trans s1).trans (by rw [hW1]; rfl)
        · exact (s6.trans s2).trans (by rw [hW1]; rfl)
        · exact (s7.trans s3).trans (by rw [hW1]; rfl)
        · show w.heap.size ≤ (World.heap _).size
          have : W1.heap.size = w.heap.size + 1 := by rw [hW1]; simp
          show w.heap.size ≤ ((W1.setCells w.heap.size i [xv]).setCells w.heap.size (i + 1) (vs.drop i)).heap.size
          rw [s8, s4]; omega
end Go.Proofs.Ytiflenddalmfaaa
