/-
  Texts, joined: CoP, CoV, CoW.
-/
import Derived.Test.YthmhbmikcdfkcaaDoorExS
import Derived.Test.YthmhbmikcdfkcaaDoorCellRet
import Derived.Test.YthmhbmikcdfkcaaDoorScope
/-
  A state in memory of the call's own: what its parts are.
-/
namespace Go.Proofs.YthmhbmikcdfkcaaDoor
open Go.RowKit
abbrev i64T : TypeId := 2
abbrev msgT : TypeId := 105
abbrev chanT : TypeId := 104
abbrev procT : TypeId := 53
abbrev stateT : TypeId := 36
theorem info_msg : (Tryd.prog.info? msgT).map (fun i => (i.zero, i.size, i.bytes)) = some (some (.slice none 0 0), 1, 24) := by kernel_rfl
theorem info_chan : (Tryd.prog.info? chanT).map (fun i => (i.zero, i.size, i.bytes)) = some (some (.agg #[.int .i64 0, .slice none 0 0]), 2, 32) := by kernel_rfl
theorem info_proc : (Tryd.prog.info? procT).map (fun i => (i.zero, i.size, i.bytes)) = some (some (.agg #[.int .i64 0, .int .i64 0, .int .i64 0, .slice none 0 0]), 4, 48) := by kernel_rfl
/-- Numbers, a queue, channels, processes. -/
abbrev RowI (w : World) (n0 : Nat) (v : Value) (xs : List Int) : Prop := w.ownsRow n0 i64T 1 v xs.length (xs.map (Value.int .i64))
structure OwnQ (w : World) (n0 : Nat) (v : Value) (vs : List Value) (q : List (List Int)) : Prop where
  row : w.ownsRow n0 msgT 1 v q.length vs
  len : vs.length = q.length
  each : ∀ (i : Nat) (u : Value) (m : List Int), vs[i]? = some u → q[i]? = some m → RowI w n0 u m
def cellsC : List D.Chan → List Value → List Value
  | c :: cs, q :: qs => .int .i64 c.Shape :: q :: cellsC cs qs
  | _, _ => []
def cellsP : List D.Process → List Value → List Value
  | p :: ps, f :: fs => .int .i64 p.Type_ :: .int .i64 p.Loc :: .int .i64 p.Prio :: f :: cellsP ps fs
  | _, _ => []
structure OwnC (w : World) (n0 : Nat) (v : Value) (qs : List Value) (cs : List D.Chan) : Prop where
  row : w.ownsRow n0 chanT 2 v cs.length (cellsC cs qs)
  len : qs.length = cs.length
  each : ∀ (i : Nat) (u : Value) (c : D.Chan), qs[i]? = some u → cs[i]? = some c → ∃ vs, OwnQ w n0 u vs c.Queue
structure OwnP (w : World) (n0 : Nat) (v : Value) (fs : List Value) (ps : List D.Process) : Prop where
  row : w.ownsRow n0 procT 4 v ps.length (cellsP ps fs)
  len : fs.length = ps.length
  each : ∀ (i : Nat) (u : Value) (p : D.Process), fs[i]? = some u → ps[i]? = some p → RowI w n0 u p.Frame
  apart : ∀ (i j : Nat) (u v : Value) (k : Nat), i < j → fs[i]? = some u → fs[j]? = some v → u.ownBlock = some k → v.ownBlock ≠ some k
section
variable {w w' : World} {n0 n1 : Nat}
theorem own_any {e : TypeId} {sz : Nat} {v : Value} {n : Nat} {xs : List Value} (h : w.ownsRow n0 e sz v n xs) :
    ∃ ao cap, v = .slice ao n cap ∧ n ≤ cap ∧ cap ≤ maxLen ∧ (0 < n → ∃ g, ao = some ⟨g, 0, none⟩ ∧ n0 ≤ g ∧ g < w.heap.size ∧ ∀ j, j < n * sz → w.cell? ⟨g, j, none⟩ = xs[j]?) := by
  rcases h.2 with ⟨rfl, rfl⟩ | ⟨g, cap, cur, rfl, hb, hg, h1, h2, _⟩
  · exact ⟨none, 0, rfl, Nat.le_refl _, Nat.zero_le _, fun h => by omega⟩
  · exact ⟨_, cap, rfl, h1, h2, fun _ => ⟨g, rfl, hb, blk_lt hg, fun j hj => h.cellAt j hj⟩⟩
theorem row_base {e : TypeId} {sz : Nat} {v : Value} {n : Nat} {xs : List Value} (h : w.ownsRow n0 e sz v n xs) (hb : n1 ≤ n0) : w.ownsRow n1 e sz v n xs :=
  ⟨h.1, h.2.imp id fun ⟨g, cap, cur, e, h1, h2⟩ => ⟨g, cap, cur, e, Nat.le_trans hb h1, h2⟩⟩
/-- A block of this kind is as it was. -/
abbrev Kept (w w' : World) (n0 : Nat) (ts : List TypeId) : Prop := ∀ (k : Nat) (cur : Array Value) (t : TypeId), n0 ≤ k → k < w.heap.size → w.heap[k]? = some (.cells cur t (0, 0)) → t ∈ ts → w'.heap[k]? = w.heap[k]?
theorem row_kept {e : TypeId} {sz : Nat} {v : Value} {n : Nat} {xs : List Value} {ts : List TypeId} (h : w.ownsRow n0 e sz v n xs) (hk : Kept w w' n0 ts) (he : e ∈ ts) : w'.ownsRow n0 e sz v n xs :=
  ownsRow_same h fun k e1 => by
    obtain ⟨cur, hc⟩ := ownsRow_blk h e1
    exact hk k cur e (h.lt k e1).1 (h.lt k e1).2 hc he
theorem OwnQ.kept {v : Value} {vs : List Value} {q : List (List Int)} {ts : List TypeId} (h : OwnQ w n0 v vs q) (hk : Kept w w' n0 ts) (h1 : msgT ∈ ts) (h2 : i64T ∈ ts) : OwnQ w' n0 v vs q :=
  ⟨row_kept h.row hk h1, h.len, fun i u m hu hm => row_kept (h.each i u m hu hm) hk h2⟩
theorem OwnC.kept {v : Value} {qs : List Value} {cs : List D.Chan} {ts : List TypeId} (h : OwnC w n0 v qs cs) (hk : Kept w w' n0 ts) (h0 : chanT ∈ ts) (h1 : msgT ∈ ts) (h2 : i64T ∈ ts) : OwnC w' n0 v qs cs :=
  ⟨row_kept h.row hk h0, h.len, fun i u c hu hc => by obtain ⟨vs, hq⟩ := h.each i u c hu hc; exact ⟨vs, hq.kept hk h1 h2⟩⟩
theorem OwnP.kept {v : Value} {fs : List Value} {ps : List D.Process} {ts : List TypeId} (h : OwnP w n0 v fs ps) (hk : Kept w w' n0 ts) (h0 : procT ∈ ts) (h2 : i64T ∈ ts) : OwnP w' n0 v fs ps :=
  ⟨row_kept h.row hk h0, h.len, fun i u p hu hp => row_kept (h.each i u p hu hp) hk h2, h.apart⟩
theorem OwnQ.base {v : Value} {vs : List Value} {q : List (List Int)} (h : OwnQ w n0 v vs q) (hb : n1 ≤ n0) : OwnQ w n1 v vs q :=
  ⟨row_base h.row hb, h.len, fun i u m hu hm => row_base (h.each i u m hu hm) hb⟩
/-- All from n0 on is as it was. -/
theorem Kept.of {ts : List TypeId} (h : ∀ k, n0 ≤ k → k < w.heap.size → w'.heap[k]? = w.heap[k]?) : Kept w w' n0 ts := fun k _ _ h0 h1 _ _ => h k h0 h1
theorem Kept.below {ts : List TypeId} (h : Below w.heap.size w w') : Kept w w' n0 ts := Kept.of fun k _ hk => h.block k hk
theorem Kept.alloc {ts : List TypeId} (o : Obj) : Kept w (w.alloc o) n0 ts := Kept.of fun _ _ hk => Below.heap_alloc _ _ _ hk
theorem Kept.drewN {ts : List TypeId} (n : Nat) : Kept w (w.drewN n) n0 ts := Kept.of fun _ _ _ => rfl
/-- A row of another kind grows. -/
theorem Kept.grown {e : TypeId} {sz : Nat} {v : Value} {n : Nat} {xs : List Value} {ts : List TypeId} (hg : w.grownBy w' v.ownBlock) (hr : w.ownsRow n1 e sz v n xs) (he : e ∉ ts) : Kept w w' n0 ts := fun k cur t _ h1 hk ht =>
  hg.block k h1 fun e1 => by
    obtain ⟨c2, e2⟩ := ownsRow_blk hr e1.symm
    exact blk_ne hk e2 (by rintro rfl; exact he ht) rfl
theorem Kept.set {ts : List TypeId} {b i : Nat} {c : Array Value} {t : TypeId} {f : Nat × Nat} {u : Value} (hb : w.heap[b]? = some (.cells c t f)) (ht : t ∉ ts) : Kept w (w.setCell ⟨b, i, none⟩ u) n0 ts := fun k cur t' _ _ hk ht' =>
  Below.heap_setCell _ _ _ _ (by rintro rfl; exact blk_ne hk hb (by rintro rfl; exact ht ht') rfl)
theorem Kept.low {ts : List TypeId} {b i : Nat} {u : Value} (hb : b < n0) : Kept w (w.setCell ⟨b, i, none⟩ u) n0 ts := Kept.of fun k h0 _ => Below.heap_setCell _ _ _ _ (by rintro rfl; omega)
theorem Kept.trans {w'' : World} {ts : List TypeId} (h : Kept w w' n0 ts) (k : Kept w' w'' n0 ts) (hs : w.heap.size ≤ w'.heap.size) : Kept w w'' n0 ts := fun b cur t h0 h1 hb ht => by
  have e := h b cur t h0 h1 hb ht
  exact (k b cur t h0 (Nat.lt_of_lt_of_le h1 hs) (e.trans hb) ht).trans e
/-! ### One more -/
theorem OwnQ.nil (w : World) (n0 : Nat) : OwnQ w n0 (.slice none 0 0) [] [] := ⟨World.ownsRow_nil _ _ _ _, rfl, fun i x m h => by simp at h⟩
theorem OwnC.nil (w : World) (n0 : Nat) : OwnC w n0 (.slice none 0 0) [] [] := ⟨World.ownsRow_nil _ _ _ _, rfl, fun i x m h => by simp at h⟩
theorem OwnP.nil (w : World) (n0 : Nat) : OwnP w n0 (.slice none 0 0) [] [] := ⟨World.ownsRow_nil _ _ _ _, rfl, fun i x m h => by simp at h, fun i j u v k _ h => by simp at h⟩
theorem each_more {α : Type} {R : Value → α → Prop} {vs : List Value} {l : List α} {u : Value} {a : α} (hl : vs.length = l.length) (h : ∀ (i : Nat) x y, vs[i]? = some x → l[i]? = some y → R x y) (h2 : R u a) : ∀ (i : Nat) x y, (vs ++ [u])[i]? = some x → (l ++ [a])[i]? = some y → R x y := by
  intro i x y hx hy
  by_cases hi : i < l.length
  · rw [List.getElem?_append_left (by rw [hl]; exact hi)] at hx
    rw [List.getElem?_append_left hi] at hy
    exact h i x y hx hy
  · have hil : i < l.length + 1 := by have := (List.getElem?_eq_some_iff.1 hy).1; simpa using this
    obtain rfl : i = l.length := by omega
    rw [List.getElem?_append_right (Nat.le_refl _)] at hy
    rw [List.getElem?_append_right (by rw [hl]; exact Nat.le_refl _)] at hx
    simp [hl] at hx hy
    subst hx hy
    exact h2
theorem OwnQ.more {v v' u : Value} {vs : List Value} {q : List (List Int)} {m : List Int} (h : OwnQ w n0 v vs q) (hm : RowI w n0 u m)
    (hr : w'.ownsRow n0 msgT 1 v' (q.length + 1) (vs ++ [u])) (hg : w.grownBy w' v.ownBlock) : OwnQ w' n0 v' (vs ++ [u]) (q ++ [m]) := by
  have hk : Kept w w' n0 [i64T] := Kept.grown hg h.row (by decide)
  exact ⟨by simpa using hr, by simp [h.len], each_more (R := RowI w' n0) h.len (fun i x l hx hl => row_kept (h.each i x l hx hl) hk (by simp)) (row_kept hm hk (by simp))⟩
theorem cellsC_more : ∀ {cs : List D.Chan} {qs : List Value} {c : D.Chan} {q : Value}, qs.length = cs.length → cellsC (cs ++ [c]) (qs ++ [q]) = cellsC cs qs ++ [.int .i64 c.Shape, q]
  | [], [], c, q, _ => rfl
  | d :: cs, r :: qs, c, q, h => by
    have := cellsC_more (cs := cs) (qs := qs) (c := c) (q := q) (by simpa using h)
    simp only [List.cons_append, cellsC, this]
  | [], _ :: _, _, _, h => by simp at h
  | _ :: _, [], _, _, h => by simp at h
theorem cellsP_more : ∀ {ps : List D.Process} {fs : List Value} {p : D.Process} {f : Value}, fs.length = ps.length → cellsP (ps ++ [p]) (fs ++ [f]) = cellsP ps fs ++ [.int .i64 p.Type_, .int .i64 p.Loc, .int .i64 p.Prio, f]
  | [], [], _, _, _ => rfl
  | d :: ps, r :: fs, p, f, h => by
    have := cellsP_more (ps := ps) (fs := fs) (p := p) (f := f) (by simpa using h)
    simp only [List.cons_append, cellsP, this]
  | [], _ :: _, _, _, h => by simp at h
  | _ :: _, [], _, _, h => by simp at h
theorem OwnC.more {v v' u : Value} {qs vs : List Value} {cs : List D.Chan} {c : D.Chan} (h : OwnC w n0 v qs cs) (hq : OwnQ w n0 u vs c.Queue)
    (hr : w'.ownsRow n0 chanT 2 v' (cs.length + 1) (cellsC cs qs ++ [.int .i64 c.Shape, u])) (hg : w.grownBy w' v.ownBlock) : OwnC w' n0 v' (qs ++ [u]) (cs ++ [c]) := by
  have hk : Kept w w' n0 [msgT, i64T] := Kept.grown hg h.row (by decide)
  refine ⟨by rw [cellsC_more h.len]; simpa using hr, by simp [h.len], each_more (R := fun u c => ∃ vs, OwnQ w' n0 u vs c.Queue) h.len (fun i x l hx hl => ?_) ⟨vs, hq.kept hk (by simp) (by simp)⟩⟩
  obtain ⟨vs, hv⟩ := h.each i x l hx hl
  exact ⟨vs, hv.kept hk (by simp) (by simp)⟩
theorem OwnP.more {v v' u : Value} {fs : List Value} {ps : List D.Process} {p : D.Process} (h : OwnP w n0 v fs ps) (hf : RowI w n0 u p.Frame) (hnew : ∀ (i : Nat) (x : Value) (k : Nat), fs[i]? = some x → x.ownBlock = some k → u.ownBlock ≠ some k)
    (hr : w'.ownsRow n0 procT 4 v' (ps.length + 1) (cellsP ps fs ++ [.int .i64 p.Type_, .int .i64 p.Loc, .int .i64 p.Prio, u])) (hg : w.grownBy w' v.ownBlock) : OwnP w' n0 v' (fs ++ [u]) (ps ++ [p]) := by
  have hk : Kept w w' n0 [i64T] := Kept.grown hg h.row (by decide)
  refine ⟨by rw [cellsP_more h.len]; simpa using hr, by simp [h.len], each_more (R := fun u p => RowI w' n0 u p.Frame) h.len (fun i x l hx hl => row_kept (h.each i x l hx hl) hk (by simp)) (row_kept hf hk (by simp)), ?_⟩
  intro i j x y k hij hx hy ex
  have hj : j < fs.length + 1 := by have := (List.getElem?_eq_some_iff.1 hy).1; simpa using this
  rw [List.getElem?_append_left (by omega)] at hx
  by_cases hjl : j < fs.length
  · rw [List.getElem?_append_left hjl] at hy
    exact h.apart i j x y k hij hx hy ex
  · obtain rfl : j = fs.length := by omega
    rw [List.getElem?_append_right (Nat.le_refl _)] at hy
    simp at hy
    subst hy
    exact hnew i x k hx ex
/-! ### What they say -/
theorem cellsC_get : ∀ {cs : List D.Chan} {qs : List Value} {i : Nat}, qs.length = cs.length → i < cs.length → (cellsC cs qs)[i * 2]? = some (.int .i64 (cs.getD i default).Shape) ∧ (cellsC cs qs)[i * 2 + 1]? = qs[i]?
  | d :: cs, r :: qs, 0, _, _ => ⟨rfl, rfl⟩
  | d :: cs, r :: qs, i + 1, h, hi => by
    have := cellsC_get (cs := cs) (qs := qs) (i := i) (by simpa using h) (by simpa using hi)
    rw [show (i + 1) * 2 = i * 2 + 2 by omega]
    simpa [cellsC] using this
  | [], _, _, _, h => by simp at h
  | _ :: _, [], _, h, _ => by simp at h
theorem cellsP_get : ∀ {ps : List D.Process} {fs : List Value} {i : Nat}, fs.length = ps.length → i < ps.length → (cellsP ps fs)[i * 4]? = some (.int .i64 (ps.getD i default).Type_) ∧ (cellsP ps fs)[i * 4 + 1]? = some (.int .i64 (ps.getD i default).Loc) ∧ (cellsP ps fs)[i * 4 + 2]? = some (.int .i64 (ps.getD i default).Prio) ∧ (cellsP ps fs)[i * 4 + 3]? = fs[i]?
  | d :: ps, r :: fs, 0, _, _ => ⟨rfl, rfl, rfl, rfl⟩
  | d :: ps, r :: fs, i + 1, h, hi => by
    have := cellsP_get (ps := ps) (fs := fs) (i := i) (by simpa using h) (by simpa using hi)
    rw [show (i + 1) * 4 = i * 4 + 4 by omega]
    simpa [cellsP] using this
  | [], _, _, _, h => by simp at h
  | _ :: _, [], _, h, _ => by simp at h
variable {E : Prot} {m : Option Phi}
theorem v_of_q {v : Value} {vs : List Value} {q : List (List Int)} (h : OwnQ w n0 v vs q) (hA : ∀ k, E.fz k → k < n0) : V w E m (encL_Ints true q) v := by
  obtain ⟨ao, cap, rfl, h1, h2, h3⟩ := own_any h.row
  refine V.sl_mk h1 h2 fun hp => ?_
  obtain ⟨g, rfl, hg, hlt, hc⟩ := h3 hp
  refine ⟨g, 0, rfl, hlt, fun hk => by have := hA g hk; omega, fun i _ => rfl, fun i _ => vs.getD i undef, fun i j y hi hy => ?_, fun i j y hi hy => ?_⟩
  · match j, hy with
    | 0, _ =>
      have := hc i (by omega)
      have hv : i < vs.length := by rw [h.len]; exact hi
      simp only [Nat.zero_add, Nat.mul_one, Nat.add_zero]
      rw [this]; simp [List.getD, hv]
    | j + 1, hy => simp at hy
  · match j, hy with
    | 0, hy =>
      simp only [List.getElem?_cons_zero, Option.some.injEq] at hy; subst hy
      have hv : i < vs.length := by rw [h.len]; exact hi
      exact v_of_row (h.each i _ _ (by simp [List.getD, hv]) (by simp [List.getD, hi])) fun k hk => hA k (by exact hk)
    | j + 1, hy => simp at hy
theorem v_of_c {v : Value} {qs : List Value} {cs : List D.Chan} (h : OwnC w n0 v qs cs) (hA : ∀ k, E.fz k → k < n0) : V w E m (encL_Chan true cs) v := by
  obtain ⟨ao, cap, rfl, h1, h2, h3⟩ := own_any h.row
  refine V.sl_mk h1 h2 fun hp => ?_
  obtain ⟨g, rfl, hg, hlt, hc⟩ := h3 hp
  refine ⟨g, 0, rfl, hlt, fun hk => by have := hA g hk; omega, fun i _ => rfl, fun i j => if j = 0 then .int .i64 (cs.getD i default).Shape else qs.getD i undef, fun i j y hi hy => ?_, fun i j y hi hy => ?_⟩
  · have hv : i < qs.length := by rw [h.len]; exact hi
    obtain ⟨c0, c1⟩ := cellsC_get h.len hi
    match j, hy with
    | 0, _ => rw [Nat.zero_add, Nat.add_zero, hc _ (by omega), c0]; rfl
    | 1, _ => rw [Nat.zero_add, hc _ (by omega), c1]; simp [List.getD, hv]
    | j + 2, hy => simp [enc_Chan] at hy
  · have hv : i < qs.length := by rw [h.len]; exact hi
    match j, hy with
    | 0, hy => simp only [enc_Chan, List.getElem?_cons_zero, Option.some.injEq] at hy; subst hy; exact .sc
    | 1, hy =>
      simp only [enc_Chan, List.getElem?_cons_succ, List.getElem?_cons_zero, Option.some.injEq] at hy; subst hy
      obtain ⟨vs, hq⟩ := h.each i (qs.getD i undef) (cs.getD i default) (by simp [List.getD, hv]) (by simp [List.getD, hi])
      exact v_of_q hq fun k hk => hA k (by exact hk)
    | j + 2, hy => simp [enc_Chan] at hy
theorem v_of_p {v : Value} {fs : List Value} {ps : List D.Process} (h : OwnP w n0 v fs ps) (hA : ∀ k, E.fz k → k < n0) : V w E m (encL_Process true ps) v := by
  obtain ⟨ao, cap, rfl, h1, h2, h3⟩ := own_any h.row
  refine V.sl_mk h1 h2 fun hp => ?_
  obtain ⟨g, rfl, hg, hlt, hc⟩ := h3 hp
  refine ⟨g, 0, rfl, hlt, fun hk => by have := hA g hk; omega, fun i _ => rfl, fun i j => (#[.int .i64 (ps.getD i default).Type_, .int .i64 (ps.getD i default).Loc, .int .i64 (ps.getD i default).Prio, fs.getD i undef] : Array Value).getD j undef, fun i j y hi hy => ?_, fun i j y hi hy => ?_⟩
  · have hv : i < fs.length := by rw [h.len]; exact hi
    obtain ⟨c0, c1, c2, c3⟩ := cellsP_get h.len hi
    match j, hy with
    | 0, _ => rw [Nat.zero_add, Nat.add_zero, hc _ (by omega), c0]; rfl
    | 1, _ => rw [Nat.zero_add, hc _ (by omega), c1]; rfl
    | 2, _ => rw [Nat.zero_add, hc _ (by omega), c2]; rfl
    | 3, _ => rw [Nat.zero_add, hc _ (by omega), c3]; simp [List.getD, hv]
    | j + 4, hy => simp [enc_Process] at hy
  · have hv : i < fs.length := by rw [h.len]; exact hi
    match j, hy with
    | 0, hy => simp only [enc_Process, List.getElem?_cons_zero, Option.some.injEq] at hy; subst hy; exact .sc
    | 1, hy => simp only [enc_Process, List.getElem?_cons_succ, List.getElem?_cons_zero, Option.some.injEq] at hy; subst hy; exact .sc
    | 2, hy => simp only [enc_Process, List.getElem?_cons_succ, List.getElem?_cons_zero, Option.some.injEq] at hy; subst hy; exact .sc
    | 3, hy =>
      simp only [enc_Process, List.getElem?_cons_succ, List.getElem?_cons_zero, Option.some.injEq] at hy; subst hy
      exact v_of_row (h.each i (fs.getD i undef) (ps.getD i default) (by simp [List.getD, hv]) (by simp [List.getD, hi])) fun k hk => hA k (by exact hk)
    | j + 4, hy => simp [enc_Process] at hy
end
/-! ### A number is written -/
theorem row_set {w : World} {n0 g cap k : Nat} {xs : List Int} (h : RowI w n0 (.slice (some ⟨g, 0, none⟩) xs.length cap) xs) (x : Int) : RowI (w.setCell ⟨g, k, none⟩ (.int .i64 x)) n0 (.slice (some ⟨g, 0, none⟩) (xs.set k x).length cap) (xs.set k x) := by
  refine ⟨by simp, ?_⟩
  rcases h.2 with ⟨e, _⟩ | ⟨g', cap', cur, e, hb, hg, h1, h2, h3, h4⟩
  · simp at e
  · simp at e
    obtain ⟨rfl, rfl⟩ := e
    refine .inr ⟨g, cap, cur.setIfInBounds k (.int .i64 x), by simp, hb, blk_set hg _, by simpa using h1, h2, by simpa using h3, ?_⟩
    rw [Array.toList_setIfInBounds, List.take_set, List.map_set, List.length_set, h4]
theorem cellsP_set : ∀ {ps : List D.Process} {fs : List Value} {i : Nat} {p' : D.Process}, p'.Type_ = (ps.getD i default).Type_ → p'.Loc = (ps.getD i default).Loc → p'.Prio = (ps.getD i default).Prio → cellsP (ps.set i p') fs = cellsP ps fs
  | [], _, _, _, _, _, _ => rfl
  | p :: ps, [], 0, _, _, _, _ => rfl
  | p :: ps, [], i + 1, _, _, _, _ => rfl
  | p :: ps, f :: fs, 0, p', h1, h2, h3 => by
    have e1 : p'.Type_ = p.Type_ := h1
    have e2 : p'.Loc = p.Loc := h2
    have e3 : p'.Prio = p.Prio := h3
    simp only [List.set_cons_zero, cellsP, e1, e2, e3]
  | p :: ps, f :: fs, i + 1, p', h1, h2, h3 => by
    have := cellsP_set (ps := ps) (fs := fs) (i := i) (p' := p') h1 h2 h3
    simp only [List.set_cons_succ, cellsP, this]
theorem OwnP.write {w : World} {n0 g cap k i : Nat} {v : Value} {fs : List Value} {ps : List D.Process} (h : OwnP w n0 v fs ps) (hi : i < ps.length) (hf : fs[i]? = some (.slice (some ⟨g, 0, none⟩) (ps.getD i default).Frame.length cap)) (x : Int) :
    OwnP (w.setCell ⟨g, k, none⟩ (.int .i64 x)) n0 v fs (ps.set i { ps.getD i default with Frame := (ps.getD i default).Frame.set k x }) := by
  have hpi : ps[i]? = some (ps.getD i default) := by simp [List.getD, hi]
  have hr := h.each i _ _ hf hpi
  obtain ⟨cur, hblk⟩ := ownsRow_blk hr (k := g) rfl
  have hk : Kept w (w.setCell ⟨g, k, none⟩ (.int .i64 x)) n0 [procT] := Kept.set hblk (by decide)
  refine ⟨by rw [cellsP_set (p' := { ps.getD i default with Frame := (ps.getD i default).Frame.set k x }) rfl rfl rfl, List.length_set]; exact row_kept h.row hk (by simp), by simp [h.len], fun j u p hu hp => ?_, h.apart⟩
  by_cases hij : i = j
  · subst hij
    rw [hf] at hu
    simp only [Option.some.injEq] at hu
    subst hu
    rw [List.getElem?_set_self hi] at hp
    simp only [Option.some.injEq] at hp
    subst hp
    have := row_set (k := k) hr x
    simpa using this
  · rw [List.getElem?_set_ne hij] at hp
    refine ownsRow_same (h.each j u p hu hp) fun b hb => Below.heap_setCell _ _ _ _ ?_
    rintro rfl
    rcases Nat.lt_or_gt_of_ne hij with hl | hl
    · exact h.apart i j _ _ _ hl hf hu rfl hb
    · exact h.apart j i _ _ _ hl hu hf hb rfl
end Go.Proofs.YthmhbmikcdfkcaaDoor
/-
  Where a state that is read lies: its cells, all in blocks that were there.
-/
namespace Go.Proofs.YthmhbmikcdfkcaaDoor
open Go.RowKit
/-- A slice whose rows lie somewhere: what each row says. -/
def AtL (w : World) (n : Nat) (R : Nat → Nat → Nat → Prop) (v : Value) : Prop :=
  ∃ ao cap, v = .slice ao n cap ∧ n ≤ cap ∧ cap ≤ maxLen ∧ (0 < n → ∃ b off, ao = some ⟨b, off, none⟩ ∧ b < w.heap.size ∧ ∀ i, i < n → R b off i)
def AtI (w : World) (xs : List Int) (v : Value) : Prop := AtL w xs.length (fun b off i => w.cell? ⟨b, off + i, none⟩ = some (.int .i64 (xs.getD i 0))) v
def AtQ (w : World) (q : List (List Int)) (v : Value) : Prop := AtL w q.length (fun b off i => ∃ u, w.cell? ⟨b, off + i, none⟩ = some u ∧ AtI w (q.getD i []) u) v
def AtC (w : World) (cs : List D.Chan) (v : Value) : Prop :=
  AtL w cs.length (fun b off i => ∃ u, w.cell? ⟨b, off + i * 2, none⟩ = some (.int .i64 (cs.getD i default).Shape) ∧ w.cell? ⟨b, off + i * 2 + 1, none⟩ = some u ∧ AtQ w (cs.getD i default).Queue u) v
def AtP (w : World) (ps : List D.Process) (v : Value) : Prop :=
  AtL w ps.length (fun b off i => ∃ u, w.cell? ⟨b, off + i * 4, none⟩ = some (.int .i64 (ps.getD i default).Type_) ∧ w.cell? ⟨b, off + i * 4 + 1, none⟩ = some (.int .i64 (ps.getD i default).Loc) ∧ w.cell? ⟨b, off + i * 4 + 2, none⟩ = some (.int .i64 (ps.getD i default).Prio) ∧ w.cell? ⟨b, off + i * 4 + 3, none⟩ = some u ∧ AtI w (ps.getD i default).Frame u) v
section
variable {w : World} {E : Prot} {m : Option Phi} {v : Value} {fz : Bool}
theorem at_i {xs : List Int} (h : V w E m (encL_Int fz xs) v) : AtI w xs v := by
  obtain ⟨ao, cap, rfl, h1, h2, h3⟩ := V.sl_inv h
  refine ⟨ao, cap, rfl, h1, h2, fun hp => ?_⟩
  obtain ⟨b, off, rfl, hb, _, _, u, hc, hv⟩ := h3 hp
  refine ⟨b, off, rfl, hb, fun i hi => ?_⟩
  have c1 := hc i 0 _ hi rfl
  have c2 := (hv i 0 _ hi rfl).sc_inv
  rw [c2] at c1
  simpa using c1
theorem at_q {q : List (List Int)} (h : V w E m (encL_Ints fz q) v) : AtQ w q v := by
  obtain ⟨ao, cap, rfl, h1, h2, h3⟩ := V.sl_inv h
  refine ⟨ao, cap, rfl, h1, h2, fun hp => ?_⟩
  obtain ⟨b, off, rfl, hb, _, _, u, hc, hv⟩ := h3 hp
  refine ⟨b, off, rfl, hb, fun i hi => ⟨u i 0, ?_, at_i (hv i 0 _ hi rfl)⟩⟩
  have c1 := hc i 0 _ hi rfl
  simpa using c1
theorem at_c {cs : List D.Chan} (h : V w E m (encL_Chan fz cs) v) : AtC w cs v := by
  obtain ⟨ao, cap, rfl, h1, h2, h3⟩ := V.sl_inv h
  refine ⟨ao, cap, rfl, h1, h2, fun hp => ?_⟩
  obtain ⟨b, off, rfl, hb, _, _, u, hc, hv⟩ := h3 hp
  refine ⟨b, off, rfl, hb, fun i hi => ⟨u i 1, ?_, ?_, at_q (hv i 1 _ hi rfl)⟩⟩
  · have c1 := hc i 0 _ hi rfl
    have c2 := (hv i 0 _ hi rfl).sc_inv
    rw [c2] at c1
    simpa using c1
  · exact hc i 1 _ hi rfl
theorem at_p {ps : List D.Process} (h : V w E m (encL_Process fz ps) v) : AtP w ps v := by
  obtain ⟨ao, cap, rfl, h1, h2, h3⟩ := V.sl_inv h
  refine ⟨ao, cap, rfl, h1, h2, fun hp => ?_⟩
  obtain ⟨b, off, rfl, hb, _, _, u, hc, hv⟩ := h3 hp
  refine ⟨b, off, rfl, hb, fun i hi => ⟨u i 3, ?_, ?_, ?_, ?_, at_i (hv i 3 _ hi rfl)⟩⟩
  · have c1 := hc i 0 _ hi rfl
    have c2 := (hv i 0 _ hi rfl).sc_inv
    rw [c2] at c1
    simpa using c1
  · have c1 := hc i 1 _ hi rfl
    have c2 := (hv i 1 _ hi rfl).sc_inv
    rw [c2] at c1
    simpa using c1
  · have c1 := hc i 2 _ hi rfl
    have c2 := (hv i 2 _ hi rfl).sc_inv
    rw [c2] at c1
    simpa using c1
  · exact hc i 3 _ hi rfl
end
/-- The world is as it was, for all that was there. -/
theorem AtL.map {w w' : World} {n : Nat} {R S : Nat → Nat → Nat → Prop} {v : Value} (h : AtL w n R v) (hs : w.heap.size ≤ w'.heap.size) (hR : ∀ b off i, b < w.heap.size → i < n → R b off i → S b off i) : AtL w' n S v := by
  obtain ⟨ao, cap, rfl, h1, h2, h3⟩ := h
  refine ⟨ao, cap, rfl, h1, h2, fun hp => ?_⟩
  obtain ⟨b, off, rfl, hb, hc⟩ := h3 hp
  exact ⟨b, off, rfl, by omega, fun i hi => hR b off i hb hi (hc i hi)⟩
theorem AtI.below {w w' : World} {xs : List Int} {v : Value} (h : AtI w xs v) (hb : Below w.heap.size w w') : AtI w' xs v :=
  AtL.map h hb.size fun b off i hl _ hc => by rw [hb.cell (p := ⟨b, off + i, none⟩) hl]; exact hc
/-- State's value: three lists, three numbers. -/
theorem v_state_inv {w : World} {E : Prot} {m : Option Phi} {s : D.State} {v : Value} (h : V w E m (.agg (enc_State s)) v) :
    ∃ g c p, v = .agg #[g, c, p, .int .i64 s.Last, .int .i64 s.Alone, .int .i64 s.Claim] ∧ AtI w s.Globals g ∧ AtC w s.Chans c ∧ AtP w s.Procs p := by
  obtain ⟨vs, rfl, h1, h2⟩ := h.agg_inv
  obtain ⟨l⟩ := vs
  match l, h1, h2 with
  | [g, c, p, x, y, z], _, h2 =>
    have e3 := (h2 3 _ rfl).sc_inv
    have e4 := (h2 4 _ rfl).sc_inv
    have e5 := (h2 5 _ rfl).sc_inv
    have e3' : x = .int .i64 s.Last := e3
    have e4' : y = .int .i64 s.Alone := e4
    have e5' : z = .int .i64 s.Claim := e5
    subst e3' e4' e5'
    exact ⟨g, c, p, rfl, at_i (h2 0 _ rfl), at_c (h2 1 _ rfl), at_p (h2 2 _ rfl)⟩
  | [], h1, _ => simp [enc_State] at h1
  | [_], h1, _ => simp [enc_State] at h1
  | [_, _], h1, _ => simp [enc_State] at h1
  | [_, _, _], h1, _ => simp [enc_State] at h1
  | [_, _, _, _], h1, _ => simp [enc_State] at h1
  | [_, _, _, _, _], h1, _ => simp [enc_State] at h1
  | _ :: _ :: _ :: _ :: _ :: _ :: _ :: _, h1, _ => simp [enc_State] at h1
end Go.Proofs.YthmhbmikcdfkcaaDoor
/-
  The walk of state.Copy: each list lies in memory of the call's own.
-/
namespace Go.Proofs.YthmhbmikcdfkcaaDoor
open Go.RowKit
theorem bcellC {W w1 : World} (hb : Below W.heap.size W w1) : (∀ b o, b < W.heap.size → w1.cell? ⟨b, o, none⟩ = W.cell? ⟨b, o, none⟩) ∧ (∀ b o, b < W.heap.size → w1.frozen? ⟨b, o, none⟩ = W.frozen? ⟨b, o, none⟩) :=
  ⟨fun b o h => hb.cell (p := ⟨b, o, none⟩) h, fun b o h => hb.frozen (p := ⟨b, o, none⟩) h⟩
set_option maxHeartbeats 1000000 in
theorem clonem_calls {w : World} {ao : Option Addr} {cap : Nat} {xs : List Int} (h1 : xs.length ≤ cap) (h2 : cap ≤ maxLen) (hr : xs.length * 8 ≤ 140737488355328) (h3 : 0 < xs.length → ∃ a, ao = some a ∧ ∀ i, i < xs.length → w.cell? (a.add i) = some (.int .i64 (xs.getD i 0))) :
    Calls Tryd.prog 45 #[.slice ao xs.length cap] w fun e w' => ∃ v', e = .returned v' ∧ w'.ownsRow w.heap.size 2 1 v' xs.length (xs.map (Value.int .i64)) ∧ Below w.heap.size w w' := by
  have q22 : ∀ (w : World) (a : Option Addr) (n c n' c' : Nat), (binOp .eql 105 (.slice a n c) (.slice none n' c')).run Tryd.prog w = .ok (.bool a.isNone) w := fun w a n c n' c' => Lib.run_eql_slice_nil w _ _ a n c n' c' Tryd.underlying105
  obtain ⟨ki, khi, khz0, khz1, khz2⟩ := info_parts' info_i64
  cases ao with
  | none =>
    have h0 : xs = [] := by
      apply List.eq_nil_of_length_eq_zero
      apply Classical.byContradiction
      intro hp
      obtain ⟨_, e, _⟩ := h3 (by omega)
      cases e
    subst h0
    clear h3
    go_enter Tryd.func45, Tryd.ntmps45
    go_wp2
    go_ret
    exact ⟨_, rfl, World.ownsRow_nil _ _ _ _, Below.refl _ _⟩
  | some a =>
    have hn : ∀ (j : Nat) (u : Value), (xs.map (Value.int .i64))[j]? = some u → w.cell? (a.add j) = some u := by
      intro j u hj
      have hjl : j < xs.length := by have := (List.getElem?_eq_some_iff.1 hj).1; simpa using this
      obtain ⟨a', e, hc⟩ := h3 (by omega)
      simp only [Option.some.injEq] at e
      subst e
      rw [hc j hjl, ← hj]; simp [List.getD, hjl]
    have HN := Lib.hid hn
    clear h3 hn
    have hlen := h2
    unfold maxLen at hlen
    go_enter Tryd.func45, Tryd.ntmps45
    go_wp2_with (at_builtin; refine wpList_append_own _ rfl _ _ 105 rfl w.heap.size 2 ki (.int .i64 0) 1 8 Tryd.underlying105 khi khz0 khz1 khz2 rfl (by decide) _ _ _ rfl (World.ownsRow_made w #[] 0 (Nat.le_refl _) (Nat.zero_le _) (by simp)) a xs.length cap (xs.map (Value.int .i64)) rfl ?qc1 ?qc2 ?qc3 ?qc4 ?qc5 ?qc6 ?_)
    case qc1 => simp
    case qc2 => intro j u hj; have := HN.out j u hj; exact Lib.cell?_alloc_some _ this
    case qc3 => intro u hu; simp at hu; obtain ⟨x, _, rfl⟩ := hu; rfl
    case qc4 => unfold maxLen; omega
    case qc5 => omega
    case qc6 => simp
    intro v' w1 hown hgrow _
    go_wp2
    go_ret
    exact ⟨v', rfl, by simpa using hown, ((Below.refl _ w).alloc (Nat.le_refl _) _).grown hgrow (by simp) (by intro k hk; simp [Value.ownBlock] at hk; omega)⟩
theorem clone_i {w : World} {v : Value} {xs : List Int} (h : AtI w xs v) (hr : xs.length ≤ 128) :
    Calls Tryd.prog 44 #[v] w fun e w' => ∃ v', e = .returned v' ∧ RowI w' w.heap.size v' xs ∧ Below w.heap.size w w' := by
  obtain ⟨ao, cap, rfl, h1, h2, h3⟩ := h
  exact clone_calls h1 h2 (by omega) fun hp => by obtain ⟨b, off, rfl, _, hc⟩ := h3 hp; exact ⟨_, rfl, fun i hi => by rw [Addr.add_lit]; exact hc i hi⟩
theorem clone_m {w : World} {v : Value} {xs : List Int} (h : AtI w xs v) (hr : xs.length ≤ 8) :
    Calls Tryd.prog 45 #[v] w fun e w' => ∃ v', e = .returned v' ∧ RowI w' w.heap.size v' xs ∧ Below w.heap.size w w' := by
  obtain ⟨ao, cap, rfl, h1, h2, h3⟩ := h
  exact clonem_calls h1 h2 (by omega) fun hp => by obtain ⟨b, off, rfl, _, hc⟩ := h3 hp; exact ⟨_, rfl, fun i hi => by rw [Addr.add_lit]; exact hc i hi⟩
theorem AtI.drewN {w : World} {xs : List Int} {v : Value} (h : AtI w xs v) (n : Nat) : AtI (w.drewN n) xs v := AtL.map h (Nat.le_refl _) fun _ _ _ _ _ hc => hc
theorem AtI.alloc {w : World} {xs : List Int} {v : Value} (h : AtI w xs v) (o : Obj) : AtI (w.alloc o) xs v :=
  AtL.map h (by simp) fun b off i hb _ hc => Lib.cell?_alloc_some _ hc
theorem take_more {α : Type} {q : List α} {k : Nat} {m : α} (h : q[k]? = some m) : q.take (k + 1) = q.take k ++ [m] := by
  obtain ⟨hk, rfl⟩ := List.getElem?_eq_some_iff.1 h
  rw [List.take_succ_eq_append_getElem hk]
/-- A copy: where its parts lie. -/
structure CopyP (w w2 w' : World) (s : D.State) (vg vc vp : Value) (n1 : Nat) (qs fs : List Value) : Prop where
  g : RowI w' w.heap.size vg s.Globals
  g1 : ∀ k, vg.ownBlock = some k → k < n1
  n0 : w.heap.size ≤ n1
  n2 : n1 ≤ w2.heap.size
  c : OwnC w2 n1 vc qs s.Chans
  kept : ∀ k, n1 ≤ k → k < w2.heap.size → w'.heap[k]? = w2.heap[k]?
  p : OwnP w' w2.heap.size vp fs s.Procs
  below : Below w.heap.size w w'
theorem touch_cell {w w' : World} {b i : Nat} {u : Value} (h : Touch w w' (fun k => k = b)) : Touch w (w'.setCell ⟨b, i, none⟩ u) (fun k => k = b) :=
  Touch.setCell (p := ⟨b, i, none⟩) h (Or.inl rfl) u
theorem touch_six {w : World} {b : Nat} (v0 v1 v2 v3 v4 v5 : Value) :
    Touch w ((((((w.setCell ⟨b, 0, none⟩ v0).setCell ⟨b, 1, none⟩ v1).setCell ⟨b, 2, none⟩ v2).setCell ⟨b, 3, none⟩ v3).setCell ⟨b, 4, none⟩ v4).setCell ⟨b, 5, none⟩ v5) (fun k => k = b) := by
  refine touch_cell ?_
  refine touch_cell ?_
  refine touch_cell ?_
  refine touch_cell ?_
  refine touch_cell ?_
  refine touch_cell ?_
  exact Touch.refl w _
theorem size_six {w : World} {b : Nat} (v0 v1 v2 v3 v4 v5 : Value) :
    ((((((w.setCell ⟨b, 0, none⟩ v0).setCell ⟨b, 1, none⟩ v1).setCell ⟨b, 2, none⟩ v2).setCell ⟨b, 3, none⟩ v3).setCell ⟨b, 4, none⟩ v4).setCell ⟨b, 5, none⟩ v5).heap.size = w.heap.size := by
  simp [World.setCell]
theorem blk_six {w : World} {b : Nat} {u0 u1 u2 u3 u4 u5 : Value} {t : TypeId} (h : w.heap[b]? = some (.cells #[u0, u1, u2, u3, u4, u5] t (0, 0))) (v0 v1 v2 v3 v4 v5 : Value) :
    ((((((w.setCell ⟨b, 0, none⟩ v0).setCell ⟨b, 1, none⟩ v1).setCell ⟨b, 2, none⟩ v2).setCell ⟨b, 3, none⟩ v3).setCell ⟨b, 4, none⟩ v4).setCell ⟨b, 5, none⟩ v5).heap[b]? = some (.cells #[v0, v1, v2, v3, v4, v5] t (0, 0)) := by
  rw [blk_set (blk_set (blk_set (blk_set (blk_set (blk_set h _) _) _) _) _) _]; rfl
set_option maxRecDepth 100000 in
set_option maxHeartbeats 4000000 in
theorem copy_calls {w : World} {s : D.State} {g c p : Value} (hs : Fit s) (hg : AtI w s.Globals g) (hc : AtC w s.Chans c) (hp : AtP w s.Procs p) :
    Calls Tryd.prog 27 #[.agg #[g, c, p, .int .i64 s.Last, .int .i64 s.Alone, .int .i64 s.Claim]] w fun e w' =>
      ∃ vg vc vp n1 qs fs w2, e = .returned (.agg #[vg, vc, vp, .int .i64 s.Last, .int .i64 s.Alone, .int .i64 s.Claim]) ∧ CopyP w w2 w' s vg vc vp n1 qs fs := by
  obtain ⟨ki, khi, khz0, khz1, khz2⟩ := info_parts' info_msg
  obtain ⟨kc, khc, kcz0, kcz1, kcz2⟩ := info_parts' info_chan
  obtain ⟨kp, khp, kpz0, kpz1, kpz2⟩ := info_parts' info_proc
  have hg128 := hs.g
  have hsc := hs.c
  have hsp := hs.p
  obtain ⟨ag, capg, rfl, hg1, hg2, hg3⟩ := id hg
  obtain ⟨ac, capc, rfl, hc1, hc2, hc3⟩ := hc
  obtain ⟨ap, capp, rfl, hp1, hp2, hp3⟩ := hp
  go_enter Tryd.func27, Tryd.ntmps27
  go_wp2_with (go_at_call 44; refine (clone_i (((hg.alloc _).alloc _).alloc _) hg128).mono ?_; rintro e w1 ⟨vg, rfl, hr1, hb1⟩; obtain ⟨aog, cg, rfl, _⟩ := own_any hr1; obtain ⟨cc1, cf1⟩ := bcellC hb1)
  have hz1 : w.heap.size + 1 + 1 + 1 ≤ w1.heap.size := by simpa using hb1.size
  have a2 : w1.heap[w.heap.size + 1 + 1]? = some (.cells #[.slice ag s.Globals.length capg, .slice ac s.Chans.length capc, .slice ap s.Procs.length capp, .int .i64 s.Last, .int .i64 s.Alone, .int .i64 s.Claim] stateT (0, 0)) := by
    rw [hb1.block _ (by simp)]
    have := heap_alloc_new ((w.alloc (.cells #[.slice ag s.Globals.length capg, .slice ac s.Chans.length capc, .slice ap s.Procs.length capp, .int .i64 s.Last, .int .i64 s.Alone, .int .i64 s.Claim] stateT)).alloc (.cells #[.slice none 0 0, .slice none 0 0, .slice none 0 0, .int .i64 0, .int .i64 0, .int .i64 0] stateT)) (.cells #[.slice ag s.Globals.length capg, .slice ac s.Chans.length capc, .slice ap s.Procs.length capp, .int .i64 s.Last, .int .i64 s.Alone, .int .i64 s.Claim] stateT)
    simpa using this
  have a1 : w1.heap[w.heap.size + 1]? = some (.cells #[.slice none 0 0, .slice none 0 0, .slice none 0 0, .int .i64 0, .int .i64 0, .int .i64 0] stateT (0, 0)) := by
    rw [hb1.block _ (by simp <;> omega), Below.heap_alloc _ _ _ (by simp)]
    have := heap_alloc_new (w.alloc (.cells #[.slice ag s.Globals.length capg, .slice ac s.Chans.length capc, .slice ap s.Procs.length capp, .int .i64 s.Last, .int .i64 s.Alone, .int .i64 s.Claim] stateT)) (.cells #[.slice none 0 0, .slice none 0 0, .slice none 0 0, .int .i64 0, .int .i64 0, .int .i64 0] stateT)
    simpa using this
  have a0 : w1.heap[w.heap.size]? = some (.cells #[.slice ag s.Globals.length capg, .slice ac s.Chans.length capc, .slice ap s.Procs.length capp, .int .i64 s.Last, .int .i64 s.Alone, .int .i64 s.Claim] stateT (0, 0)) := by
    rw [hb1.block _ (by simp <;> omega), Below.heap_alloc _ _ _ (by simp <;> omega), Below.heap_alloc _ _ _ (by simp)]
    have := heap_alloc_new w (.cells #[.slice ag s.Globals.length capg, .slice ac s.Chans.length capc, .slice ap s.Procs.length capp, .int .i64 s.Last, .int .i64 s.Alone, .int .i64 s.Claim] stateT)
    simpa using this
  have hB1 : Below w.heap.size w w1 := (((Below.refl _ w).alloc (Nat.le_refl _) _).alloc (by simp) _ |>.alloc (by simp <;> omega) _).trans (hb1.mono (by simp <;> omega))
  clear cc1 cf1
  have F0 : (((w1.setCell ⟨w.heap.size + 1 + 1, 0, none⟩ (.slice aog s.Globals.length cg)).setCell ⟨w.heap.size + 1 + 1, 1, none⟩ (.slice none 0 0)).setCell ⟨w.heap.size + 1 + 1, 2, none⟩ (.slice none 0 0)).heap[w.heap.size]? = some (.cells #[.slice ag s.Globals.length capg, .slice ac s.Chans.length capc, .slice ap s.Procs.length capp, .int .i64 s.Last, .int .i64 s.Alone, .int .i64 s.Claim] stateT (0, 0)) := by
    rw [Below.heap_setCell _ _ _ _ (by simp <;> omega), Below.heap_setCell _ _ _ _ (by simp <;> omega), Below.heap_setCell _ _ _ _ (by simp <;> omega)]; exact a0
  have F1 : (((w1.setCell ⟨w.heap.size + 1 + 1, 0, none⟩ (.slice aog s.Globals.length cg)).setCell ⟨w.heap.size + 1 + 1, 1, none⟩ (.slice none 0 0)).setCell ⟨w.heap.size + 1 + 1, 2, none⟩ (.slice none 0 0)).heap[w.heap.size + 1]? = some (.cells #[.slice none 0 0, .slice none 0 0, .slice none 0 0, .int .i64 0, .int .i64 0, .int .i64 0] stateT (0, 0)) := by
    rw [Below.heap_setCell _ _ _ _ (by simp), Below.heap_setCell _ _ _ _ (by simp), Below.heap_setCell _ _ _ _ (by simp)]; exact a1
  have F2 : (((w1.setCell ⟨w.heap.size + 1 + 1, 0, none⟩ (.slice aog s.Globals.length cg)).setCell ⟨w.heap.size + 1 + 1, 1, none⟩ (.slice none 0 0)).setCell ⟨w.heap.size + 1 + 1, 2, none⟩ (.slice none 0 0)).heap[w.heap.size + 1 + 1]? = some (.cells #[.slice aog s.Globals.length cg, .slice none 0 0, .slice none 0 0, .int .i64 s.Last, .int .i64 s.Alone, .int .i64 s.Claim] stateT (0, 0)) := by
    rw [blk_set (blk_set (blk_set a2 _) _) _]; rfl
  have FB : Below w.heap.size w (((w1.setCell ⟨w.heap.size + 1 + 1, 0, none⟩ (.slice aog s.Globals.length cg)).setCell ⟨w.heap.size + 1 + 1, 1, none⟩ (.slice none 0 0)).setCell ⟨w.heap.size + 1 + 1, 2, none⟩ (.slice none 0 0)) :=
    ((hB1.setCell (by simp <;> omega) _).setCell (by simp <;> omega) _).setCell (by simp <;> omega) _
  have FG : RowI (((w1.setCell ⟨w.heap.size + 1 + 1, 0, none⟩ (.slice aog s.Globals.length cg)).setCell ⟨w.heap.size + 1 + 1, 1, none⟩ (.slice none 0 0)).setCell ⟨w.heap.size + 1 + 1, 2, none⟩ (.slice none 0 0)) (w.heap.size + 1 + 1 + 1) (.slice aog s.Globals.length cg) s.Globals := by
    refine ownsRow_same (row_base hr1 (by simp)) fun k hk => ?_
    have hkb := (hr1.lt k hk).1
    simp at hkb
    rw [Below.heap_setCell _ _ _ _ (by simp <;> omega), Below.heap_setCell _ _ _ _ (by simp <;> omega), Below.heap_setCell _ _ _ _ (by simp <;> omega)]
  have FZ : w.heap.size + 1 + 1 + 1 ≤ (((w1.setCell ⟨w.heap.size + 1 + 1, 0, none⟩ (.slice aog s.Globals.length cg)).setCell ⟨w.heap.size + 1 + 1, 1, none⟩ (.slice none 0 0)).setCell ⟨w.heap.size + 1 + 1, 2, none⟩ (.slice none 0 0)).heap.size := by simpa using hz1
  clear hr1 hb1 a0 a1 a2 hB1 hz1
  generalize (((w1.setCell ⟨w.heap.size + 1 + 1, 0, none⟩ (.slice aog s.Globals.length cg)).setCell ⟨w.heap.size + 1 + 1, 1, none⟩ (.slice none 0 0)).setCell ⟨w.heap.size + 1 + 1, 2, none⟩ (.slice none 0 0)) = wl at *
  go_loopw [21] (fun i wr => ∃ k : Nat, k ≤ s.Chans.length ∧ i = .int .i64 k ∧ ∃ ov qs, wr.heap[w.heap.size + 1 + 1]? = some (.cells #[.slice aog s.Globals.length cg, ov, .slice none 0 0, .int .i64 s.Last, .int .i64 s.Alone, .int .i64 s.Claim] stateT (0, 0)) ∧ OwnC wr wl.heap.size ov qs (s.Chans.take k) ∧ Touch wl wr (fun b => b = w.heap.size + 1 + 1)) (fun i _ => s.Chans.length - (intOf i).toNat)
  case atStart => exact ⟨0, Nat.zero_le _, rfl, .slice none 0 0, [], F2, OwnC.nil _ _, Touch.refl _ _⟩
  case round =>
    obtain ⟨k, hk, rfl, ov, qs, hB, hC, hT⟩ := hrel
    generalize wr = wo at *
    by_cases hlt : k < s.Chans.length
    · obtain ⟨b, off, rfl, hbl, hrow⟩ := hc3 (by omega)
      obtain ⟨u, hu0, hu1, hq⟩ := hrow k hlt
      have hWr : Below w.heap.size w wo := FB.trans (hT.below FB.size (fun j hj => by subst hj; omega))
      rw [← hWr.cell (p := ⟨b, off + k * 2, none⟩) hbl] at hu0
      rw [← hWr.cell (p := ⟨b, off + k * 2 + 1, none⟩) hbl] at hu1
      obtain ⟨aq, capq, rfl, hq1, hq2, hq3⟩ := hq
      have HQ : Hid (s.Chans[k]? = some (s.Chans.getD k default)) := by unfold Hid; simp [List.getD, hlt]
      have hfit := hs.q (s.Chans.getD k default) (getD_mem hlt)
      clear hrow
      generalize s.Chans.getD k default = ch at *
      have hfq := hfit.1
      have hfm := Lib.hid hfit.2
      clear hfit
      unfold maxLen at hq2
      go_wp2
      have hfb : wl.heap.size ≤ wo.heap.size := hT.size
      have G0 : (wo.alloc (.cells #[.int .i64 ch.Shape, .slice aq ch.Queue.length capq] chanT)).heap[wo.heap.size]? = some (.cells #[.int .i64 ch.Shape, .slice aq ch.Queue.length capq] chanT (0, 0)) := heap_alloc_new wo _
      have G1 : Below wo.heap.size wo (wo.alloc (.cells #[.int .i64 ch.Shape, .slice aq ch.Queue.length capq] chanT)) := (Below.refl _ wo).alloc (Nat.le_refl _) _
      have G2 : (wo.alloc (.cells #[.int .i64 ch.Shape, .slice aq ch.Queue.length capq] chanT)).heap.size = wo.heap.size + 1 := by simp
      generalize wo.alloc (.cells #[.int .i64 ch.Shape, .slice aq ch.Queue.length capq] chanT) = wb at *
      have HL := Lib.hid hlt
      go_loopw [6, 28] (fun qv i wr => ∃ (q0 : Value) (j : Nat) (vs : List Value), q0 = qv ∧ j ≤ ch.Queue.length ∧ i = .int .i64 j ∧ OwnQ wr (wo.heap.size + 1) q0 vs (ch.Queue.take j) ∧ Below (wo.heap.size + 1) wb wr) (fun _ i _ => ch.Queue.length - (intOf i).toNat)
      case atStart => exact ⟨_, 0, [], rfl, Nat.zero_le _, rfl, OwnQ.nil _ _, Below.refl _ _⟩
      case round =>
        obtain ⟨qv, j, vs, rfl, hj, rfl, hQ, hBq⟩ := hrel
        have hsz := hBq.size
        by_cases hjl : j < ch.Queue.length
        · obtain ⟨bq, offq, rfl, hbq, hrowq⟩ := hq3 (by omega)
          obtain ⟨x, hx0, hx⟩ := hrowq j hjl
          have hWq : Below w.heap.size w wr := (hWr.trans (G1.mono (by have := hWr.size; omega))).trans (hBq.mono (by have := hWr.size; omega))
          rw [← hWq.cell (p := ⟨bq, offq + j, none⟩) hbq] at hx0
          have hx' := hx.below hWq
          have HJ : Hid (ch.Queue[j]? = some (ch.Queue.getD j [])) := by unfold Hid; simp [List.getD, hjl]
          have hm8 := hfm.out (ch.Queue.getD j []) (getD_mem hjl)
          clear hrowq hx
          generalize ch.Queue.getD j [] = m at *
          obtain ⟨ax, capx, rfl, hx1, hx2, hx3⟩ := id hx'
          have hQr := hQ.row
          have hkl : (ch.Queue.take j).length = j := by simp; omega
          rw [hkl] at hQr
          go_wp2_with (first | (go_at_call 45; refine (clone_m hx' hm8).mono ?_; rintro e w2 ⟨v', rfl, hm2, hb2⟩; obtain ⟨ao', cap', rfl, _⟩ := own_any hm2) | (at_builtin; refine wpList_append_own _ rfl _ _ 102 rfl (wo.heap.size + 1) msgT ki (.slice none 0 0) 1 24 Tryd.underlying102 khi khz0 khz1 khz2 rfl (by decide) qv j vs rfl ?qrow ⟨w2.heap.size, 0, none⟩ 1 1 [.slice ao' m.length cap'] rfl ?qc1 ?qc2 ?qc3 ?qc4 ?qc5 ?qc6 ?_))
          case qrow => exact row_kept (row_kept (ts := [msgT]) hQr (Kept.below hb2) (by simp)) (Kept.alloc (ts := [msgT]) _) (by simp)
          case qc1 => rfl
          case qc2 => exact World.news_of_block (heap_alloc_new w2 (.cells #[.slice ao' m.length cap'] msgT))
          case qc3 => intro u hu; simp at hu; subst hu; rfl
          case qc4 => unfold maxLen; omega
          case qc5 => omega
          case qc6 => have := hb2.size; simp; omega
          intro v2 w3 hown3 hgrow3 _
          have hz2 := hb2.size
          have HO : Hid (OwnQ w3 (wo.heap.size + 1) v2 (vs ++ [.slice ao' m.length cap']) (ch.Queue.take (j + 1))) := by
            unfold Hid
            rw [take_more HJ.out]
            refine OwnQ.more ((hQ.kept (ts := [msgT, i64T]) (Kept.below hb2) (by simp) (by simp)).kept (ts := [msgT, i64T]) (Kept.alloc _) (by simp) (by simp)) (row_kept (ts := [i64T]) (row_base hm2 (by omega)) (Kept.alloc _) (by simp)) (by rw [hkl]; exact hown3) hgrow3
          have HB : Hid (Below (wo.heap.size + 1) wb w3) := ((hBq.trans (hb2.mono (by omega))).alloc (by omega) _).grown hgrow3 (by simp; omega) (fun k hk => (hQr.lt k hk).1)
          clear hown3 hgrow3 hm2 hb2 hQr hQ hBq
          go_wp2
          go_roundw
          case rel => exact ⟨v2, j + 1, _, rfl, by omega, by go_num, HO.out, HB.out⟩
          case measure => simp [intOf]; omega
        · obtain rfl : j = ch.Queue.length := by omega
          rw [List.take_length] at hQ
          have hblkc : wr.heap[wo.heap.size]? = some (.cells #[.int .i64 ch.Shape, .slice aq ch.Queue.length capq] chanT (0, 0)) := (hBq.block _ (by omega)).trans G0
          have hBo : w.heap.size + 1 + 1 < wo.heap.size := by omega
          have hblkB : wr.heap[w.heap.size + 1 + 1]? = some (.cells #[.slice aog s.Globals.length cg, ov, .slice none 0 0, .int .i64 s.Last, .int .i64 s.Alone, .int .i64 s.Claim] stateT (0, 0)) := ((hBq.block _ (by omega)).trans (G1.block _ hBo)).trans hB
          have x0 : wr.cell? ⟨wo.heap.size, 0, none⟩ = some (.int .i64 ch.Shape) := cell_of_blk hblkc rfl
          have x1 : wr.cell? ⟨w.heap.size + 1 + 1, 1, none⟩ = some ov := cell_of_blk hblkB rfl
          have hCr : OwnC wr wl.heap.size ov qs (s.Chans.take k) := hC.kept (ts := [chanT, msgT, i64T]) (Kept.of fun b _ hb => (hBq.block b (by omega)).trans (G1.block b hb)) (by simp) (by simp) (by simp)
          have hkl : (s.Chans.take k).length = k := by simp; omega
          have hCrow := hCr.row
          rw [hkl] at hCrow
          obtain ⟨aqq, cqq, rfl, _⟩ := own_any hQ.row
          clear hC
          go_wp2_with (at_builtin; refine wpList_append_own _ rfl _ _ 33 rfl wl.heap.size chanT kc (.agg #[.int .i64 0, .slice none 0 0]) 2 32 Tryd.underlying33 khc kcz0 kcz1 kcz2 rfl (by decide) ov k (cellsC (s.Chans.take k) qs) rfl ?qrow ⟨wr.heap.size, 0, none⟩ 1 1 [.int .i64 ch.Shape, .slice aqq ch.Queue.length cqq] rfl ?qc1 ?qc2 ?qc3 ?qc4 ?qc5 ?qc6 ?_)
          case qrow => exact row_kept hCrow (Kept.alloc (ts := [chanT]) _) (by simp)
          case qc1 => rfl
          case qc2 => exact World.news_of_block (heap_alloc_new wr (.cells #[.int .i64 ch.Shape, .slice aqq ch.Queue.length cqq] chanT))
          case qc3 => intro u hu; simp at hu; rcases hu with rfl | rfl <;> rfl
          case qc4 => have := hs.c; unfold maxLen; omega
          case qc5 => have := hs.c; omega
          case qc6 => simp; omega
          intro v2 w3 hown3 hgrow3 _
          have hblk3 : w3.heap[w.heap.size + 1 + 1]? = some (.cells #[.slice aog s.Globals.length cg, ov, .slice none 0 0, .int .i64 s.Last, .int .i64 s.Alone, .int .i64 s.Claim] stateT (0, 0)) := by
            rw [hgrow3.block _ (by simp <;> omega) (fun e => by obtain ⟨cur, hcur⟩ := ownsRow_blk hCrow e.symm; exact blk_ne hcur hblkB (by decide) rfl), Below.heap_alloc _ _ _ (blk_lt hblkB)]; exact hblkB
          have e0 : w3.cell? ⟨w.heap.size + 1 + 1, 1, none⟩ = some ov := cell_of_blk hblk3 rfl
          have e1 : w3.frozen? ⟨w.heap.size + 1 + 1, 1, none⟩ = false := free_of_blk hblk3
          have HC : Hid (OwnC (w3.setCell ⟨w.heap.size + 1 + 1, 1, none⟩ v2) wl.heap.size v2 (qs ++ [.slice aqq ch.Queue.length cqq]) (s.Chans.take (k + 1))) := by
            unfold Hid
            rw [take_more HQ.out]
            exact OwnC.kept (ts := [chanT, msgT, i64T]) (OwnC.more (hCr.kept (ts := [chanT, msgT, i64T]) (Kept.alloc _) (by simp) (by simp) (by simp)) ((hQ.base (by omega)).kept (ts := [msgT, i64T]) (Kept.alloc _) (by simp) (by simp)) (by rw [hkl]; exact hown3) hgrow3) (Kept.set hblk3 (by decide)) (by simp) (by simp) (by simp)
          have HK : Hid ((w3.setCell ⟨w.heap.size + 1 + 1, 1, none⟩ v2).heap[w.heap.size + 1 + 1]? = some (.cells #[.slice aog s.Globals.length cg, v2, .slice none 0 0, .int .i64 s.Last, .int .i64 s.Alone, .int .i64 s.Claim] stateT (0, 0))) := by
            unfold Hid; rw [blk_set hblk3]; rfl
          have HT : Hid (Touch wl (w3.setCell ⟨w.heap.size + 1 + 1, 1, none⟩ v2) (fun b => b = w.heap.size + 1 + 1)) :=
            ((((hT.trans (Touch.of_below (F := fun _ => False) G1) (fun _ h => h.elim)).trans (Touch.of_below (F := fun _ => False) (G2 ▸ hBq)) (fun _ h => h.elim)).alloc _).grown hgrow3 (fun k hk => .inr (hCrow.lt k hk).1)).setCell (.inl rfl) _
          obtain ⟨ao3, cap3, rfl, _⟩ := own_any hown3
          clear hown3 hgrow3 hCrow hCr hblkB hblkc hQ hBq G0 G1 hblk3 x0 x1 hq3
          go_wp2
          go_roundw
          case rel => exact ⟨k + 1, HL.out, by go_num, _, _, HK.out, HC.out, HT.out⟩
          case measure => have := HL.out; simp [intOf]; omega
    · obtain rfl : k = s.Chans.length := by omega
      rw [List.take_length] at hC
      have hfb : wl.heap.size ≤ wo.heap.size := hT.size
      have hWo : Below w.heap.size w wo := FB.trans (hT.below FB.size (fun j hj => by subst hj; omega))
      have f0 : wo.heap[w.heap.size]? = _ := (hT.block _ (by omega) (fun e => absurd (show w.heap.size = w.heap.size + 1 + 1 from e) (by omega))).trans F0
      have f1 : wo.heap[w.heap.size + 1]? = _ := (hT.block _ (by omega) (fun e => absurd (show w.heap.size + 1 = w.heap.size + 1 + 1 from e) (by omega))).trans F1
      have s0 : wo.cell? ⟨w.heap.size, 2, none⟩ = some (.slice ap s.Procs.length capp) := cell_of_blk f0 rfl
      have HG : Hid (RowI wo (w.heap.size + 1 + 1 + 1) (.slice aog s.Globals.length cg) s.Globals) := ownsRow_same FG fun b hb => hT.block b (FG.lt b hb).2 (fun e => by have := (FG.lt b hb).1; omega)
      have HG1 : Hid (∀ b, (Value.slice aog s.Globals.length cg).ownBlock = some b → b < wl.heap.size) := fun b hb => (FG.lt b hb).2
      clear FG F0 F1 F2 hg3 hc3
      go_wp2
      go_loopw [51] (fun i wr => ∃ k : Nat, k ≤ s.Procs.length ∧ i = .int .i64 k ∧ ∃ pv fs, wr.heap[w.heap.size + 1 + 1]? = some (.cells #[.slice aog s.Globals.length cg, ov, pv, .int .i64 s.Last, .int .i64 s.Alone, .int .i64 s.Claim] stateT (0, 0)) ∧ OwnP wr wo.heap.size pv fs (s.Procs.take k) ∧ Touch wo wr (fun b => b = w.heap.size + 1 + 1)) (fun i _ => s.Procs.length - (intOf i).toNat)
      case atStart => exact ⟨0, Nat.zero_le _, rfl, .slice none 0 0, [], hB, OwnP.nil _ _, Touch.refl _ _⟩
      case round =>
        obtain ⟨k, hk, rfl, pv, fs, hB2, hP, hT2⟩ := hrel
        have hsz2 := hT2.size
        by_cases hlt : k < s.Procs.length
        · obtain ⟨b, off, rfl, hbl, hrow⟩ := hp3 (by omega)
          obtain ⟨u, hu0, hu1, hu2, hu3, hq⟩ := hrow k hlt
          have hWr : Below w.heap.size w wr := hWo.trans (hT2.below hWo.size (fun j hj => by subst hj; omega))
          rw [← hWr.cell (p := ⟨b, off + k * 4, none⟩) hbl] at hu0
          rw [← hWr.cell (p := ⟨b, off + k * 4 + 1, none⟩) hbl] at hu1
          rw [← hWr.cell (p := ⟨b, off + k * 4 + 2, none⟩) hbl] at hu2
          rw [← hWr.cell (p := ⟨b, off + k * 4 + 3, none⟩) hbl] at hu3
          have hx' := hq.below hWr
          have HQ : Hid (s.Procs[k]? = some (s.Procs.getD k default)) := by unfold Hid; simp [List.getD, hlt]
          have hm8 := hs.f (s.Procs.getD k default) (getD_mem hlt)
          clear hrow hq
          generalize s.Procs.getD k default = ch at *
          obtain ⟨aq, capq, rfl, hq1, hq2, hq3⟩ := id hx'
          clear hq3
          unfold maxLen at hq2
          have hPr := hP.row
          have hkl : (s.Procs.take k).length = k := by simp; omega
          rw [hkl] at hPr
          have HL := Lib.hid hlt
          go_wp2_with (first | (go_at_call 44; refine (clone_i (hx'.alloc _) hm8).mono ?_; rintro e w2 ⟨v', rfl, hm2, hb2⟩; obtain ⟨ao', cap', rfl, _⟩ := own_any hm2; obtain ⟨cc2, cf2⟩ := bcellC hb2; have hblkB2 := (hb2.block _ (Nat.lt_of_lt_of_le (blk_lt hB2) (by simp))).trans ((Below.heap_alloc _ _ _ (blk_lt hB2)).trans hB2); have y2 : w2.cell? ⟨w.heap.size + 1 + 1, 2, none⟩ = some pv := cell_of_blk hblkB2 rfl) | (at_builtin; refine wpList_append_own _ rfl _ _ 34 rfl wo.heap.size procT kp (.agg #[.int .i64 0, .int .i64 0, .int .i64 0, .slice none 0 0]) 4 48 Tryd.underlying34 khp kpz0 kpz1 kpz2 rfl (by decide) pv k (cellsP (s.Procs.take k) fs) rfl ?qrow ⟨w2.heap.size, 0, none⟩ 1 1 [.int .i64 ch.Type_, .int .i64 ch.Loc, .int .i64 ch.Prio, .slice ao' ch.Frame.length cap'] rfl ?qc1 ?qc2 ?qc3 ?qc4 ?qc5 ?qc6 ?_))
          case qrow =>
            have K : Kept wr (w2.setCell ⟨wr.heap.size, 3, none⟩ (.slice ao' ch.Frame.length cap')) wo.heap.size [procT] := Kept.of fun b _ hb => (Below.heap_setCell _ _ _ _ (by simp; omega)).trans ((hb2.block b (by simp; omega)).trans (Below.heap_alloc _ _ _ hb))
            exact row_kept (row_kept hPr K (by simp)) (Kept.alloc (ts := [procT]) _) (by simp)
          case qc1 => rfl
          case qc2 =>
            have := World.news_of_block (heap_alloc_new (w2.setCell ⟨wr.heap.size, 3, none⟩ (.slice ao' ch.Frame.length cap')) (.cells #[.int .i64 ch.Type_, .int .i64 ch.Loc, .int .i64 ch.Prio, .slice ao' ch.Frame.length cap'] procT))
            simpa using this
          case qc3 => intro u hu; simp at hu; rcases hu with rfl | rfl | rfl | rfl <;> rfl
          case qc4 => have := hs.p; unfold maxLen; omega
          case qc5 => have := hs.p; omega
          case qc6 => have := hb2.size; simp at this; simp; omega
          intro v2 w3 hown3 hgrow3 _
          have hz2 := hb2.size
          simp at hz2
          have hblkz : (w2.setCell ⟨wr.heap.size, 3, none⟩ (.slice ao' ch.Frame.length cap')).heap[w.heap.size + 1 + 1]? = some (.cells #[.slice aog s.Globals.length cg, ov, pv, .int .i64 s.Last, .int .i64 s.Alone, .int .i64 s.Claim] stateT (0, 0)) :=
            (Below.heap_setCell _ _ _ _ (by simp; omega)).trans hblkB2
          have hblk3 : w3.heap[w.heap.size + 1 + 1]? = some (.cells #[.slice aog s.Globals.length cg, ov, pv, .int .i64 s.Last, .int .i64 s.Alone, .int .i64 s.Claim] stateT (0, 0)) := by
            rw [hgrow3.block _ (by simp; omega) (fun e => by obtain ⟨cur, hcur⟩ := ownsRow_blk hPr e.symm; exact blk_ne hcur hB2 (by decide) rfl), Below.heap_alloc _ _ _ (blk_lt hblkz)]; exact hblkz
          have e0 : w3.cell? ⟨w.heap.size + 1 + 1, 2, none⟩ = some pv := cell_of_blk hblk3 rfl
          have e1 : w3.frozen? ⟨w.heap.size + 1 + 1, 2, none⟩ = false := free_of_blk hblk3
          have hPz : OwnP ((w2.setCell ⟨wr.heap.size, 3, none⟩ (.slice ao' ch.Frame.length cap')).alloc (.cells #[.int .i64 ch.Type_, .int .i64 ch.Loc, .int .i64 ch.Prio, .slice ao' ch.Frame.length cap'] procT)) wo.heap.size pv fs (s.Procs.take k) := by
            have K : Kept wr (w2.setCell ⟨wr.heap.size, 3, none⟩ (.slice ao' ch.Frame.length cap')) wo.heap.size [procT, i64T] := Kept.of fun b _ hb => (Below.heap_setCell _ _ _ _ (by simp; omega)).trans ((hb2.block b (by simp; omega)).trans (Below.heap_alloc _ _ _ hb))
            exact (hP.kept K (by simp) (by simp)).kept (ts := [procT, i64T]) (Kept.alloc _) (by simp) (by simp)
          have hFz : RowI ((w2.setCell ⟨wr.heap.size, 3, none⟩ (.slice ao' ch.Frame.length cap')).alloc (.cells #[.int .i64 ch.Type_, .int .i64 ch.Loc, .int .i64 ch.Prio, .slice ao' ch.Frame.length cap'] procT)) (wr.heap.size + 1) (.slice ao' ch.Frame.length cap') ch.Frame :=
            row_kept (ts := [i64T]) (row_kept (ts := [i64T]) (row_base hm2 (by simp)) (Kept.low (by simp)) (by simp)) (Kept.alloc _) (by simp)
          have HP : Hid (OwnP (w3.setCell ⟨w.heap.size + 1 + 1, 2, none⟩ v2) wo.heap.size v2 (fs ++ [.slice ao' ch.Frame.length cap']) (s.Procs.take (k + 1))) := by
            unfold Hid
            rw [take_more HQ.out]
            refine OwnP.kept (ts := [procT, i64T]) (OwnP.more hPz (row_base hFz (by omega)) (fun i x b hx hb e => ?_) (by rw [hkl]; exact hown3) hgrow3) (Kept.set hblk3 (by decide)) (by simp) (by simp)
            have hi : i < fs.length := (List.getElem?_eq_some_iff.1 hx).1
            rw [hP.len] at hi
            have h1 := ((hP.each i x _ hx (List.getElem?_eq_getElem hi)).lt b hb).2
            have h2 := (hFz.lt b e).1
            omega
          have HK : Hid ((w3.setCell ⟨w.heap.size + 1 + 1, 2, none⟩ v2).heap[w.heap.size + 1 + 1]? = some (.cells #[.slice aog s.Globals.length cg, ov, v2, .int .i64 s.Last, .int .i64 s.Alone, .int .i64 s.Claim] stateT (0, 0))) := by
            unfold Hid; rw [blk_set hblk3]; rfl
          have HT : Hid (Touch wo (w3.setCell ⟨w.heap.size + 1 + 1, 2, none⟩ v2) (fun b => b = w.heap.size + 1 + 1)) :=
            ((((((hT2.alloc _).trans (Touch.of_below (F := fun _ => False) hb2) (fun _ h => h.elim)).setCell (.inr hsz2) _).alloc _).grown hgrow3 (fun k hk => .inr (hPr.lt k hk).1)).setCell (.inl rfl) _)
          obtain ⟨ao3, cap3, rfl, _⟩ := own_any hown3
          clear hown3 hgrow3 hPr hP hPz hFz hblkz hblkB2 hB2 hm2 hb2 cc2 cf2 hblk3 hT2 hx' y2
          go_wp2
          go_roundw
          case rel => exact ⟨k + 1, HL.out, by go_num, _, _, HK.out, HP.out, HT.out⟩
          case measure => have := HL.out; simp [intOf]; omega
        · obtain rfl : k = s.Procs.length := by omega
          rw [List.take_length] at hP
          have b1 : wr.heap[w.heap.size + 1]? = _ := (hT2.block _ (by omega) (fun e => absurd (show w.heap.size + 1 = w.heap.size + 1 + 1 from e) (by omega))).trans f1
          have c0 : wr.cell? ⟨w.heap.size + 1 + 1, 0, none⟩ = _ := cell_of_blk hB2 rfl
          have c1 : wr.cell? ⟨w.heap.size + 1 + 1, 1, none⟩ = _ := cell_of_blk hB2 rfl
          have c2 : wr.cell? ⟨w.heap.size + 1 + 1, 2, none⟩ = _ := cell_of_blk hB2 rfl
          have c3 : wr.cell? ⟨w.heap.size + 1 + 1, 3, none⟩ = _ := cell_of_blk hB2 rfl
          have c4 : wr.cell? ⟨w.heap.size + 1 + 1, 4, none⟩ = _ := cell_of_blk hB2 rfl
          have c5 : wr.cell? ⟨w.heap.size + 1 + 1, 5, none⟩ = _ := cell_of_blk hB2 rfl
          have d0 : wr.cell? ⟨w.heap.size + 1, 0, none⟩ = _ := cell_of_blk b1 rfl
          have d1 : wr.cell? ⟨w.heap.size + 1, 1, none⟩ = _ := cell_of_blk b1 rfl
          have d2 : wr.cell? ⟨w.heap.size + 1, 2, none⟩ = _ := cell_of_blk b1 rfl
          have d3 : wr.cell? ⟨w.heap.size + 1, 3, none⟩ = _ := cell_of_blk b1 rfl
          have d4 : wr.cell? ⟨w.heap.size + 1, 4, none⟩ = _ := cell_of_blk b1 rfl
          have d5 : wr.cell? ⟨w.heap.size + 1, 5, none⟩ = _ := cell_of_blk b1 rfl
          have g0 : wr.frozen? ⟨w.heap.size + 1, 0, none⟩ = _ := free_of_blk b1
          have g1 : wr.frozen? ⟨w.heap.size + 1, 1, none⟩ = _ := free_of_blk b1
          have g2 : wr.frozen? ⟨w.heap.size + 1, 2, none⟩ = _ := free_of_blk b1
          have g3 : wr.frozen? ⟨w.heap.size + 1, 3, none⟩ = _ := free_of_blk b1
          have g4 : wr.frozen? ⟨w.heap.size + 1, 4, none⟩ = _ := free_of_blk b1
          have g5 : wr.frozen? ⟨w.heap.size + 1, 5, none⟩ = _ := free_of_blk b1
          obtain ⟨aov, cov, rfl, _⟩ := own_any hC.row
          obtain ⟨apv, cpv, rfl, _⟩ := own_any hP.row
          go_wp2
          have hres := blk_six b1 (.slice aog s.Globals.length cg) (.slice aov s.Chans.length cov) (.slice apv s.Procs.length cpv) (.int .i64 s.Last) (.int .i64 s.Alone) (.int .i64 s.Claim)
          have hT3 := touch_six (w := wr) (b := w.heap.size + 1) (.slice aog s.Globals.length cg) (.slice aov s.Chans.length cov) (.slice apv s.Procs.length cpv) (.int .i64 s.Last) (.int .i64 s.Alone) (.int .i64 s.Claim)
          have hz3 := size_six (w := wr) (b := w.heap.size + 1) (.slice aog s.Globals.length cg) (.slice aov s.Chans.length cov) (.slice apv s.Procs.length cpv) (.int .i64 s.Last) (.int .i64 s.Alone) (.int .i64 s.Claim)
          refine ret_cell1 rfl rfl hres Tryd.underlying36 rfl (by kernel_rfl) rfl ?_
          generalize ((((((wr.setCell ⟨w.heap.size + 1, 0, none⟩ (.slice aog s.Globals.length cg)).setCell ⟨w.heap.size + 1, 1, none⟩ (.slice aov s.Chans.length cov)).setCell ⟨w.heap.size + 1, 2, none⟩ (.slice apv s.Procs.length cpv)).setCell ⟨w.heap.size + 1, 3, none⟩ (.int .i64 s.Last)).setCell ⟨w.heap.size + 1, 4, none⟩ (.int .i64 s.Alone)).setCell ⟨w.heap.size + 1, 5, none⟩ (.int .i64 s.Claim)) = wz at *
          have hWr : Below w.heap.size w wr := hWo.trans (hT2.below hWo.size (fun j hj => by subst hj; omega))
          have hGr : RowI wr (w.heap.size + 1 + 1 + 1) (.slice aog s.Globals.length cg) s.Globals := ownsRow_same HG.out fun b hb => hT2.block b (HG.out.lt b hb).2 (fun e => by have := (HG.out.lt b hb).1; omega)
          refine ⟨_, _, _, wl.heap.size, qs, fs, wo, rfl, ⟨?_, HG1.out, FB.size, hfb, hC, fun b h1 h2 => ?_, ?_, ?_⟩⟩
          · exact row_base (ownsRow_same hGr fun b hb => hT3.block b (hGr.lt b hb).2 (fun e => by have := (hGr.lt b hb).1; omega)) (by omega)
          · exact (hT3.block b (by omega) (fun e => by have e : b = w.heap.size + 1 := e; omega)).trans (hT2.block b h2 (fun e => by have e : b = w.heap.size + 1 + 1 := e; omega))
          · exact hP.kept (ts := [procT, i64T]) (Kept.of fun b h1 h2 => hT3.block b h2 (fun e => by have e : b = w.heap.size + 1 := e; omega)) (by simp) (by simp)
          · exact hWr.trans (hT3.below hWr.size (fun j hj => by have hj : j = w.heap.size + 1 := hj; omega))
end Go.Proofs.YthmhbmikcdfkcaaDoor
