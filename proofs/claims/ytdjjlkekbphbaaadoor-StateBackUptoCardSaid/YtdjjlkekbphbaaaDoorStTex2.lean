/-
  A state as text: the walk.
-/
import Derived.Test.YtdjjlkekbphbaaaDoorStText
namespace Go.Proofs.YtdjjlkekbphbaaaDoor
open Go.RowKit

/-! ### What lies in memory -/
def IntsAt (w : World) (v : Value) (l : List Int) : Prop := ∃ a cap, v = .slice a l.length cap ∧ (0 < l.length → ∃ bb off, a = some ⟨bb, off, none⟩ ∧ bb < w.heap.size ∧ ∀ i, i < l.length → w.cell? ⟨bb, off + i, none⟩ = some (.int .i64 (l.getD i 0)))
def QAt (w : World) (v : Value) (q : List (List Int)) : Prop := ∃ a cap, v = .slice a q.length cap ∧ (0 < q.length → ∃ bb off, a = some ⟨bb, off, none⟩ ∧ bb < w.heap.size ∧ ∀ i, i < q.length → ∃ u, w.cell? ⟨bb, off + i, none⟩ = some u ∧ IntsAt w u (q.getD i []))
def CsAt (w : World) (v : Value) (l : List D.Chan) : Prop := ∃ a cap, v = .slice a l.length cap ∧ (0 < l.length → ∃ bb off, a = some ⟨bb, off, none⟩ ∧ bb < w.heap.size ∧ ∀ i, i < l.length → ∃ u, w.cell? ⟨bb, off + i * 2, none⟩ = some (.int .i64 (l.getD i default).Shape) ∧ w.cell? ⟨bb, off + i * 2 + 1, none⟩ = some u ∧ QAt w u (l.getD i default).Queue)
def PsAt (w : World) (v : Value) (l : List D.Process) : Prop := ∃ a cap, v = .slice a l.length cap ∧ (0 < l.length → ∃ bb off, a = some ⟨bb, off, none⟩ ∧ bb < w.heap.size ∧ ∀ i, i < l.length → ∃ u, w.cell? ⟨bb, off + i * 4, none⟩ = some (.int .i64 (l.getD i default).Type_) ∧ w.cell? ⟨bb, off + i * 4 + 1, none⟩ = some (.int .i64 (l.getD i default).Loc) ∧
  w.cell? ⟨bb, off + i * 4 + 2, none⟩ = some (.int .i64 (l.getD i default).Prio) ∧ w.cell? ⟨bb, off + i * 4 + 3, none⟩ = some u ∧ IntsAt w u (l.getD i default).Frame)
section
variable {w : World} {E : Prot} {m : Option Phi} {v : Value}
theorem IntsAt.of {fz : Bool} {l : List Int} (h : V w E m (encL_Int fz l) v) : IntsAt w v l := by
  obtain ⟨a, cap, rfl, _, _, h3⟩ := V.sl_inv h
  refine ⟨a, cap, rfl, fun hp => ?_⟩
  obtain ⟨b, off, rfl, hb, _, _, u, hc, hv⟩ := h3 hp
  refine ⟨b, off, rfl, hb, fun i hi => ?_⟩
  have c1 := hc i 0 _ hi rfl
  rw [(hv i 0 _ hi rfl).sc_inv] at c1
  simpa using c1
theorem QAt.of {fz : Bool} {q : List (List Int)} (h : V w E m (encL_Ints fz q) v) : QAt w v q := by
  obtain ⟨a, cap, rfl, _, _, h3⟩ := V.sl_inv h
  refine ⟨a, cap, rfl, fun hp => ?_⟩
  obtain ⟨b, off, rfl, hb, _, _, u, hc, hv⟩ := h3 hp
  exact ⟨b, off, rfl, hb, fun i hi => ⟨u i 0, by simpa using hc i 0 _ hi rfl, IntsAt.of (hv i 0 _ hi rfl)⟩⟩
theorem CsAt.of {fz : Bool} {l : List D.Chan} (h : V w E m (encL_Chan fz l) v) : CsAt w v l := by
  obtain ⟨a, cap, rfl, _, _, h3⟩ := V.sl_inv h
  refine ⟨a, cap, rfl, fun hp => ?_⟩
  obtain ⟨b, off, rfl, hb, _, _, u, hc, hv⟩ := h3 hp
  refine ⟨b, off, rfl, hb, fun i hi => ⟨u i 1, ?_, hc i 1 _ hi rfl, QAt.of (hv i 1 _ hi rfl)⟩⟩
  have c1 := hc i 0 _ hi rfl
  rw [(hv i 0 _ hi rfl).sc_inv] at c1
  exact c1
theorem PsAt.of {fz : Bool} {l : List D.Process} (h : V w E m (encL_Process fz l) v) : PsAt w v l := by
  obtain ⟨a, cap, rfl, _, _, h3⟩ := V.sl_inv h
  refine ⟨a, cap, rfl, fun hp => ?_⟩
  obtain ⟨b, off, rfl, hb, _, _, u, hc, hv⟩ := h3 hp
  refine ⟨b, off, rfl, hb, fun i hi => ⟨u i 3, ?_, ?_, ?_, hc i 3 _ hi rfl, IntsAt.of (hv i 3 _ hi rfl)⟩⟩
  · have c1 := hc i 0 _ hi rfl
    rw [(hv i 0 _ hi rfl).sc_inv] at c1; exact c1
  · have c1 := hc i 1 _ hi rfl
    rw [(hv i 1 _ hi rfl).sc_inv] at c1; exact c1
  · have c1 := hc i 2 _ hi rfl
    rw [(hv i 2 _ hi rfl).sc_inv] at c1; exact c1
end
/-! ### What the walk keeps -/
abbrev stT : TypeId := 33
structure TxI (w : World) (cs : Array Value) (T : ByteArray) (W : World) : Prop where
  sb : W.heap[w.heap.size]? = some (.cells cs stT (0, 0))
  bd : BldI (w.heap.size + 1) (w.heap.size + 1) T W
  bw : Below w.heap.size w W
  sz : w.heap.size + 2 ≤ W.heap.size
theorem TxI.same {w : World} {cs : Array Value} {T : ByteArray} {W W' : World} (h : TxI w cs T W) (hb : Below W.heap.size W W') : TxI w cs T W' :=
  ⟨(hb.block _ (by have := h.sz; omega)).trans h.sb, h.bd.below hb, h.bw.trans (hb.mono h.bw.size), Nat.le_trans h.sz hb.size⟩
theorem below_al (w : World) (o : Obj) : Below w.heap.size w (w.alloc o) := (Below.refl _ _).alloc (Nat.le_refl _) _
theorem below_write {w W W' : World} {n : Nat} (h : Below n w W) (hb : Below (n + 1) W W') : Below n w W' := h.trans (hb.mono (Nat.le_succ _))
theorem TxI.put {w : World} {cs : Array Value} {T x : ByteArray} {W W' : World} (h : TxI w cs T W) (h1 : BldI (w.heap.size + 1) (w.heap.size + 1) (T ++ x) W') (h2 : Below (w.heap.size + 1) W W') : TxI w cs (T ++ x) W' :=
  ⟨(h2.block _ (Nat.lt_succ_self _)).trans h.sb, h1, below_write h.bw h2, Nat.le_trans h.sz h2.size⟩
theorem cell_blk {w : World} {b i : Nat} {cs : Array Value} {t : TypeId} {v : Value} (h : w.heap[b]? = some (.cells cs t (0, 0))) (hi : cs[i]? = some v) : w.cell? ⟨b, i, none⟩ = some v := by
  simp [World.cell?, h, hi]
def emptyB : ByteArray := mk []
theorem TxI.start (w : World) (cs : Array Value) : ∃ W, W = ((w.alloc (.cells cs stT)).alloc (.cells #[.pointer none, .slice none 0 0] bldT)) ∧ TxI w cs emptyB W ∧ W.heap.size = w.heap.size + 2 := by
  refine ⟨_, rfl, ⟨?_, ?_, ?_, by simp⟩, by simp⟩
  · rw [Below.heap_alloc _ _ _ (by simp)]; exact heap_alloc_new _ _
  · have := BldI.start (w.alloc (.cells cs stT))
    rw [show (w.alloc (.cells cs stT)).heap.size = w.heap.size + 1 by simp] at this
    exact this
  · exact ((Below.refl _ w).alloc (Nat.le_refl _) _).alloc (by simp) _
/-- Numbers that were there are put. -/
theorem put_old {w W : World} {cs : Array Value} {T : ByteArray} {v : Value} {l : List Int} (hL : LibAt w) (hlB : ∀ k, k ∈ libB → k < w.heap.size) (h : TxI w cs T W) (hv : IntsAt w v l) (hI : ∀ n ∈ l, I64 n) (hsz : T.size + 22 * l.length ≤ 70368744177664) :
    Calls Tryd.prog 56 #[v, .pointer (some ⟨w.heap.size + 1, 0, none⟩)] W fun e W' => (∃ v, e = .returned v) ∧ TxI w cs (T ++ mk (rowB l)) W' ∧ Below (w.heap.size + 1) W W' ∧ Lib.OthersKept byteT (some (w.heap.size + 1)) W W' := by
  obtain ⟨a, cap, rfl, hc⟩ := hv
  refine (put_calls (hL.below hlB h.bw) (fun k hk => Nat.lt_succ_of_lt (hlB k hk)) h.bd (by have := h.sz; omega) hI hsz fun w' hb _ hp => ?_).mono ?_
  · obtain ⟨bb, off, rfl, hlt, hcell⟩ := hc hp
    refine ⟨bb, off, rfl, fun i hi => ?_⟩
    have e1 := h.bw.cell (p := ⟨bb, off + i, none⟩) hlt
    have e2 := hb.cell (p := ⟨bb, off + i, none⟩) (Nat.lt_succ_of_lt hlt)
    rw [e2, e1]; exact hcell i hi
  · rintro e W' ⟨h1, h2, h3, h4⟩
    exact ⟨h1, h.put h2 h3, h3, h4⟩
/-- Numbers that were written down are put. -/
theorem put_new {w W : World} {cs : Array Value} {T : ByteArray} {l : List Int} {k n : Nat} (hL : LibAt w) (hlB : ∀ k, k ∈ libB → k < w.heap.size) (h : TxI w cs T W) (hk : W.heap[k]? = some (.cells (l.map (Value.int .i64)).toArray 2 (0, 0))) (hkb : k ≠ w.heap.size + 1) (hn : n = l.length) (hI : ∀ n ∈ l, I64 n) (hsz : T.size + 22 * l.length ≤ 70368744177664) :
    Calls Tryd.prog 56 #[.slice (some ⟨k, 0, none⟩) n n, .pointer (some ⟨w.heap.size + 1, 0, none⟩)] W fun e W' => (∃ v, e = .returned v) ∧ TxI w cs (T ++ mk (rowB l)) W' ∧ Below (w.heap.size + 1) W W' ∧ Lib.OthersKept byteT (some (w.heap.size + 1)) W W' := by
  subst hn
  refine (put_calls (hL.below hlB h.bw) (fun k hk => Nat.lt_succ_of_lt (hlB k hk)) h.bd (by have := h.sz; omega) hI hsz fun w' hb hkp hp => ⟨k, 0, rfl, fun i hi => ?_⟩).mono ?_
  · have := hkp _ _ hk (by simpa using hkb) (by intro c fz hc; simp only [Obj.cells.injEq] at hc; exact absurd hc.2.1 (by decide))
    rw [Nat.zero_add]
    exact cell_blk this (by simp [List.getD, hi])
  · rintro e W' ⟨h1, h2, h3, h4⟩
    exact ⟨h1, h.put h2 h3, h3, h4⟩

theorem chans_succ {l : List D.Chan} {k : Nat} (hk : k < l.length) : (l.take (k + 1)).flatMap chanL = (l.take k).flatMap chanL ++ chanL (l.getD k default) := by
  rw [take_push (d := default) hk]; simp
theorem procs_succ {l : List D.Process} {k : Nat} (hk : k < l.length) : (l.take (k + 1)).flatMap procL = (l.take k).flatMap procL ++ procL (l.getD k default) := by
  rw [take_push (d := default) hk]; simp
theorem row_app (T : ByteArray) (a b : List Int) : T ++ mk (rowB a) ++ mk (rowB b) = T ++ mk (rowB (a ++ b)) := by rw [ba_assoc, mk_append, rowB_append]
/-- The numbers so far. -/
def Txt (L : List Int) : ByteArray := emptyB ++ mk (rowB L)
theorem Txt.app (a b : List Int) : Txt a ++ mk (rowB b) = Txt (a ++ b) := row_app _ _ _
theorem Txt.size {L : List Int} (h : ∀ n ∈ L, I64 n) : (Txt L).size ≤ 22 * L.length := by
  unfold Txt emptyB
  rw [mk_append, size_mk, List.nil_append]
  exact rowB_len h
structure StOk (s : D.State) : Prop where
  nums : ∀ n ∈ stateL s, I64 n
  len : (stateL s).length ≤ 1099511627776
/-- What has been put is the head of all. -/
def Pre (s : D.State) (a : List Int) : Prop := ∃ r, a ++ r = stateL s
theorem Pre.left {s : D.State} {a b : List Int} (h : Pre s (a ++ b)) : Pre s a := let ⟨r, e⟩ := h; ⟨b ++ r, by rw [← e, List.append_assoc]⟩
theorem Pre.ok {s : D.State} {a b : List Int} (h : Pre s (a ++ b)) (hs : StOk s) : (∀ n ∈ b, I64 n) ∧ (Txt a).size + 22 * b.length ≤ 70368744177664 := by
  obtain ⟨r, e⟩ := h
  have hl := hs.len
  rw [← e] at hl
  simp only [List.length_append] at hl
  have ha := Txt.size (L := a) fun n hn => hs.nums n (by rw [← e]; simp [hn])
  exact ⟨fun n hn => hs.nums n (by rw [← e]; simp [hn]), by omega⟩
theorem pre_g (s : D.State) : Pre s s.Globals := ⟨_, rfl⟩
theorem pre_n (s : D.State) : Pre s (s.Globals ++ [(s.Chans.length : Int)]) := ⟨s.Chans.flatMap chanL ++ ((s.Procs.length : Int) :: (s.Procs.flatMap procL ++ [s.Last, s.Alone, s.Claim])), by unfold stateL; simp⟩
theorem split_at {α β : Type} {f : α → List β} {l : List α} {k : Nat} {d : α} (hk : k < l.length) : l.flatMap f = (l.take k).flatMap f ++ (f (l.getD k d) ++ (l.drop (k + 1)).flatMap f) := by
  conv => lhs; rw [← List.take_append_drop k l, drop_cons (d := d) hk]
  simp
theorem pre_c {s : D.State} {k : Nat} (hk : k < s.Chans.length) : Pre s (s.Globals ++ [(s.Chans.length : Int)] ++ (s.Chans.take k).flatMap chanL ++ chanL (s.Chans.getD k default)) :=
  ⟨(s.Chans.drop (k + 1)).flatMap chanL ++ ((s.Procs.length : Int) :: (s.Procs.flatMap procL ++ [s.Last, s.Alone, s.Claim])), by
    unfold stateL
    rw [split_at (f := chanL) (d := default) hk]
    simp⟩
theorem pre_q {s : D.State} {B : List Int} {c : D.Chan} {j : Nat} (h : Pre s (B ++ chanL c)) (hj : j < c.Queue.length) : Pre s (B ++ [c.Shape, (c.Queue.length : Int)] ++ (c.Queue.take j).flatten ++ c.Queue.getD j []) := by
  obtain ⟨r, e⟩ := h
  refine ⟨(c.Queue.drop (j + 1)).flatten ++ r, ?_⟩
  rw [← e]
  unfold chanL
  have : c.Queue.flatten = (c.Queue.take j).flatten ++ (c.Queue.getD j [] ++ (c.Queue.drop (j + 1)).flatten) := by
    conv => lhs; rw [← List.take_append_drop j c.Queue, drop_cons (d := []) hj]
    simp
  rw [this]
  simp
theorem pre_m (s : D.State) : Pre s (s.Globals ++ [(s.Chans.length : Int)] ++ s.Chans.flatMap chanL ++ [(s.Procs.length : Int)]) := ⟨s.Procs.flatMap procL ++ [s.Last, s.Alone, s.Claim], by unfold stateL; simp⟩
theorem pre_p {s : D.State} {k : Nat} (hk : k < s.Procs.length) : Pre s (s.Globals ++ [(s.Chans.length : Int)] ++ s.Chans.flatMap chanL ++ [(s.Procs.length : Int)] ++ (s.Procs.take k).flatMap procL ++ [(s.Procs.getD k default).Type_, (s.Procs.getD k default).Loc] ++ (s.Procs.getD k default).Frame) :=
  ⟨(s.Procs.drop (k + 1)).flatMap procL ++ [s.Last, s.Alone, s.Claim], by
    unfold stateL
    rw [split_at (f := procL) (d := default) hk]
    simp [procL]⟩
theorem pre_e (s : D.State) : s.Globals ++ [(s.Chans.length : Int)] ++ s.Chans.flatMap chanL ++ [(s.Procs.length : Int)] ++ s.Procs.flatMap procL ++ [s.Last, s.Alone, s.Claim] = stateL s := by unfold stateL; simp
section
variable {w W : World} {s : D.State} {cs : Array Value} {a l : List Int}
theorem put_o {v : Value} (hs : StOk s) (hL : LibAt w) (hlB : ∀ k, k ∈ libB → k < w.heap.size) (h : TxI w cs (Txt a) W) (hv : IntsAt w v l) (hp : Pre s (a ++ l)) :
    Calls Tryd.prog 56 #[v, .pointer (some ⟨w.heap.size + 1, 0, none⟩)] W fun e W' => (∃ v, e = .returned v) ∧ TxI w cs (Txt (a ++ l)) W' ∧ Below (w.heap.size + 1) W W' ∧ Lib.OthersKept byteT (some (w.heap.size + 1)) W W' := by
  obtain ⟨h1, h2⟩ := hp.ok hs
  rw [← Txt.app]
  exact put_old hL hlB h hv h1 h2
theorem put_n {k n : Nat} (hs : StOk s) (hL : LibAt w) (hlB : ∀ k, k ∈ libB → k < w.heap.size) (h : TxI w cs (Txt a) W) (hk : W.heap[k]? = some (.cells (l.map (Value.int .i64)).toArray 2 (0, 0))) (hkb : k ≠ w.heap.size + 1) (hn : n = l.length) (hp : Pre s (a ++ l)) :
    Calls Tryd.prog 56 #[.slice (some ⟨k, 0, none⟩) n n, .pointer (some ⟨w.heap.size + 1, 0, none⟩)] W fun e W' => (∃ v, e = .returned v) ∧ TxI w cs (Txt (a ++ l)) W' ∧ Below (w.heap.size + 1) W W' ∧ Lib.OthersKept byteT (some (w.heap.size + 1)) W W' := by
  obtain ⟨h1, h2⟩ := hp.ok hs
  rw [← Txt.app]
  exact put_new hL hlB h hk hkb hn h1 h2
end
theorem TxI.sc {w : World} {cs : Array Value} {T : ByteArray} {W : World} (h : TxI w cs T W) {i : Nat} {v : Value} (hi : cs[i]? = some v) : W.cell? ⟨w.heap.size, i, none⟩ = some v := cell_blk h.sb hi
abbrev chT : TypeId := 76
abbrev prT : TypeId := 58
theorem box_stays (w : World) (o o' : Obj) : ((w.alloc o).alloc o').heap[w.heap.size]? = some o := by
  rw [Below.heap_alloc _ _ _ (by simp)]; exact heap_alloc_new _ _
theorem heap_alloc_new' (w : World) (o o' : Obj) : ((w.alloc o).alloc o').heap[w.heap.size + 1]? = some o' := by
  have := heap_alloc_new (w.alloc o) o'
  rwa [show (w.alloc o).heap.size = w.heap.size + 1 by simp] at this
theorem Pre.headQ {s : D.State} {B : List Int} {c : D.Chan} (h : Pre s (B ++ chanL c)) : Pre s (B ++ [c.Shape, (c.Queue.length : Int)]) := by
  obtain ⟨r, e⟩ := h
  exact ⟨c.Queue.flatten ++ r, by rw [← e]; simp [chanL]⟩
set_option maxRecDepth 100000 in
set_option maxHeartbeats 4000000 in
theorem text_calls {w : World} {s : D.State} (hs : StOk s) (hL : LibAt w) (hlB : ∀ k, k ∈ libB → k < w.heap.size) {g c p : Value} (hg : IntsAt w g s.Globals) (hc : CsAt w c s.Chans) (hp : PsAt w p s.Procs) :
    Calls Tryd.prog 20 #[.agg #[g, c, p, .int .i64 s.Last, .int .i64 s.Alone, .int .i64 s.Claim]] w fun e w' => e = .returned (.string (Txt (stateL s))) ∧ Below w.heap.size w w' := by
  obtain ⟨ca, ccap, rfl, hcc⟩ := hc
  obtain ⟨pa, pcap, rfl, hpc⟩ := hp
  have hHC := Lib.hid hcc
  have hHP := Lib.hid hpc
  clear hcc hpc
  go_enter Tryd.func20, Tryd.ntmps20
  obtain ⟨W, hW, i1, i2⟩ := TxI.start w #[g, .slice ca s.Chans.length ccap, .slice pa s.Procs.length pcap, .int .i64 s.Last, .int .i64 s.Alone, .int .i64 s.Claim]
  go_wp2_with fail
  rw [← hW]
  clear hW i2
  have i1' : TxI w #[g, .slice ca s.Chans.length ccap, .slice pa s.Procs.length pcap, .int .i64 s.Last, .int .i64 s.Alone, .int .i64 s.Claim] (Txt []) W := by
    have : Txt [] = emptyB := app_nil _
    rw [this]; exact i1
  generalize hcs : (#[g, .slice ca s.Chans.length ccap, .slice pa s.Procs.length pcap, .int .i64 s.Last, .int .i64 s.Alone, .int .i64 s.Claim] : Array Value) = cs at i1'
  refine (put_o (l := s.Globals) hs hL hlB i1' hg (pre_g s)).mono ?_
  rintro e W1 ⟨⟨v, rfl⟩, j1, _, _⟩
  rw [List.nil_append] at j1
  clear i1 i1'
  have s1 := j1.sc (i := 1) (v := .slice ca s.Chans.length ccap) (by rw [← hcs]; rfl)
  go_wp2_with fail
  refine (put_n (l := [(s.Chans.length : Int)]) hs hL hlB (j1.same (below_al _ _)) (heap_alloc_new _ _) (by have := j1.sz; omega) rfl (pre_n s)).mono ?_
  rintro e W2 ⟨⟨v, rfl⟩, k1, _, _⟩
  clear j1 s1
  have s1 := k1.sc (i := 1) (v := .slice ca s.Chans.length ccap) (by rw [← hcs]; rfl)
  have s2 := k1.sc (i := 2) (v := .slice pa s.Procs.length pcap) (by rw [← hcs]; rfl)
  go_wp2_with fail
  have hcl := (((pre_n s).ok hs).1 _ (List.mem_singleton.mpr rfl)).2
  have hpl := (((pre_m s).ok hs).1 _ (List.mem_singleton.mpr rfl)).2
  generalize hA : s.Globals ++ [(s.Chans.length : Int)] = A at k1
  go_loopw [25] (fun i wr => ∃ k : Nat, k ≤ s.Chans.length ∧ i = .int .i64 k ∧ TxI w cs (Txt (A ++ (s.Chans.take k).flatMap chanL)) wr) (fun i _ => s.Chans.length - (intOf i).toNat)
  case atStart => exact ⟨0, Nat.zero_le _, rfl, by simpa using k1⟩
  case round =>
    clear k1 s1 s2
    obtain ⟨k, hk, rfl, h1⟩ := hrel
    by_cases hlt : k < s.Chans.length
    · obtain ⟨bb, off, rfl, hbb, hcell⟩ := hHC.out (by omega)
      obtain ⟨u, c1, c2, hq⟩ := hcell k hlt
      rw [← h1.bw.cell hbb] at c1 c2
      clear hcell
      have hpc := pre_c (s := s) hlt
      rw [hA] at hpc
      have hsuc := chans_succ hlt
      generalize s.Chans.getD k default = c at c1 c2 hq hpc hsuc
      obtain ⟨qa, qcap, rfl, hqc⟩ := hq
      have hHQ := Lib.hid hqc
      clear hqc
      go_wp2_with fail
      have h1b := (h1.same (below_al wr (Obj.cells #[.int .i64 c.Shape, .slice qa c.Queue.length qcap] chT))).same (below_al _ (Obj.cells #[.int .i64 c.Shape, .int .i64 c.Queue.length] 2))
      have hz1 := h1.sz
      have hcb := box_stays wr (Obj.cells #[.int .i64 c.Shape, .slice qa c.Queue.length qcap] chT) (Obj.cells #[.int .i64 c.Shape, .int .i64 c.Queue.length] 2)
      refine (put_n (l := [c.Shape, (c.Queue.length : Int)]) hs hL hlB h1b (heap_alloc_new' _ _ _) (by omega) rfl (Pre.headQ hpc)).mono ?_
      rintro e W3 ⟨⟨v3, rfl⟩, k3, hb3, ho3⟩
      have hcb3 := ho3 _ _ hcb (by simp; omega) (by intro c fz hc; simp only [Obj.cells.injEq] at hc; exact absurd hc.2.1 (by decide))
      have s3 := cell_blk (i := 1) hcb3 rfl
      clear hcb hcb3 ho3 hb3 h1b
      go_wp2_with fail
      clear s3
      have hsp := k3.sz
      have hql := (((Pre.headQ hpc).ok hs).1 _ (by simp : (c.Queue.length : Int) ∈ _)).2
      generalize hB : A ++ (s.Chans.take k).flatMap chanL = B at k3 hpc hsuc h1
      go_loopw [40] (fun i wr' => ∃ j : Nat, j ≤ c.Queue.length ∧ i = .int .i64 j ∧ TxI w cs (Txt (B ++ [c.Shape, (c.Queue.length : Int)] ++ (c.Queue.take j).flatten)) wr') (fun i _ => c.Queue.length - (intOf i).toNat)
      case atStart => exact ⟨0, Nat.zero_le _, rfl, by simpa using k3⟩
      case round =>
        clear k3
        obtain ⟨j, hj, rfl, h2⟩ := hrel
        by_cases hlj : j < c.Queue.length
        · obtain ⟨b2, off2, rfl, hb2, hcell⟩ := hHQ.out (by omega)
          obtain ⟨u, c3, hu⟩ := hcell j hlj
          rw [← h2.bw.cell hb2] at c3
          clear hcell
          go_wp2_with fail
          refine (put_o (l := c.Queue.getD j []) hs hL hlB h2 hu (pre_q hpc hlj)).mono ?_
          rintro e W4 ⟨⟨v4, rfl⟩, k4, _, _⟩
          go_wp2
          go_roundw
          case rel => exact ⟨j + 1, by omega, by go_num, by rw [take_push (d := []) hlj, List.flatten_append, ← List.append_assoc]; simpa using k4⟩
          case measure => simp [intOf]; omega
        · obtain rfl : j = c.Queue.length := by omega
          rw [List.take_length] at h2
          go_wp2
          go_roundw
          case rel => exact ⟨k + 1, by omega, by go_num, by rw [hsuc, ← List.append_assoc, hB]; simpa [chanL] using h2⟩
          case measure => simp [intOf]; omega
    · obtain rfl : k = s.Chans.length := by omega
      rw [List.take_length] at h1
      have s2 := h1.sc (i := 2) (v := .slice pa s.Procs.length pcap) (by rw [← hcs]; rfl)
      clear hHC
      go_wp2_with fail
      have hz1 := h1.sz
      refine (put_n (l := [(s.Procs.length : Int)]) hs hL hlB (h1.same (below_al _ _)) (heap_alloc_new _ _) (by omega) rfl (by rw [← hA]; exact pre_m s)).mono ?_
      rintro e W3 ⟨⟨v3, rfl⟩, k3, _, _⟩
      have s2 := k3.sc (i := 2) (v := .slice pa s.Procs.length pcap) (by rw [← hcs]; rfl)
      go_wp2_with fail
      clear hz1 s2
      have k3' : TxI w cs (Txt (A ++ s.Chans.flatMap chanL ++ [(s.Procs.length : Int)] ++ (s.Procs.take 0).flatMap procL)) W3 := by simpa using k3
      clear k3 h1
      go_loopw [58] (fun i wr => ∃ k : Nat, k ≤ s.Procs.length ∧ i = .int .i64 k ∧ TxI w cs (Txt (A ++ s.Chans.flatMap chanL ++ [(s.Procs.length : Int)] ++ (s.Procs.take k).flatMap procL)) wr) (fun i _ => s.Procs.length - (intOf i).toNat)
      case atStart => exact ⟨0, Nat.zero_le _, rfl, k3'⟩
      case round =>
        clear k3'
        obtain ⟨k, hk, rfl, h1⟩ := hrel
        have hz1 := h1.sz
        by_cases hlt : k < s.Procs.length
        · obtain ⟨bb, off, rfl, hbb, hcell⟩ := hHP.out (by omega)
          obtain ⟨u, c1, c2, c3, c4, hq⟩ := hcell k hlt
          rw [← h1.bw.cell hbb] at c1 c2 c3 c4
          clear hcell hHP
          have hpp := pre_p (s := s) hlt
          rw [hA] at hpp
          have hsuc := procs_succ hlt
          generalize s.Procs.getD k default = c at c1 c2 c3 c4 hq hpp hsuc
          have hq' := hq
          obtain ⟨fa, fcap, rfl, _⟩ := hq'
          go_wp2_with fail
          have h1b := (h1.same (below_al wr (Obj.cells #[.int .i64 c.Type_, .int .i64 c.Loc, .int .i64 c.Prio, .slice fa c.Frame.length fcap] prT))).same (below_al _ (Obj.cells #[.int .i64 c.Type_, .int .i64 c.Loc] 2))
          have hcb := box_stays wr (Obj.cells #[.int .i64 c.Type_, .int .i64 c.Loc, .int .i64 c.Prio, .slice fa c.Frame.length fcap] prT) (Obj.cells #[.int .i64 c.Type_, .int .i64 c.Loc] 2)
          refine (put_n (l := [c.Type_, c.Loc]) hs hL hlB h1b (heap_alloc_new' _ _ _) (by omega) rfl hpp.left).mono ?_
          rintro e W4 ⟨⟨v4, rfl⟩, k4, hb4, ho4⟩
          have hcb4 := ho4 _ _ hcb (by simp; omega) (by intro c fz hc; simp only [Obj.cells.injEq] at hc; exact absurd hc.2.1 (by decide))
          have s4 := cell_blk (i := 3) hcb4 rfl
          clear hcb hcb4 ho4 hb4 h1b
          go_wp2_with fail
          refine (put_o (l := c.Frame) hs hL hlB k4 hq hpp).mono ?_
          rintro e W5 ⟨⟨v5, rfl⟩, k5, _, _⟩
          go_wp2
          go_roundw
          case rel => exact ⟨k + 1, by omega, by go_num, by rw [hsuc]; simpa [procL] using k5⟩
          case measure => simp [intOf]; omega
        · obtain rfl : k = s.Procs.length := by omega
          rw [List.take_length] at h1
          have s3 := h1.sc (i := 3) (v := .int .i64 s.Last) (by rw [← hcs]; rfl)
          have s4 := h1.sc (i := 4) (v := .int .i64 s.Alone) (by rw [← hcs]; rfl)
          have s5 := h1.sc (i := 5) (v := .int .i64 s.Claim) (by rw [← hcs]; rfl)
          clear hHP
          go_wp2_with fail
          refine (put_n (l := [s.Last, s.Alone, s.Claim]) hs hL hlB (h1.same (below_al _ _)) (heap_alloc_new _ _) (by omega) rfl ⟨[], by rw [List.append_nil, ← hA]; exact pre_e s⟩).mono ?_
          rintro e W6 ⟨⟨v6, rfl⟩, k6, _, _⟩
          rw [← hA, pre_e s] at k6
          have hz6 := k6.sz
          go_wp2_with fail
          refine (string_calls k6.bd (by omega)).mono ?_
          rintro e W7 ⟨rfl, hb7⟩
          go_wp2_with fail
          go_ret
          exact ⟨rfl, below_write k6.bw hb7⟩
end Go.Proofs.YtdjjlkekbphbaaaDoor
