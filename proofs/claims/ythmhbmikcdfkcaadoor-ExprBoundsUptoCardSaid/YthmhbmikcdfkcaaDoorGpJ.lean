/-
  Texts, joined: EbW, EbX, EbV.
-/
import Derived.Test.YthmhbmikcdfkcaaDoorGpI
import Derived.Test.YthmhbmikcdfkcaaDoorGpH
/-
  The walk of expr.Store.
-/
namespace Go.Proofs.YthmhbmikcdfkcaaDoor
open Go.RowKit
/-- Nothing is guarded. -/
abbrev P0 : Prot := ⟨fun _ => False, fun _ => False⟩
theorem V.keep {w w' : World} {x : VV} {v : Value} (h : V w P0 none x v) (hb : Below w.heap.size w w') : V w' P0 none x v :=
  h.mono hb.size (fun k hk _ => ⟨hb.block k hk, fun h => h⟩) (fun k hk _ => ⟨hb.block k hk, fun h => h⟩) trivial
theorem V.bare {w : World} {E : Prot} {x : VV} {v : Value} (h : V w E none x v) : V w P0 none x v := h.less (fun _ h => h.elim) fun _ h => h.elim
theorem VSpec.at {P : Program} {f : FuncId} {xs : List VV} {r : VV} (h : VSpec P f [] xs [] r) {w0 w : World} {vs : Array Value} (hL : LibAt w0) (hB : ∀ k, k ∈ libB → k < w0.heap.size) (hb : Below w0.heap.size w0 w) (hs : Says w P0 none xs vs) :
    Calls P f vs w fun e w' => ∃ v, e = .returned v ∧ Below w.heap.size w w' ∧ V w' P0 none r v :=
  h.start (hL.congr fun k hk => hb.block k (hB k hk)) (fun k hk => Nat.lt_of_lt_of_le (hB k hk) hb.size) hs
theorem says2 {w : World} {E : Prot} {x y : VV} {u v : Value} (h1 : V w E none x u) (h2 : V w E none y v) : Says w E none [x, y] #[u, v] := by
  refine ⟨rfl, fun j z hz => ?_⟩
  match j, hz with
  | 0, hz => simp only [List.getElem?_cons_zero, Option.some.injEq] at hz; subst hz; exact h1
  | 1, hz => simp only [List.getElem?_cons_succ, List.getElem?_cons_zero, Option.some.injEq] at hz; subst hz; exact h2
  | j + 2, hz => simp at hz
theorem tup3_inv {w : World} {E : Prot} {m : Option Phi} {a b c : Int} {v : Value} (h : V w E m (vIII (a, b, c)) v) : v = .tuple #[.int .i64 a, .int .i64 b, .int .i64 c] := by
  cases h with
  | @tup _ _ _ vs h1 h2 =>
    obtain ⟨l⟩ := vs
    match l, h1, h2 with
    | [u0, u1, u2], _, h2 =>
      have e0 : u0 = .int .i64 a := (h2 0 _ rfl).sc_inv
      have e1 : u1 = .int .i64 b := (h2 1 _ rfl).sc_inv
      have e2 : u2 = .int .i64 c := (h2 2 _ rfl).sc_inv
      rw [e0, e1, e2]
theorem list16 {l : List Value} (h : l.length = 16) : ∃ a0 a1 a2 a3 a4 a5 a6 a7 a8 a9 a10 a11 a12 a13 a14 a15, l = [a0, a1, a2, a3, a4, a5, a6, a7, a8, a9, a10, a11, a12, a13, a14, a15] := by
  match l, h with
  | [a0, a1, a2, a3, a4, a5, a6, a7, a8, a9, a10, a11, a12, a13, a14, a15], _ => exact ⟨_, _, _, _, _, _, _, _, _, _, _, _, _, _, _, _, rfl⟩
def AtT (w : World) (ts : List D.Type) (v : Value) : Prop :=
  AtL w ts.length (fun b off i => w.cell? ⟨b, off + i * 2, none⟩ = some (.int .i64 (ts.getD i default).Bits) ∧ w.cell? ⟨b, off + i * 2 + 1, none⟩ = some (.bool (ts.getD i default).Signed)) v
def AtF (w : World) (ps : List D.Proc) (v : Value) : Prop :=
  AtL w ps.length (fun b off i => ∃ u, w.cell? ⟨b, off + i * 10 + 2, none⟩ = some u ∧ AtT w (ps.getD i default).Frame u) v
section
variable {w w' : World} {E : Prot} {m : Option Phi} {v : Value} {fz : Bool}
theorem at_t {ts : List D.Type} (h : V w E m (encL_Type fz ts) v) : AtT w ts v := by
  obtain ⟨ao, cap, rfl, h1, h2, h3⟩ := V.sl_inv h
  refine ⟨ao, cap, rfl, h1, h2, fun hp => ?_⟩
  obtain ⟨b, off, rfl, hb, _, _, u, hc, hv⟩ := h3 hp
  refine ⟨b, off, rfl, hb, fun i hi => ⟨?_, ?_⟩⟩
  · have c1 := hc i 0 _ hi rfl
    have c2 := (hv i 0 _ hi rfl).sc_inv
    rw [c2] at c1
    simpa using c1
  · have c1 := hc i 1 _ hi rfl
    have c2 := (hv i 1 _ hi rfl).sc_inv
    rw [c2] at c1
    simpa using c1
theorem at_f {ps : List D.Proc} (h : V w E m (encL_Proc fz ps) v) : AtF w ps v := by
  obtain ⟨ao, cap, rfl, h1, h2, h3⟩ := V.sl_inv h
  refine ⟨ao, cap, rfl, h1, h2, fun hp => ?_⟩
  obtain ⟨b, off, rfl, hb, _, _, u, hc, hv⟩ := h3 hp
  exact ⟨b, off, rfl, hb, fun i hi => ⟨u i 2, hc i 2 _ hi rfl, at_t (hv i 2 _ hi rfl)⟩⟩
theorem AtT.below {ts : List D.Type} (h : AtT w ts v) (hb : Below w.heap.size w w') : AtT w' ts v :=
  AtL.map h hb.size fun b off i hl _ hc => ⟨by rw [hb.cell (p := ⟨b, off + i * 2, none⟩) hl]; exact hc.1, by rw [hb.cell (p := ⟨b, off + i * 2 + 1, none⟩) hl]; exact hc.2⟩
theorem AtF.below {ps : List D.Proc} (h : AtF w ps v) (hb : Below w.heap.size w w') : AtF w' ps v :=
  AtL.map h hb.size fun b off i hl _ ⟨u, h1, h2⟩ => ⟨u, by rw [hb.cell (p := ⟨b, off + i * 10 + 2, none⟩) hl]; exact h1, h2.below hb⟩
theorem AtQ.below {q : List (List Int)} (h : AtQ w q v) (hb : Below w.heap.size w w') : AtQ w' q v :=
  AtL.map h hb.size fun b off i hl _ ⟨u, h1, h2⟩ => ⟨u, by rw [hb.cell (p := ⟨b, off + i, none⟩) hl]; exact h1, h2.below hb⟩
theorem AtC.below {cs : List D.Chan} (h : AtC w cs v) (hb : Below w.heap.size w w') : AtC w' cs v :=
  AtL.map h hb.size fun b off i hl _ ⟨u, h0, h1, h2⟩ => ⟨u, by rw [hb.cell (p := ⟨b, off + i * 2, none⟩) hl]; exact h0, by rw [hb.cell (p := ⟨b, off + i * 2 + 1, none⟩) hl]; exact h1, h2.below hb⟩
theorem AtP.below {ps : List D.Process} (h : AtP w ps v) (hb : Below w.heap.size w w') : AtP w' ps v :=
  AtL.map h hb.size fun b off i hl _ ⟨u, h0, h1, h2, h3, h4⟩ => ⟨u, by rw [hb.cell (p := ⟨b, off + i * 4, none⟩) hl]; exact h0, by rw [hb.cell (p := ⟨b, off + i * 4 + 1, none⟩) hl]; exact h1,
    by rw [hb.cell (p := ⟨b, off + i * 4 + 2, none⟩) hl]; exact h2, by rw [hb.cell (p := ⟨b, off + i * 4 + 3, none⟩) hl]; exact h3, h4.below hb⟩
end
/-- What is known of the environment's parts. -/
structure EnvAt (w : World) (e : D.Env) (c0 c1 c2 c3 c4 c6 c7 c8 c9 c15 : Value) : Prop where
  t : AtT w e.M.Globals c0
  f : AtF w e.M.Procs c4
  g : AtI w e.S.Globals c7
  c : AtC w e.S.Chans c8
  p : AtP w e.S.Procs c9
abbrev envA (e : D.Env) (c0 c1 c2 c3 c4 c6 c7 c8 c9 c15 : Value) : Array Value :=
  #[c0, c1, c2, c3, c4, .int .i64 e.M.Claim, c6, c7, c8, c9, .int .i64 e.S.Last, .int .i64 e.S.Alone, .int .i64 e.S.Claim, .int .i64 e.Pid, .bool e.Timeout, c15]
theorem env_inv {w : World} {E : Prot} {m : Option Phi} {e : D.Env} {v : Value} (h : V w E m (.agg (enc_Env e)) v) :
    ∃ c0 c1 c2 c3 c4 c6 c7 c8 c9 c15, v = .agg (envA e c0 c1 c2 c3 c4 c6 c7 c8 c9 c15) ∧ EnvAt w e c0 c1 c2 c3 c4 c6 c7 c8 c9 c15 := by
  obtain ⟨vs, rfl, h1, h2⟩ := h.agg_inv
  obtain ⟨l⟩ := vs
  obtain ⟨a0, a1, a2, a3, a4, a5, a6, a7, a8, a9, a10, a11, a12, a13, a14, a15, rfl⟩ := list16 (l := l) h1
  have e5 : a5 = .int .i64 e.M.Claim := (h2 5 _ rfl).sc_inv
  have e10 : a10 = .int .i64 e.S.Last := (h2 10 _ rfl).sc_inv
  have e11 : a11 = .int .i64 e.S.Alone := (h2 11 _ rfl).sc_inv
  have e12 : a12 = .int .i64 e.S.Claim := (h2 12 _ rfl).sc_inv
  have e13 : a13 = .int .i64 e.Pid := (h2 13 _ rfl).sc_inv
  have e14 : a14 = .bool e.Timeout := (h2 14 _ rfl).sc_inv
  subst e5 e10 e11 e12 e13 e14
  exact ⟨_, _, _, _, _, _, _, _, _, _, rfl, at_t (h2 0 _ rfl), at_f (h2 4 _ rfl), at_i (h2 7 _ rfl), at_c (h2 8 _ rfl), at_p (h2 9 _ rfl)⟩
end Go.Proofs.YthmhbmikcdfkcaaDoor
/-
  The walk of expr.Store, II.
-/
namespace Go.Proofs.YthmhbmikcdfkcaaDoor
open Go.RowKit
theorem env_tp {w : World} {b : Nat} {vs : Array Value} {t : TypeId} {cs : List VV} (hb : w.heap[b]? = some (.cells vs t (0, 0))) (h : V w P0 none (.agg cs) (.agg vs)) : V w P0 none (.tp cs) (.pointer (some ⟨b, 0, none⟩)) := by
  obtain ⟨vs', e, h1, h2⟩ := h.agg_inv
  obtain rfl : vs = vs' := by simpa using e
  refine .tp (fun j => vs.getD j undef) (blk_lt hb) (fun h => h) (fun j x hx => ?_) fun j x hx => h2 j x hx
  have hj : j < vs.size := by rw [h1]; exact (List.getElem?_eq_some_iff.1 hx).1
  rw [Nat.zero_add]
  exact cell_of_blk hb (by simp [Array.getD, hj])
theorem zero_v {w : World} {E : Prot} {m : Option Phi} : V w E m (.agg (enc_State default)) (.agg #[.slice none 0 0, .slice none 0 0, .slice none 0 0, .int .i64 0, .int .i64 0, .int .i64 0]) := by
  refine .agg rfl fun j x hx => ?_
  match j, hx with
  | 0, hx => simp only [enc_State, List.getElem?_cons_zero, Option.some.injEq] at hx; subst hx; exact .nil (by decide)
  | 1, hx => simp only [enc_State, List.getElem?_cons_succ, List.getElem?_cons_zero, Option.some.injEq] at hx; subst hx; exact .nil (by decide)
  | 2, hx => simp only [enc_State, List.getElem?_cons_succ, List.getElem?_cons_zero, Option.some.injEq] at hx; subst hx; exact .nil (by decide)
  | 3, hx => simp only [enc_State, List.getElem?_cons_succ, List.getElem?_cons_zero, Option.some.injEq] at hx; subst hx; exact .sc
  | 4, hx => simp only [enc_State, List.getElem?_cons_succ, List.getElem?_cons_zero, Option.some.injEq] at hx; subst hx; exact .sc
  | 5, hx => simp only [enc_State, List.getElem?_cons_succ, List.getElem?_cons_zero, Option.some.injEq] at hx; subst hx; exact .sc
  | j + 6, hx => simp [enc_State] at hx
theorem state_v {w : World} {E : Prot} {m : Option Phi} {s : D.State} {g c p : Value} (h0 : V w E m (encL_Int true s.Globals) g) (h1 : V w E m (encL_Chan true s.Chans) c) (h2 : V w E m (encL_Process true s.Procs) p) :
    V w E m (.agg (enc_State s)) (.agg #[g, c, p, .int .i64 s.Last, .int .i64 s.Alone, .int .i64 s.Claim]) := by
  refine .agg rfl fun j x hx => ?_
  match j, hx with
  | 0, hx => simp only [enc_State, List.getElem?_cons_zero, Option.some.injEq] at hx; subst hx; exact h0
  | 1, hx => simp only [enc_State, List.getElem?_cons_succ, List.getElem?_cons_zero, Option.some.injEq] at hx; subst hx; exact h1
  | 2, hx => simp only [enc_State, List.getElem?_cons_succ, List.getElem?_cons_zero, Option.some.injEq] at hx; subst hx; exact h2
  | 3, hx => simp only [enc_State, List.getElem?_cons_succ, List.getElem?_cons_zero, Option.some.injEq] at hx; subst hx; exact .sc
  | 4, hx => simp only [enc_State, List.getElem?_cons_succ, List.getElem?_cons_zero, Option.some.injEq] at hx; subst hx; exact .sc
  | 5, hx => simp only [enc_State, List.getElem?_cons_succ, List.getElem?_cons_zero, Option.some.injEq] at hx; subst hx; exact .sc
  | j + 6, hx => simp [enc_State] at hx
theorem six_at {w : World} {b : Nat} {u0 u1 u2 u3 u4 u5 : Value} {t : TypeId} (h : w.heap[b]? = some (.cells #[u0, u1, u2, u3, u4, u5] t (0, 0))) :
    w.cell? ⟨b, 0, none⟩ = some u0 ∧ w.cell? ⟨b, 1, none⟩ = some u1 ∧ w.cell? ⟨b, 2, none⟩ = some u2 ∧ w.cell? ⟨b, 3, none⟩ = some u3 ∧ w.cell? ⟨b, 4, none⟩ = some u4 ∧ w.cell? ⟨b, 5, none⟩ = some u5 ∧
    w.frozen? ⟨b, 0, none⟩ = false ∧ w.frozen? ⟨b, 1, none⟩ = false ∧ w.frozen? ⟨b, 2, none⟩ = false ∧ w.frozen? ⟨b, 3, none⟩ = false ∧ w.frozen? ⟨b, 4, none⟩ = false ∧ w.frozen? ⟨b, 5, none⟩ = false :=
  ⟨cell_of_blk h rfl, cell_of_blk h rfl, cell_of_blk h rfl, cell_of_blk h rfl, cell_of_blk h rfl, cell_of_blk h rfl, free_of_blk h, free_of_blk h, free_of_blk h, free_of_blk h, free_of_blk h, free_of_blk h⟩
theorem two_blocks (w : World) (A Z : Obj) : ((w.alloc A).alloc Z).heap[w.heap.size]? = some A ∧ ((w.alloc A).alloc Z).heap[w.heap.size + 1]? = some Z ∧ ((w.alloc A).alloc Z).heap.size = w.heap.size + 1 + 1 ∧ Below w.heap.size w ((w.alloc A).alloc Z) := by
  refine ⟨?_, ?_, by simp, ((Below.refl _ w).alloc (Nat.le_refl _) _).alloc (by simp) _⟩
  · rw [Below.heap_alloc _ _ _ (by simp)]; exact heap_alloc_new w A
  · have := heap_alloc_new (w.alloc A) Z; simpa using this
/-- What Store answers. -/
def StoreQ (w : World) (e : D.Env) (x v : Int) (r : Ending) (w' : World) : Prop :=
  ∃ vs, r = .returned (.tuple #[.agg vs, .int .i64 (storeP e x v).2]) ∧ (∀ E : Prot, (∀ k, E.fz k → k < w.heap.size) → V w' E none (.agg (enc_State (storeP e x v).1)) (.agg vs)) ∧ Below w.heap.size w w'
theorem slotv_at {e : D.Env} {x : Int} (hw : wf_Model e.M) (h : exCheck e x = 0) : VSpec Tryd.prog 26 [] [.tp (enc_Env e), intV x] [] (vIII (slotV e (subP e) (exAt e.M x))) := by
  obtain ⟨hE, hx⟩ := env_ok hw h
  exact slot_at hE hx (ex_at hE hx.1 hx.2) fun a h0 h1 => subP_spec hE hx.2 h0 h1
abbrev envT : TypeId := 39
set_option maxRecDepth 100000 in
set_option maxHeartbeats 4000000 in
theorem store_bad {w : World} {e : D.Env} {x v : Int} {c0 c1 c2 c3 c4 c6 c7 c8 c9 c15 : Value} (hw : wf_Model e.M) (hs : SmallS' e.S) (hL : LibAt w) (hB : ∀ k, k ∈ libB → k < w.heap.size)
    (hV : V w P0 none (.agg (enc_Env e)) (.agg (envA e c0 c1 c2 c3 c4 c6 c7 c8 c9 c15))) (hbad : exCheck e x ≠ 0) :
    Calls Tryd.prog 10 #[.agg (envA e c0 c1 c2 c3 c4 c6 c7 c8 c9 c15), .int .i64 x, .int .i64 v] w (StoreQ w e x v) := by
  have HQ : Hid (storeP e x v = (default, exCheck e x)) := by unfold Hid storeP; rw [decide_eq_true hbad, cond_true]
  have HC := Lib.hid (excheck_spec hw hs x)
  have hne : (exCheck e x == 0) = false := by simpa using hbad
  clear hbad
  unfold envA at hV ⊢
  go_enter Tryd.func10, Tryd.ntmps10
  obtain ⟨B0, B1, B2, BB⟩ := two_blocks w (.cells #[c0, c1, c2, c3, c4, .int .i64 e.M.Claim, c6, c7, c8, c9, .int .i64 e.S.Last, .int .i64 e.S.Alone, .int .i64 e.S.Claim, .int .i64 e.Pid, .bool e.Timeout, c15] envT (0, 0)) (.cells #[.slice none 0 0, .slice none 0 0, .slice none 0 0, .int .i64 0, .int .i64 0, .int .i64 0] stateT (0, 0))
  go_wp2_with (go_at_call 24; refine (HC.out.at hL hB BB (says2 (hV.keep BB) .sc)).mono ?_; rintro r w1 ⟨u, rfl, hb1, hu⟩; obtain rfl := hu.sc_inv; have Z1 := (hb1.block _ (by omega)).trans B1; obtain ⟨d0, d1, d2, d3, d4, d5, g0, g1, g2, g3, g4, g5⟩ := six_at Z1)
  have hres := blk_six Z1 (.slice none 0 0) (.slice none 0 0) (.slice none 0 0) (.int .i64 0) (.int .i64 0) (.int .i64 0)
  have hT := touch_six (w := w1) (b := w.heap.size + 1) (.slice none 0 0) (.slice none 0 0) (.slice none 0 0) (.int .i64 0) (.int .i64 0) (.int .i64 0)
  refine ret_cell2 rfl rfl hres Tryd.underlying36 rfl (by kernel_rfl) rfl ?_
  generalize (((((((w1.setCell ⟨w.heap.size + 1, 0, none⟩ (.slice none 0 0)).setCell ⟨w.heap.size + 1, 1, none⟩ (.slice none 0 0)).setCell ⟨w.heap.size + 1, 2, none⟩ (.slice none 0 0)).setCell ⟨w.heap.size + 1, 3, none⟩ (.int .i64 0)).setCell ⟨w.heap.size + 1, 4, none⟩ (.int .i64 0)).setCell ⟨w.heap.size + 1, 5, none⟩ (.int .i64 0))) = wz at *
  have hBz : Below w.heap.size w w1 := BB.trans (hb1.mono (by omega))
  refine ⟨_, by rw [HQ.out]; rfl, fun E hE => by rw [HQ.out]; exact zero_v, hBz.trans (hT.below hBz.size fun j hj => by have hj : j = w.heap.size + 1 := hj; omega)⟩
set_option maxRecDepth 100000 in
set_option maxHeartbeats 4000000 in
theorem store_none {w : World} {e : D.Env} {x v : Int} {c0 c1 c2 c3 c4 c6 c7 c8 c9 c15 : Value} (hw : wf_Model e.M) (hs : SmallS' e.S) (hL : LibAt w) (hB : ∀ k, k ∈ libB → k < w.heap.size)
    (hV : V w P0 none (.agg (enc_Env e)) (.agg (envA e c0 c1 c2 c3 c4 c6 c7 c8 c9 c15))) (hgood : exCheck e x = 0) (hbad : (slotV e (subP e) (exAt e.M x)).2.2 ≠ 0) :
    Calls Tryd.prog 10 #[.agg (envA e c0 c1 c2 c3 c4 c6 c7 c8 c9 c15), .int .i64 x, .int .i64 v] w (StoreQ w e x v) := by
  have HQ : Hid (storeP e x v = (default, (slotV e (subP e) (exAt e.M x)).2.2)) := by unfold Hid storeP; rw [decide_eq_false (by omega), cond_false, decide_eq_true hbad, cond_true]
  have HC := Lib.hid (excheck_spec hw hs x)
  have HS := Lib.hid (slotv_at hw hgood)
  generalize slotV e (subP e) (exAt e.M x) = sv at HQ HS hbad
  obtain ⟨who, k, err⟩ := sv
  have hne : (err == 0) = false := by simpa using hbad
  change Hid (storeP e x v = (default, err)) at HQ
  clear hbad
  unfold envA at hV ⊢
  rw [hgood] at HC
  go_enter Tryd.func10, Tryd.ntmps10
  obtain ⟨B0, B1, B2, BB⟩ := two_blocks w (.cells #[c0, c1, c2, c3, c4, .int .i64 e.M.Claim, c6, c7, c8, c9, .int .i64 e.S.Last, .int .i64 e.S.Alone, .int .i64 e.S.Claim, .int .i64 e.Pid, .bool e.Timeout, c15] envT (0, 0)) (.cells #[.slice none 0 0, .slice none 0 0, .slice none 0 0, .int .i64 0, .int .i64 0, .int .i64 0] stateT (0, 0))
  go_wp2_with (first
    | (go_at_call 24; refine (HC.out.at hL hB BB (says2 (hV.keep BB) .sc)).mono ?_; rintro r w1 ⟨u, rfl, hb1, hu⟩; obtain rfl := hu.sc_inv; have Z0 := (hb1.block _ (by omega)).trans B0; have Z1 := (hb1.block _ (by omega)).trans B1; have BW := BB.trans (hb1.mono (by omega)))
    | (go_at_call 26; refine (HS.out.at hL hB BW (says2 (env_tp Z0 (hV.keep BW)) .sc)).mono ?_; rintro r w2 ⟨u, rfl, hb2, hu⟩; obtain rfl := tup3_inv hu; have Y1 := (hb2.block _ (blk_lt Z1)).trans Z1; obtain ⟨d0, d1, d2, d3, d4, d5, g0, g1, g2, g3, g4, g5⟩ := six_at Y1))
  have hres := blk_six Y1 (.slice none 0 0) (.slice none 0 0) (.slice none 0 0) (.int .i64 0) (.int .i64 0) (.int .i64 0)
  have hT := touch_six (w := w2) (b := w.heap.size + 1) (.slice none 0 0) (.slice none 0 0) (.slice none 0 0) (.int .i64 0) (.int .i64 0) (.int .i64 0)
  refine ret_cell2 rfl rfl hres Tryd.underlying36 rfl (by kernel_rfl) rfl ?_
  generalize (((((((w2.setCell ⟨w.heap.size + 1, 0, none⟩ (.slice none 0 0)).setCell ⟨w.heap.size + 1, 1, none⟩ (.slice none 0 0)).setCell ⟨w.heap.size + 1, 2, none⟩ (.slice none 0 0)).setCell ⟨w.heap.size + 1, 3, none⟩ (.int .i64 0)).setCell ⟨w.heap.size + 1, 4, none⟩ (.int .i64 0)).setCell ⟨w.heap.size + 1, 5, none⟩ (.int .i64 0))) = wz at *
  have hBz : Below w.heap.size w w2 := BW.trans (hb2.mono BW.size)
  refine ⟨_, by rw [HQ.out]; rfl, fun E hE => by rw [HQ.out]; exact zero_v, hBz.trans (hT.below hBz.size fun j hj => by have hj : j = w.heap.size + 1 := hj; omega)⟩
end Go.Proofs.YthmhbmikcdfkcaaDoor
/-
  A copy of a state, of which one number was written anew: what it says.
-/
namespace Go.Proofs.YthmhbmikcdfkcaaDoor
open Go.RowKit
theorem V.aside {w w' : World} {b B : Nat} {x : VV} {v : Value} (h : ∀ E : Prot, (∀ k, E.fz k → k < B) → V w E none x v) (hb : b < B) (hT : Touch w w' (fun k => k = b)) : ∀ E : Prot, (∀ k, E.fz k → k < B) → V w' E none x v := fun E hE => by
  refine (h ⟨fun k => E.fz k ∨ k = b, fun k => E.br k ∨ k = b⟩ (fun k hk => hk.elim (hE k) fun e => e ▸ hb)).mono hT.size ?_ ?_ trivial
  · exact fun k hk hn => ⟨hT.block k hk fun e => hn (.inr e), fun h => hn (.inl h)⟩
  · exact fun k hk hn => ⟨hT.block k hk fun e => hn (.inr e), fun h => hn (.inl h)⟩
section
variable {w w4 w' w5 : World} {s : D.State} {vg vc vp : Value} {n1 g gcap kn : Nat} {qs fs : List Value}
theorem CopyP.kept5 (h : CopyP w w4 w' s vg vc vp n1 qs fs) (hk : ∀ k, w.heap.size ≤ k → k < w'.heap.size → w5.heap[k]? = w'.heap[k]?) (ts : List TypeId) : Kept w4 w5 n1 ts := fun k cur t h0 h1 hc _ => by
  have e := h.kept k h0 h1
  exact (hk k (Nat.le_trans h.n0 h0) (blk_lt (e.trans hc))).trans e
theorem copy_setg (h : CopyP w w4 w' s (.slice (some ⟨g, 0, none⟩) s.Globals.length gcap) vc vp n1 qs fs) (hk : ∀ k, w.heap.size ≤ k → k < w'.heap.size → w5.heap[k]? = w'.heap[k]?) (x : Int) (E : Prot) (hE : ∀ k, E.fz k → k < w.heap.size) :
    V (w5.setCell ⟨g, kn, none⟩ (.int .i64 x)) E none (.agg (enc_State { s with Globals := s.Globals.set kn x })) (.agg #[.slice (some ⟨g, 0, none⟩) s.Globals.length gcap, vc, vp, .int .i64 s.Last, .int .i64 s.Alone, .int .i64 s.Claim]) := by
  have hn0 := h.n0
  have hn2 := h.n2
  have hg := h.g1 g rfl
  refine state_v ?_ ?_ ?_
  · have h1 := row_set (k := kn) (row_kept (ts := [i64T]) h.g (Kept.of hk) (by simp)) x
    have h2 := v_of_row (E := E) (m := none) h1 hE
    rwa [List.length_set] at h2
  · exact v_of_c ((h.c.kept (h.kept5 hk [chanT, msgT, i64T]) (by simp) (by simp) (by simp)).kept (ts := [chanT, msgT, i64T]) (Kept.low hg) (by simp) (by simp) (by simp)) fun k hk => by have := hE k hk; omega
  · exact v_of_p ((h.p.kept (ts := [procT, i64T]) (Kept.of fun k h0 h1 => hk k (by omega) h1) (by simp) (by simp)).kept (ts := [procT, i64T]) (Kept.low (by omega)) (by simp) (by simp)) fun k hk => by have := hE k hk; omega
theorem copy_seto {i : Nat} (h : CopyP w w4 w' s vg vc vp n1 qs fs) (hi : i < s.Procs.length) (hf : fs[i]? = some (.slice (some ⟨g, 0, none⟩) (s.Procs.getD i default).Frame.length gcap)) (hk : ∀ k, w.heap.size ≤ k → k < w'.heap.size → w5.heap[k]? = w'.heap[k]?) (x : Int) (E : Prot) (hE : ∀ k, E.fz k → k < w.heap.size) :
    V (w5.setCell ⟨g, kn, none⟩ (.int .i64 x)) E none (.agg (enc_State { s with Procs := s.Procs.set i { s.Procs.getD i default with Frame := (s.Procs.getD i default).Frame.set kn x } })) (.agg #[vg, vc, vp, .int .i64 s.Last, .int .i64 s.Alone, .int .i64 s.Claim]) := by
  have hn0 := h.n0
  have hn2 := h.n2
  have hP : OwnP w5 w4.heap.size vp fs s.Procs := h.p.kept (ts := [procT, i64T]) (Kept.of fun k h0 h1 => hk k (by omega) h1) (by simp) (by simp)
  have hg := ((h.p.each i _ (s.Procs.getD i default) hf (by simp [List.getD, hi])).lt g rfl).1
  refine state_v ?_ ?_ ?_
  · refine v_of_row (E := E) (m := none) (ownsRow_same (row_kept (ts := [i64T]) h.g (Kept.of hk) (by simp)) fun k e => Below.heap_setCell _ _ _ _ ?_) hE
    have := h.g1 k e
    simp; omega
  · exact v_of_c (h.c.kept (ts := [chanT, msgT, i64T]) (fun k cur t h0 h1 hc ht => (Below.heap_setCell _ _ _ _ (by simp; omega)).trans (h.kept5 hk [chanT, msgT, i64T] k cur t h0 h1 hc ht)) (by simp) (by simp) (by simp)) fun k hk => by have := hE k hk; omega
  · exact v_of_p (OwnP.write hP hi hf x) fun k hk => by have := hE k hk; omega
end
end Go.Proofs.YthmhbmikcdfkcaaDoor
