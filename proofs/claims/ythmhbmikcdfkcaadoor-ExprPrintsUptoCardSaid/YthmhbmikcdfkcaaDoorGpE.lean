/-
  Texts, joined: CkP, CkS, CkA, CkH, CkW.
-/
import Derived.Test.YthmhbmikcdfkcaaDoorGpD
import Derived.KernelRfl
/-
  Which states may be, in plain terms; what is known of a model that may be.
-/
namespace Go.Proofs.YthmhbmikcdfkcaaDoor
open Go.RowKit
def encSt (fz : Bool) (x : D.State) : List VV := [encL_Int true x.Globals, encL_Chan fz x.Chans, encL_Process fz x.Procs, intV x.Last, intV x.Alone, intV x.Claim]
def typedP (t : List D.Type) (l : List Int) : Bool := decide (t.length = l.length) && allI l.length fun i => fitsP (t.getD i default) (l.getD i 0)
def shAt (m : D.Model) (k : Int) : D.Shape := m.Shapes.getD k.toNat default
def prAt (m : D.Model) (k : Int) : D.Proc := m.Procs.getD k.toNat default
def chanP (m : D.Model) (c : D.Chan) : Bool := inP m.Shapes.length c.Shape && decide ((c.Queue.length : Int) ≤ (shAt m c.Shape).Room) && allI c.Queue.length fun i => typedP (shAt m c.Shape).Fields (c.Queue.getD i [])
def processP (m : D.Model) (p : D.Process) : Bool := procP m p.Type_ && inP (prAt m p.Type_).Locs.length p.Loc && decide (p.Prio = (prAt m p.Type_).Prio) && typedP (prAt m p.Type_).Frame p.Frame
def headP (m : D.Model) (s : D.State) : Bool := typedP m.Globals s.Globals && decide (s.Chans.length ≤ 32) && decide (s.Procs.length ≤ 16) && decide (0 ≤ s.Last) && decide (s.Last < 16) && decide (-1 ≤ s.Alone) && decide (s.Alone < s.Procs.length)
def claimAt (m : D.Model) (s : D.State) : Bool := bif decide (m.Claim < 0) then decide (s.Claim = -1) else inP (prAt m m.Claim).Locs.length s.Claim
def stFits (m : D.Model) (s : D.State) : Bool := headP m s && (allI s.Chans.length fun i => chanP m (s.Chans.getD i default)) && (allI s.Procs.length fun i => processP m (s.Procs.getD i default)) && claimAt m s
def mayP (m : D.Model) : Bool := decide ((checkP m).1 = 0)
def stCheck (m : D.Model) (s : D.State) : Int := bif mayP m then (bif stFits m s then 0 else 41) else 40

structure Lim (m : D.Model) : Prop where
  room : ∀ k : Int, 0 ≤ k → k < m.Shapes.length → (shAt m k).Room ≤ 16
  locs : ∀ k : Int, 0 ≤ k → k < m.Procs.length → (prAt m k).Locs.length ≤ 256
  one : 1 ≤ m.Procs.length
  clp : m.Claim < m.Procs.length
/-! ### What is known of a model that may be -/
theorem ok_tables {m : D.Model} (h : mayP m = true) : tablesP m = (0, 0) ∧ framesP m = -1 ∧ procsP m = -1 := by
  unfold mayP checkP at h
  have h1 : ∀ n (f : Nat → Bool), -1 ≤ badI n f := fun n f => badI_ge
  have hf := h1 m.Procs.length fun i => !frameBad m i
  have hp := h1 m.Procs.length fun i : Nat => procAllP m i
  cases b1 : decide (0 < (tablesP m).1) with
  | true => rw [b1, cond_true] at h; simp at h
  | false =>
    rw [b1, cond_false] at h
    cases b2 : decide (0 ≤ framesP m) with
    | true => rw [b2, cond_true] at h; simp at h
    | false =>
      rw [b2, cond_false] at h
      cases b3 : decide (16 < manyP m m.Procs.length) with
      | true => rw [b3, cond_true] at h; simp at h
      | false =>
        rw [b3, cond_false] at h
        cases b4 : decide (0 ≤ procsP m) with
        | true => rw [b4, cond_true] at h; simp at h
        | false =>
          have := of_decide_eq_false b2
          have := of_decide_eq_false b4
          refine ⟨?_, by show badI _ _ = -1; unfold framesP at *; omega, by show badI _ _ = -1; unfold procsP at *; omega⟩
          have b1 := of_decide_eq_false b1
          unfold tablesP at b1 ⊢
          generalize (decide (128 < m.Globals.length) || !decide (m.Init.length = m.Globals.length)) = c1 at b1 ⊢
          generalize decide (0 ≤ typesP m.Globals m.Init) = c2 at b1 ⊢
          generalize (decide (32 < m.Shapes.length) || decide (32 < m.Chans.length)) = c3 at b1 ⊢
          generalize decide (0 ≤ shapesP m) = c4 at b1 ⊢
          generalize decide (0 ≤ chansP m) = c5 at b1 ⊢
          generalize (decide (m.Procs.length < 1) || (decide (16 < m.Procs.length) || (decide (m.Claim < -1) || (decide ((m.Procs.length : Int) ≤ m.Claim) || decide (4096 < m.Exprs.length))))) = c6 at b1 ⊢
          generalize decide (0 ≤ exprsP m) = c7 at b1 ⊢
          cases c1 <;> cases c2 <;> cases c3 <;> cases c4 <;> cases c5 <;> cases c6 <;> cases c7 <;> simp at b1 ⊢
structure TabOk (m : D.Model) : Prop where
  globals : m.Globals.length ≤ 128
  init : m.Init.length = m.Globals.length
  types : typesP m.Globals m.Init < 0
  shapes : m.Shapes.length ≤ 32
  chans : m.Chans.length ≤ 32
  shape : ∀ i, i < m.Shapes.length → shapeP (m.Shapes.getD i default) = true
  chan : ∀ i, i < m.Chans.length → inP m.Shapes.length (m.Chans.getD i 0) = true
  procs : 1 ≤ m.Procs.length ∧ m.Procs.length ≤ 16
  claim : -1 ≤ m.Claim ∧ m.Claim < m.Procs.length
  exprs : m.Exprs.length ≤ 4096
theorem tab_ok {m : D.Model} (h : tablesP m = (0, 0)) : TabOk m := by
  unfold tablesP at h
  cases c1 : (decide (128 < m.Globals.length) || !decide (m.Init.length = m.Globals.length)) with
  | true => rw [c1, cond_true] at h; simp at h
  | false =>
  cases c2 : decide (0 ≤ typesP m.Globals m.Init) with
  | true => rw [c1, c2, cond_false, cond_true] at h; simp at h
  | false =>
  cases c3 : (decide (32 < m.Shapes.length) || decide (32 < m.Chans.length)) with
  | true => rw [c1, c2, c3, cond_false, cond_false, cond_true] at h; simp at h
  | false =>
  cases c4 : decide (0 ≤ shapesP m) with
  | true => rw [c1, c2, c3, c4, cond_false, cond_false, cond_false, cond_true] at h; simp at h
  | false =>
  cases c5 : decide (0 ≤ chansP m) with
  | true => rw [c1, c2, c3, c4, c5, cond_false, cond_false, cond_false, cond_false, cond_true] at h; simp at h
  | false =>
  cases c6 : (decide (m.Procs.length < 1) || (decide (16 < m.Procs.length) || (decide (m.Claim < -1) || (decide ((m.Procs.length : Int) ≤ m.Claim) || decide (4096 < m.Exprs.length))))) with
  | true => rw [c1, c2, c3, c4, c5, c6, cond_false, cond_false, cond_false, cond_false, cond_false, cond_true] at h; simp at h
  | false =>
  simp only [Bool.or_eq_false_iff, decide_eq_false_iff_not, Bool.not_eq_false', decide_eq_true_eq] at c1 c2 c3 c4 c5 c6
  exact ⟨by omega, c1.2, by omega, by omega, by omega, badI_neg (f := fun i => shapeP (m.Shapes.getD i default)) (by unfold shapesP at c4; omega), badI_neg (f := fun i => inP m.Shapes.length (m.Chans.getD i 0)) (by unfold chansP at c5; omega), by omega, by omega, by omega⟩
theorem frame_all {m : D.Model} (h : framesP m = -1) : ∀ i, i < m.Procs.length → frameP (m.Procs.getD i default) = true ∧ graphP (m.Procs.getD i default) = true := fun i hi => by
  have := badI_neg (f := fun i => !frameBad m i) (by unfold framesP at h; omega) i hi
  unfold frameBad at this
  simp only [Bool.not_eq_true', Bool.or_eq_false_iff, Bool.not_eq_false'] at this
  exact ⟨this.1, this.2.1⟩
theorem lim_of {m : D.Model} (h : mayP m = true) : Lim m := by
  obtain ⟨h1, h2, _⟩ := ok_tables h
  have ht := tab_ok h1
  refine ⟨fun k h0 hk => ?_, fun k h0 hk => ?_, ht.procs.1, ht.claim.2⟩
  · have := ht.shape k.toNat (by omega)
    unfold shapeP at this
    simp only [Bool.and_eq_true, decide_eq_true_eq] at this
    exact this.1.1.1.2
  · have := (frame_all h2 k.toNat (by omega)).2
    unfold graphP at this
    simp only [Bool.and_eq_true, decide_eq_true_eq] at this
    exact this.1.1.1.2
structure Fit (s : D.State) : Prop where
  g : s.Globals.length ≤ 128
  c : s.Chans.length ≤ 32
  q : ∀ c ∈ s.Chans, c.Queue.length ≤ 16 ∧ ∀ x ∈ c.Queue, x.length ≤ 8
  p : s.Procs.length ≤ 16
  f : ∀ p ∈ s.Procs, p.Frame.length ≤ 128
theorem typed_len {t : List D.Type} {l : List Int} (h : typedP t l = true) : l.length = t.length := by
  unfold typedP at h
  simp only [Bool.and_eq_true, decide_eq_true_eq] at h
  exact h.1.symm
theorem fit_of {m : D.Model} {s : D.State} (hmay : mayP m = true) (h : stFits m s = true) : Fit s := by
  have hm := lim_of hmay
  obtain ⟨ht1, ht2, _⟩ := ok_tables hmay
  have ht := tab_ok ht1
  unfold stFits at h
  simp only [Bool.and_eq_true] at h
  obtain ⟨⟨⟨h1, h2⟩, h3⟩, h4⟩ := h
  unfold headP at h1
  simp only [Bool.and_eq_true, decide_eq_true_eq] at h1
  obtain ⟨⟨⟨⟨⟨⟨g1, g2⟩, g3⟩, g4⟩, g5⟩, g6⟩, g7⟩ := h1
  refine ⟨?_, g2, fun c hc => ?_, g3, fun p hp => ?_⟩
  · rw [typed_len g1]; exact ht.globals
  · have h := (allL_iff (d := default) (f := fun c => chanP m c)).1 h2 c hc
    unfold chanP at h
    simp only [Bool.and_eq_true, decide_eq_true_eq] at h
    have hi := inP_iff.1 h.1.1
    have hr := hm.room _ hi.1 hi.2
    refine ⟨by omega, fun x hx => ?_⟩
    have hq := (allL_iff (d := []) (f := fun x => typedP (shAt m c.Shape).Fields x)).1 h.2 x hx
    rw [typed_len hq]
    have := ht.shape c.Shape.toNat (by omega)
    unfold shapeP at this
    simp only [Bool.and_eq_true, decide_eq_true_eq] at this
    exact this.1.2
  · have h := (allL_iff (d := default) (f := fun c => processP m c)).1 h3 p hp
    unfold processP procP at h
    simp only [Bool.and_eq_true, decide_eq_true_eq] at h
    rw [typed_len h.2]
    have := (frame_all ht2 p.Type_.toNat (by omega)).1
    unfold frameP at this
    simp only [Bool.and_eq_true, decide_eq_true_eq] at this
    exact this.1.1.1.1.1.1.1.1
end Go.Proofs.YthmhbmikcdfkcaaDoor
/-
  Layer 12 on trees: what each function hands back.
-/
namespace Go.Proofs.YthmhbmikcdfkcaaDoor
open Go.RowKit
def shpSt : Shp := { α := D.State, enc := fun y => ([], .agg (enc_State y)) }
def shCk (f : FuncId) : Shp := bif Nat.beq f 35 then shpI else shGd f
end Go.Proofs.YthmhbmikcdfkcaaDoor
/-
  Layer 12 on trees: which temporaries are kept at the head of each loop (written by heads.py), the states there.
-/
namespace Go.Proofs.YthmhbmikcdfkcaaDoor
open Go.RowKit
def ann_typed : Ann := { keep := fun
  | [0, 1, 0, 1, 1] => [0, 12, 13, 14]
  | _ => [] }
def ann_channel : Ann := { keep := fun
  | [0, 1, 0, 1, 1] => [2, 3, 32, 33, 34]
  | _ => [] }
def ann_stfits : Ann := { keep := fun
  | [0, 1, 0, 1, 1] => [2, 3, 51, 52, 53]
  | [0, 1, 0, 1, 1, 1] => [2, 3, 63, 64, 65]
  | _ => [] }
def stTyped (t : List D.Type) (l : List Int) (k : Int) : St := mkSt [(0, encL_Type true t), (12, encL_Int true l), (13, intV l.length), (14, intV k)] []
def stChannel (m : D.Model) (c : D.Chan) (k : Int) : St := mkSt [(2, .bp 0 0), (3, .bp 1 0), (32, encL_Ints true c.Queue), (33, intV c.Queue.length), (34, intV k)] [.box (enc_Model m), .box (enc_Chan c)]
def stFits1 (m : D.Model) (s : D.State) (k : Int) : St := mkSt [(2, .bp 0 0), (3, .bp 1 0), (51, encL_Chan false s.Chans), (52, intV s.Chans.length), (53, intV k)] [.box (enc_Model m), .box (encSt false s)]
def stFits2 (m : D.Model) (s : D.State) (k : Int) : St := mkSt [(2, .bp 0 0), (3, .bp 1 0), (63, encL_Process false s.Procs), (64, intV s.Procs.length), (65, intV k)] [.box (enc_Model m), .box (encSt false s)]
end Go.Proofs.YthmhbmikcdfkcaaDoor
/-
  What the text of a function asks, reckoned (written by raw.py and VjGen).
-/
namespace Go.Proofs.YthmhbmikcdfkcaaDoor
open Go.RowKit
set_option maxRecDepth 100000
theorem typed_raw (b : Bool) (t : List D.Type) (l : List Int) : (fnCtx Tryd.prog tb shCk ann_typed true Tryd.f65 [] (boolV b)).goal (St.init [] [encL_Type true t, encL_Int true l]) =
    ((((↑t.length : Int) != (↑l.length : Int)) = true → leO [] [] ∧ (VV.sc (Value.bool false)).le (VV.sc (Value.bool b))) ∧ (((↑t.length : Int) != (↑l.length : Int)) = false → SatC (fnCtx Tryd.prog tb shCk ann_typed true Tryd.f65 [] (boolV b)) [(1 : Nat), (1 : Nat), (0 : Nat), (1 : Nat), (0 : Nat)] (mkSt [((0 : Nat), VV.sl true t.length (2 : Nat) fun (i : Nat) => enc_Type (t.getD i default)), ((12 : Nat), VV.sl true l.length (1 : Nat) fun (i : Nat) => [intV (l.getD i (0 : Int))]), ((13 : Nat), VV.sc (Value.int IntKind.i64 (↑l.length : Int))), ((14 : Nat), VV.sc (Value.int IntKind.i64 (0 : Int)))] []))) := by kernel_rfl
theorem channel_raw (b : Bool) (m : D.Model) (c : D.Chan) : (fnCtx Tryd.prog tb shCk ann_channel true Tryd.f66 [] (boolV b)).goal (St.init [] [.agg (enc_Model m), .agg (enc_Chan c)]) =
    (((true && (bif decide (c.Shape < (0 : Int)) then true else decide (c.Shape ≥ (↑m.Shapes.length : Int))) == false) = true → (0 : Int) ≤ c.Shape ∧ c.Shape < (↑m.Shapes.length : Int)) ∧ ((bif bif decide (c.Shape < (0 : Int)) then true else decide (c.Shape ≥ (↑m.Shapes.length : Int)) then true else decide ((↑c.Queue.length : Int) > (m.Shapes.getD c.Shape.toNat default).Room)) = true → leO [] [] ∧ (VV.sc (Value.bool false)).le (VV.sc (Value.bool b))) ∧ ((bif bif decide (c.Shape < (0 : Int)) then true else decide (c.Shape ≥ (↑m.Shapes.length : Int)) then true else decide ((↑c.Queue.length : Int) > (m.Shapes.getD c.Shape.toNat default).Room)) = false → SatC (fnCtx Tryd.prog tb shCk ann_channel true Tryd.f66 [] (boolV b)) [(1 : Nat), (1 : Nat), (0 : Nat), (1 : Nat), (0 : Nat)] (mkSt [((2 : Nat), VV.bp (0 : Nat) (0 : Nat)), ((3 : Nat), VV.bp (1 : Nat) (0 : Nat)), ((32 : Nat), VV.sl true c.Queue.length (1 : Nat) fun (i : Nat) => [encL_Int true (c.Queue.getD i [])]), ((33 : Nat), VV.sc (Value.int IntKind.i64 (↑c.Queue.length : Int))), ((34 : Nat), VV.sc (Value.int IntKind.i64 (0 : Int)))] [Ob.box [VV.sl true m.Globals.length (2 : Nat) fun (i : Nat) => enc_Type (m.Globals.getD i default), VV.sl true m.Init.length (1 : Nat) fun (i : Nat) => [intV (m.Init.getD i (0 : Int))], VV.sl true m.Shapes.length (2 : Nat) fun (i : Nat) => enc_Shape (m.Shapes.getD i default), VV.sl true m.Chans.length (1 : Nat) fun (i : Nat) => [intV (m.Chans.getD i (0 : Int))], VV.sl true m.Procs.length (10 : Nat) fun (i : Nat) => enc_Proc (m.Procs.getD i default), VV.sc (Value.int IntKind.i64 m.Claim), VV.sl true m.Exprs.length (12 : Nat) fun (i : Nat) => enc_Expr (m.Exprs.getD i default)], Ob.box [VV.sc (Value.int IntKind.i64 c.Shape), VV.sl true c.Queue.length (1 : Nat) fun (i : Nat) => [encL_Int true (c.Queue.getD i [])]]]))) := by kernel_rfl
theorem process_raw (b : Bool) (m : D.Model) (p : D.Process) : (fnCtx Tryd.prog tb shCk annNo true Tryd.f67 [] (boolV b)).goal (St.init [] [.agg (enc_Model m), .agg (enc_Process p)]) =
    (((bif bif decide (p.Type_ < (0 : Int)) then true else decide (p.Type_ ≥ (↑m.Procs.length : Int)) then true else p.Type_ == m.Claim) = true → leO [] [] ∧ (VV.sc (Value.bool false)).le (VV.sc (Value.bool b))) ∧ ((bif bif decide (p.Type_ < (0 : Int)) then true else decide (p.Type_ ≥ (↑m.Procs.length : Int)) then true else p.Type_ == m.Claim) = false → ((0 : Int) ≤ p.Type_ ∧ p.Type_ < (↑m.Procs.length : Int)) ∧ ∃ (y : Bool), ((true && (bif bif decide (p.Loc ≥ (0 : Int)) then decide (p.Loc < (↑(m.Procs.getD p.Type_.toNat default).Locs.length : Int)) else false then p.Prio == (m.Procs.getD p.Type_.toNat default).Prio else false) == true) = true → VSpec Tryd.prog (65 : Nat) [] [VV.sl true (m.Procs.getD p.Type_.toNat default).Frame.length (2 : Nat) fun (i : Nat) => enc_Type ((m.Procs.getD p.Type_.toNat default).Frame.getD i default), VV.sl true p.Frame.length (1 : Nat) fun (i : Nat) => [intV (p.Frame.getD i (0 : Int))]] [] (VV.sc (Value.bool y))) ∧ leO [] [] ∧ (VV.sc (Value.bool (bif bif bif decide (p.Loc ≥ (0 : Int)) then decide (p.Loc < (↑(m.Procs.getD p.Type_.toNat default).Locs.length : Int)) else false then p.Prio == (m.Procs.getD p.Type_.toNat default).Prio else false then y else false))).le (VV.sc (Value.bool b)))) := by kernel_rfl
theorem stfits_raw (b : Bool) (m : D.Model) (s : D.State) : (fnCtx Tryd.prog tb shCk ann_stfits true Tryd.f52 [] (boolV b)).goal (St.init [] [.agg (enc_Model m), .agg (encSt false s)]) =
    (∃ (y : Bool), VSpec Tryd.prog (65 : Nat) [] [VV.sl true m.Globals.length (2 : Nat) fun (i : Nat) => enc_Type (m.Globals.getD i default), VV.sl true s.Globals.length (1 : Nat) fun (i : Nat) => [intV (s.Globals.getD i (0 : Int))]] [] (VV.sc (Value.bool y)) ∧ ((bif bif bif bif bif bif !y then true else decide ((↑s.Chans.length : Int) > (32 : Int)) then true else decide ((↑s.Procs.length : Int) > (16 : Int)) then true else decide (s.Last < (0 : Int)) then true else decide (s.Last ≥ (16 : Int)) then true else decide (s.Alone < (-1 : Int)) then true else decide (s.Alone ≥ (↑s.Procs.length : Int))) = true → leO [] [] ∧ (VV.sc (Value.bool false)).le (VV.sc (Value.bool b))) ∧ ((bif bif bif bif bif bif !y then true else decide ((↑s.Chans.length : Int) > (32 : Int)) then true else decide ((↑s.Procs.length : Int) > (16 : Int)) then true else decide (s.Last < (0 : Int)) then true else decide (s.Last ≥ (16 : Int)) then true else decide (s.Alone < (-1 : Int)) then true else decide (s.Alone ≥ (↑s.Procs.length : Int))) = false → SatC (fnCtx Tryd.prog tb shCk ann_stfits true Tryd.f52 [] (boolV b)) [(1 : Nat), (1 : Nat), (0 : Nat), (1 : Nat), (0 : Nat)] (mkSt [((2 : Nat), VV.bp (0 : Nat) (0 : Nat)), ((3 : Nat), VV.bp (1 : Nat) (0 : Nat)), ((51 : Nat), VV.sl false s.Chans.length (2 : Nat) fun (i : Nat) => enc_Chan (s.Chans.getD i default)), ((52 : Nat), VV.sc (Value.int IntKind.i64 (↑s.Chans.length : Int))), ((53 : Nat), VV.sc (Value.int IntKind.i64 (0 : Int)))] [Ob.box [VV.sl true m.Globals.length (2 : Nat) fun (i : Nat) => enc_Type (m.Globals.getD i default), VV.sl true m.Init.length (1 : Nat) fun (i : Nat) => [intV (m.Init.getD i (0 : Int))], VV.sl true m.Shapes.length (2 : Nat) fun (i : Nat) => enc_Shape (m.Shapes.getD i default), VV.sl true m.Chans.length (1 : Nat) fun (i : Nat) => [intV (m.Chans.getD i (0 : Int))], VV.sl true m.Procs.length (10 : Nat) fun (i : Nat) => enc_Proc (m.Procs.getD i default), VV.sc (Value.int IntKind.i64 m.Claim), VV.sl true m.Exprs.length (12 : Nat) fun (i : Nat) => enc_Expr (m.Exprs.getD i default)], Ob.box [VV.sl true s.Globals.length (1 : Nat) fun (i : Nat) => [intV (s.Globals.getD i (0 : Int))], VV.sl false s.Chans.length (2 : Nat) fun (i : Nat) => enc_Chan (s.Chans.getD i default), VV.sl false s.Procs.length (4 : Nat) fun (i : Nat) => enc_Process (s.Procs.getD i default), VV.sc (Value.int IntKind.i64 s.Last), VV.sc (Value.int IntKind.i64 s.Alone), VV.sc (Value.int IntKind.i64 s.Claim)]]))) := by kernel_rfl
theorem may_raw (b : Bool) (m : D.Model) : (fnCtx Tryd.prog tb shCk annNo true Tryd.f51 [] (boolV b)).goal (St.init [] [.agg (enc_Model m)]) =
    (∃ (y : Int × Int × Int), VSpec Tryd.prog (64 : Nat) [] [VV.agg [VV.sl true m.Globals.length (2 : Nat) fun (i : Nat) => enc_Type (m.Globals.getD i default), VV.sl true m.Init.length (1 : Nat) fun (i : Nat) => [intV (m.Init.getD i (0 : Int))], VV.sl true m.Shapes.length (2 : Nat) fun (i : Nat) => enc_Shape (m.Shapes.getD i default), VV.sl true m.Chans.length (1 : Nat) fun (i : Nat) => [intV (m.Chans.getD i (0 : Int))], VV.sl true m.Procs.length (10 : Nat) fun (i : Nat) => enc_Proc (m.Procs.getD i default), VV.sc (Value.int IntKind.i64 m.Claim), VV.sl true m.Exprs.length (12 : Nat) fun (i : Nat) => enc_Expr (m.Exprs.getD i default)]] [] (VV.tup [VV.sc (Value.int IntKind.i64 y.fst), VV.sc (Value.int IntKind.i64 y.snd.fst), VV.sc (Value.int IntKind.i64 y.snd.snd)]) ∧ leO [] [] ∧ (VV.sc (Value.bool (y.fst == (0 : Int)))).le (VV.sc (Value.bool b))) := by kernel_rfl
theorem stcheck_raw (r : Int) (m : D.Model) (s : D.State) : (fnCtx Tryd.prog tb shCk annNo true Tryd.f35 [] (intV r)).goal (St.init [] [.agg (enc_Model m), .agg (enc_State s)]) =
    (∃ (y : Bool), VSpec Tryd.prog (51 : Nat) [] [VV.agg [VV.sl true m.Globals.length (2 : Nat) fun (i : Nat) => enc_Type (m.Globals.getD i default), VV.sl true m.Init.length (1 : Nat) fun (i : Nat) => [intV (m.Init.getD i (0 : Int))], VV.sl true m.Shapes.length (2 : Nat) fun (i : Nat) => enc_Shape (m.Shapes.getD i default), VV.sl true m.Chans.length (1 : Nat) fun (i : Nat) => [intV (m.Chans.getD i (0 : Int))], VV.sl true m.Procs.length (10 : Nat) fun (i : Nat) => enc_Proc (m.Procs.getD i default), VV.sc (Value.int IntKind.i64 m.Claim), VV.sl true m.Exprs.length (12 : Nat) fun (i : Nat) => enc_Expr (m.Exprs.getD i default)]] [] (VV.sc (Value.bool y)) ∧ ((!y) = true → leO [] [] ∧ (VV.sc (Value.int IntKind.i64 (40 : Int))).le (VV.sc (Value.int IntKind.i64 r))) ∧ ((!y) = false → ∃ (y : Bool), VSpec Tryd.prog (52 : Nat) [] [VV.agg [VV.sl true m.Globals.length (2 : Nat) fun (i : Nat) => enc_Type (m.Globals.getD i default), VV.sl true m.Init.length (1 : Nat) fun (i : Nat) => [intV (m.Init.getD i (0 : Int))], VV.sl true m.Shapes.length (2 : Nat) fun (i : Nat) => enc_Shape (m.Shapes.getD i default), VV.sl true m.Chans.length (1 : Nat) fun (i : Nat) => [intV (m.Chans.getD i (0 : Int))], VV.sl true m.Procs.length (10 : Nat) fun (i : Nat) => enc_Proc (m.Procs.getD i default), VV.sc (Value.int IntKind.i64 m.Claim), VV.sl true m.Exprs.length (12 : Nat) fun (i : Nat) => enc_Expr (m.Exprs.getD i default)], VV.agg [VV.sl true s.Globals.length (1 : Nat) fun (i : Nat) => [intV (s.Globals.getD i (0 : Int))], VV.sl true s.Chans.length (2 : Nat) fun (i : Nat) => enc_Chan (s.Chans.getD i default), VV.sl true s.Procs.length (4 : Nat) fun (i : Nat) => enc_Process (s.Procs.getD i default), VV.sc (Value.int IntKind.i64 s.Last), VV.sc (Value.int IntKind.i64 s.Alone), VV.sc (Value.int IntKind.i64 s.Claim)]] [] (VV.sc (Value.bool y)) ∧ ((!y) = true → leO [] [] ∧ (VV.sc (Value.int IntKind.i64 (41 : Int))).le (VV.sc (Value.int IntKind.i64 r))) ∧ ((!y) = false → leO [] [] ∧ (VV.sc (Value.int IntKind.i64 (0 : Int))).le (VV.sc (Value.int IntKind.i64 r))))) := by kernel_rfl
theorem typed1_raw (b : Bool) (t : List D.Type) (l : List Int) (k : Int) (J : St → Prop) : ((fnCtx Tryd.prog tb shCk ann_typed true Tryd.f65 [] (boolV b)).loop [1, 1, 0, 1, 0] J).goal (stTyped t l k) =
    ((decide (k < (↑l.length : Int)) = true → ((0 : Int) ≤ k ∧ k < (↑l.length : Int)) ∧ ((0 : Int) ≤ k ∧ k < (↑t.length : Int)) ∧ ∃ (y : Bool), VSpec Tryd.prog (79 : Nat) [] [VV.agg [VV.sc (Value.int IntKind.i64 (t.getD k.toNat default).Bits), VV.sc (Value.bool (t.getD k.toNat default).Signed)], VV.sc (Value.int IntKind.i64 (l.getD k.toNat (0 : Int)))] [] (VV.sc (Value.bool y)) ∧ ((!y) = true → leO [] [] ∧ (VV.sc (Value.bool false)).le (VV.sc (Value.bool b))) ∧ ((!y) = false → J (mkSt [((0 : Nat), VV.sl true t.length (2 : Nat) fun (i : Nat) => enc_Type (t.getD i default)), ((12 : Nat), VV.sl true l.length (1 : Nat) fun (i : Nat) => [intV (l.getD i (0 : Int))]), ((13 : Nat), VV.sc (Value.int IntKind.i64 (↑l.length : Int))), ((14 : Nat), VV.sc (Value.int IntKind.i64 (IntKind.i64.wrap (k + (1 : Int)))))] []))) ∧ (decide (k < (↑l.length : Int)) = false → leO [] [] ∧ (VV.sc (Value.bool true)).le (VV.sc (Value.bool b)))) := by kernel_rfl
theorem channel1_raw (b : Bool) (m : D.Model) (c : D.Chan) (k : Int) (J : St → Prop) : ((fnCtx Tryd.prog tb shCk ann_channel true Tryd.f66 [] (boolV b)).loop [1, 1, 0, 1, 0] J).goal (stChannel m c k) =
    ((decide (k < (↑c.Queue.length : Int)) = true → ((0 : Int) ≤ k ∧ k < (↑c.Queue.length : Int)) ∧ ((0 : Int) ≤ c.Shape ∧ c.Shape < (↑m.Shapes.length : Int)) ∧ ∃ (y : Bool), VSpec Tryd.prog (65 : Nat) [] [VV.sl true (m.Shapes.getD c.Shape.toNat default).Fields.length (2 : Nat) fun (i : Nat) => enc_Type ((m.Shapes.getD c.Shape.toNat default).Fields.getD i default), VV.sl true (c.Queue.getD k.toNat []).length (1 : Nat) fun (i : Nat) => [intV ((c.Queue.getD k.toNat []).getD i (0 : Int))]] [] (VV.sc (Value.bool y)) ∧ ((!y) = true → leO [] [] ∧ (VV.sc (Value.bool false)).le (VV.sc (Value.bool b))) ∧ ((!y) = false → J (mkSt [((2 : Nat), VV.bp (0 : Nat) (0 : Nat)), ((3 : Nat), VV.bp (1 : Nat) (0 : Nat)), ((32 : Nat), VV.sl true c.Queue.length (1 : Nat) fun (i : Nat) => [encL_Int true (c.Queue.getD i [])]), ((33 : Nat), VV.sc (Value.int IntKind.i64 (↑c.Queue.length : Int))), ((34 : Nat), VV.sc (Value.int IntKind.i64 (IntKind.i64.wrap (k + (1 : Int)))))] [Ob.box [VV.sl true m.Globals.length (2 : Nat) fun (i : Nat) => enc_Type (m.Globals.getD i default), VV.sl true m.Init.length (1 : Nat) fun (i : Nat) => [intV (m.Init.getD i (0 : Int))], VV.sl true m.Shapes.length (2 : Nat) fun (i : Nat) => enc_Shape (m.Shapes.getD i default), VV.sl true m.Chans.length (1 : Nat) fun (i : Nat) => [intV (m.Chans.getD i (0 : Int))], VV.sl true m.Procs.length (10 : Nat) fun (i : Nat) => enc_Proc (m.Procs.getD i default), VV.sc (Value.int IntKind.i64 m.Claim), VV.sl true m.Exprs.length (12 : Nat) fun (i : Nat) => enc_Expr (m.Exprs.getD i default)], Ob.box [VV.sc (Value.int IntKind.i64 c.Shape), VV.sl true c.Queue.length (1 : Nat) fun (i : Nat) => [encL_Int true (c.Queue.getD i [])]]]))) ∧ (decide (k < (↑c.Queue.length : Int)) = false → leO [] [] ∧ (VV.sc (Value.bool true)).le (VV.sc (Value.bool b)))) := by kernel_rfl
theorem stfits1_raw (b : Bool) (m : D.Model) (s : D.State) (k : Int) (J : St → Prop) : ((fnCtx Tryd.prog tb shCk ann_stfits true Tryd.f52 [] (boolV b)).loop [1, 1, 0, 1, 0] J).goal (stFits1 m s k) =
    ((decide (k < (↑s.Chans.length : Int)) = true → ((0 : Int) ≤ k ∧ k < (↑s.Chans.length : Int)) ∧ ∃ (y : Bool), VSpec Tryd.prog (66 : Nat) [] [VV.agg [VV.sl true m.Globals.length (2 : Nat) fun (i : Nat) => enc_Type (m.Globals.getD i default), VV.sl true m.Init.length (1 : Nat) fun (i : Nat) => [intV (m.Init.getD i (0 : Int))], VV.sl true m.Shapes.length (2 : Nat) fun (i : Nat) => enc_Shape (m.Shapes.getD i default), VV.sl true m.Chans.length (1 : Nat) fun (i : Nat) => [intV (m.Chans.getD i (0 : Int))], VV.sl true m.Procs.length (10 : Nat) fun (i : Nat) => enc_Proc (m.Procs.getD i default), VV.sc (Value.int IntKind.i64 m.Claim), VV.sl true m.Exprs.length (12 : Nat) fun (i : Nat) => enc_Expr (m.Exprs.getD i default)], VV.agg [VV.sc (Value.int IntKind.i64 (s.Chans.getD k.toNat default).Shape), VV.sl true (s.Chans.getD k.toNat default).Queue.length (1 : Nat) fun (i : Nat) => [encL_Int true ((s.Chans.getD k.toNat default).Queue.getD i [])]]] [] (VV.sc (Value.bool y)) ∧ ((!y) = true → leO [] [] ∧ (VV.sc (Value.bool false)).le (VV.sc (Value.bool b))) ∧ ((!y) = false → J (mkSt [((2 : Nat), VV.bp (0 : Nat) (0 : Nat)), ((3 : Nat), VV.bp (1 : Nat) (0 : Nat)), ((51 : Nat), VV.sl false s.Chans.length (2 : Nat) fun (i : Nat) => enc_Chan (s.Chans.getD i default)), ((52 : Nat), VV.sc (Value.int IntKind.i64 (↑s.Chans.length : Int))), ((53 : Nat), VV.sc (Value.int IntKind.i64 (IntKind.i64.wrap (k + (1 : Int)))))] [Ob.box [VV.sl true m.Globals.length (2 : Nat) fun (i : Nat) => enc_Type (m.Globals.getD i default), VV.sl true m.Init.length (1 : Nat) fun (i : Nat) => [intV (m.Init.getD i (0 : Int))], VV.sl true m.Shapes.length (2 : Nat) fun (i : Nat) => enc_Shape (m.Shapes.getD i default), VV.sl true m.Chans.length (1 : Nat) fun (i : Nat) => [intV (m.Chans.getD i (0 : Int))], VV.sl true m.Procs.length (10 : Nat) fun (i : Nat) => enc_Proc (m.Procs.getD i default), VV.sc (Value.int IntKind.i64 m.Claim), VV.sl true m.Exprs.length (12 : Nat) fun (i : Nat) => enc_Expr (m.Exprs.getD i default)], Ob.box [VV.sl true s.Globals.length (1 : Nat) fun (i : Nat) => [intV (s.Globals.getD i (0 : Int))], VV.sl false s.Chans.length (2 : Nat) fun (i : Nat) => enc_Chan (s.Chans.getD i default), VV.sl false s.Procs.length (4 : Nat) fun (i : Nat) => enc_Process (s.Procs.getD i default), VV.sc (Value.int IntKind.i64 s.Last), VV.sc (Value.int IntKind.i64 s.Alone), VV.sc (Value.int IntKind.i64 s.Claim)]]))) ∧ (decide (k < (↑s.Chans.length : Int)) = false → SatC (fnCtx Tryd.prog tb shCk ann_stfits true Tryd.f52 [] (boolV b)) [(1 : Nat), (1 : Nat), (1 : Nat), (0 : Nat), (1 : Nat), (0 : Nat)] (mkSt [((2 : Nat), VV.bp (0 : Nat) (0 : Nat)), ((3 : Nat), VV.bp (1 : Nat) (0 : Nat)), ((63 : Nat), VV.sl false s.Procs.length (4 : Nat) fun (i : Nat) => enc_Process (s.Procs.getD i default)), ((64 : Nat), VV.sc (Value.int IntKind.i64 (↑s.Procs.length : Int))), ((65 : Nat), VV.sc (Value.int IntKind.i64 (0 : Int)))] [Ob.box [VV.sl true m.Globals.length (2 : Nat) fun (i : Nat) => enc_Type (m.Globals.getD i default), VV.sl true m.Init.length (1 : Nat) fun (i : Nat) => [intV (m.Init.getD i (0 : Int))], VV.sl true m.Shapes.length (2 : Nat) fun (i : Nat) => enc_Shape (m.Shapes.getD i default), VV.sl true m.Chans.length (1 : Nat) fun (i : Nat) => [intV (m.Chans.getD i (0 : Int))], VV.sl true m.Procs.length (10 : Nat) fun (i : Nat) => enc_Proc (m.Procs.getD i default), VV.sc (Value.int IntKind.i64 m.Claim), VV.sl true m.Exprs.length (12 : Nat) fun (i : Nat) => enc_Expr (m.Exprs.getD i default)], Ob.box [VV.sl true s.Globals.length (1 : Nat) fun (i : Nat) => [intV (s.Globals.getD i (0 : Int))], VV.sl false s.Chans.length (2 : Nat) fun (i : Nat) => enc_Chan (s.Chans.getD i default), VV.sl false s.Procs.length (4 : Nat) fun (i : Nat) => enc_Process (s.Procs.getD i default), VV.sc (Value.int IntKind.i64 s.Last), VV.sc (Value.int IntKind.i64 s.Alone), VV.sc (Value.int IntKind.i64 s.Claim)]]))) := by kernel_rfl
theorem stfits2_raw (b : Bool) (m : D.Model) (s : D.State) (k : Int) (J : St → Prop) : ((fnCtx Tryd.prog tb shCk ann_stfits true Tryd.f52 [] (boolV b)).loop [1, 1, 1, 0, 1, 0] J).goal (stFits2 m s k) =
    ((decide (k < (↑s.Procs.length : Int)) = true → ((0 : Int) ≤ k ∧ k < (↑s.Procs.length : Int)) ∧ ∃ (y : Bool), VSpec Tryd.prog (67 : Nat) [] [VV.agg [VV.sl true m.Globals.length (2 : Nat) fun (i : Nat) => enc_Type (m.Globals.getD i default), VV.sl true m.Init.length (1 : Nat) fun (i : Nat) => [intV (m.Init.getD i (0 : Int))], VV.sl true m.Shapes.length (2 : Nat) fun (i : Nat) => enc_Shape (m.Shapes.getD i default), VV.sl true m.Chans.length (1 : Nat) fun (i : Nat) => [intV (m.Chans.getD i (0 : Int))], VV.sl true m.Procs.length (10 : Nat) fun (i : Nat) => enc_Proc (m.Procs.getD i default), VV.sc (Value.int IntKind.i64 m.Claim), VV.sl true m.Exprs.length (12 : Nat) fun (i : Nat) => enc_Expr (m.Exprs.getD i default)], VV.agg [VV.sc (Value.int IntKind.i64 (s.Procs.getD k.toNat default).Type_), VV.sc (Value.int IntKind.i64 (s.Procs.getD k.toNat default).Loc), VV.sc (Value.int IntKind.i64 (s.Procs.getD k.toNat default).Prio), VV.sl true (s.Procs.getD k.toNat default).Frame.length (1 : Nat) fun (i : Nat) => [intV ((s.Procs.getD k.toNat default).Frame.getD i (0 : Int))]]] [] (VV.sc (Value.bool y)) ∧ ((!y) = true → leO [] [] ∧ (VV.sc (Value.bool false)).le (VV.sc (Value.bool b))) ∧ ((!y) = false → J (mkSt [((2 : Nat), VV.bp (0 : Nat) (0 : Nat)), ((3 : Nat), VV.bp (1 : Nat) (0 : Nat)), ((63 : Nat), VV.sl false s.Procs.length (4 : Nat) fun (i : Nat) => enc_Process (s.Procs.getD i default)), ((64 : Nat), VV.sc (Value.int IntKind.i64 (↑s.Procs.length : Int))), ((65 : Nat), VV.sc (Value.int IntKind.i64 (IntKind.i64.wrap (k + (1 : Int)))))] [Ob.box [VV.sl true m.Globals.length (2 : Nat) fun (i : Nat) => enc_Type (m.Globals.getD i default), VV.sl true m.Init.length (1 : Nat) fun (i : Nat) => [intV (m.Init.getD i (0 : Int))], VV.sl true m.Shapes.length (2 : Nat) fun (i : Nat) => enc_Shape (m.Shapes.getD i default), VV.sl true m.Chans.length (1 : Nat) fun (i : Nat) => [intV (m.Chans.getD i (0 : Int))], VV.sl true m.Procs.length (10 : Nat) fun (i : Nat) => enc_Proc (m.Procs.getD i default), VV.sc (Value.int IntKind.i64 m.Claim), VV.sl true m.Exprs.length (12 : Nat) fun (i : Nat) => enc_Expr (m.Exprs.getD i default)], Ob.box [VV.sl true s.Globals.length (1 : Nat) fun (i : Nat) => [intV (s.Globals.getD i (0 : Int))], VV.sl false s.Chans.length (2 : Nat) fun (i : Nat) => enc_Chan (s.Chans.getD i default), VV.sl false s.Procs.length (4 : Nat) fun (i : Nat) => enc_Process (s.Procs.getD i default), VV.sc (Value.int IntKind.i64 s.Last), VV.sc (Value.int IntKind.i64 s.Alone), VV.sc (Value.int IntKind.i64 s.Claim)]]))) ∧ (decide (k < (↑s.Procs.length : Int)) = false → (decide (m.Claim < (0 : Int)) = true → leO [] [] ∧ (VV.sc (Value.bool (s.Claim == (-1 : Int)))).le (VV.sc (Value.bool b))) ∧ (decide (m.Claim < (0 : Int)) = false → ((true && decide (s.Claim ≥ (0 : Int)) == true) = true → (0 : Int) ≤ m.Claim ∧ m.Claim < (↑m.Procs.length : Int)) ∧ leO [] [] ∧ (VV.sc (Value.bool (bif decide (s.Claim ≥ (0 : Int)) then decide (s.Claim < (↑(m.Procs.getD m.Claim.toNat default).Locs.length : Int)) else false))).le (VV.sc (Value.bool b))))) := by kernel_rfl
end Go.Proofs.YthmhbmikcdfkcaaDoor
/-
  Layer 12 on trees: which states may be.
-/
namespace Go.Proofs.YthmhbmikcdfkcaaDoor
open Go.RowKit
theorem leS_agg {xs ys : List VV} (hl : ys.length = xs.length) (h : ∀ (j : Nat) x y, xs[j]? = some x → ys[j]? = some y → leS x y) : leS (.agg xs) (.agg ys) := by
  intro w E m v hE hv
  obtain ⟨vs, rfl, h1, h2⟩ := hv.agg_inv
  refine .agg (h1.trans hl.symm) fun j y hy => ?_
  have hj : j < xs.length := by rw [← hl]; exact (List.getElem?_eq_some_iff.1 hy).1
  exact h j _ y (List.getElem?_eq_getElem hj) hy w E m _ hE (h2 j _ (List.getElem?_eq_getElem hj))
theorem succ_of {n k : Nat} {P : Nat → Prop} (hI : ∀ i, i < k → P i) (h : P k) : ∀ i, i < k + 1 → P i := fun i hi => by
  rcases Nat.lt_succ_iff_lt_or_eq.1 hi with h' | rfl
  · exact hI i h'
  · exact h
/-- Lists that are no longer than what a text of the form's reach can say. -/
def Len (n : Nat) : Prop := n ≤ 1099511627776
theorem typed_spec {t : List D.Type} {l : List Int} (hl : Len l.length) : VSpec Tryd.prog 65 [] [encL_Type true t, encL_Int true l] [] (boolV (typedP t l)) := by
  unfold Len at hl
  refine vspec_raw tb_ok mixed Tryd.func65 (by kernel_rfl) rfl (typed_raw _ t l) ⟨fun h => leafB ?_, fun h => ?_⟩
  · unfold typedP
    have : decide (t.length = l.length) = false := by simp at h; simp; omega
    rw [this, Bool.false_and]
  · have hlen : t.length = l.length := by simp at h; omega
    have e : typedP t l = allI l.length fun i => fitsP (t.getD i default) (l.getD i 0) := by unfold typedP; rw [show decide (t.length = l.length) = true by simpa using hlen, Bool.true_and]
    rw [e]
    refine loop_idx tb_ok mixed l.length (fun k => stTyped t l k) (fun k => ∀ i, i < k → fitsP (t.getD i default) (l.getD i 0) = true) (by kernel_rfl) (by kernel_rfl) (fun i hi => by omega) ?_
    intro k hk hI J next
    refine Asks.raw (typed1_raw _ t l k J) ⟨fun hlt => ?_, fun hge => leafB ?_⟩
    · have hlt' : k < l.length := by have := lt_of hlt; omega
      refine ⟨⟨by omega, by omega⟩, ⟨by omega, by omega⟩, fitsP (t.getD k default) (l.getD k 0), fits_spec _ _, fun hy => leafB ?_, fun hy => next _ hlt' (succ_of (n := 0) hI (by simpa using hy)) (Up.of ?_)⟩
      · exact (allI_no (f := fun i => fitsP (t.getD i default) (l.getD i 0)) hlt' (by simpa using hy)).symm
      · rw [wrap_succ (by omega)]; rfl
    · have hge' : l.length ≤ k := by have := ge_of hge; omega
      exact (allI_iff.2 fun i hi => hI i (by omega)).symm
structure SmallC (c : D.Chan) : Prop where
  q : Len c.Queue.length
  m : ∀ x ∈ c.Queue, Len x.length
theorem channel_spec {m : D.Model} {c : D.Chan} (hc : SmallC c) : VSpec Tryd.prog 66 [] [.agg (enc_Model m), .agg (enc_Chan c)] [] (boolV (chanP m c)) := by
  have hq := hc.q
  unfold Len at hq
  refine vspec_raw tb_ok mixed Tryd.func66 (by kernel_rfl) rfl (channel_raw _ m c) ⟨fun h => ?_, fun h => leafB ?_, fun h => ?_⟩
  · simp at h; omega
  · symm; rw [Bool.eq_false_iff]; intro hcc
    unfold chanP at hcc
    simp only [Bool.and_eq_true, decide_eq_true_eq] at hcc
    have := inP_iff.1 hcc.1.1
    have hr : (shAt m c.Shape).Room = (m.Shapes.getD c.Shape.toNat default).Room := rfl
    rw [hr] at hcc
    generalize (m.Shapes.getD c.Shape.toNat default).Room = rm at h hcc
    simp at h; omega
  · have hs : 0 ≤ c.Shape ∧ c.Shape < m.Shapes.length ∧ (c.Queue.length : Int) ≤ (shAt m c.Shape).Room := by
      have hr : (shAt m c.Shape).Room = (m.Shapes.getD c.Shape.toNat default).Room := rfl
      rw [hr]
      generalize (m.Shapes.getD c.Shape.toNat default).Room = rm at h ⊢
      simp at h; omega
    have e : chanP m c = allI c.Queue.length fun i => typedP (shAt m c.Shape).Fields (c.Queue.getD i []) := by
      unfold chanP
      rw [inP_iff.2 ⟨hs.1, hs.2.1⟩, show decide ((c.Queue.length : Int) ≤ (shAt m c.Shape).Room) = true by simpa using hs.2.2]; rfl
    rw [e]
    refine loop_idx tb_ok mixed c.Queue.length (fun k => stChannel m c k) (fun k => ∀ i, i < k → typedP (shAt m c.Shape).Fields (c.Queue.getD i []) = true) (by kernel_rfl) (by kernel_rfl) (fun i hi => by omega) ?_
    intro k hk hI J next
    refine Asks.raw (channel1_raw _ m c k J) ⟨fun hlt => ?_, fun hge => leafB ?_⟩
    · have hlt' : k < c.Queue.length := by have := lt_of hlt; omega
      refine ⟨⟨by omega, by omega⟩, ⟨hs.1, hs.2.1⟩, typedP (shAt m c.Shape).Fields (c.Queue.getD k []), typed_spec (hc.m _ (getD_mem hlt')), fun hy => leafB ?_, fun hy => next _ hlt' (succ_of (n := 0) hI (by simpa using hy)) (Up.of ?_)⟩
      · exact (allI_no (f := fun i => typedP (shAt m c.Shape).Fields (c.Queue.getD i [])) hlt' (by simpa using hy)).symm
      · rw [wrap_succ (by omega)]; rfl
    · have hge' : c.Queue.length ≤ k := by have := ge_of hge; omega
      exact (allI_iff.2 fun i hi => hI i (by omega)).symm
theorem process_spec {m : D.Model} {p : D.Process} (hp : Len p.Frame.length) : VSpec Tryd.prog 67 [] [.agg (enc_Model m), .agg (enc_Process p)] [] (boolV (processP m p)) := by
  have hpr : (prAt m p.Type_) = m.Procs.getD p.Type_.toNat default := rfl
  refine vspec_raw tb_ok mixed Tryd.func67 (by kernel_rfl) rfl (process_raw _ m p) ⟨fun h => leafB ?_, fun h => ⟨?_, typedP (prAt m p.Type_).Frame p.Frame, fun _ => typed_spec hp, leafB ?_⟩⟩
  · unfold processP procP
    have : (decide (0 ≤ p.Type_) && decide (p.Type_ < m.Procs.length) && decide (p.Type_ ≠ m.Claim)) = false := by
      rw [Bool.eq_false_iff]; intro hc; simp at hc h; omega
    rw [this]; rfl
  · simp at h; omega
  · unfold processP procP inP
    have : (decide (0 ≤ p.Type_) && decide (p.Type_ < m.Procs.length) && decide (p.Type_ ≠ m.Claim)) = true := by simp at h ⊢; omega
    rw [this, Bool.true_and, ← hpr]
    simp only [ieq, bif_and, ge_iff_le]
structure SmallS' (s : D.State) : Prop where
  g : Len s.Globals.length
  c : Len s.Chans.length
  p : Len s.Procs.length
  cs : ∀ c ∈ s.Chans, SmallC c
  ps : ∀ p ∈ s.Procs, Len p.Frame.length
theorem stfits_spec' {m : D.Model} {s : D.State} (hs : SmallS' s) (hcl : m.Claim < m.Procs.length) : VSpec Tryd.prog 52 [] [.agg (enc_Model m), .agg (encSt false s)] [] (boolV (stFits m s)) := by
  have hc := hs.c
  have hp := hs.p
  unfold Len at hc hp
  have ht : (bif bif bif bif bif bif !(typedP m.Globals s.Globals) then true else decide ((s.Chans.length : Int) > 32) then true else decide ((s.Procs.length : Int) > 16) then true else decide (s.Last < 0) then true else decide (s.Last ≥ 16) then true else decide (s.Alone < (-1 : Int)) then true else decide (s.Alone ≥ (s.Procs.length : Int))) = !(headP m s) := by
    unfold headP
    cases typedP m.Globals s.Globals
    · rfl
    · rw [Bool.eq_iff_iff]; simp; omega
  refine vspec_raw tb_ok mixed Tryd.func52 (by kernel_rfl) rfl (stfits_raw _ m s) ⟨typedP m.Globals s.Globals, typed_spec hs.g, ?_⟩
  rw [ht]
  have e0 : stFits m s = (headP m s && (allI s.Chans.length fun i => chanP m (s.Chans.getD i default)) && (allI s.Procs.length fun i => processP m (s.Procs.getD i default)) && claimAt m s) := rfl
  generalize stFits m s = b at e0 ⊢
  refine ⟨fun h => leafB ?_, fun h => ?_⟩
  · rw [show headP m s = false by simpa using h] at e0; rw [e0]; rfl
  rw [show headP m s = true by simpa using h, Bool.true_and] at e0
  refine loop_idx tb_ok mixed s.Chans.length (fun k => stFits1 m s k) (fun k => ∀ i, i < k → chanP m (s.Chans.getD i default) = true) (by kernel_rfl) (by kernel_rfl) (fun i hi => by omega) ?_
  intro k hk hI J next
  refine Asks.raw (stfits1_raw _ m s k J) ⟨fun hlt => ?_, fun hge => ?_⟩
  · have hlt' : k < s.Chans.length := by have := lt_of hlt; omega
    refine ⟨⟨by omega, by omega⟩, chanP m (s.Chans.getD k default), channel_spec (hs.cs _ (getD_mem hlt')), fun hy => leafB ?_, fun hy => next _ hlt' (succ_of (n := 0) hI (by simpa using hy)) (Up.of ?_)⟩
    · rw [allI_no (f := fun i => chanP m (s.Chans.getD i default)) hlt' (by simpa using hy)] at e0
      rw [e0]; rfl
    · rw [wrap_succ (by omega)]; rfl
  have hge' : s.Chans.length ≤ k := by have := ge_of hge; omega
  rw [(allI_iff (n := s.Chans.length) (f := fun i => chanP m (s.Chans.getD i default))).2 fun i hi => hI i (by omega), Bool.true_and] at e0
  clear hI next
  refine loop_idx tb_ok mixed s.Procs.length (fun k => stFits2 m s k) (fun k => ∀ i, i < k → processP m (s.Procs.getD i default) = true) (by kernel_rfl) (by kernel_rfl) (fun i hi => by omega) ?_
  intro k hk hI J next
  refine Asks.raw (stfits2_raw _ m s k J) ⟨fun hlt => ?_, fun hge => ?_⟩
  · have hlt' : k < s.Procs.length := by have := lt_of hlt; omega
    refine ⟨⟨by omega, by omega⟩, processP m (s.Procs.getD k default), process_spec (hs.ps _ (getD_mem hlt')), fun hy => leafB ?_, fun hy => next _ hlt' (succ_of (n := 0) hI (by simpa using hy)) (Up.of ?_)⟩
    · rw [allI_no (f := fun i => processP m (s.Procs.getD i default)) hlt' (by simpa using hy)] at e0
      rw [e0]; rfl
    · rw [wrap_succ (by omega)]; rfl
  have hge' : s.Procs.length ≤ k := by have := ge_of hge; omega
  rw [(allI_iff (n := s.Procs.length) (f := fun i => processP m (s.Procs.getD i default))).2 fun i hi => hI i (by omega), Bool.true_and] at e0
  unfold claimAt at e0
  refine ⟨fun h2 => leafB ?_, fun h2 => ⟨fun _ => ⟨?_, hcl⟩, leafB ?_⟩⟩
  · rw [h2, cond_true] at e0; rw [e0, ieq]
  · have := of_decide_eq_false h2; omega
  · rw [h2, cond_false] at e0
    rw [e0, bif_and]; rfl
theorem stfits_spec {m : D.Model} {s : D.State} (hs : SmallS' s) (hcl : m.Claim < m.Procs.length) : VSpec Tryd.prog 52 [] [.agg (enc_Model m), .agg (enc_State s)] [] (boolV (stFits m s)) := by
  refine (stfits_spec' hs hcl).frz rfl fun j x y hx hy => ?_
  match j, hx, hy with
  | 0, hx, hy => simp only [List.getElem?_cons_zero, Option.some.injEq] at hx hy; subst hx hy; exact leS_refl _
  | 1, hx, hy =>
    simp only [List.getElem?_cons_succ, List.getElem?_cons_zero, Option.some.injEq] at hx hy
    subst hx hy
    refine leS_agg rfl fun j x y hx hy => ?_
    match j, hx, hy with
    | 0, hx, hy => simp only [enc_State, encSt, List.getElem?_cons_zero, Option.some.injEq] at hx hy; subst hx hy; exact leS_refl _
    | 1, hx, hy => simp only [enc_State, encSt, List.getElem?_cons_succ, List.getElem?_cons_zero, Option.some.injEq] at hx hy; subst hx hy; exact leS_sl
    | 2, hx, hy => simp only [enc_State, encSt, List.getElem?_cons_succ, List.getElem?_cons_zero, Option.some.injEq] at hx hy; subst hx hy; exact leS_sl
    | 3, hx, hy => simp only [enc_State, encSt, List.getElem?_cons_succ, List.getElem?_cons_zero, Option.some.injEq] at hx hy; subst hx hy; exact leS_refl _
    | 4, hx, hy => simp only [enc_State, encSt, List.getElem?_cons_succ, List.getElem?_cons_zero, Option.some.injEq] at hx hy; subst hx hy; exact leS_refl _
    | 5, hx, hy => simp only [enc_State, encSt, List.getElem?_cons_succ, List.getElem?_cons_zero, Option.some.injEq] at hx hy; subst hx hy; exact leS_refl _
    | j + 6, hx, hy => simp [enc_State] at hx
  | j + 2, hx, hy => simp at hx
theorem may_spec {m : D.Model} (hw : wf_Model m) : VSpec Tryd.prog 51 [] [.agg (enc_Model m)] [] (boolV (mayP m)) :=
  vspec_raw tb_ok mixed Tryd.func51 (by kernel_rfl) rfl (may_raw _ m) ⟨checkP m, check_spec hw, leafB (ieq _ _)⟩
theorem stcheck_spec {m : D.Model} {s : D.State} (hw : wf_Model m) (hs : SmallS' s) (hcl : mayP m = true → m.Claim < m.Procs.length) : VSpec Tryd.prog 35 [] [.agg (enc_Model m), .agg (enc_State s)] [] (intV (stCheck m s)) := by
  refine vspec_raw tb_ok mixed Tryd.func35 (by kernel_rfl) rfl (stcheck_raw _ m s) ⟨mayP m, may_spec hw, fun h => leafI ?_, fun h => ⟨stFits m s, stfits_spec hs (hcl (by simpa using h)), fun h2 => leafI ?_, fun h2 => leafI ?_⟩⟩
  · unfold stCheck; rw [show mayP m = false by simpa using h]; rfl
  · unfold stCheck; rw [show mayP m = true by simpa using h, show stFits m s = false by simpa using h2]; rfl
  · unfold stCheck; rw [show mayP m = true by simpa using h, show stFits m s = true by simpa using h2]; rfl

theorem Fit.small {s : D.State} (h : Fit s) : SmallS' s := by
  have hg := h.g
  have hc := h.c
  have hp := h.p
  refine ⟨by unfold Len; omega, by unfold Len; omega, by unfold Len; omega, fun c hc => ⟨by have := (h.q c hc).1; unfold Len; omega, fun x hx => by have := (h.q c hc).2 x hx; unfold Len; omega⟩, fun p hp => by have := h.f p hp; unfold Len; omega⟩
theorem small_of {s : D.State} (h : wf_State s) : SmallS' s := by
  have hg := h.Globals.1
  have hc := h.Chans.1
  have hp := h.Procs.1
  refine ⟨by unfold Len; omega, by unfold Len; omega, by unfold Len; omega, fun c hc => ⟨by have := (h.Chans.2 c hc).Queue.1; unfold Len; omega, fun x hx => by have := ((h.Chans.2 c hc).Queue.2 x hx).1; unfold Len; omega⟩, fun p hp => by have := (h.Procs.2 p hp).Frame.1; unfold Len; omega⟩
theorem check_zero {m : D.Model} {s : D.State} (h : stCheck m s = 0) : mayP m = true ∧ stFits m s = true := by
  unfold stCheck at h
  cases h1 : mayP m <;> cases h2 : stFits m s <;> simp [h1, h2] at h ⊢
end Go.Proofs.YthmhbmikcdfkcaaDoor
