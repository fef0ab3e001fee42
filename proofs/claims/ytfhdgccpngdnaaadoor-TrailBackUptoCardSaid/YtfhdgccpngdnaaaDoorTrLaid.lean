/-
  What the rows of the trail's text list; their arguments, on trees.
-/
import Derived.Test.YtfhdgccpngdnaaaDoorTrT
import Derived.Test.YtfhdgccpngdnaaaDoorLawKit
import Derived.Test.YtfhdgccpngdnaaaDoorCards
import Derived.Test.YtfhdgccpngdnaaaDoorTie
import Derived.Deep.DeepHandedRow
import Derived.Lib.LaidTab
import Derived.Stop.LaidErr
import Derived.OpenShut
namespace Go.Proofs.YtfhdgccpngdnaaaDoor
open Go.ChangeShapes Go.WideShapes Go.ChangeAt Go.RowKit

/-! ### What is listed, and what the library's functions ask -/
theorem var_iface {P : Program} {W : World} {n nm : String} {d : DataW Unit} {r : List (String × DataW Unit)} {g : Nat} {ti : TypeId} {ms : Array (String × TypeId)} (h : laidMet P ((n, .iface nm d) :: r) W)
    (hg : P.globalNamed n = some g) (ht : (P.globals[g]?).map (·.type) = some ti) (hi : P.underlying ti = some (.interface ms)) : ∃ u v, W.cell? ⟨g, 0, none⟩ = some (.iface u v) := by
  obtain ⟨ps, ⟨g0, t0, cs0, f0, p0, q0, hg0, ht0, hv0, hd0, _, e0⟩, _, hrows⟩ := h
  obtain rfl := Option.some.inj (hg.symm.trans hg0)
  obtain rfl := Option.some.inj (ht.symm.trans ht0)
  obtain ⟨f1, u, v, hcs, _, _⟩ := iface_of_trod hi hd0
  obtain ⟨l0⟩ := cs0
  simp only at hcs
  subst hcs
  exact ⟨u, v, by simpa using World.var?_cell hg0 hv0 0⟩
theorem gSyn : Tryd.prog.globalNamed "strconv.ErrSyntax" = some 1 := by kernel_rfl
theorem gRan : Tryd.prog.globalNamed "strconv.ErrRange" = some 2 := by kernel_rfl
theorem gSynT : (Tryd.prog.globals[1]?).map (·.type) = some 42 := by kernel_rfl
theorem gRanT : (Tryd.prog.globals[2]?).map (·.type) = some 42 := by kernel_rfl
theorem gTabT : (Tryd.prog.globals[3]?).map (·.type) = some 95 := by kernel_rfl
theorem cellsTab : Tryd.prog.cellsOf 95 = 20 := by kernel_rfl
theorem cellsU64 : Tryd.prog.cellsOf 72 = 1 := by kernel_rfl
theorem noHandles : Rows.trailTextsRow.laid.filter (fun x => x.2.handleName?.isSome) = [] := by kernel_rfl
theorem libAt_of {W : World} (h : laidMetH Tryd.prog Rows.trailTextsRow.laid W) (hS : W.ShapedOpen Tryd.prog) : LibAt W ∧ ∀ k, k ∈ libB → k < W.heap.size := by
  unfold laidMetH at h
  rw [noHandles] at h
  have h : laidMet Tryd.prog Rows.trailTextsRow.laid W := h
  have h1 := h.tail.tail
  have h2 := h1.tail.tail
  have hL : LibAt W := ⟨Go.Proofs.cell_of_shapedOpen_int (zero := #[.int .i64 0]) (t := 3) hS (of_decide_eq_true (by kernel_rfl)) (by kernel_rfl) rfl (by kernel_rfl) (by kernel_rfl) Tryd.underlying3,
    var_iface h2.tail gSyn gSynT Tryd.underlying42, var_iface h2 gRan gRanT Tryd.underlying42,
    Lib.tabIs_of_head libTab gTabT Tryd.underlying95 Tryd.underlying72 cellsU64 cellsTab h1⟩
  refine ⟨hL, fun k hk => ?_⟩
  have lt : ∀ {g i : Nat} {v : Value}, W.cell? ⟨g, i, none⟩ = some v → g < W.heap.size := fun {g i v} h => by
    rcases Nat.lt_or_ge g W.heap.size with h' | h'
    · exact h'
    · simp [World.cell?, Array.getElem?_eq_none h'] at h
  simp only [libB, List.mem_cons, List.mem_nil_iff, or_false] at hk
  rcases hk with rfl | rfl | rfl | rfl
  · obtain ⟨m, h⟩ := hL.len; exact lt h
  · obtain ⟨m, p, h⟩ := hL.syn; exact lt h
  · obtain ⟨m, p, h⟩ := hL.ran; exact lt h
  · exact lt (hL.tab.cell libTab 0 (by decide))
/-! ### A world for the witness -/
abbrev rangeS : ByteArray := ⟨#[118, 97, 108, 117, 101, 32, 111, 117, 116, 32, 111, 102, 32, 114, 97, 110, 103, 101]⟩
abbrev syntaxS : ByteArray := ⟨#[105, 110, 118, 97, 108, 105, 100, 32, 115, 121, 110, 116, 97, 120]⟩
noncomputable def low : Nat := (World.holding Tryd.prog default ⟨#[], #[], []⟩).heap.size
def flat1 : DataW Unit → Value
  | .lit (.int k n) => .int k n
  | _ => undef
def flatT : DataW Unit → Array Value
  | .agg l => (l.flatMap fun x => match x with
    | .agg m => m.map flat1
    | y => [flat1 y]).toArray
  | _ => #[]
def putO (c : Array Value) : Obj → Obj
  | .cells _ t frozen => .cells c t frozen
  | o => o
noncomputable def laidWorld (os : Os) : World :=
  let w0 := World.holding Tryd.prog os ⟨#[.cells #[.string rangeS] 102, .cells #[.string syntaxS] 102], #[], []⟩
  { w0 with heap := ((((((w0.heap.modify 6 (putO (flatT Rows.laid_math_bits_deBruijn32tab))).modify 7 (putO (flatT Rows.laid_math_bits_deBruijn64tab))).modify 3 (putO (flatT Rows.laid_internal_strconv_uint64pow10))).modify 5 (putO (flatT Rows.laid_unicode_utf8_acceptRanges))).modify 2 (putO #[.iface 100 (.pointer (some ⟨low, 0, none⟩))])).modify 1 (putO #[.iface 100 (.pointer (some ⟨low + 1, 0, none⟩))])).modify 4 (putO (flatT Rows.laid_unicode_utf8_first)) }
def wArgs : Array Value := #[.agg #[.int .i64 0, .int .i64 0, .int .i64 0, .int .i64 0, .slice none 0 0, .int .i64 0, .int .i64 0, .int .i64 0], .string ⟨#[]⟩]
set_option maxRecDepth 100000 in
theorem laid_met (os : Os) : laidMet Tryd.prog Rows.trailTextsRow.laid ((laidWorld os).forCall (fun _ _ => 0) ⟨#[], wArgs, []⟩).memory :=
  laidMet_of_run' 8 (by kernel_rfl) (by kernel_rfl)
/-! ### The arguments -/
theorem getD_some {L : List Value} {j : Nat} (h : j < L.length) : L[j]? = some (L.getD j undef) := by
  simp [List.getD, h]
theorem v_is_tr {w : World} {E : Prot} (hE : ∀ k, ¬ E.fz k) {m : Option Phi} {l : List D.Move} {v : Value} (h : Is (Pkg.slice 7 56 p_Move) w [v] l) : V w E m (encTr l) v ∧ ∀ x ∈ l, ∀ n ∈ mvL x, I64 n := by
  obtain ⟨ao, cap, rfl, h1, h2, h3⟩ := is_slice h
  have key : ∀ (cs : List Value) (y : D.Move), Is p_Move w cs y → cs = (mvL y).map (Value.int .i64) ∧ ∀ n ∈ mvL y, I64 n := by
    intro cs y hy
    obtain ⟨b1, rfl, w1, hy⟩ := is_cons_int.1 (is_via.1 hy)
    obtain ⟨b2, rfl, w2, hy⟩ := is_cons_int.1 hy
    obtain ⟨b3, rfl, w3, hy⟩ := is_cons_int.1 hy
    obtain ⟨b4, rfl, w4, hy⟩ := is_cons_int.1 hy
    obtain ⟨b5, rfl, w5, hy⟩ := is_cons_int.1 hy
    obtain ⟨b6, rfl, w6, hy⟩ := is_cons_int.1 hy
    obtain ⟨b7, rfl, w7, hy⟩ := is_cons_int.1 hy
    obtain rfl := is_unit.1 hy
    refine ⟨rfl, fun n hn => ?_⟩
    simp only [mvL, List.mem_cons, List.mem_nil_iff, or_false] at hn
    rcases hn with rfl | rfl | rfl | rfl | rfl | rfl | rfl
    · exact wf_i64.1 w1
    · exact wf_i64.1 w2
    · exact wf_i64.1 w3
    · exact wf_i64.1 w4
    · exact wf_i64.1 w5
    · exact wf_i64.1 w6
    · exact wf_i64.1 w7
  refine ⟨V.sl_mk h1 h2 fun hp => ?_, fun y hy => ?_⟩
  · obtain ⟨b, off, rfl, hb, hel⟩ := h3 hp
    refine ⟨b, off, rfl, hb, hE b, fun i _ => rfl, fun i j => ((mvL (l.getD i default)).map (Value.int .i64)).getD j undef, fun i j y hi hy => ?_, fun i j y hi hy => ?_⟩
    · obtain ⟨es, he, hc, hx⟩ := hel i (l.getD i default) (by simp [List.getD, hi])
      obtain ⟨rfl, _⟩ := key _ _ hx
      have hj : j < 7 := (List.getElem?_eq_some_iff.1 hy).1
      have hj' : j < ((mvL (l.getD i default)).map (Value.int .i64)).length := hj
      exact (hc j hj).trans (getD_some hj')
    · have e : encMv (l.getD i default) = (mvL (l.getD i default)).map intV := rfl
      rw [e, List.getElem?_map] at hy
      obtain ⟨n, hn, rfl⟩ := Option.map_eq_some_iff.1 hy
      have hz : ((mvL (l.getD i default)).map (Value.int .i64)).getD j undef = .int .i64 n := by rw [List.getD_eq_getElem?_getD, List.getElem?_map, hn]; rfl
      show V w _ none (intV n) (((mvL (l.getD i default)).map (Value.int .i64)).getD j undef)
      rw [hz]
      exact .sc
  · obtain ⟨i, hi, rfl⟩ := List.mem_iff_getElem.1 hy
    obtain ⟨b, off, rfl, hb, hel⟩ := h3 (by omega)
    obtain ⟨es, he, hc, hx⟩ := hel i l[i] (List.getElem?_eq_getElem hi)
    exact (key _ _ hx).2
theorem v_is_fd {w : World} {E : Prot} (hE : ∀ k, ¬ E.fz k) {m : Option Phi} {f : D.Found} {cs : Array Value} (h : Is p_Found w cs.toList f) : V w E m (.agg (encFd f)) (.agg cs) ∧ FdI f := by
  obtain ⟨b1, e1, w1, h⟩ := is_cons_int.1 (is_via.1 h)
  obtain ⟨b2, rfl, w2, h⟩ := is_cons_int.1 h
  obtain ⟨b3, rfl, w3, h⟩ := is_cons_int.1 h
  obtain ⟨b4, rfl, w4, h⟩ := is_cons_int.1 h
  obtain ⟨tr, b5, rfl, h5, h⟩ := is_cons_slice.1 h
  obtain ⟨b6, rfl, w6, h⟩ := is_cons_int.1 h
  obtain ⟨b7, rfl, w7, h⟩ := is_cons_int.1 h
  obtain ⟨b8, rfl, w8, h⟩ := is_cons_int.1 h
  obtain rfl := is_unit.1 h
  obtain ⟨v5, i5⟩ := v_is_tr (E := E) (m := m) hE h5
  obtain rfl : cs = #[.int .i64 f.Kind, .int .i64 f.What, .int .i64 f.Err, .int .i64 f.At, tr, .int .i64 f.Cycle, .int .i64 f.States, .int .i64 f.Steps] := by cases cs; simpa using e1
  refine ⟨.agg rfl fun j x hx => ?_, ⟨fun n hn => ?_, wf_i64.1 w6, i5⟩⟩
  · match j, hx with
    | 0, hx => simp only [encFd, List.getElem?_cons_zero, Option.some.injEq] at hx; subst hx; exact .sc
    | 1, hx => simp only [encFd, List.getElem?_cons_succ, List.getElem?_cons_zero, Option.some.injEq] at hx; subst hx; exact .sc
    | 2, hx => simp only [encFd, List.getElem?_cons_succ, List.getElem?_cons_zero, Option.some.injEq] at hx; subst hx; exact .sc
    | 3, hx => simp only [encFd, List.getElem?_cons_succ, List.getElem?_cons_zero, Option.some.injEq] at hx; subst hx; exact .sc
    | 4, hx => simp only [encFd, List.getElem?_cons_succ, List.getElem?_cons_zero, Option.some.injEq] at hx; subst hx; exact v5
    | 5, hx => simp only [encFd, List.getElem?_cons_succ, List.getElem?_cons_zero, Option.some.injEq] at hx; subst hx; exact .sc
    | 6, hx => simp only [encFd, List.getElem?_cons_succ, List.getElem?_cons_zero, Option.some.injEq] at hx; subst hx; exact .sc
    | 7, hx => simp only [encFd, List.getElem?_cons_succ, List.getElem?_cons_zero, Option.some.injEq] at hx; subst hx; exact .sc
    | j + 8, hx => simp [encFd] at hx
  · simp only [fdL, List.mem_cons, List.mem_nil_iff, or_false] at hn
    rcases hn with rfl | rfl | rfl | rfl | rfl | rfl
    · exact wf_i64.1 w1
    · exact wf_i64.1 w2
    · exact wf_i64.1 w3
    · exact wf_i64.1 w4
    · exact wf_i64.1 w7
    · exact wf_i64.1 w8
theorem mu_moves : ∀ (l : List D.Move), Rd.sum p_Move.mu l = 8 * l.length + 1
  | [] => rfl
  | x :: l => by
    have := mu_moves l
    show p_Move.mu x + Rd.sum p_Move.mu l = _
    rw [this]
    have : p_Move.mu x = 8 := rfl
    rw [this, List.length_cons]; omega
theorem mu_found (f : D.Found) : 8 * f.Trail.length ≤ p_Found.mu f := by
  have := mu_moves f.Trail
  have e : p_Found.mu f = 1 + (1 + (1 + (1 + (Rd.sum p_Move.mu f.Trail + (1 + (1 + (1 + 0))))))) + 1 := rfl
  rw [e, this]; omega
theorem says_two {w : World} {m : Option Phi} {x y : VV} {a b : Value} (h1 : V w ⟨fun _ => False, fun _ => False⟩ m x a) (h2 : V w ⟨fun _ => False, fun _ => False⟩ m y b) : Says w ⟨fun _ => False, fun _ => False⟩ m [x, y] #[a, b] :=
  ⟨rfl, fun j z hz => by
    match j, hz with
    | 0, hz => simp only [List.getElem?_cons_zero, Option.some.injEq] at hz; subst hz; exact h1
    | 1, hz => simp only [List.getElem?_cons_succ, List.getElem?_cons_zero, Option.some.injEq] at hz; subst hz; exact h2
    | j + 2, hz => simp at hz⟩
end Go.Proofs.YtfhdgccpngdnaaaDoor
