/-
  What the row of StateBack lists; a world and arguments for the witness.
-/
import Derived.Test.YtdjjlkekbphbaaaDoorStLaw
import Derived.Test.YtdjjlkekbphbaaaDoorLawKit
import Derived.Test.YtdjjlkekbphbaaaDoorCards
import Derived.Test.YtdjjlkekbphbaaaDoorTie
import Derived.Deep.DeepHandedRow
import Derived.Lib.LaidTab
import Derived.Stop.LaidErr
import Derived.OpenShut
namespace Go.Proofs.YtdjjlkekbphbaaaDoor
open Go.ChangeShapes Go.WideShapes Go.ChangeAt Go.RowKit

/-! ### What is listed, and what the library's functions ask -/
theorem var_iface {P : Program} {W : World} {n nm : String} {d : DataW Unit} {r : List (String × DataW Unit)} {g : Nat} {ti : TypeId} {ms : Array (String × TypeId)} (h : laidMet P ((n, .iface nm d) :: r) W)
    (hg : P.globalNamed n = some g) (ht : (P.globals[g]?).map (·.type) = some ti) (hi : P.underlying ti = some (.interface ms)) : ∃ u v, W.cell? ⟨g, 0, none⟩ = some (.iface u v) := by
  obtain ⟨ps, ⟨g0, t0, cs0, f0, p0, q0, hg0, ht0, hv0, hd0, _, e0⟩, _, hrows⟩ := h
  obtain rfl := Option.some.inj (hg.symm.trans hg0)
  obtain rfl := Option.some.inj (ht.symm.trans ht0)
  obtain ⟨f1, u, v, hcs, _, _⟩ := iface_of_trod hi hd0
  obtain ⟨l0⟩ := cs0
  simp only at hcs
  subst hcs
  exact ⟨u, v, by simpa using World.var?_cell hg0 hv0 0⟩
theorem gSyn : Tryd.prog.globalNamed "strconv.ErrSyntax" = some 1 := by kernel_rfl
theorem gRan : Tryd.prog.globalNamed "strconv.ErrRange" = some 2 := by kernel_rfl
theorem gSynT : (Tryd.prog.globals[1]?).map (·.type) = some 108 := by kernel_rfl
theorem gRanT : (Tryd.prog.globals[2]?).map (·.type) = some 108 := by kernel_rfl
theorem gTabT : (Tryd.prog.globals[0]?).map (·.type) = some 191 := by kernel_rfl
theorem cellsTab : Tryd.prog.cellsOf 191 = 20 := by kernel_rfl
theorem cellsU64 : Tryd.prog.cellsOf 113 = 1 := by kernel_rfl
theorem noHandles : Rows.stateBackRow.laid.filter (fun x => x.2.handleName?.isSome) = [] := by kernel_rfl
theorem libAt_of {W : World} (h : laidMetH Tryd.prog Rows.stateBackRow.laid W) : LibAt W ∧ ∀ k, k ∈ libB → k < W.heap.size := by
  unfold laidMetH at h
  rw [noHandles] at h
  have h : laidMet Tryd.prog Rows.stateBackRow.laid W := h
  have h1 := h.tail.tail
  have h2 := h1.tail
  have hL : LibAt W := ⟨var_iface h2.tail gSyn gSynT Tryd.underlying108, var_iface h2 gRan gRanT Tryd.underlying108,
    Lib.tabIs_of_head libTab gTabT Tryd.underlying191 Tryd.underlying113 cellsU64 cellsTab h1⟩
  refine ⟨hL, fun k hk => ?_⟩
  have lt : ∀ {g i : Nat} {v : Value}, W.cell? ⟨g, i, none⟩ = some v → g < W.heap.size := fun {g i v} h => by
    rcases Nat.lt_or_ge g W.heap.size with h' | h'
    · exact h'
    · simp [World.cell?, Array.getElem?_eq_none h'] at h
  simp only [libB, List.mem_cons, List.mem_nil_iff, or_false] at hk
  rcases hk with rfl | rfl | rfl
  · obtain ⟨m, p, h⟩ := hL.syn; exact lt h
  · obtain ⟨m, p, h⟩ := hL.ran; exact lt h
  · exact lt (hL.tab.cell libTab 0 (by decide))
/-! ### A world for the witness -/
abbrev rangeS : ByteArray := ⟨#[118, 97, 108, 117, 101, 32, 111, 117, 116, 32, 111, 102, 32, 114, 97, 110, 103, 101]⟩
abbrev syntaxS : ByteArray := ⟨#[105, 110, 118, 97, 108, 105, 100, 32, 115, 121, 110, 116, 97, 120]⟩
noncomputable def low : Nat := (World.holding Tryd.prog default ⟨#[], #[], []⟩).heap.size
def flat1 : DataW Unit → Value
  | .lit (.int k n) => .int k n
  | _ => undef
def flatT : DataW Unit → Array Value
  | .agg l => (l.flatMap fun x => match x with
    | .agg m => m.map flat1
    | y => [flat1 y]).toArray
  | _ => #[]
def putO (c : Array Value) : Obj → Obj
  | .cells _ t frozen => .cells c t frozen
  | o => o
noncomputable def laidWorld (os : Os) : World :=
  let w0 := World.holding Tryd.prog os ⟨#[.cells #[.string rangeS] 211, .cells #[.string syntaxS] 211], #[], []⟩
  { w0 with heap := ((((w0.heap.modify 3 (putO (flatT Rows.laid_math_bits_deBruijn32tab))).modify 4 (putO (flatT Rows.laid_math_bits_deBruijn64tab))).modify 0 (putO (flatT Rows.laid_internal_strconv_uint64pow10))).modify 2 (putO #[.iface 209 (.pointer (some ⟨low, 0, none⟩))])).modify 1 (putO #[.iface 209 (.pointer (some ⟨low + 1, 0, none⟩))]) }
def nilS : Value := .slice none 0 0
def zI : Value := .int .i64 0
def wArgs : Array Value := #[.agg #[nilS, nilS, nilS, nilS, nilS, zI, nilS, nilS, nilS, nilS, zI, zI, zI, nilS, nilS, nilS, zI, zI, zI, .string ⟨#[]⟩]]
set_option maxRecDepth 100000 in
theorem laid_met (os : Os) : laidMet Tryd.prog Rows.stateBackRow.laid ((laidWorld os).forCall (fun _ _ => 0) ⟨#[], wArgs, []⟩).memory :=
  laidMet_of_run' 8 (by kernel_rfl) (by kernel_rfl)
theorem says_one {w : World} {m : Option Phi} {x : VV} {a : Value} (h1 : V w ⟨fun _ => False, fun _ => False⟩ m x a) : Says w ⟨fun _ => False, fun _ => False⟩ m [x] #[a] :=
  ⟨rfl, fun j z hz => by
    match j, hz with
    | 0, hz => simp only [List.getElem?_cons_zero, Option.some.injEq] at hz; subst hz; exact h1
    | j + 1, hz => simp at hz⟩
end Go.Proofs.YtdjjlkekbphbaaaDoor
