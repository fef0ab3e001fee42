/-
  Texts, joined: PrN, PrB, PrP, PrW, PrX.
-/
import Derived.Test.YthmhbmikcdfkcaaDoorGpD
import Derived.Test.YthmhbmikcdfkcaaDoorShelf
import Derived.Test.YthmhbmikcdfkcaaDoorTouch
import Derived.Lib.ItoaLen
import Derived.Lib.AppendIntMem
import Derived.Lib.SmallJoins
import Derived.Shelf.Strings.BuilderK
import Derived.Lib.OthersKept
import Derived.Lib.BufferKept
import Derived.WalkKit
import Derived.Lib.Hide
import Derived.Lib.SliceRun
import Derived.Laws.IdiomStrings
/-
  Numerals: how they are written.
-/
namespace Go.Proofs.YthmhbmikcdfkcaaDoor
open Go.RowKit
abbrev By := List UInt8
def I64 (n : Int) : Prop := -9223372036854775808 ≤ n ∧ n ≤ 9223372036854775807
def bs (s : ByteArray) : By := s.data.toList
def mk (l : By) : ByteArray := ⟨l.toArray⟩
theorem bs_mk (l : By) : bs (mk l) = l := by simp [bs, mk]
theorem mk_bs (s : ByteArray) : mk (bs s) = s := by simp [bs, mk]
theorem size_bs (s : ByteArray) : s.size = (bs s).length := rfl
theorem size_mk (l : By) : (mk l).size = l.length := by simp [ByteArray.size, mk]
def itoaB (n : Int) : ByteArray := mk (Lib.itoa n)
theorem size_itoa {n : Int} (h : I64 n) : (itoaB n).size ≤ 21 := by
  unfold itoaB
  rw [size_mk]
  exact Lib.itoa_length_le n h.1 h.2
theorem format_spec {n : Int} (h : I64 n) : VSpec Tryd.prog 20 [] [intV n, intV 10] [] (strV (itoaB n)) := by
  refine VSpec.hand ⟨_, Tryd.func20, rfl, by kernel_rfl⟩ fun w E vs hA hL _ _ hs => ?_
  obtain ⟨u1, us1, rfl, v1, hs⟩ := hs.cons_inv
  obtain ⟨u2, us2, rfl, v2, hs⟩ := hs.cons_inv
  obtain rfl := hs.nil_inv
  rw [v1.sc_inv, v2.sc_inv]
  refine (Tryd.strconv_FormatInt_10 n h.1 h.2 w hL.tab).mono ?_
  rintro e w' ⟨rfl, k, os, rfl⟩
  exact ⟨_, rfl, .sc, Lib.below_grow _ w (Nat.le_refl _) k os⟩
end Go.Proofs.YthmhbmikcdfkcaaDoor
/-
  strings.Builder: what it holds, what is written to it.
-/
namespace Go.Proofs.YthmhbmikcdfkcaaDoor
open Go.RowKit

abbrev bldT : TypeId := 72
abbrev byteT : TypeId := 5
def BldI (B b : Nat) (s : ByteArray) (w : World) : Prop := Lib.IsBuilderF bldT byteT B b (Lib.byteCells (bs s)) w
theorem bs_append (a s : ByteArray) : bs (a ++ s) = bs a ++ bs s := by simp [bs]
theorem byteCells_bs (a s : ByteArray) : Lib.byteCells (bs a) ++ Lib.strCells s = Lib.byteCells (bs (a ++ s)) := by
  rw [bs_append]
  simp [Lib.byteCells, Lib.strCells, bs]
def commaB : ByteArray := mk [44]
theorem byteCells_comma (a : ByteArray) : Lib.byteCells (bs a) ++ [.int .u8 44] = Lib.byteCells (bs (a ++ commaB)) := by
  rw [bs_append]
  simp [Lib.byteCells, commaB, bs_mk]
theorem write_calls {B b : Nat} {a s : ByteArray} {w : World} (h : BldI B b a w) (hlen : a.size + s.size ≤ 140737488355328) (hB : B ≤ w.heap.size) :
    Calls Tryd.prog 14 #[.pointer (some ⟨b, 0, none⟩), .string s] w fun e w' => e = .returned (.tuple #[.int .i64 s.size, .nilIface]) ∧ BldI B b (a ++ s) w' ∧ Below B w w' ∧ Lib.OthersKept byteT (some b) w w' := by
  refine (Any.Builder_WriteString_k Tryd.lays166 Tryd.Builder_Extra_166 B b (Lib.byteCells (bs a)) s w h (by rw [Lib.byteCells_length, ← size_bs]; exact hlen) hB).mono ?_
  rintro e w' ⟨rfl, h1, h2, h3⟩
  refine ⟨rfl, ?_, h2, h3⟩
  rw [byteCells_bs] at h1
  exact .inr h1
theorem comma_calls {B b : Nat} {a : ByteArray} {w : World} (h : BldI B b a w) (hlen : a.size + 1 ≤ 140737488355328) (hB : B ≤ w.heap.size) :
    Calls Tryd.prog 18 #[.pointer (some ⟨b, 0, none⟩), .int .u8 44] w fun e w' => e = .returned .nilIface ∧ BldI B b (a ++ commaB) w' ∧ Below B w w' ∧ Lib.OthersKept byteT (some b) w w' := by
  refine (Any.Builder_WriteByte_k Tryd.lays167 Tryd.Builder_Extra_167 B b (Lib.byteCells (bs a)) 44 w h (by rw [Lib.byteCells_length, ← size_bs]; exact hlen) hB).mono ?_
  rintro e w' ⟨rfl, h1, h2, h3⟩
  refine ⟨rfl, ?_, h2, h3⟩
  rw [byteCells_comma] at h1
  exact .inr h1
theorem string_calls {B b : Nat} {a : ByteArray} {w : World} (h : BldI B b a w) (hB : B ≤ w.heap.size) :
    Calls Tryd.prog 22 #[.pointer (some ⟨b, 0, none⟩)] w fun e w' => e = .returned (.string a) ∧ Below B w w' := by
  refine (Tryd.Builder_String_any_k B b (bs a) w h hB).mono ?_
  rintro e w' ⟨rfl, _, h2, _⟩
  refine ⟨?_, h2⟩
  show Ending.returned (.string (mk (bs a))) = _
  rw [mk_bs]
theorem BldI.below {B b : Nat} {a : ByteArray} {w w' : World} (h : BldI B b a w) (hb : Below w.heap.size w w') : BldI B b a w' := by
  have key : ∀ p, Lib.BuilderAtF bldT byteT B b p (Lib.byteCells (bs a)) w → Lib.BuilderAtF bldT byteT B b p (Lib.byteCells (bs a)) w' := by
    intro p h
    have hlt := h.lt
    obtain ⟨hB, v, hbk, hown, hne⟩ := h
    exact ⟨hB, v, (hb.block _ hlt).trans hbk, hown.kept (row := none) ⟨hb.os, hb.tape, hb.output, hb.size, fun k hk _ => hb.block k hk⟩ (by cases hv : v.ownBlock <;> simp), hne⟩
  rcases h with h | h
  · exact .inl (key _ h)
  · exact .inr (key _ h)
theorem BldI.start (w : World) : BldI w.heap.size w.heap.size ⟨#[]⟩ (w.alloc (.cells #[.pointer none, .slice none 0 0] bldT)) := Lib.IsBuilderF.of (Lib.fresh_isBuilder bldT byteT w)
theorem LibAt.below {B : Nat} {w w' : World} (h : LibAt w) (hB : ∀ k, k ∈ libB → k < B) (hb : Below B w w') : LibAt w' := h.congr fun k hk => hb.block k (hB k hk)
theorem mk_append (a b : By) : mk a ++ mk b = mk (a ++ b) := by
  have : bs (mk a ++ mk b) = bs (mk (a ++ b)) := by rw [bs_append, bs_mk, bs_mk, bs_mk]
  rw [← mk_bs (mk a ++ mk b), this, mk_bs]
theorem app_nil (a : ByteArray) : a ++ mk [] = a := by
  have : bs (a ++ mk []) = bs a := by rw [bs_append, bs_mk, List.append_nil]
  rw [← mk_bs (a ++ mk []), this, mk_bs]
theorem ba_assoc (a b c : ByteArray) : a ++ b ++ c = a ++ (b ++ c) := ByteArray.append_assoc
end Go.Proofs.YthmhbmikcdfkcaaDoor
/-
  Layer 14's Print in plain terms: what a text with numbers in it is printed as; no program in this text.
-/
namespace Go.Proofs.YthmhbmikcdfkcaaDoor
open Go.RowKit
/-- One digit. -/
def digB (d : Nat) : UInt8 := if d < 10 then UInt8.ofNat (48 + d) else UInt8.ofNat (87 + d)
/-- A number, written to a base; g: at most so many digits. -/
def baseG (b : Nat) : Nat → Nat → By
  | 0, _ => []
  | g + 1, u => if u < b then [digB u] else baseG b g (u / b) ++ [digB (u % b)]
def baseB (b u : Nat) : By := baseG b 64 u
def lowN (n : Int) : Nat := (n % 4294967296).toNat
/-- What shows a number: d, i, e; u; x; o; c. -/
def showB (c : UInt8) (n : Int) : By :=
  if c = 117 then baseB 10 (lowN n) else if c = 120 then baseB 16 (lowN n) else if c = 111 then baseB 8 (lowN n) else if c = 99 then [UInt8.ofNat (n % 256).toNat] else Lib.itoa n
def isShow (c : UInt8) : Bool := c == 100 || (c == 105 || (c == 101 || (c == 117 || (c == 120 || (c == 111 || c == 99)))))
def printG : By → List Int → By
  | [], _ => []
  | [c], _ => [c]
  | c :: d :: r, l =>
    bif !(c == 37) then c :: printG (d :: r) l
    else bif d == 37 then 37 :: printG r l
    else bif isShow d then (match l with | [] => printG r [] | n :: l => showB d n ++ printG r l)
    else 37 :: d :: printG r l
def printP (t : ByteArray) (l : List Int) : ByteArray := mk (printG (bs t) l)
end Go.Proofs.YthmhbmikcdfkcaaDoor
/-
  Layer 14's Print: the closures that it calls.
-/
namespace Go.Proofs.YthmhbmikcdfkcaaDoor
open Go.RowKit
abbrev i64s : TypeId := 22
theorem BldI.above {B b : Nat} {a : ByteArray} {w w' : World} (h : BldI B b a w) (he : ∀ k, B ≤ k → w'.heap[k]? = w.heap[k]?) : BldI B b a w' := by
  have key : ∀ p, Lib.BuilderAtF bldT byteT B b p (Lib.byteCells (bs a)) w → Lib.BuilderAtF bldT byteT B b p (Lib.byteCells (bs a)) w' := by
    rintro p ⟨hB, v, hbk, hown, hne⟩
    refine ⟨hB, v, (he _ hB).trans hbk, ⟨hown.1, ?_⟩, hne⟩
    rcases hown.2 with hn | ⟨g, cap, cur, fz, rfl, hb, hgg, rest⟩
    · exact .inl hn
    · exact .inr ⟨g, cap, cur, fz, rfl, hb, (he _ hb).trans hgg, rest⟩
  rcases h with h | h
  · exact .inl (key _ h)
  · exact .inr (key _ h)
/-- Numbers that lie there. -/
def NumsAt (w : World) (a : Option Addr) (l : List Int) : Prop := 0 < l.length → ∃ bb off, a = some ⟨bb, off, none⟩ ∧ bb < w.heap.size ∧ ∀ i, i < l.length → w.cell? ⟨bb, off + i, none⟩ = some (.int .i64 (l.getD i 0))
structure PrI (w : World) (l : List Int) (T : ByteArray) (W : World) : Prop where
  ab : ∃ a cap, W.heap[w.heap.size]? = some (.cells #[.slice a l.length cap] i64s (0, 0)) ∧ l.length ≤ cap ∧ cap ≤ maxLen ∧ NumsAt w a l
  bd : BldI (w.heap.size + 1) (w.heap.size + 1) T W
  bw : Below w.heap.size w W
  sz : w.heap.size + 2 ≤ W.heap.size
theorem PrI.write {w : World} {l : List Int} {T x : ByteArray} {W W' : World} (h : PrI w l T W) (h1 : BldI (w.heap.size + 1) (w.heap.size + 1) (T ++ x) W') (h2 : Below (w.heap.size + 1) W W') : PrI w l (T ++ x) W' := by
  obtain ⟨a, cap, hb, r⟩ := h.ab
  exact ⟨⟨a, cap, (h2.block _ (Nat.lt_succ_self _)).trans hb, r⟩, h1, h.bw.trans (h2.mono (Nat.le_succ _)), Nat.le_trans h.sz h2.size⟩
theorem PrI.same {w : World} {l : List Int} {T : ByteArray} {W W' : World} (h : PrI w l T W) (h2 : Below W.heap.size W W') : PrI w l T W' := by
  obtain ⟨a, cap, hb, r⟩ := h.ab
  have := h.sz
  exact ⟨⟨a, cap, (h2.block _ (by omega)).trans hb, r⟩, h.bd.below h2, h.bw.trans (h2.mono h.bw.size), Nat.le_trans h.sz h2.size⟩
theorem cell_blkP {w : World} {b i : Nat} {cs : Array Value} {t : TypeId} {v : Value} (h : w.heap[b]? = some (.cells cs t (0, 0))) (hi : cs[i]? = some v) : w.cell? ⟨b, i, none⟩ = some v := by
  simp [World.cell?, h, hi]
/-! ### What shows a number -/
set_option maxRecDepth 100000 in
theorem show_d {n : Int} {W : World} (hL : LibAt W) (hn : I64 n) : Calls Tryd.prog 19 #[.int .i64 n] W fun e W' => e = .returned (.string (itoaB n)) ∧ Below W.heap.size W W' := by
  go_enter Tryd.func19, Tryd.ntmps19
  go_wp2_with fail
  refine (Tryd.strconv_FormatInt_10 n hn.1 hn.2 W hL.tab).mono ?_
  rintro e w' ⟨rfl, k, os, rfl⟩
  go_wp2
  go_ret
  exact ⟨rfl, Lib.below_grow _ W (Nat.le_refl _) k os⟩
set_option maxRecDepth 100000 in
theorem show_c {n : Int} {W : World} : Calls Tryd.prog 21 #[.int .i64 n] W fun e W' => e = .returned (.string (mk [UInt8.ofNat (n % 256).toNat])) ∧ Below W.heap.size W W' := by
  go_enter Tryd.func21, Tryd.ntmps21
  go_wp2_with fail
  have hcv : (convert 70 9 (.slice (some ⟨W.heap.size, 0, none⟩) 1 1)).run Tryd.prog (W.alloc (Obj.cells #[Value.int IntKind.u8 (n % 256)] 5)) = .ok (.string (mk [UInt8.ofNat (n % 256).toNat])) (W.alloc (Obj.cells #[Value.int IntKind.u8 (n % 256)] 5)) := run_convert_bytes_back (P := Tryd.prog) (W.alloc (Obj.cells #[Value.int IntKind.u8 (n % 256)] byteT)) 70 9 byteT ⟨W.heap.size, 0, none⟩ 1 [UInt8.ofNat (n % 256).toNat] Tryd.underlying70 Tryd.underlying5 Tryd.underlying9 (fun j hj => by
    obtain rfl : j = 0 := by simpa using hj
    have e : ((UInt8.ofNat (n % 256).toNat).toNat : Int) = n % 256 := by
      rw [UInt8.toNat_ofNat']; omega
    show World.cell? _ ⟨W.heap.size, 0 + 0, none⟩ = some (.int .u8 (((UInt8.ofNat (n % 256).toNat).toNat : Nat) : Int))
    rw [e]
    exact cell_blkP (heap_alloc_new _ _) rfl)
  rw [hcv]
  go_wp2
  go_ret
  exact ⟨rfl, (Below.refl _ _).alloc (Nat.le_refl _) _⟩
/-- A number is written to a base. -/
def FmtU (b : Nat) : Prop := ∀ (u : Nat) (W : World), u < 4294967296 → LibAt W → Calls Tryd.prog 17 #[.int .u64 u, .int .i64 b] W fun e W' => e = .returned (.string (mk (baseB b u))) ∧ Below W.heap.size W W'
set_option maxRecDepth 100000 in
theorem show_u {n : Int} {b kb : Nat} {W : World} (hU : FmtU b) (hL : LibAt W) (hk : W.heap[kb]? = some (.cells #[.int .i64 b] 3 (0, 0))) : Calls Tryd.prog 16 #[.int .i64 n, .pointer (some ⟨kb, 0, none⟩)] W fun e W' => e = .returned (.string (mk (baseB b (lowN n)))) ∧ Below W.heap.size W W' := by
  have s0 := cell_blkP (i := 0) (v := .int .i64 b) hk rfl
  have hl : ((lowN n : Nat) : Int) = n % 4294967296 := by unfold lowN; omega
  have hU' := hU (lowN n) W (by unfold lowN; omega) hL
  rw [hl] at hU'
  go_enter Tryd.func16, Tryd.ntmps16
  go_wp2_with fail
  refine hU'.mono ?_
  rintro e w' ⟨rfl, hb⟩
  go_wp2
  go_ret
  exact ⟨rfl, hb⟩
theorem PrI.step {w W : World} {n : Int} {l : List Int} {T : ByteArray} (h : PrI w (n :: l) T W) (bb off cap len : Nat) (hl : len = l.length) (hcap : len ≤ cap ∧ cap ≤ maxLen ∨ len = 0 ∧ cap ≤ maxLen) (hlt : bb < w.heap.size) (hc : ∀ i, i < l.length → w.cell? ⟨bb, off + i, none⟩ = some (.int .i64 (l.getD i 0))) : PrI w l T (W.setCell ⟨w.heap.size, 0, none⟩ (.slice (some ⟨bb, off, none⟩) len cap)) := by
  obtain ⟨a, c, hb, _⟩ := h.ab
  subst hl
  refine ⟨⟨some ⟨bb, off, none⟩, cap, blk_set hb _, by omega, by omega, fun _ => ⟨bb, off, rfl, hlt, hc⟩⟩, h.bd.above fun k hk => Below.heap_setCell _ _ _ _ (by show k ≠ w.heap.size; omega), h.bw.setCell (Nat.le_refl _) _, by simpa using h.sz⟩
/-! ### The next number is shown -/
theorem baseG_len {b : Nat} : ∀ {g u : Nat}, (baseG b g u).length ≤ g
  | 0, _ => Nat.le_refl _
  | g + 1, u => by
    unfold baseG
    split
    · simp
    · have := baseG_len (b := b) (g := g) (u := u / b)
      simp; omega
theorem size_show {c : UInt8} {n : Int} (hn : I64 n) : (mk (showB c n)).size ≤ 64 := by
  rw [size_mk]
  unfold showB
  split
  · exact baseG_len
  split
  · exact baseG_len
  split
  · exact baseG_len
  split
  · simp
  · have := Lib.itoa_length_le n hn.1 hn.2; omega
set_option maxRecDepth 100000 in
theorem next_d {w W : World} {l : List Int} {T : ByteArray} (hL : LibAt w) (hlB : ∀ k, k ∈ libB → k < w.heap.size) (h : PrI w l T W) (hI : ∀ n ∈ l, I64 n) (hT : T.size ≤ 70368744177664) :
    Calls Tryd.prog 13 #[.func (Fn.func 19) #[] #[], .pointer (some ⟨w.heap.size, 0, none⟩), .pointer (some ⟨w.heap.size + 1, 0, none⟩)] W fun e W' => (∃ v, e = .returned v) ∧ PrI w l.tail (T ++ mk ((l.take 1).flatMap (showB 100))) W' ∧ W.heap.size ≤ W'.heap.size := by
  have hz := h.sz
  go_enter Tryd.func13, Tryd.ntmps13
  rcases l with _ | ⟨n, l⟩
  · obtain ⟨a, cap, hb, hcap, hmax, ha⟩ := h.ab
    have s0 := cell_blkP (i := 0) (v := .slice a 0 cap) hb rfl
    go_wp2
    go_end0
    refine ⟨⟨_, rfl⟩, ?_, Nat.le_refl _⟩
    show PrI w [] (T ++ mk []) W
    rw [app_nil]; exact h
  · obtain ⟨a, cap, hb, hcap, hmax, ha⟩ := h.ab
    have s0 := cell_blkP (i := 0) (v := .slice a (l.length + 1) cap) hb rfl
    obtain ⟨bb, off, rfl, hlt, hc⟩ := ha (by simp)
    have c0 : W.cell? ⟨bb, off, none⟩ = some (.int .i64 n) := (h.bw.cell hlt).trans (hc 0 (by simp))
    have hn := hI n (List.mem_cons_self ..)
    go_wp2_with fail
    refine (show_d (hL.below hlB h.bw) hn).mono ?_
    rintro e W1 ⟨rfl, hb1⟩
    have h1 := h.same hb1
    have z1 : (mk (showB 100 n)).size ≤ 64 := size_show hn
    have hs1 := hb1.size
    go_wp2_with fail
    refine (write_calls (s := mk (showB 100 n)) h1.bd (by omega) (by have := h1.sz; omega)).mono ?_
    rintro e W2 ⟨rfl, k1, k2, k3⟩
    have h2 := h1.write k1 k2
    have hs2 := k2.size
    obtain ⟨a2, cap2, hb2, hcap2, hmax2, ha2⟩ := h2.ab
    have s2 := cell_blkP (i := 0) (v := .slice a2 (l.length + 1) cap2) hb2 rfl
    have f2 : W2.frozen? ⟨w.heap.size, 0, none⟩ = false := by simp [World.frozen?, hb2]
    obtain ⟨bb2, off2, rfl, hlt2, hc2⟩ := ha2 (by simp)
    have hcap3 : l.length + 1 ≤ cap2 := hcap2
    have htxt : mk (((n :: l).take 1).flatMap (showB 100)) = mk (showB 100 n) := by simp
    clear htxt
    go_wp2
    all_goals
      go_end0
      refine ⟨⟨_, rfl⟩, ?_, by simp; omega⟩
      first
        | exact h2.step _ _ _ _ rfl (by omega) hlt2 fun i hi => by have := hc2 (i + 1) (by simp; omega); rw [show off2 + 1 + i = off2 + (i + 1) by omega]; simpa using this
        | exact h2.step _ _ _ _ rfl (by omega) hlt2 fun i hi => by omega
set_option maxRecDepth 100000 in
theorem next_c {w W : World} {l : List Int} {T : ByteArray} (h : PrI w l T W) (hI : ∀ n ∈ l, I64 n) (hT : T.size ≤ 70368744177664) :
    Calls Tryd.prog 13 #[.func (Fn.func 21) #[] #[], .pointer (some ⟨w.heap.size, 0, none⟩), .pointer (some ⟨w.heap.size + 1, 0, none⟩)] W fun e W' => (∃ v, e = .returned v) ∧ PrI w l.tail (T ++ mk ((l.take 1).flatMap (showB 99))) W' ∧ W.heap.size ≤ W'.heap.size := by
  have hz := h.sz
  go_enter Tryd.func13, Tryd.ntmps13
  rcases l with _ | ⟨n, l⟩
  · obtain ⟨a, cap, hb, hcap, hmax, ha⟩ := h.ab
    have s0 := cell_blkP (i := 0) (v := .slice a 0 cap) hb rfl
    go_wp2
    go_end0
    refine ⟨⟨_, rfl⟩, ?_, Nat.le_refl _⟩
    show PrI w [] (T ++ mk []) W
    rw [app_nil]; exact h
  · obtain ⟨a, cap, hb, hcap, hmax, ha⟩ := h.ab
    have s0 := cell_blkP (i := 0) (v := .slice a (l.length + 1) cap) hb rfl
    obtain ⟨bb, off, rfl, hlt, hc⟩ := ha (by simp)
    have c0 : W.cell? ⟨bb, off, none⟩ = some (.int .i64 n) := (h.bw.cell hlt).trans (hc 0 (by simp))
    have hn := hI n (List.mem_cons_self ..)
    go_wp2_with fail
    refine (show_c).mono ?_
    rintro e W1 ⟨rfl, hb1⟩
    have h1 := h.same hb1
    have z1 : (mk (showB 99 n)).size ≤ 64 := size_show hn
    have hs1 := hb1.size
    go_wp2_with fail
    refine (write_calls (s := mk (showB 99 n)) h1.bd (by omega) (by have := h1.sz; omega)).mono ?_
    rintro e W2 ⟨rfl, k1, k2, k3⟩
    have h2 := h1.write k1 k2
    have hs2 := k2.size
    obtain ⟨a2, cap2, hb2, hcap2, hmax2, ha2⟩ := h2.ab
    have s2 := cell_blkP (i := 0) (v := .slice a2 (l.length + 1) cap2) hb2 rfl
    have f2 : W2.frozen? ⟨w.heap.size, 0, none⟩ = false := by simp [World.frozen?, hb2]
    obtain ⟨bb2, off2, rfl, hlt2, hc2⟩ := ha2 (by simp)
    have hcap3 : l.length + 1 ≤ cap2 := hcap2
    have htxt : mk (((n :: l).take 1).flatMap (showB 99)) = mk (showB 99 n) := by simp
    clear htxt
    go_wp2
    all_goals
      go_end0
      refine ⟨⟨_, rfl⟩, ?_, by simp; omega⟩
      first
        | exact h2.step _ _ _ _ rfl (by omega) hlt2 fun i hi => by have := hc2 (i + 1) (by simp; omega); rw [show off2 + 1 + i = off2 + (i + 1) by omega]; simpa using this
        | exact h2.step _ _ _ _ rfl (by omega) hlt2 fun i hi => by omega
set_option maxRecDepth 100000 in
theorem next_u {w W : World} {l : List Int} {T : ByteArray} {kb : Nat} (hU : FmtU 10) (hk : W.heap[kb]? = some (.cells #[.int .i64 10] 3 (0, 0))) (hL : LibAt w) (hlB : ∀ k, k ∈ libB → k < w.heap.size) (h : PrI w l T W) (hI : ∀ n ∈ l, I64 n) (hT : T.size ≤ 70368744177664) :
    Calls Tryd.prog 13 #[.func (Fn.func 16) #[] #[.pointer (some ⟨kb, 0, none⟩)], .pointer (some ⟨w.heap.size, 0, none⟩), .pointer (some ⟨w.heap.size + 1, 0, none⟩)] W fun e W' => (∃ v, e = .returned v) ∧ PrI w l.tail (T ++ mk ((l.take 1).flatMap (showB 117))) W' ∧ W.heap.size ≤ W'.heap.size := by
  have hz := h.sz
  go_enter Tryd.func13, Tryd.ntmps13
  rcases l with _ | ⟨n, l⟩
  · obtain ⟨a, cap, hb, hcap, hmax, ha⟩ := h.ab
    have s0 := cell_blkP (i := 0) (v := .slice a 0 cap) hb rfl
    go_wp2
    go_end0
    refine ⟨⟨_, rfl⟩, ?_, Nat.le_refl _⟩
    show PrI w [] (T ++ mk []) W
    rw [app_nil]; exact h
  · obtain ⟨a, cap, hb, hcap, hmax, ha⟩ := h.ab
    have s0 := cell_blkP (i := 0) (v := .slice a (l.length + 1) cap) hb rfl
    obtain ⟨bb, off, rfl, hlt, hc⟩ := ha (by simp)
    have c0 : W.cell? ⟨bb, off, none⟩ = some (.int .i64 n) := (h.bw.cell hlt).trans (hc 0 (by simp))
    have hn := hI n (List.mem_cons_self ..)
    go_wp2_with fail
    refine (show_u hU (hL.below hlB h.bw) hk).mono ?_
    rintro e W1 ⟨rfl, hb1⟩
    have h1 := h.same hb1
    have z1 : (mk (showB 117 n)).size ≤ 64 := size_show hn
    have hs1 := hb1.size
    go_wp2_with fail
    refine (write_calls (s := mk (showB 117 n)) h1.bd (by omega) (by have := h1.sz; omega)).mono ?_
    rintro e W2 ⟨rfl, k1, k2, k3⟩
    have h2 := h1.write k1 k2
    have hs2 := k2.size
    obtain ⟨a2, cap2, hb2, hcap2, hmax2, ha2⟩ := h2.ab
    have s2 := cell_blkP (i := 0) (v := .slice a2 (l.length + 1) cap2) hb2 rfl
    have f2 : W2.frozen? ⟨w.heap.size, 0, none⟩ = false := by simp [World.frozen?, hb2]
    obtain ⟨bb2, off2, rfl, hlt2, hc2⟩ := ha2 (by simp)
    have hcap3 : l.length + 1 ≤ cap2 := hcap2
    have htxt : mk (((n :: l).take 1).flatMap (showB 117)) = mk (showB 117 n) := by simp
    clear htxt
    go_wp2
    all_goals
      go_end0
      refine ⟨⟨_, rfl⟩, ?_, by simp; omega⟩
      first
        | exact h2.step _ _ _ _ rfl (by omega) hlt2 fun i hi => by have := hc2 (i + 1) (by simp; omega); rw [show off2 + 1 + i = off2 + (i + 1) by omega]; simpa using this
        | exact h2.step _ _ _ _ rfl (by omega) hlt2 fun i hi => by omega
set_option maxRecDepth 100000 in
theorem next_x {w W : World} {l : List Int} {T : ByteArray} {kb : Nat} (hU : FmtU 16) (hk : W.heap[kb]? = some (.cells #[.int .i64 16] 3 (0, 0))) (hL : LibAt w) (hlB : ∀ k, k ∈ libB → k < w.heap.size) (h : PrI w l T W) (hI : ∀ n ∈ l, I64 n) (hT : T.size ≤ 70368744177664) :
    Calls Tryd.prog 13 #[.func (Fn.func 16) #[] #[.pointer (some ⟨kb, 0, none⟩)], .pointer (some ⟨w.heap.size, 0, none⟩), .pointer (some ⟨w.heap.size + 1, 0, none⟩)] W fun e W' => (∃ v, e = .returned v) ∧ PrI w l.tail (T ++ mk ((l.take 1).flatMap (showB 120))) W' ∧ W.heap.size ≤ W'.heap.size := by
  have hz := h.sz
  go_enter Tryd.func13, Tryd.ntmps13
  rcases l with _ | ⟨n, l⟩
  · obtain ⟨a, cap, hb, hcap, hmax, ha⟩ := h.ab
    have s0 := cell_blkP (i := 0) (v := .slice a 0 cap) hb rfl
    go_wp2
    go_end0
    refine ⟨⟨_, rfl⟩, ?_, Nat.le_refl _⟩
    show PrI w [] (T ++ mk []) W
    rw [app_nil]; exact h
  · obtain ⟨a, cap, hb, hcap, hmax, ha⟩ := h.ab
    have s0 := cell_blkP (i := 0) (v := .slice a (l.length + 1) cap) hb rfl
    obtain ⟨bb, off, rfl, hlt, hc⟩ := ha (by simp)
    have c0 : W.cell? ⟨bb, off, none⟩ = some (.int .i64 n) := (h.bw.cell hlt).trans (hc 0 (by simp))
    have hn := hI n (List.mem_cons_self ..)
    go_wp2_with fail
    refine (show_u hU (hL.below hlB h.bw) hk).mono ?_
    rintro e W1 ⟨rfl, hb1⟩
    have h1 := h.same hb1
    have z1 : (mk (showB 120 n)).size ≤ 64 := size_show hn
    have hs1 := hb1.size
    go_wp2_with fail
    refine (write_calls (s := mk (showB 120 n)) h1.bd (by omega) (by have := h1.sz; omega)).mono ?_
    rintro e W2 ⟨rfl, k1, k2, k3⟩
    have h2 := h1.write k1 k2
    have hs2 := k2.size
    obtain ⟨a2, cap2, hb2, hcap2, hmax2, ha2⟩ := h2.ab
    have s2 := cell_blkP (i := 0) (v := .slice a2 (l.length + 1) cap2) hb2 rfl
    have f2 : W2.frozen? ⟨w.heap.size, 0, none⟩ = false := by simp [World.frozen?, hb2]
    obtain ⟨bb2, off2, rfl, hlt2, hc2⟩ := ha2 (by simp)
    have hcap3 : l.length + 1 ≤ cap2 := hcap2
    have htxt : mk (((n :: l).take 1).flatMap (showB 120)) = mk (showB 120 n) := by simp
    clear htxt
    go_wp2
    all_goals
      go_end0
      refine ⟨⟨_, rfl⟩, ?_, by simp; omega⟩
      first
        | exact h2.step _ _ _ _ rfl (by omega) hlt2 fun i hi => by have := hc2 (i + 1) (by simp; omega); rw [show off2 + 1 + i = off2 + (i + 1) by omega]; simpa using this
        | exact h2.step _ _ _ _ rfl (by omega) hlt2 fun i hi => by omega
set_option maxRecDepth 100000 in
theorem next_o {w W : World} {l : List Int} {T : ByteArray} {kb : Nat} (hU : FmtU 8) (hk : W.heap[kb]? = some (.cells #[.int .i64 8] 3 (0, 0))) (hL : LibAt w) (hlB : ∀ k, k ∈ libB → k < w.heap.size) (h : PrI w l T W) (hI : ∀ n ∈ l, I64 n) (hT : T.size ≤ 70368744177664) :
    Calls Tryd.prog 13 #[.func (Fn.func 16) #[] #[.pointer (some ⟨kb, 0, none⟩)], .pointer (some ⟨w.heap.size, 0, none⟩), .pointer (some ⟨w.heap.size + 1, 0, none⟩)] W fun e W' => (∃ v, e = .returned v) ∧ PrI w l.tail (T ++ mk ((l.take 1).flatMap (showB 111))) W' ∧ W.heap.size ≤ W'.heap.size := by
  have hz := h.sz
  go_enter Tryd.func13, Tryd.ntmps13
  rcases l with _ | ⟨n, l⟩
  · obtain ⟨a, cap, hb, hcap, hmax, ha⟩ := h.ab
    have s0 := cell_blkP (i := 0) (v := .slice a 0 cap) hb rfl
    go_wp2
    go_end0
    refine ⟨⟨_, rfl⟩, ?_, Nat.le_refl _⟩
    show PrI w [] (T ++ mk []) W
    rw [app_nil]; exact h
  · obtain ⟨a, cap, hb, hcap, hmax, ha⟩ := h.ab
    have s0 := cell_blkP (i := 0) (v := .slice a (l.length + 1) cap) hb rfl
    obtain ⟨bb, off, rfl, hlt, hc⟩ := ha (by simp)
    have c0 : W.cell? ⟨bb, off, none⟩ = some (.int .i64 n) := (h.bw.cell hlt).trans (hc 0 (by simp))
    have hn := hI n (List.mem_cons_self ..)
    go_wp2_with fail
    refine (show_u hU (hL.below hlB h.bw) hk).mono ?_
    rintro e W1 ⟨rfl, hb1⟩
    have h1 := h.same hb1
    have z1 : (mk (showB 111 n)).size ≤ 64 := size_show hn
    have hs1 := hb1.size
    go_wp2_with fail
    refine (write_calls (s := mk (showB 111 n)) h1.bd (by omega) (by have := h1.sz; omega)).mono ?_
    rintro e W2 ⟨rfl, k1, k2, k3⟩
    have h2 := h1.write k1 k2
    have hs2 := k2.size
    obtain ⟨a2, cap2, hb2, hcap2, hmax2, ha2⟩ := h2.ab
    have s2 := cell_blkP (i := 0) (v := .slice a2 (l.length + 1) cap2) hb2 rfl
    have f2 : W2.frozen? ⟨w.heap.size, 0, none⟩ = false := by simp [World.frozen?, hb2]
    obtain ⟨bb2, off2, rfl, hlt2, hc2⟩ := ha2 (by simp)
    have hcap3 : l.length + 1 ≤ cap2 := hcap2
    have htxt : mk (((n :: l).take 1).flatMap (showB 111)) = mk (showB 111 n) := by simp
    clear htxt
    go_wp2
    all_goals
      go_end0
      refine ⟨⟨_, rfl⟩, ?_, by simp; omega⟩
      first
        | exact h2.step _ _ _ _ rfl (by omega) hlt2 fun i hi => by have := hc2 (i + 1) (by simp; omega); rw [show off2 + 1 + i = off2 + (i + 1) by omega]; simpa using this
        | exact h2.step _ _ _ _ rfl (by omega) hlt2 fun i hi => by omega
end Go.Proofs.YthmhbmikcdfkcaaDoor
/-
  Layer 14's Print: the walk.
-/
namespace Go.Proofs.YthmhbmikcdfkcaaDoor
open Go.RowKit
theorem PrI.start {w : World} {l : List Int} {a : Option Addr} {cap : Nat} (h1 : l.length ≤ cap) (h2 : cap ≤ maxLen) (h : NumsAt w a l) : PrI w l (Go.Proofs.YthmhbmikcdfkcaaDoor.mk []) ((w.alloc (.cells #[.slice a l.length cap] i64s)).alloc (.cells #[.pointer none, .slice none 0 0] bldT)) := by
  refine ⟨⟨a, cap, ?_, h1, h2, h⟩, ?_, ?_, by simp⟩
  · rw [Below.heap_alloc _ _ _ (by simp)]; exact heap_alloc_new _ _
  · have := BldI.start (w.alloc (.cells #[.slice a l.length cap] i64s))
    rw [show (w.alloc (.cells #[.slice a l.length cap] i64s)).heap.size = w.heap.size + 1 by simp] at this
    exact this
  · exact ((Below.refl _ w).alloc (Nat.le_refl _) _).alloc (by simp) _
theorem byteCells_one (a : ByteArray) (c : UInt8) : Lib.byteCells (bs a) ++ [.int .u8 (c.toNat : Int)] = Lib.byteCells (bs (a ++ mk [c])) := by
  rw [bs_append]
  simp [Lib.byteCells, bs_mk]
theorem byte_calls {B b : Nat} {a : ByteArray} {w : World} {c : UInt8} {n : Int} (hn : n = (c.toNat : Int)) (h : BldI B b a w) (hlen : a.size + 1 ≤ 140737488355328) (hB : B ≤ w.heap.size) :
    Calls Tryd.prog 18 #[.pointer (some ⟨b, 0, none⟩), .int .u8 n] w fun e w' => e = .returned .nilIface ∧ BldI B b (a ++ mk [c]) w' ∧ Below B w w' := by
  subst hn
  refine (Any.Builder_WriteByte_k Tryd.lays167 Tryd.Builder_Extra_167 B b (Lib.byteCells (bs a)) (c.toNat : Int) w h (by rw [Lib.byteCells_length, ← size_bs]; exact hlen) hB).mono ?_
  rintro e w' ⟨rfl, h1, h2, h3⟩
  refine ⟨rfl, ?_, h2⟩
  rw [byteCells_one] at h1
  exact .inr h1
theorem pr_byte {w : World} {l : List Int} {T : ByteArray} {W W' : World} {c : UInt8} (h : PrI w l T W) (h1 : BldI (w.heap.size + 1) (w.heap.size + 1) (T ++ mk [c]) W') (h2 : Below (w.heap.size + 1) W W') : PrI w l (T ++ mk [c]) W' := h.write h1 h2
/-! ### What is printed -/
theorem ne_beq {c : UInt8} (h : c.toNat ≠ 37) : (c == 37) = false := by
  rw [beq_eq_false_iff_ne]; rintro rfl; exact h rfl
theorem eq_37 {c : UInt8} (h : c.toNat = 37) : c = 37 := UInt8.toNat_inj.1 h
theorem pg_plain {c : UInt8} {L : By} {l : List Int} (h : c.toNat ≠ 37 ∨ L = []) : printG (c :: L) l = c :: printG L l := by
  cases L with
  | nil => rfl
  | cons d r =>
    rcases h with h | h
    · simp only [printG, ne_beq h, Bool.not_false, cond_true]
    · cases h
theorem pg_pp {r : By} {l : List Int} : printG (37 :: 37 :: r) l = 37 :: printG r l := rfl
theorem pg_show {d : UInt8} {r : By} {l : List Int} (h1 : d.toNat ≠ 37) (h2 : isShow d = true) : printG (37 :: d :: r) l = (l.take 1).flatMap (showB d) ++ printG r l.tail := by
  have e : printG (37 :: d :: r) l = bif d == 37 then 37 :: printG r l else bif isShow d then (match l with | [] => printG r [] | n :: l => showB d n ++ printG r l) else 37 :: d :: printG r l := rfl
  rw [e, ne_beq h1, h2, cond_false, cond_true]
  cases l with
  | nil => rfl
  | cons n l => simp
theorem pg_other {d : UInt8} {r : By} {l : List Int} (h1 : d.toNat ≠ 37) (h2 : isShow d = false) : printG (37 :: d :: r) l = 37 :: d :: printG r l := by
  have e : printG (37 :: d :: r) l = bif d == 37 then 37 :: printG r l else bif isShow d then (match l with | [] => printG r [] | n :: l => showB d n ++ printG r l) else 37 :: d :: printG r l := rfl
  rw [e, ne_beq h1, h2]; rfl
theorem app_cons (T : ByteArray) (c : UInt8) (r : By) : T ++ mk (c :: r) = T ++ mk [c] ++ mk r := by rw [ba_assoc, mk_append]; rfl
theorem app_two (T : ByteArray) (a r : By) : T ++ mk (a ++ r) = T ++ mk a ++ mk r := by rw [ba_assoc, mk_append]
theorem size_one (T : ByteArray) (c : UInt8) : (T ++ mk [c]).size = T.size + 1 := by rw [ByteArray.size_append, size_mk]; rfl
theorem size_next {T : ByteArray} {c : UInt8} {l : List Int} (hI : ∀ n ∈ l, I64 n) : (T ++ mk ((l.take 1).flatMap (showB c))).size ≤ T.size + 64 := by
  rw [ByteArray.size_append]
  cases l with
  | nil => simp [size_mk]
  | cons n l =>
    have := size_show (c := c) (hI n (List.mem_cons_self ..))
    simp only [List.take_succ_cons, List.take_zero, List.flatMap_cons, List.flatMap_nil, List.append_nil]
    omega
theorem show_cases {c : UInt8} (h : isShow c = true) : c.toNat = 100 ∨ c.toNat = 105 ∨ c.toNat = 101 ∨ c.toNat = 117 ∨ c.toNat = 120 ∨ c.toNat = 111 ∨ c.toNat = 99 := by
  simp only [isShow, Bool.or_eq_true, beq_iff_eq] at h
  rcases h with rfl | rfl | rfl | rfl | rfl | rfl | rfl <;> simp
theorem show_none {c : UInt8} (h : isShow c = false) : c.toNat ≠ 100 ∧ c.toNat ≠ 105 ∧ c.toNat ≠ 101 ∧ c.toNat ≠ 117 ∧ c.toNat ≠ 120 ∧ c.toNat ≠ 111 ∧ c.toNat ≠ 99 := by
  simp only [isShow, Bool.or_eq_false_iff, beq_eq_false_iff_ne] at h
  obtain ⟨h1, h2, h3, h4, h5, h6, h7⟩ := h
  refine ⟨fun e => h1 ?_, fun e => h2 ?_, fun e => h3 ?_, fun e => h4 ?_, fun e => h5 ?_, fun e => h6 ?_, fun e => h7 ?_⟩ <;> exact UInt8.toNat_inj.1 e
theorem show_105 : showB 105 = showB 100 := by funext n; simp [showB]
theorem show_101 : showB 101 = showB 100 := by funext n; simp [showB]
theorem plain_calls {W : World} {b : Nat} : Calls Tryd.prog 15 #[.int .i64 b] W fun e W' => e = .returned (.func (Fn.func 16) #[] #[.pointer (some ⟨W.heap.size, 0, none⟩)]) ∧ W' = W.alloc (.cells #[.int .i64 b] 3) := by
  go_enter Tryd.func15, Tryd.ntmps15
  go_wp2
  go_ret
  exact ⟨rfl, rfl⟩
theorem drop_bs {t : ByteArray} {k : Nat} (h : k < t.size) : (bs t).drop k = t[k]'h :: (bs t).drop (k + 1) := by
  have hl : k < (bs t).length := by rw [← size_bs]; exact h
  exact List.drop_eq_getElem_cons hl
set_option maxRecDepth 100000 in
set_option maxHeartbeats 4000000 in
theorem print_calls {w : World} {t : ByteArray} {l : List Int} {a : Option Addr} {cap : Nat} (hL : LibAt w) (hlB : ∀ k, k ∈ libB → k < w.heap.size) (h1 : l.length ≤ cap) (h2 : cap ≤ maxLen) (ha : NumsAt w a l) (hI : ∀ n ∈ l, I64 n) (ht : t.size ≤ 1099511627776)
    (hU : (∃ c ∈ bs t, c = 117 ∨ c = 120 ∨ c = 111) → FmtU 10 ∧ FmtU 16 ∧ FmtU 8) :
    Calls Tryd.prog 6 #[.string t, .slice a l.length cap] w fun e w' => e = .returned (.string (printP t l)) ∧ Below w.heap.size w w' := by
  have hst := PrI.start h1 h2 ha
  clear ha h1 h2
  go_enter Tryd.func6, Tryd.ntmps6
  go_wp2_with fail
  generalize ((w.alloc (.cells #[.slice a l.length cap] i64s)).alloc (.cells #[.pointer none, .slice none 0 0] bldT)) = W at hst
  go_loopw [8] (fun i wr => ∃ (k : Nat) (rest : List Int) (T : ByteArray), k ≤ t.size ∧ i = .int .i64 k ∧ PrI w rest T wr ∧ T ++ mk (printG ((bs t).drop k) rest) = printP t l ∧ T.size ≤ 64 * k ∧ ∀ n ∈ rest, I64 n) (fun i _ => t.size - (intOf i).toNat)
  case atStart => exact ⟨0, l, mk [], Nat.zero_le _, rfl, hst, by unfold printP; rw [mk_append]; rfl, by simp [size_mk], hI⟩
  case round =>
    clear hst hI
    obtain ⟨k, rest, T, hk, rfl, hp, heq, hT, hI⟩ := hrel
    by_cases hlt : k < t.size
    · have hdk := drop_bs hlt
      rw [hdk] at heq
      have hz := hp.sz
      by_cases hA : (t[k]'hlt).toNat ≠ 37 ∨ k + 1 = t.size
      · have hpg : printG ((t[k]'hlt) :: (bs t).drop (k + 1)) rest = (t[k]'hlt) :: printG ((bs t).drop (k + 1)) rest := pg_plain (hA.imp id fun h => List.drop_of_length_le (by rw [← size_bs]; omega))
        rw [hpg, app_cons] at heq
        clear hpg hdk
        by_cases hc : (t[k]'hlt).toNat = 37
        · have hk1 : k + 1 = t.size := by omega
          go_wp2_with fail
          refine (byte_calls (c := t[k]'hlt) (by rw [hc]; rfl) hp.bd (by omega) (by omega)).mono ?_
          rintro e W2 ⟨rfl, k1, k2⟩
          have hp2 := pr_byte hp k1 k2
          have hs := size_one T (t[k]'hlt)
          go_wp2
          go_roundw
          case rel => exact ⟨k + 1, rest, _, by omega, by go_num, hp2, heq, by omega, hI⟩
          case measure => simp [intOf]; omega
        · go_wp2_with fail
          refine (byte_calls (c := t[k]'hlt) rfl hp.bd (by omega) (by omega)).mono ?_
          rintro e W2 ⟨rfl, k1, k2⟩
          have hp2 := pr_byte hp k1 k2
          have hs := size_one T (t[k]'hlt)
          go_wp2
          go_roundw
          case rel => exact ⟨k + 1, rest, _, by omega, by go_num, hp2, heq, by omega, hI⟩
          case measure => simp [intOf]; omega
      · have hc : (t[k]'hlt).toNat = 37 := by omega
        have hk1 : k + 1 < t.size := by omega
        have hk2 : ¬ k + 1 = t.size := by omega
        have hdk2 := drop_bs hk1
        rw [eq_37 hc, hdk2] at heq
        clear hA hdk
        by_cases h37 : (t[k + 1]'hk1).toNat = 37
        · rw [eq_37 h37, pg_pp, app_cons] at heq
          go_wp2_with fail
          refine (byte_calls (c := 37) rfl hp.bd (by omega) (by omega)).mono ?_
          rintro e W2 ⟨rfl, k1, k2⟩
          have hp2 := pr_byte hp k1 k2
          have hs := size_one T 37
          go_wp2
          go_roundw
          case rel => exact ⟨k + 2, rest, _, by omega, by go_num, hp2, heq, by omega, hI⟩
          case measure => simp [intOf]; omega
        · by_cases hsh : isShow (t[k + 1]'hk1) = true
          · rw [pg_show h37 hsh, app_two] at heq
            have hsz := size_next (T := T) (c := t[k + 1]'hk1) hI
            have hmem : t[k + 1]'hk1 ∈ bs t := Array.getElem_mem_toList _
            rcases show_cases hsh with hd | hd | hd | hd | hd | hd | hd
            · rw [show t[k + 1]'hk1 = 100 from UInt8.toNat_inj.1 hd] at heq hsz
              go_wp2_with fail
              refine (next_d hL hlB hp hI (by omega)).mono ?_
              rintro e W2 ⟨⟨v, rfl⟩, hp2, _⟩
              go_wp2
              go_roundw
              case rel => exact ⟨k + 2, rest.tail, _, by omega, by go_num, hp2, heq, by omega, fun n h => hI n (List.mem_of_mem_tail h)⟩
              case measure => simp [intOf]; omega
            · rw [show t[k + 1]'hk1 = 105 from UInt8.toNat_inj.1 hd, show_105] at heq hsz
              go_wp2_with fail
              refine (next_d hL hlB hp hI (by omega)).mono ?_
              rintro e W2 ⟨⟨v, rfl⟩, hp2, _⟩
              go_wp2
              go_roundw
              case rel => exact ⟨k + 2, rest.tail, _, by omega, by go_num, hp2, heq, by omega, fun n h => hI n (List.mem_of_mem_tail h)⟩
              case measure => simp [intOf]; omega
            · rw [show t[k + 1]'hk1 = 101 from UInt8.toNat_inj.1 hd, show_101] at heq hsz
              go_wp2_with fail
              refine (next_d hL hlB hp hI (by omega)).mono ?_
              rintro e W2 ⟨⟨v, rfl⟩, hp2, _⟩
              go_wp2
              go_roundw
              case rel => exact ⟨k + 2, rest.tail, _, by omega, by go_num, hp2, heq, by omega, fun n h => hI n (List.mem_of_mem_tail h)⟩
              case measure => simp [intOf]; omega
            · have hq := And.left (hU ⟨_, hmem, by simp [show t[k + 1]'hk1 = 117 from UInt8.toNat_inj.1 hd]⟩)
              rw [show t[k + 1]'hk1 = 117 from UInt8.toNat_inj.1 hd] at heq hsz
              go_wp2_with fail
              refine (plain_calls (b := 10)).mono ?_
              rintro e W1 ⟨rfl, rfl⟩
              have hp1 := hp.same ((Below.refl _ _).alloc (Nat.le_refl _) (.cells #[.int .i64 10] 3))
              go_wp2_with fail
              refine (next_u hq (heap_alloc_new _ _) hL hlB hp1 hI (by omega)).mono ?_
              rintro e W2 ⟨⟨v, rfl⟩, hp2, _⟩
              go_wp2
              go_roundw
              case rel => exact ⟨k + 2, rest.tail, _, by omega, by go_num, hp2, heq, by omega, fun n h => hI n (List.mem_of_mem_tail h)⟩
              case measure => simp [intOf]; omega
            · have hq := (fun h => h.2.1) (hU ⟨_, hmem, by simp [show t[k + 1]'hk1 = 120 from UInt8.toNat_inj.1 hd]⟩)
              rw [show t[k + 1]'hk1 = 120 from UInt8.toNat_inj.1 hd] at heq hsz
              go_wp2_with fail
              refine (plain_calls (b := 16)).mono ?_
              rintro e W1 ⟨rfl, rfl⟩
              have hp1 := hp.same ((Below.refl _ _).alloc (Nat.le_refl _) (.cells #[.int .i64 16] 3))
              go_wp2_with fail
              refine (next_x hq (heap_alloc_new _ _) hL hlB hp1 hI (by omega)).mono ?_
              rintro e W2 ⟨⟨v, rfl⟩, hp2, _⟩
              go_wp2
              go_roundw
              case rel => exact ⟨k + 2, rest.tail, _, by omega, by go_num, hp2, heq, by omega, fun n h => hI n (List.mem_of_mem_tail h)⟩
              case measure => simp [intOf]; omega
            · have hq := (fun h => h.2.2) (hU ⟨_, hmem, by simp [show t[k + 1]'hk1 = 111 from UInt8.toNat_inj.1 hd]⟩)
              rw [show t[k + 1]'hk1 = 111 from UInt8.toNat_inj.1 hd] at heq hsz
              go_wp2_with fail
              refine (plain_calls (b := 8)).mono ?_
              rintro e W1 ⟨rfl, rfl⟩
              have hp1 := hp.same ((Below.refl _ _).alloc (Nat.le_refl _) (.cells #[.int .i64 8] 3))
              go_wp2_with fail
              refine (next_o hq (heap_alloc_new _ _) hL hlB hp1 hI (by omega)).mono ?_
              rintro e W2 ⟨⟨v, rfl⟩, hp2, _⟩
              go_wp2
              go_roundw
              case rel => exact ⟨k + 2, rest.tail, _, by omega, by go_num, hp2, heq, by omega, fun n h => hI n (List.mem_of_mem_tail h)⟩
              case measure => simp [intOf]; omega
            · rw [show t[k + 1]'hk1 = 99 from UInt8.toNat_inj.1 hd] at heq hsz
              go_wp2_with fail
              refine (next_c hp hI (by omega)).mono ?_
              rintro e W2 ⟨⟨v, rfl⟩, hp2, _⟩
              go_wp2
              go_roundw
              case rel => exact ⟨k + 2, rest.tail, _, by omega, by go_num, hp2, heq, by omega, fun n h => hI n (List.mem_of_mem_tail h)⟩
              case measure => simp [intOf]; omega
          · have hno : isShow (t[k + 1]'hk1) = false := by simpa using hsh
            obtain ⟨n1, n2, n3, n4, n5, n6, n7⟩ := show_none hno
            rw [pg_other h37 hno, app_cons, app_cons] at heq
            go_wp2_with fail
            refine (byte_calls (c := 37) rfl hp.bd (by omega) (by omega)).mono ?_
            rintro e W2 ⟨rfl, k1, k2⟩
            have hp2 := pr_byte hp k1 k2
            have hs := size_one T 37
            have hz2 := hp2.sz
            go_wp2_with fail
            refine (byte_calls (c := t[k + 1]'hk1) rfl hp2.bd (by omega) (by omega)).mono ?_
            rintro e W3 ⟨rfl, k3, k4⟩
            have hp3 := pr_byte hp2 k3 k4
            have hs3 := size_one (T ++ mk [37]) (t[k + 1]'hk1)
            go_wp2
            go_roundw
            case rel => exact ⟨k + 2, rest, _, by omega, by go_num, hp3, heq, by omega, hI⟩
            case measure => simp [intOf]; omega
    · obtain rfl : k = t.size := by omega
      rw [List.drop_of_length_le (by rw [← size_bs]; omega), show printG [] rest = [] from rfl, app_nil] at heq
      have hz := hp.sz
      go_wp2_with fail
      refine (string_calls hp.bd (by omega)).mono ?_
      rintro e W2 ⟨rfl, hb2⟩
      rw [heq]
      go_wp2
      go_ret
      exact ⟨rfl, hp.bw.trans (hb2.mono (Nat.le_succ _))⟩
end Go.Proofs.YthmhbmikcdfkcaaDoor
