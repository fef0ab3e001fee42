/-
  The laws of the trail's text, on trees: they return true.
-/
import Derived.Test.YtfhdgccpngdnaaaDoorTrPr2
import Derived.Test.YtfhdgccpngdnaaaDoorTrL
namespace Go.Proofs.YtfhdgccpngdnaaaDoor
open Go.RowKit

theorem parseP_cases : ∀ (ls : List By) (f : D.Found) (i : Nat) (a b : Bool), (∃ g, parseP ls f i a b = (g, 0, 0)) ∨ ∃ n : Int, parseP ls f i a b = (zeroFd, 43, n)
  | [], f, i, a, b => .inr ⟨_, rfl⟩
  | [t], f, i, a, b => by
    unfold parseP
    split
    · exact .inl ⟨_, rfl⟩
    · exact .inr ⟨_, rfl⟩
  | t :: u :: r, f, i, a, b => by
    unfold parseP
    split
    · exact parseP_cases (u :: r) _ _ _ _
    · exact .inr ⟨_, rfl⟩
theorem parseT_cases (s : ByteArray) : (∃ g, parseT s = (g, 0, 0)) ∨ ∃ n : Int, parseT s = (zeroFd, 43, n) := parseP_cases _ _ _ _ _
theorem parseT_len {s : ByteArray} (hs : s.size ≤ 67108864) : (parseT s).1.Trail.length ≤ s.size := by
  rcases parseT_cases s with ⟨g, h⟩ | ⟨n, h⟩
  · rw [h]; exact (print_parse (by omega) h).2.1
  · rw [h]; exact Nat.zero_le _
def exFd : D.Found := ⟨1, 0, 0, 0, [], -1, 9, 12⟩
def exB : ByteArray := ⟨#[102, 111, 117, 110, 100, 32, 49, 32, 48, 32, 48, 32, 48, 32, 57, 32, 49, 50, 10]⟩
def exB' : ByteArray := ⟨#[102, 111, 117, 110, 100, 32, 49, 32, 48, 32, 48, 32, 48, 32, 57, 32, 49, 50]⟩
theorem exI : FdI exFd := ⟨by unfold I64; decide, by unfold I64; decide, by intro v hv; cases hv⟩
theorem exOk : FdOk exFd := by decide
theorem ex_print : printP exFd = (exB, 0) := by
  unfold printP
  rw [if_pos exOk]
  have e1 : Lib.itoa 1 = [49] := by unfold Lib.itoa; rw [if_neg (by decide)]; exact Lib.decDigits_one (by decide)
  have e0 : Lib.itoa 0 = [48] := by unfold Lib.itoa; rw [if_neg (by decide)]; exact Lib.decDigits_one (by decide)
  have e9 : Lib.itoa 9 = [57] := by unfold Lib.itoa; rw [if_neg (by decide)]; exact Lib.decDigits_one (by decide)
  have e12 : Lib.itoa 12 = [49, 50] := by unfold Lib.itoa; rw [if_neg (by decide)]; exact Lib.decDigits_two (by decide) (by decide)
  have e : joinNl (printLines exFd) = bs exB := by
    simp only [printLines, exFd, fdL, moveLines, joinNl, lineL, e1, e0, e9, e12]
    rfl
  rw [e, mk_bs]
theorem ex_empty : parseT ⟨#[]⟩ = (zeroFd, 43, 0) := by
  show parseP [[]] startFd 0 true false = _
  unfold parseP
  rw [if_neg (by simp)]; rfl
theorem ex_line : parseT exB' = (zeroFd, 43, 0) := by
  unfold parseT
  rw [pieces_none (c := 10) (l := bs exB') (by decide)]
  unfold parseP
  rw [if_neg (by simp)]; rfl
theorem le_exFd : VV.le (.agg [.sc (.int .i64 1), .sc (.int .i64 0), .sc (.int .i64 0), .sc (.int .i64 0), .nl, .sc (.int .i64 (-1)), .sc (.int .i64 9), .sc (.int .i64 12)]) (.agg (encFd exFd)) :=
  VV.le_agg ⟨VV.le_refl _, VV.le_refl _, VV.le_refl _, VV.le_refl _, VV.le_nil, VV.le_refl _, VV.le_refl _, VV.le_refl _, trivial⟩
theorem shown_spec : VSpec Tryd.prog 5 [] [] [] (boolV true) := by
  have hp := print_spec (f := exFd) ⟨exI, Nat.zero_le _⟩
  rw [ex_print] at hp
  have h1 := read_spec (s := exB) (by decide)
  have hpp := parse_print exI exOk
  rw [ex_print] at hpp
  rw [hpp] at h1
  have h2 := read_spec (s := ⟨#[]⟩) (by decide)
  rw [ex_empty] at h2
  have h3 := read_spec (s := exB') (by decide)
  rw [ex_line] at h3
  refine vspec_raw tb_ok mixed Tryd.func5 (by kernel_rfl) rfl (shown_raw true)
    ⟨(exB, 0), hp.le trivial ⟨le_exFd, trivial⟩ trivial (VV.le_refl _), (exFd, 0, 0), h1, (zeroFd, 43, 0), h2, (zeroFd, 43, 0), h3, true, (found_same (x := exFd) (by decide)).le trivial ⟨VV.le_refl _, le_exFd, trivial⟩ trivial (VV.le_refl _), trivial, ?_⟩
  refine VV.le_eq ?_
  show VV.sc (Value.bool (bif bif bif bif bif bif bif bif true then exB.toList == exB.toList else false then true else false then true else false then true else false then true else false then true else false then true else false then true else false)) = _
  simp only [beq_self_eq_true, cond_true]
/-- What comes in. -/
structure TrOk (f : D.Found) (t : ByteArray) : Prop where
  fit : FdI f
  len : f.Trail.length ≤ 131072
  txt : t.size ≤ 1048576
theorem texts_spec {f : D.Found} {t : ByteArray} (h : TrOk f t) : VSpec Tryd.prog 3 [] [.agg (encFd f), strV t] [] (boolV true) := by
  have hlen := h.len
  have htxt := h.txt
  have hS : FdS f := ⟨h.fit, by omega⟩
  have hT : t.size ≤ 67108864 := by omega
  have hL := parseT_len hT
  refine vspec_raw tb_ok mixed Tryd.func3 (by kernel_rfl) rfl (texts_raw true f t)
    ⟨true, shown_spec, printP f, print_spec hS, printP f, print23_spec hS, parseT t, read_spec hT, parseT t, read23_spec hT, true, found_same (by omega), trivial, ?_⟩
  simp only [beq_self_eq_true, cond_true]
  exact VV.le_refl _
theorem printP_size {f : D.Found} (h : FdS f) (hl : f.Trail.length ≤ 131072) : (printP f).1.size ≤ 67108864 := by
  unfold printP
  split
  · have := prT_size h.fit f.Trail.length (Nat.le_refl _)
    rw [prT_all] at this
    show (mk (joinNl (printLines f))).size ≤ _
    omega
  · exact Nat.zero_le _
theorem back_spec {f : D.Found} {t : ByteArray} (h : TrOk f t) : VSpec Tryd.prog 4 [] [.agg (encFd f), strV t] [] (boolV true) := by
  have hlen := h.len
  have htxt := h.txt
  have hS : FdS f := ⟨h.fit, by omega⟩
  have hT : t.size ≤ 67108864 := by omega
  have second : (((parseT t).2.1 == (0 : Int)) = true → FdS (parseT t).1 ∧ printP (parseT t).1 = (t, 0)) := fun h0 => by
    have h0' : (parseT t).2.1 = 0 := by simpa using h0
    rcases parseT_cases t with ⟨g, hg⟩ | ⟨n, hg⟩
    · obtain ⟨a1, a2, a3⟩ := print_parse (by omega) hg
      rw [hg]
      exact ⟨⟨a1, by show g.Trail.length ≤ _; omega⟩, a3⟩
    · rw [hg] at h0'; cases h0'
  have le_back : (((parseT t).2.1 == (0 : Int)) = true → (VV.sc (Value.bool (bif bif true then (printP (parseT t).1).2 == (0 : Int) else false then (printP (parseT t).1).1.toList == t.toList else false))).le (VV.sc (Value.bool true))) := fun h0 => by
    rw [(second h0).2]
    simp only [beq_self_eq_true, cond_true]
    exact VV.le_refl _
  refine vspec_raw tb_ok mixed Tryd.func4 (by kernel_rfl) rfl (back_raw true f t)
    ⟨true, shown_spec, printP f, print_spec hS, fun h1 => ?_, fun h1 => ⟨parseT t, read_spec hT, fun h2 => ⟨printP (parseT t).1, print_spec (second h2).1, trivial, le_back h2⟩, fun h2 => ⟨trivial, VV.le_refl _⟩⟩⟩
  have hok : FdOk f := by
    by_cases hok : FdOk f
    · exact hok
    · unfold printP at h1
      rw [if_neg hok] at h1
      exact absurd h1 (by decide)
  have hp := parse_print h.fit hok
  have hr := read_spec (printP_size hS hlen)
  rw [hp] at hr
  refine ⟨(f, 0, 0), hr, true, found_same (by omega), fun h2 => ?_, fun _ => ⟨parseT t, read_spec hT, fun h2 => ⟨printP (parseT t).1, print_spec (second h2).1, trivial, le_back h2⟩, fun h2 => ⟨trivial, VV.le_refl _⟩⟩⟩
  simp at h2
end Go.Proofs.YtfhdgccpngdnaaaDoor
