/-
  Chans on trees: the plain data as trees; the contracts of layer 13's functions, said of trees.
-/
import Derived.Test.YtiflenddalmfaaaVjB
import Derived.Test.YtiflenddalmfaaaVjTab
import Derived.Test.YtiflenddalmfaaaChShown
import Derived.Test.YtiflenddalmfaaaChSame
import Derived.Test.YtiflenddalmfaaaChTake
namespace Go.Proofs.Ytiflenddalmfaaa
open Go.RowKit

instance : Inhabited D.Type := ⟨⟨0, false⟩⟩
def encM (fz : Bool) (m : List Int) : VV := .sl fz m.length 1 fun i => [.sc (.int .i64 (m.getD i 0))]
def encQ (q : List (List Int)) : VV := .sl true q.length 1 fun i => [encM true (q.getD i [])]
def encT (t : D.Type) : List VV := [.sc (.int .i64 t.Bits), .sc (.bool t.Signed)]
def encTs (l : List D.Type) : VV := .sl true l.length 2 fun i => encT (l.getD i default)
def WfM (m : List Int) : Prop := ∀ x ∈ m, (Lit.int .i64 x).wf = true
def WfQ (q : List (List Int)) : Prop := ∀ m ∈ q, WfM m
def WfTs (l : List D.Type) : Prop := ∀ t ∈ l, (Lit.int .i64 t.Bits).wf = true

section
variable {w : World} {E : Prot} {m : Option Phi} {v : Value}
theorem getD_of {α : Type} {l : List α} {i : Nat} {x d : α} (h : l[i]? = some x) : l.getD i d = x := by simp [List.getD, h]
theorem is_of_M {fz : Bool} {x : List Int} (h : V w E m (encM fz x) v) (hw : WfM x) : Is pM w [v] x := by
  obtain ⟨a, cap, rfl, h1, h2, h3⟩ := V.sl_inv h
  refine ⟨a, cap, rfl, h1, h2, fun hp => ?_⟩
  obtain ⟨b, off, rfl, hb, _, _, u, hc, hv⟩ := h3 hp
  refine ⟨b, off, rfl, hb, fun i y hy => ⟨[.int .i64 y], rfl, fun k hk => ?_, rfl, hw y (List.mem_of_getElem? hy)⟩⟩
  obtain rfl : k = 0 := by omega
  have hi : i < x.length := (List.getElem?_eq_some_iff.1 hy).1
  have h1 := hc i 0 _ hi rfl
  have h2 := (hv i 0 _ hi rfl).sc_inv
  rw [getD_of hy] at h2
  rw [h1, h2]; rfl
theorem is_of_Q {q : List (List Int)} (h : V w E m (encQ q) v) (hw : WfQ q) : Is pQ w [v] q := by
  obtain ⟨a, cap, rfl, h1, h2, h3⟩ := V.sl_inv h
  refine ⟨a, cap, rfl, h1, h2, fun hp => ?_⟩
  obtain ⟨b, off, rfl, hb, _, _, u, hc, hv⟩ := h3 hp
  refine ⟨b, off, rfl, hb, fun i y hy => ⟨[u i 0], rfl, fun k hk => ?_, ?_⟩⟩
  · obtain rfl : k = 0 := by omega
    have hi : i < q.length := (List.getElem?_eq_some_iff.1 hy).1
    rw [hc i 0 _ hi rfl]; rfl
  · have hi : i < q.length := (List.getElem?_eq_some_iff.1 hy).1
    have := hv i 0 _ hi rfl
    rw [getD_of hy] at this
    exact is_of_M this (hw y (List.mem_of_getElem? hy))
theorem is_of_Ts {l : List D.Type} (h : V w E m (encTs l) v) (hw : WfTs l) : Is (Pkg.slice 2 16 p_Type) w [v] l := by
  obtain ⟨a, cap, rfl, h1, h2, h3⟩ := V.sl_inv h
  refine ⟨a, cap, rfl, h1, h2, fun hp => ?_⟩
  obtain ⟨b, off, rfl, hb, _, _, u, hc, hv⟩ := h3 hp
  refine ⟨b, off, rfl, hb, fun i y hy => ⟨[.int .i64 y.Bits, .bool y.Signed], rfl, fun k hk => ?_, ?_⟩⟩
  · have hi : i < l.length := (List.getElem?_eq_some_iff.1 hy).1
    have e0 := (hv i 0 _ hi rfl).sc_inv
    have e1 := (hv i 1 _ hi rfl).sc_inv
    rw [getD_of hy] at e0 e1
    match k, hk with
    | 0, _ => rw [hc i 0 _ hi rfl, e0]; rfl
    | 1, _ => rw [hc i 1 _ hi rfl, e1]; rfl
  · exact ⟨[.int .i64 y.Bits], [.bool y.Signed], rfl, rfl, ⟨rfl, hw y (List.mem_of_getElem? hy)⟩, [.bool y.Signed], [], rfl, rfl, rfl, rfl⟩
theorem v_of_M {n0 : Nat} {x : List Int} (h : OwnM w n0 v x) (hA : ∀ k, E.fz k → k < n0) : V w E m (encM true x) v := by
  obtain ⟨ao, cap, rfl, h1, h2, h3⟩ := own_one h.row
  refine V.sl_mk h1 h2 fun hp => ?_
  obtain ⟨g, rfl, hg, hlt, hc⟩ := h3 hp
  refine ⟨g, 0, rfl, hlt, fun hk => by have := hA g hk; omega, fun i _ => rfl, fun i _ => .int .i64 (x.getD i 0), fun i j y hi hy => ?_, fun i j y hi hy => ?_⟩
  · match j, hy with
    | 0, _ =>
      have := hc i hi
      simp only [Nat.zero_add, Nat.mul_one, Nat.add_zero]
      rw [this]; simp [List.getD, hi]
    | j + 1, hy => simp at hy
  · match j, hy with
    | 0, hy => simp only [List.getElem?_cons_zero, Option.some.injEq] at hy; subst hy; exact .sc
    | j + 1, hy => simp at hy
theorem v_of_Q {n0 : Nat} {vs : List Value} {q : List (List Int)} (h : OwnQ w n0 v vs q) (hA : ∀ k, E.fz k → k < n0) : V w E m (encQ q) v := by
  obtain ⟨ao, cap, rfl, h1, h2, h3⟩ := own_one h.row
  refine V.sl_mk h1 h2 fun hp => ?_
  obtain ⟨g, rfl, hg, hlt, hc⟩ := h3 hp
  refine ⟨g, 0, rfl, hlt, fun hk => by have := hA g hk; omega, fun i _ => rfl, fun i _ => vs.getD i undef, fun i j y hi hy => ?_, fun i j y hi hy => ?_⟩
  · match j, hy with
    | 0, _ =>
      have := hc i hi
      simp only [Nat.zero_add, Nat.mul_one, Nat.add_zero]
      rw [this]; simp [List.getD, h.len, hi]
    | j + 1, hy => simp at hy
  · match j, hy with
    | 0, hy =>
      simp only [List.getElem?_cons_zero, Option.some.injEq] at hy
      subst hy
      have hv : vs[i]? = some (vs.getD i undef) := by simp [List.getD, h.len, hi]
      have hq : q[i]? = some (q.getD i []) := by simp [List.getD, hi]
      exact v_of_M (h.each i _ _ hv hq) hA
    | j + 1, hy => simp at hy
end

def encShape (room : Int) (fs : List D.Type) : VV := .agg [.sc (.int .i64 room), encTs fs]
def encChan (sh : Int) (q : List (List Int)) : VV := .agg [.sc (.int .i64 sh), encQ q]
theorem put_spec (room sh : Int) (sorted : Bool) {fs : List D.Type} {q : List (List Int)} {m : List Int} (h1 : WfTs fs) (h2 : WfQ q) (h3 : WfM m) (hsm : Small q) (hq1 : (q.length + 1) * 24 ≤ 140737488355328) (hm8 : m.length * 8 ≤ 140737488355328) :
    VSpec Try.prog 6 [] [encShape room fs, encChan sh q, encM true m, .sc (.bool sorted)] [] (.tup [encChan (putSh room fs q m sh) (putQ room fs q m sorted), .sc (.int .i64 (putE room fs q m))]) := by
  refine VSpec.hand ⟨_, Try.func6, rfl, by kernel_rfl⟩ fun w E vs hA _ _ _ hs => ?_
  obtain ⟨u1, us1, rfl, v1, hs⟩ := hs.cons_inv
  obtain ⟨u2, us2, rfl, v2, hs⟩ := hs.cons_inv
  obtain ⟨u3, us3, rfl, v3, hs⟩ := hs.cons_inv
  obtain ⟨u4, us4, rfl, v4, hs⟩ := hs.cons_inv
  obtain rfl := hs.nil_inv
  obtain ⟨r, fv, rfl, hr, hf⟩ := V.agg2_inv v1
  obtain ⟨s, qv, rfl, hs', hq⟩ := V.agg2_inv v2
  rw [hr.sc_inv, hs'.sc_inv, v4.sc_inv]
  refine (put_calls room sh sorted (is_of_Ts hf h1) (is_of_Q hq h2) (is_of_M v3 h3) hsm hq1 hm8).mono ?_
  rintro e w' ⟨⟨ov, vs, rfl, ho⟩, hb⟩
  exact ⟨_, rfl, v_tup2 (v_agg2 .sc (v_of_Q ho hA)) .sc, hb⟩
theorem take_spec (sh : Int) (n : Nat) {q : List (List Int)} (h2 : WfQ q) (hsm : Small q) (hn : n < q.length) :
    VSpec Try.prog 13 [] [encChan sh q, .sc (.int .i64 n)] [] (.tup [encChan sh (cutAt q n), encM true (q.getD n []), .sc (.int .i64 0)]) := by
  refine VSpec.hand ⟨_, Try.func13, rfl, by kernel_rfl⟩ fun w E vs hA _ _ _ hs => ?_
  obtain ⟨u1, us1, rfl, v1, hs⟩ := hs.cons_inv
  obtain ⟨u2, us2, rfl, v2, hs⟩ := hs.cons_inv
  obtain rfl := hs.nil_inv
  obtain ⟨s, qv, rfl, hs', hq⟩ := V.agg2_inv v1
  rw [hs'.sc_inv, v2.sc_inv]
  refine (take_calls sh n (is_of_Q hq h2) hsm hn).mono ?_
  rintro e w' ⟨ov, vs, mv, rfl, ho, hm, hb⟩
  exact ⟨_, rfl, v_tup3 (v_agg2 .sc (v_of_Q ho hA)) (v_of_M hm hA) .sc, hb⟩
theorem take_none_spec (sh n : Int) {q : List (List Int)} (h2 : WfQ q) (hn : n < 0 ∨ (q.length : Int) ≤ n) :
    VSpec Try.prog 13 [] [encChan sh q, .sc (.int .i64 n)] [] (.tup [encChan 0 [], encM true [], .sc (.int .i64 46)]) := by
  refine VSpec.hand ⟨_, Try.func13, rfl, by kernel_rfl⟩ fun w E vs hA _ _ _ hs => ?_
  obtain ⟨u1, us1, rfl, v1, hs⟩ := hs.cons_inv
  obtain ⟨u2, us2, rfl, v2, hs⟩ := hs.cons_inv
  obtain rfl := hs.nil_inv
  obtain ⟨s, qv, rfl, hs', hq⟩ := V.agg2_inv v1
  rw [hs'.sc_inv, v2.sc_inv]
  refine (take_none sh n (is_of_Q hq h2) hn).mono ?_
  rintro e w' ⟨rfl, hb⟩
  exact ⟨_, rfl, v_tup3 (v_agg2 .sc (.nil (Nat.zero_le _))) (.nil (Nat.zero_le _)) .sc, hb⟩
theorem shown_spec : VSpec Try.prog 4 [] [] [] (.sc (.bool true)) := by
  refine VSpec.hand ⟨_, Try.func4, rfl, by kernel_rfl⟩ fun w E vs hA _ _ _ hs => ?_
  obtain rfl := hs.nil_inv
  refine (shown13 w).mono ?_
  rintro e w' ⟨he, hb⟩
  exact ⟨_, he, .sc, hb⟩
theorem numbers_spec {fz fz' : Bool} {m : List Int} (h : WfM m) : VSpec Try.prog 23 [] [encM fz m, encM fz' m] [] (.sc (.bool true)) := by
  refine VSpec.hand ⟨_, Try.func23, rfl, by kernel_rfl⟩ fun w E vs hA _ _ _ hs => ?_
  obtain ⟨u1, us1, rfl, v1, hs⟩ := hs.cons_inv
  obtain ⟨u2, us2, rfl, v2, hs⟩ := hs.cons_inv
  obtain rfl := hs.nil_inv
  refine (numbers_same (is_of_M v1 h) (is_of_M v2 h)).mono ?_
  rintro e w' ⟨he, hb⟩
  exact ⟨_, he, .sc, by first | exact hb | exact below_of_drewN hb⟩
end Go.Proofs.Ytiflenddalmfaaa
