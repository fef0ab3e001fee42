/-
  Texts, joined: EcW2, EcW3, EcW4, EcW5, EcW6, EcW7, RfS, RfA, RfH, RfW1, RfW2, RfW3, RfW4, RfW5, EgE, EgT, EgU, EgA, EgH, VjPubl.
-/
import Derived.Test.YtiaebjpcgjkhoaaGreatDoorQkD
import Derived.KernelRfl
namespace Go.Proofs.YtiaebjpcgjkhoaaGreatDoor
open Go.RowKit
theorem Cu {x : VV} (hx : x.mem = true) : Lv x x := fun _ E _ h B =>
  (h.mem (E' := ⟨E.fz, B⟩) (m' := none) hx rfl).less (fun _ h => h.elim) fun _ h => h
theorem JK : ∀ {l : List VV}, l.all VV.mem = true → Lw l l
  | [], _ => trivial
  | x :: l, h => by
    simp only [List.all_cons, Bool.and_eq_true] at h
    exact ⟨Cu h.1, JK h.2⟩
theorem Lu {e : D.Env} : Lv (.agg (Bu e)) (.agg (Af e)) :=
  XX ⟨Cu rfl, Cu rfl, Cu rfl, Cu rfl, Cu rfl, Cu rfl, Cu rfl, Cu rfl, T0 fun _ _ => JK rfl, T0 fun _ _ => JK rfl, Cu rfl, Cu rfl, Cu rfl, Cu rfl, Cu rfl, Cu rfl, trivial⟩
theorem AaF {e : D.Env} : leS (.agg (Af e)) (.agg (Bu e)) := by
  refine UN rfl fun j x y hx hy => ?_
  rcases Nat.lt_or_ge j 16 with hj | hj
  · rcases (show j = 0 ∨ j = 1 ∨ j = 2 ∨ j = 3 ∨ j = 4 ∨ j = 5 ∨ j = 6 ∨ j = 7 ∨ j = 8 ∨ j = 9 ∨ j = 10 ∨ j = 11 ∨ j = 12 ∨ j = 13 ∨ j = 14 ∨ j = 15 by omega) with rfl | rfl | rfl | rfl | rfl | rfl | rfl | rfl | rfl | rfl | rfl | rfl | rfl | rfl | rfl | rfl <;>
      (obtain rfl := Option.some.inj hx; obtain rfl := Option.some.inj hy; first | exact CJ _ | exact JV)
  · rw [List.getElem?_eq_none (by show (16 : Nat) ≤ j; exact hj)] at hx; cases hx
section
variable {e : D.Env}
theorem Ab2 (hw : AN e.M) (hs : Bl e.S) (x : Int) : Ae Tryz.prog 39 [] [.agg (Bu e), Ad x] [] (vII (B6 e x)) :=
  (Gq hw hs x).thaw (Ns fun x hx => by
    simp only [List.mem_cons, List.not_mem_nil, or_false] at hx
    rcases hx with rfl | rfl <;> exact QB) ⟨Lu, T1, trivial⟩
theorem Ab3 (hw : AN e.M) (hs : Bl e.S) (x : Int) : Ae Tryz.prog 92 [] [.agg (Bu e), Ad x] [] (vII (AL e x)) :=
  (Gr hw hs x).thaw (Ns fun x hx => by
    simp only [List.mem_cons, List.not_mem_nil, or_false] at hx
    rcases hx with rfl | rfl <;> exact QB) ⟨Lu, T1, trivial⟩
theorem Y8 (t : D.Type) (v : Int) : Ae Tryz.prog 91 [] [.agg (AR t), Ad v] [] (Ad (OY t v)) := by
  refine Ae.hand ⟨_, Tryz.func91, rfl, by kernel_rfl⟩ fun w E vs hA hL hB _ hs0 => ?_
  obtain ⟨u1, us1, rfl, v1, hs0⟩ := hs0.cons_inv
  obtain ⟨u2, us2, rfl, v2, hs0⟩ := hs0.cons_inv
  obtain rfl := hs0.nil_inv
  obtain ⟨a, b, rfl, va, vb⟩ := v1.agg2_inv
  rw [va.sc_inv, vb.sc_inv, v2.sc_inv]
  refine (Abu t.Bits v t.Signed w).mono ?_
  rintro r w' ⟨rfl, hb⟩
  exact ⟨_, rfl, .sc, hb⟩
structure AgA (e : D.Env) (n : Int) : Prop where
  ok : Cy e
  lo : 1 ≤ n
  hi : n ≤ e.S.Chans.length
  le : e.S.Chans.length ≤ 32
  sh : 0 ≤ (Dy e n).Shape ∧ (Dy e n).Shape < e.M.Shapes.length
  q : (Dy e n).Queue.length ≤ 16
theorem Mc (hw : AN e.M) {x : Int} (h : (AL e x).2 = 0) : AgA e (AL e x).1 := by
  unfold AL at h ⊢
  cases c : decide (Ck e x ≠ 0) with
  | true => rw [c, cond_true] at h; exact absurd h (of_decide_eq_true c)
  | false =>
    rw [c, cond_false] at h
    rw [cond_false]
    obtain ⟨hE, _, _⟩ := IF (x := x) hw (by simpa using c)
    have hn := O6 hE (a := x) (by simpa using h)
    generalize (Db e (Re e e.M.Exprs.length) x).1 = n at hn ⊢
    have hm : Dy e n ∈ e.S.Chans := AF (by omega)
    exact ⟨hE, hn.1, hn.2.1, hn.2.2, (II (hE.chan hm)).1, (hE.fit.q _ hm).1⟩
theorem EC {a b : Nat} : ((a : Int) != (b : Int)) = decide (a ≠ b) := by
  rw [Bool.eq_iff_iff, bne_iff_ne, decide_eq_true_eq]; omega
theorem AeW {a c : Int} {l : List Int} {r : Int × List Int × Int} (h : (a, l, c) = r) : leO [] [] ∧ VV.le (.tup [.sc (.int .i64 a), Aa true l, .sc (.int .i64 c)]) (.tup [.sc (.int .i64 r.1), Aa true r.2.1, .sc (.int .i64 r.2.2)]) := by
  subst h; exact ⟨trivial, VV.le_refl _⟩
theorem Tf {a c : Int} {r : Int × List Int × Int} (h : (a, [], c) = r) : leO [] [] ∧ VV.le (.tup [.sc (.int .i64 a), .nl, .sc (.int .i64 c)]) (.tup [.sc (.int .i64 r.1), Aa true r.2.1, .sc (.int .i64 r.2.2)]) := by
  subst h; exact ⟨trivial, VV.le_tup ⟨VV.le_refl _, VV.le_nil, VV.le_refl _, trivial⟩⟩
theorem ZD {l : List Int} (h : (D4 e l).2 = 0) : (D4 e l).1.length = l.length := by
  have key : ∀ (l o : List Int), (IV (B6 e) o l).2 = 0 → (IV (B6 e) o l).1.length = o.length + l.length := by
    intro l
    induction l with
    | nil => intro o _; rfl
    | cons x l ih =>
      intro o h
      rw [Kh] at h ⊢
      cases c : decide ((B6 e x).2 ≠ 0) with
      | true => rw [c, cond_true] at h; exact absurd h (of_decide_eq_true c)
      | false =>
        rw [c, cond_false] at h
        rw [cond_false, ih _ h]; simp; omega
  have := key l [] h
  simpa [D4] using this
def G8 (f : List D.Type) (l : List Int) (k : Nat) : List Int := (List.range l.length).map fun i => if i < k then OY (f.getD i default) (l.getD i 0) else l.getD i 0
theorem HW {f : List D.Type} {l : List Int} {k : Nat} : (G8 f l k).length = l.length := by simp [G8]
theorem HX {f : List D.Type} {l : List Int} {k i : Nat} (hi : i < l.length) : (G8 f l k).getD i 0 = if i < k then OY (f.getD i default) (l.getD i 0) else l.getD i 0 := by simp [G8, List.getD, hi]
theorem Tu {f : List D.Type} {l : List Int} : G8 f l 0 = l := by
  apply List.ext_getElem (by simp [G8])
  intro i h1 h2
  simp [G8, List.getD, h2]
theorem Xd {f : List D.Type} {l : List Int} : G8 f l l.length = Tt f l := by
  unfold G8 Tt
  apply List.map_congr_left
  intro i hi
  rw [if_pos (List.mem_range.1 hi)]
theorem Lb {s : D.Stmt} (hw : AN e.M) (hs : Bl e.S) (hl : s.Args.length ≤ 1048576) :
    Ae Tryz.prog 64 [] [.agg (Bu e), .agg (Av s)] [] (.tup [Ad (AM e s).1, Aa true (AM e s).2.1, Ad (AM e s).2.2]) := by
  have hq : AM e s = bif decide ((AL e s.A).2 ≠ 0) then (0, [], (AL e s.A).2)
    else bif decide ((BP e (AL e s.A).1).length ≠ s.Args.length) then (0, [], 49)
    else bif decide ((D4 e s.Args).2 ≠ 0) then (0, [], (D4 e s.Args).2)
    else ((AL e s.A).1, Tt (BP e (AL e s.A).1) (D4 e s.Args).1, 0) := rfl
  generalize AM e s = r at hq
  refine Ah Am An Tryz.func64 (by kernel_rfl) rfl (XG r e s) ⟨AL e s.A, Ab3 hw hs s.A, fun h => Tf ?_, fun h => ?_⟩
  · rw [hq, show decide ((AL e s.A).2 ≠ 0) = true by simpa using h]; rfl
  have h0 : (AL e s.A).2 = 0 := by simpa using h
  rw [h0] at hq
  have hc := Mc hw h0
  generalize (AL e s.A).1 = n at hc hq ⊢
  have h1 := hc.lo
  have h2 := hc.hi
  have h3 := hc.le
  rw [A6 (by omega) (by omega)]
  refine ⟨by omega, hc.sh, fun hf => Tf ?_, fun hf => ⟨D4 e s.Args, Vq (fun x _ => Ab2 hw hs x) hl, fun ha => Tf ?_, fun ha => ?_⟩⟩
  · rw [EC] at hf
    rw [hq]
    have : decide ((BP e n).length ≠ s.Args.length) = true := hf
    rw [this]; rfl
  · rw [EC] at hf
    rw [hq, show decide ((BP e n).length ≠ s.Args.length) = false from hf, show decide ((D4 e s.Args).2 ≠ 0) = true by simpa using ha]; rfl
  rw [EC] at hf
  have ha0 : (D4 e s.Args).2 = 0 := by simpa using ha
  have hlen := ZD ha0
  rw [show decide ((BP e n).length ≠ s.Args.length) = false from hf, ha0] at hq
  have hfl : (BP e n).length = s.Args.length := Classical.not_not.1 (of_decide_eq_false hf)
  change AH _ _ (Ao [(7, Ad n), (9, Aj true (BP e n)), (10, .ow 0 0 (D4 e s.Args).1.length), (53, .ow 0 0 (D4 e s.Args).1.length), (54, Ad (D4 e s.Args).1.length), (55, Ad 0)] [.arr true 0 (D4 e s.Args).1.length 1 (A7 (D4 e s.Args).1)])
  generalize BP e n = f at hq hfl ⊢
  generalize (D4 e s.Args).1 = l at hq hlen ⊢
  change r = (n, Tt f l, 0) at hq
  refine Bh Am An (fun g st => ∃ k : Nat, k ≤ l.length ∧ g = l.length - k ∧ st = Oa n f (G8 f l k) k) (by kernel_rfl) (by kernel_rfl) ⟨_, Up.of ⟨0, Nat.zero_le _, rfl, by unfold Oa; rw [Tu]; rfl⟩⟩ ?_
  rintro g st ⟨k, hk, rfl, rfl⟩
  refine A9.raw (Vg r n f _ k _) ⟨fun hlt => ?_, fun hge => AeW ?_⟩
  · rw [HW] at hlt
    have hlt' : k < l.length := by have := AQ hlt; omega
    have hto : (k : Int).toNat = k := by omega
    rw [hto, HW, HX hlt', if_neg (Nat.lt_irrefl _)]
    refine ⟨by omega, by omega, OY (f.getD k default) (l.getD k 0), Y8 _ _, by omega, l.length - (k + 1), by omega, Up.mk (hs' := [.arr true 0 l.length 1 (A7 (G8 f l (k + 1)))]) (AZ _) ⟨Ob.le_arr fun i hi => A8 ?_, trivial⟩ ⟨k + 1, by omega, rfl, ?_⟩⟩
    · by_cases hik : i = k
      · subst hik
        simp only [Nat.beq_refl, cond_true]
        unfold A7
        rw [HX hlt', if_pos (Nat.lt_succ_self _)] <;> rfl
      · have hb : Nat.beq i k = false := by
          cases hq : Nat.beq i k with
          | true => exact absurd (Nat.eq_of_beq_eq_true hq) hik
          | false => rfl
        simp only [hb, cond_false]
        unfold A7
        rw [HX hi, HX hi]
        by_cases h : i < k
        · rw [if_pos h, if_pos (by omega)] <;> rfl
        · rw [if_neg h, if_neg (by omega)] <;> rfl
    · rw [Ap (by omega)]
      unfold Oa
      rw [HW] <;> rfl
  · rw [HW] at hge
    have hge' : k = l.length := by have := AV hge; omega
    subst hge'
    rw [Xd, hq]
theorem Vf {s : D.Stmt} (hw : AN e.M) (hs : Bl e.S) (hl : s.Args.length ≤ 1048576) :
    Ae Tryz.prog 64 [] [.agg (Af e), .agg (Av s)] [] (.tup [Ad (AM e s).1, Aa true (AM e s).2.1, Ad (AM e s).2.2]) :=
  (Lb hw hs hl).frz rfl fun j x y hx hy => by
    match j, hx, hy with
    | 0, hx, hy => obtain rfl := Option.some.inj hx; obtain rfl := Option.some.inj hy; exact AaF
    | 1, hx, hy => obtain rfl := Option.some.inj hx; obtain rfl := Option.some.inj hy; exact CJ _
    | j + 2, hx, _ => simp at hx
end
end Go.Proofs.YtiaebjpcgjkhoaaGreatDoor
namespace Go.Proofs.YtiaebjpcgjkhoaaGreatDoor
open Go.RowKit
theorem AeX {c : Int} {l : List Int} {r : List Int × Int} (h : (l, c) = r) : leO [] [] ∧ VV.le (.tup [Aa true l, .sc (.int .i64 c)]) (.tup [Aa true r.1, .sc (.int .i64 r.2)]) := by
  subst h; exact ⟨trivial, VV.le_refl _⟩
theorem AbR {c : Int} {r : List Int × Int} (h : ([], c) = r) : leO [] [] ∧ VV.le (.tup [.nl, .sc (.int .i64 c)]) (.tup [Aa true r.1, .sc (.int .i64 r.2)]) := by
  subst h; exact ⟨trivial, VV.le_tup ⟨VV.le_nil, VV.le_refl _, trivial⟩⟩
section
variable {e : D.Env}
theorem Km {s : D.Stmt} (hw : AN e.M) (hs : Bl e.S) (hl : s.Args.length ≤ 1048576) (hm : s.Match.length = s.Args.length) :
    Ae Tryz.prog 99 [] [.agg (Af e), .agg (Av s)] [] (.tup [Aa true (CA e s).1, Ad (CA e s).2]) := by
  have hq : CA e s = bif decide (DO (B6 e) s.Args s.Match s.Args.length ≠ 0) then ([], DO (B6 e) s.Args s.Match s.Args.length) else (JJ (B6 e) s.Args s.Match, 0) := rfl
  generalize CA e s = r at hq
  generalize hev : B6 e = ev at hq
  have hS : ∀ x, Ae Tryz.prog 39 [] [.agg (Af e), Ad x] [] (vII (ev x)) := fun x => by rw [← hev]; exact Gq hw hs x
  refine Ah Am An Tryz.func99 (by kernel_rfl) rfl (Rt r e s) ⟨⟨by omega, by omega, by omega⟩, ?_⟩
  refine Bh Am An (fun gg st => ∃ k : Nat, k ≤ s.Args.length ∧ gg = s.Args.length - k ∧ (∀ i, i < k → (Du ev (s.Args.getD i 0) (s.Match.getD i 0)).2 = 0) ∧ st = PR e s (BR ev s.Args s.Match k) k) (by kernel_rfl) (by kernel_rfl)
    ⟨s.Args.length, Up.mk (l' := [(2, .bp 0 0), (3, .bp 1 0), (6, .ow 2 0 (BR ev s.Args s.Match 0).length), (16, Aa true s.Args), (17, Ad s.Args.length), (18, Ad ((0 : Nat) : Int))])
      (hs' := [.box (Af e), .box (Av s), .arr true 0 (BR ev s.Args s.Match 0).length 1 (A7 (BR ev s.Args s.Match 0))]) ?_ ?_ ⟨0, Nat.zero_le _, rfl, fun i hi => by omega, rfl⟩⟩ ?_
  · rw [B7]; exact AZ _
  · rw [B7]
    refine ⟨Ob.le_refl _, Ob.le_refl _, Ob.le_arr fun i hi => A8 ?_, trivial⟩
    have hz : A7 (BR ev s.Args s.Match 0) i = [Ad 0] := by
      unfold A7
      rw [Ea (by omega), if_neg (Nat.not_lt_zero _)]
    refine Eq.trans ?_ hz.symm
    rfl
  · rintro gg st ⟨k, hk, rfl, hI, rfl⟩
    refine A9.raw (Pc r e s _ k _) ⟨fun hlt => ?_, fun hge => AeX ?_⟩
    · have hlt' : k < s.Args.length := by have := AQ hlt; omega
      have hto : (k : Int).toNat = k := by omega
      rw [hto]
      refine ⟨by omega, by omega, fun hy => ?_, fun hy => ⟨ev (s.Args.getD k 0), hS _, fun hz => AbR ?_, fun hz => ⟨by rw [B7]; omega, ?_⟩⟩⟩
      · rw [A0] at hy
        have h1 := of_decide_eq_true hy
        have hv : Du ev (s.Args.getD k 0) (s.Match.getD k 0) = (0, 0) := by unfold Du; rw [decide_eq_false h1]; rfl
        have e1 : BR ev s.Args s.Match k = BR ev s.Args s.Match (k + 1) := by
          unfold BR
          apply List.map_congr_left
          intro i _
          by_cases hik : i = k
          · subst hik; rw [if_neg (Nat.lt_irrefl _), if_pos (Nat.lt_succ_self _), hv]
          · by_cases hlt2 : i < k
            · rw [if_pos hlt2, if_pos (by omega)]
            · rw [if_neg hlt2, if_neg (by omega)]
        rw [e1, Ap (by omega)]
        exact ⟨s.Args.length - (k + 1), by omega, Up.of ⟨k + 1, by omega, rfl, Bx hI (by rw [hv]), rfl⟩⟩
      · have hm1 : decide (s.Match.getD k 0 = 1) = true := by rw [A0] at hy; simpa using hy
        have hv : Du ev (s.Args.getD k 0) (s.Match.getD k 0) = ev (s.Args.getD k 0) := by unfold Du; rw [hm1]; rfl
        have hnz : (Du ev (s.Args.getD k 0) (s.Match.getD k 0)).2 ≠ 0 := by rw [hv]; simpa using hz
        have he : DO ev s.Args s.Match s.Args.length = (ev (s.Args.getD k 0)).2 := by
          unfold DO
          rw [Mb (f := fun i => (Du ev (s.Args.getD i 0) (s.Match.getD i 0)).2) hI hnz hlt', hv]
        rw [hq, he]
        exact ct (by simpa using hz) rfl
      · have hm1 : decide (s.Match.getD k 0 = 1) = true := by rw [A0] at hy; simpa using hy
        have hv : Du ev (s.Args.getD k 0) (s.Match.getD k 0) = ev (s.Args.getD k 0) := by unfold Du; rw [hm1]; rfl
        have h2 : (ev (s.Args.getD k 0)).2 = 0 := by simpa using hz
        rw [Ap (by omega)]
        refine ⟨s.Args.length - (k + 1), by omega, Up.mk (l' := [(2, .bp 0 0), (3, .bp 1 0), (6, .ow 2 0 (BR ev s.Args s.Match (k + 1)).length), (16, Aa true s.Args), (17, Ad s.Args.length), (18, Ad ((k + 1 : Nat) : Int))])
          (hs' := [.box (Af e), .box (Av s), .arr true 0 (BR ev s.Args s.Match (k + 1)).length 1 (A7 (BR ev s.Args s.Match (k + 1)))]) ?_ ?_ ⟨k + 1, by omega, rfl, Bx hI (by rw [hv]; exact h2), rfl⟩⟩
        · rw [B7, B7]; exact AZ _
        · rw [B7, B7]
          refine ⟨Ob.le_refl _, Ob.le_refl _, Ob.le_arr fun i hi => A8 ?_, trivial⟩
          show (bif i.beq k then [Ad (ev (s.Args.getD k 0)).1] else [Ad ((BR ev s.Args s.Match k).getD i 0)]) = [Ad ((BR ev s.Args s.Match (k + 1)).getD i 0)]
          rw [Ea hi, Ea hi]
          cases hq : i.beq k with
          | true =>
            have := Nat.eq_of_beq_eq_true hq; subst this
            rw [cond_true, if_pos (Nat.lt_succ_self _), hv]
          | false =>
            have : i ≠ k := Nat.ne_of_beq_eq_false hq
            rw [cond_false]
            by_cases hlt2 : i < k
            · rw [if_pos hlt2, if_pos (by omega)]
            · rw [if_neg hlt2, if_neg (by omega)]
    · obtain rfl : k = s.Args.length := by have := AV hge; omega
      have he : DO ev s.Args s.Match s.Args.length = 0 := HY hI
      rw [hq, he, Li]; rfl
theorem Q6 {c : D.Chan} {l mt : List Int} {any : Bool} (hc : Len c.Queue.length) (hm : Len mt.length) : Ae Tryz.prog 100 [] [.agg (Ar c), Aa true l, Aa true mt, Ai any] [] (Ad (G9 c l mt any)) :=
  (NI hc hm).frz rfl fun j x y hx hy => by
    match j, hx, hy with
    | 0, hx, hy => obtain rfl := Option.some.inj hx; obtain rfl := Option.some.inj hy; exact CJ _
    | 1, hx, hy => obtain rfl := Option.some.inj hx; obtain rfl := Option.some.inj hy; exact JV
    | 2, hx, hy => obtain rfl := Option.some.inj hx; obtain rfl := Option.some.inj hy; exact CJ _
    | 3, hx, hy => obtain rfl := Option.some.inj hx; obtain rfl := Option.some.inj hy; exact CJ _
    | j + 4, hx, _ => simp at hx
theorem Po {s : D.Stmt} (hw : AN e.M) (hs : Bl e.S) (hl : s.Args.length ≤ 1048576) (hm : s.Match.length = s.Args.length) :
    Ae Tryz.prog 67 [] [.agg (Af e), .agg (Av s)] [] (RZ (FN e s)) := by
  have hq : FN e s = bif decide ((AL e s.A).2 ≠ 0) then (0, -1, (AL e s.A).2)
    else bif decide ((BP e (AL e s.A).1).length ≠ s.Args.length) then (0, -1, 49)
    else bif decide ((CA e s).2 ≠ 0) then (0, -1, (CA e s).2)
    else ((AL e s.A).1, G9 (Dy e (AL e s.A).1) (CA e s).1 s.Match (decide (s.N.tmod 2 = 1)), 0) := rfl
  generalize FN e s = r at hq
  refine Ah Am An Tryz.func67 (by kernel_rfl) rfl (RJ r e s) ⟨AL e s.A, Gr hw hs s.A, fun h => Jt ?_, fun h => ?_⟩
  · rw [hq, show decide ((AL e s.A).2 ≠ 0) = true by simpa using h]; rfl
  have h0 : (AL e s.A).2 = 0 := by simpa using h
  rw [h0] at hq
  have hc := Mc hw h0
  generalize (AL e s.A).1 = n at hc hq ⊢
  have h1 := hc.lo
  have h2 := hc.hi
  have h3 := hc.le
  have h4 := hc.q
  rw [A6 (by omega) (by omega)]
  refine ⟨by omega, hc.sh, fun hf => Jt ?_, fun hf => ⟨CA e s, Km hw hs hl hm, fun ha => Jt ?_, fun ha => ⟨by omega, by decide, G9 (Dy e n) (CA e s).1 s.Match (s.N.tmod 2 == 1), Q6 (c := Dy e n) (by unfold Len; omega) (by unfold Len; omega), Jt ?_⟩⟩⟩
  · rw [EC] at hf
    rw [hq, show decide ((BP e n).length ≠ s.Args.length) = true from hf]; rfl
  · rw [EC] at hf
    rw [hq, show decide ((BP e n).length ≠ s.Args.length) = false from hf, show decide ((CA e s).2 ≠ 0) = true by simpa using ha]; rfl
  · rw [EC] at hf
    rw [hq, show decide ((BP e n).length ≠ s.Args.length) = false from hf, show decide ((CA e s).2 ≠ 0) = false by simpa using ha, ieq]; rfl
theorem Pd {s : D.Stmt} {c : Int} {m : List Int} (hw : AN e.M) (hs : Bl e.S) (hl : s.Args.length ≤ 1048576) (hm : s.Kind = 6 → s.Match.length = s.Args.length) :
    Ae Tryz.prog 166 [] [.agg (Af e), .agg (Av s), Ad c, Aa true m] [] (Ai (EW e s c m)) := by
  have hq : EW e s c m = bif decide (s.Kind ≠ 6) || (decide (1 < s.N) || decide (s.Args.length ≠ m.length)) then false
    else bif decide ((AL e s.A).2 ≠ 0) || decide ((AL e s.A).1 ≠ c) then false
    else bif decide ((CA e s).2 ≠ 0) then false else decide (G9 ⟨0, [m]⟩ (CA e s).1 s.Match false = 0) := rfl
  generalize EW e s c m = b at hq
  have e1 : (bif bif s.Kind != (6 : Int) then true else decide (s.N > (1 : Int)) then true else (s.Args.length : Int) != (m.length : Int)) = (decide (s.Kind ≠ 6) || (decide (1 < s.N) || decide (s.Args.length ≠ m.length))) := by
    rw [Bc, Bc, A0, EC, Bool.or_assoc]
  refine Ah Am An Tryz.func166 (by kernel_rfl) rfl (Ru b e s c m) ⟨fun h => As ?_, fun h => ⟨AL e s.A, Gr hw hs s.A, fun h2 => As ?_, fun h2 => ?_⟩⟩
  · rw [e1] at h; rw [hq, h]; rfl
  · rw [e1] at h
    rw [Bc, A0, A0] at h2
    rw [hq, h, h2]; rfl
  · rw [e1] at h
    rw [Bc, A0, A0] at h2
    have hk : s.Kind = 6 := by
      simp only [Bool.or_eq_false_iff, decide_eq_false_iff_not, Classical.not_not] at h
      exact h.1
    have hmm := hm hk
    refine ⟨CA e s, Km hw hs hl hmm, G9 ⟨0, [m]⟩ (CA e s).1 s.Match false, fun _ => ?_, As ?_⟩
    · have hf := Q6 (c := ⟨0, [m]⟩) (l := (CA e s).1) (mt := s.Match) (any := false) (by unfold Len; simp) (by unfold Len; omega)
      refine hf.le trivial ⟨VV.le_agg ⟨VV.le_refl _, VV.le_sl (.inl rfl) fun i hi => A8 ?_, trivial⟩, VV.le_refl _, VV.le_refl _, VV.le_refl _, trivial⟩ trivial (VV.le_refl _)
      obtain rfl : i = 0 := by omega
      rfl
    · rw [hq, h, h2, ieq, ieq]
      by_cases h3 : (CA e s).2 = 0
      · simp [h3]
      · simp [h3]
theorem K8 (h : Cp e) : Ae Tryz.prog 29 [] [.agg (Af e)] [] (.tup [Ai (Bm e).1, Ad (Bm e).2]) := by
  have hq : Bm e = bif decide ((Dm e).Provided < 0) then (true, 0) else (decide ((B6 e (Dm e).Provided).1 ≠ 0), (B6 e (Dm e).Provided).2) := rfl
  generalize Bm e = r at hq
  refine Ah Am An Tryz.func29 (by kernel_rfl) rfl (Va r e) ⟨Dm e, K9 h, fun h1 => ⟨trivial, ?_⟩, fun h1 => ⟨B6 e (Dm e).Provided, Gq h.ok.wf h.small _, trivial, ?_⟩⟩
  · rw [hq, h1]; exact VV.le_refl _
  · rw [hq, h1, A0]; exact VV.le_refl _
end
end Go.Proofs.YtiaebjpcgjkhoaaGreatDoor
namespace Go.Proofs.YtiaebjpcgjkhoaaGreatDoor
open Go.RowKit
theorem Kq {n : Nat} : ∀ {ws : List (List D.Trans)} {many k many' : Nat}, Gd n many k ws = some many' → ∀ w ∈ ws, w.length ≤ 1024 ∧ ∀ t ∈ w, inP n t.To = true
  | [], _, _, _, _, w, hw => by cases hw
  | v :: r, many, k, many', h, w, hw => by
    unfold Gd at h
    cases c1 : (decide (0 < k) && decide (v.length = 0)) with
    | true => rw [c1, cond_true] at h; cases h
    | false =>
    cases c2 : decide (1024 < many + v.length) with
    | true => rw [c1, c2, cond_false, cond_true] at h; cases h
    | false =>
    cases c3 : B3 v.length (fun i => inP n (v.getD i default).To) with
    | false => rw [c1, c2, c3, cond_false, cond_false, cond_false] at h; cases h
    | true =>
      rw [c1, c2, c3, cond_false, cond_false, cond_true] at h
      rcases List.mem_cons.1 hw with rfl | hw
      · have := of_decide_eq_false c2
        exact ⟨by omega, (CK (d := default) (f := fun t : D.Trans => inP n t.To)).1 c3⟩
      · exact Kq h w hw
theorem L6 {n : Nat} {final : Int} : ∀ {ls : List D.Loc} {many i : Nat}, GZ n final many i ls = true → ∀ l ∈ ls, ∀ w ∈ Bt l, w.length ≤ 1024 ∧ ∀ t ∈ w, inP n t.To = true
  | [], _, _, _, l, hl, _, _ => by cases hl
  | v :: r, many, i, h, l, hl, w, hw => by
    unfold GZ at h
    cases c1 : OS final i v with
    | true => rw [c1, cond_true] at h; cases h
    | false =>
      rw [c1, cond_false] at h
      cases c2 : Gd n many 0 (Bt v) with
      | none => rw [c2] at h; cases h
      | some many' =>
        rw [c2] at h
        rcases List.mem_cons.1 hl with rfl | hl
        · exact Kq c2 w hw
        · exact L6 h l hl w hw
theorem Tm {p : D.Proc} (h : Fg p = true) : ∀ l ∈ p.Locs, ∀ w ∈ Bt l, w.length ≤ 1024 ∧ ∀ t ∈ w, inP p.Locs.length t.To = true := by
  unfold Fg at h
  simp only [Bool.and_eq_true] at h
  exact L6 h.2
theorem YD {m : D.Model} (h : H6 m = true) (i : Nat) (hi : i < m.Procs.length) : C7 m i = true := by
  obtain ⟨_, _, h3⟩ := ER h
  exact JD (f := fun i : Nat => C7 m i) (by unfold GW at h3; omega) i hi
theorem XN {m : D.Model} (h : H6 m = true) {i : Nat} (hi : i < m.Procs.length) {l : D.Loc} (hl : l ∈ (m.Procs.getD i default).Locs) {w : List D.Trans} (hw : w ∈ Bt l) {t : D.Trans} (ht : t ∈ w) : JI m i t.S = true := by
  have h1 := YD h i hi
  unfold C7 at h1
  simp only [Bool.and_eq_true] at h1
  have h2 := (CK (d := default) (f := fun l : D.Loc => OR m i l)).1 h1.1 l hl
  unfold OR at h2
  have h3 := (CK (d := []) (f := fun w => Ip m i w)).1 h2 w hw
  unfold Ip at h3
  exact (CK (d := default) (f := fun t : D.Trans => JI m i t.S)).1 h3 t ht
structure Ki (m : D.Model) (s : D.Stmt) : Prop where
  st : Az m s = true
  wf : KL s
theorem Ki.args {m : D.Model} {s : D.Stmt} (h : Ki m s) : s.Args.length ≤ 1048576 := h.wf.Args.1
theorem Ki.k1 {m : D.Model} {s : D.Stmt} (h : Ki m s) (hk : s.Kind = 1) : 0 ≤ s.A ∧ s.A < m.Exprs.length := by
  have := h.st
  unfold Az at this
  rw [if_pos (.inl hk)] at this
  simp only [Bool.and_eq_true] at this
  exact Cn.1 this.1.1
theorem Ki.k2 {m : D.Model} {s : D.Stmt} (h : Ki m s) (hk : s.Kind = 2) : 0 ≤ s.B ∧ s.B < m.Exprs.length := by
  have := h.st
  unfold Az at this
  rw [if_neg (by omega), if_pos hk] at this
  simp only [Bool.and_eq_true] at this
  exact Cn.1 this.1.2
theorem Ki.k6 {m : D.Model} {s : D.Stmt} (h : Ki m s) (hk : s.Kind = 6) : s.Match.length = s.Args.length := by
  have := h.st
  unfold Az at this
  rw [if_neg (by omega), if_neg (by omega), if_neg (by omega), if_neg (by omega), if_pos hk] at this
  simp only [Bool.and_eq_true] at this
  have := this.1.1.1.2
  unfold EX Bn at this
  simp only [Bool.and_eq_true, decide_eq_true_eq] at this
  exact this.1.1.1.2
structure XA (m : D.Model) (n : Nat) (ws : List D.Trans) : Prop where
  len : ws.length ≤ 1024
  st : ∀ t ∈ ws, Ki m t.S
  to : ∀ t ∈ ws, inP n t.To = true
section
variable {e : D.Env}
theorem Cp.ws (h : Cp e) {ws : List D.Trans} (hw : ws ∈ Bt (BZ e)) : XA e.M (Dm e).Locs.length ws := by
  have hf := h.facts
  have hi : (Dz e e.Pid).Type_.toNat < e.M.Procs.length := by omega
  have hl : BZ e ∈ (Dm e).Locs := AF (by omega)
  have hg := Tm (JX (ER h.ok.may).2.1 _ hi).2 _ hl _ hw
  refine ⟨hg.1, fun t ht => ⟨?_, ?_⟩, hg.2⟩
  · have := XN h.ok.may hi hl hw ht
    unfold JI at this
    simp only [Bool.and_eq_true] at this
    exact this.1.1
  · have hwl := h.wloc
    rcases List.mem_cons.1 hw with rfl | hw
    · exact (hwl.Out.2 t ht).S
    · exact ((hwl.Esc.2 _ hw).2 t ht).S
theorem AeY {b : Bool} {er : Int} {l : List Pn} {r : Ab} (h : (⟨b, er, l⟩ : Ab) = r) : leO [] [] ∧ VV.le (.agg [.sc (.bool b), .sc (.int .i64 er), BY true l]) (.agg (Bj r)) := by
  subst h; exact ⟨trivial, VV.le_refl _⟩
theorem Fe {b : Bool} {er : Int} {r : Ab} (h : (⟨b, er, []⟩ : Ab) = r) : leO [] [] ∧ VV.le (.agg [.sc (.bool b), .sc (.int .i64 er), .nl]) (.agg (Bj r)) := by
  subst h; exact ⟨trivial, VV.le_agg ⟨VV.le_refl _, VV.le_refl _, VV.le_nil, trivial⟩⟩
abbrev MtS (e : D.Env) (mt : Int → List Int → List Pn) : Prop := ∀ c m, Ae Tryz.prog 115 [] [.agg (Af e), Ad c, Aa true m] [] (BY true (mt c m))
theorem Pf {s : D.Stmt} {self : Bool} {mt : Int → List Int → List Pn} (h : Cp e) (hs : Ki e.M s) (hmt : self = false → MtS e mt) :
    Ae Tryz.prog 78 [] [.agg (Af e), .agg (Av s), Ai self] [] (.agg (Bj (Gi e mt s self))) := by
  have hw := h.ok.wf
  have hsm := h.small
  have hq : Gi e mt s self = bif decide ((AL e s.A).2 ≠ 0) then ⟨true, (AL e s.A).2, []⟩
    else bif decide ((BP e (AL e s.A).1).length ≠ s.Args.length) then ⟨true, 49, []⟩
    else bif decide (0 < (CN e.M (Dy e (AL e s.A).1).Shape).Room) then ⟨decide (((Dy e (AL e s.A).1).Queue.length : Int) < (CN e.M (Dy e (AL e s.A).1).Shape).Room), 0, []⟩
    else bif self then ⟨false, 0, []⟩
    else bif decide ((AM e s).2.2 ≠ 0) then ⟨true, (AM e s).2.2, []⟩
    else ⟨decide (0 < (mt (AL e s.A).1 (AM e s).2.1).length), 0, mt (AL e s.A).1 (AM e s).2.1⟩ := rfl
  generalize Gi e mt s self = r at hq
  refine Ah Am An Tryz.func78 (by kernel_rfl) rfl (Rx r e s self) ⟨AL e s.A, Gr hw hsm s.A, fun h1 => Fe ?_, fun h1 => ?_⟩
  · rw [hq, show decide ((AL e s.A).2 ≠ 0) = true by simpa using h1]; rfl
  have h0 : (AL e s.A).2 = 0 := by simpa using h1
  rw [h0] at hq
  have hc := Mc hw h0
  generalize (AL e s.A).1 = n at hc hq ⊢
  have h2 := hc.lo
  have h3 := hc.hi
  have h4 := hc.le
  rw [A6 (by omega) (by omega)]
  refine ⟨by omega, hc.sh, fun hf => Fe ?_, fun hf => ⟨fun hr => Fe ?_, fun hr => ⟨fun hself => Fe ?_, fun hself => ⟨AM e s, Vf hw hsm hs.args, fun ha => Fe ?_, fun ha => ⟨mt n (AM e s).2.1, hmt hself _ _, AeY ?_⟩⟩⟩⟩⟩
  · rw [EC] at hf
    rw [hq, show decide ((BP e n).length ≠ s.Args.length) = true from hf]; rfl
  · rw [EC] at hf
    rw [hq, show decide ((BP e n).length ≠ s.Args.length) = false from hf, show decide (0 < (CN e.M (Dy e n).Shape).Room) = true from hr]; rfl
  · rw [EC] at hf
    rw [hq, show decide ((BP e n).length ≠ s.Args.length) = false from hf, show decide (0 < (CN e.M (Dy e n).Shape).Room) = false from hr, hself]; rfl
  · rw [EC] at hf
    rw [hq, show decide ((BP e n).length ≠ s.Args.length) = false from hf, show decide (0 < (CN e.M (Dy e n).Shape).Room) = false from hr, hself, show decide ((AM e s).2.2 ≠ 0) = true by simpa using ha]; rfl
  · rw [EC] at hf
    rw [hq, show decide ((BP e n).length ≠ s.Args.length) = false from hf, show decide (0 < (CN e.M (Dy e n).Shape).Room) = false from hr, hself, show decide ((AM e s).2.2 ≠ 0) = false by simpa using ha]
    show _ = (⟨decide (0 < (mt n (AM e s).2.1).length), 0, mt n (AM e s).2.1⟩ : Ab)
    have : decide (((mt n (AM e s).2.1).length : Int) > 0) = decide (0 < (mt n (AM e s).2.1).length) := by rw [Bool.eq_iff_iff, decide_eq_true_eq, decide_eq_true_eq]; omega
    rw [this]
theorem Rv {s : D.Stmt} {self : Bool} {mt : Int → List Int → List Pn} (h : Cp e) (hs : Ki e.M s) (hmt : self = false → MtS e mt) :
    Ae Tryz.prog 49 [] [.agg (Af e), .agg (Av s), Ai self] [] (.agg (Bj (C0 e mt s self))) := by
  have hw := h.ok.wf
  have hsm := h.small
  have hq : C0 e mt s self = if s.Kind = 1 then (bif Fx e s.A then LP e else ⟨decide ((B6 e s.A).1 ≠ 0) || decide ((B6 e s.A).2 ≠ 0), (B6 e s.A).2, []⟩)
    else if s.Kind = 2 then (bif Fx e s.B then LP e else ⟨true, 0, []⟩)
    else if s.Kind = 9 then ⟨decide (e.S.Chans.length < 32), 0, []⟩
    else if s.Kind = 5 then Gi e mt s self
    else if s.Kind = 6 then ⟨decide (0 ≤ (FN e s).2.1) || decide ((FN e s).2.2 ≠ 0), (FN e s).2.2, []⟩
    else if s.Kind = 7 then ⟨false, 0, []⟩ else ⟨true, 0, []⟩ := rfl
  generalize C0 e mt s self = r at hq
  have lf : ∀ {a : Ab}, a = r → leO [] [] ∧ VV.le (.agg (Bj a)) (.agg (Bj r)) := fun h => by subst h; exact ⟨trivial, VV.le_refl _⟩
  refine Ah Am An Tryz.func49 (by kernel_rfl) rfl (U4 r e s self) ⟨fun k1 => ⟨Fx e s.A, K6 fun _ => (hs.k1 (by simpa using k1)).2, fun hr => ⟨LP e, K7, lf ?_⟩, fun hr => ⟨B6 e s.A, Gq hw hsm _, Fe ?_⟩⟩,
    fun k1 => ⟨fun k2 => ⟨Fx e s.B, K6 fun _ => (hs.k2 (by simpa using k2)).2, fun hr => ⟨LP e, K7, lf ?_⟩, fun hr => Fe ?_⟩,
    fun k2 => ⟨fun k9 => Fe ?_, fun k9 => ⟨fun k5 => ⟨Gi e mt s self, Pf h hs hmt, lf ?_⟩, fun k5 => ⟨fun k6 => ⟨FN e s, Po hw hsm hs.args (hs.k6 (by simpa using k6)), Fe ?_⟩, fun k6 => ⟨fun k7 => Fe ?_, fun k7 => Fe ?_⟩⟩⟩⟩⟩⟩
  · rw [hq, if_pos (by simpa using k1), hr]; rfl
  · rw [hq, if_pos (by simpa using k1), hr, Bc, A0, A0]; rfl
  · rw [hq, if_neg (by simpa using k1), if_pos (by simpa using k2), hr]; rfl
  · rw [hq, if_neg (by simpa using k1), if_pos (by simpa using k2), hr]; rfl
  · rw [hq, if_neg (by simpa using k1), if_neg (by simpa using k2), if_pos (by simpa using k9)]
    have : decide ((e.S.Chans.length : Int) < 32) = decide (e.S.Chans.length < 32) := by rw [Bool.eq_iff_iff, decide_eq_true_eq, decide_eq_true_eq]; omega
    rw [this]
  · rw [hq, if_neg (by simpa using k1), if_neg (by simpa using k2), if_neg (by simpa using k9), if_pos (by simpa using k5)]
  · rw [hq, if_neg (by simpa using k1), if_neg (by simpa using k2), if_neg (by simpa using k9), if_neg (by simpa using k5), if_pos (by simpa using k6), Bc, A0]
  · rw [hq, if_neg (by simpa using k1), if_neg (by simpa using k2), if_neg (by simpa using k9), if_neg (by simpa using k5), if_neg (by simpa using k6), if_pos (by simpa using k7)]
  · rw [hq, if_neg (by simpa using k1), if_neg (by simpa using k2), if_neg (by simpa using k9), if_neg (by simpa using k5), if_neg (by simpa using k6), if_neg (by simpa using k7)]
end
end Go.Proofs.YtiaebjpcgjkhoaaGreatDoor
namespace Go.Proofs.YtiaebjpcgjkhoaaGreatDoor
open Go.RowKit
section
variable {e : D.Env} {mt : Int → List Int → List Pn} {ws : List D.Trans} {self : Bool}
def KK (e : D.Env) (mt : Int → List Int → List Pn) (ws : List D.Trans) (self : Bool) (k : Nat) : List Ab := (List.range ws.length).map fun i => if i < k then C0 e mt (ws.getD i default).S self else default
def JA (e : D.Env) (mt : Int → List Int → List Pn) (ws : List D.Trans) (self : Bool) (k : Nat) : List Ab := (List.range ws.length).map fun i => if i < k then Fj e mt ws self i else C0 e mt (ws.getD i default).S self
theorem Mm {k : Nat} : (KK e mt ws self k).length = ws.length := by simp [KK]
theorem Hf {k : Nat} : (JA e mt ws self k).length = ws.length := by simp [JA]
theorem JB {k i : Nat} (hi : i < ws.length) : (KK e mt ws self k).getD i default = if i < k then C0 e mt (ws.getD i default).S self else default := by simp [KK, List.getD, hi]
theorem Ml {k i : Nat} (hi : i < ws.length) : (JA e mt ws self k).getD i default = if i < k then Fj e mt ws self i else C0 e mt (ws.getD i default).S self := by simp [JA, List.getD, hi]
theorem Zu : JA e mt ws self ws.length = Ch e mt ws self := by
  unfold JA Ch
  apply List.map_congr_left
  intro i hi
  rw [if_pos (List.mem_range.1 hi)]
theorem Zv : KK e mt ws self ws.length = JA e mt ws self 0 := by
  unfold JA KK
  apply List.map_congr_left
  intro i hi
  rw [if_pos (List.mem_range.1 hi), if_neg (Nat.not_lt_zero _)]
theorem Rm : (Ch e mt ws self).length = ws.length := by simp [Ch]
theorem Zx {i k : Nat} (h : i ≠ k) : Nat.beq i k = false := by
  cases hq : Nat.beq i k with
  | true => exact absurd (Nat.eq_of_beq_eq_true hq) h
  | false => rfl
set_option maxRecDepth 10000 in
theorem MV {n : Nat} (h : Cp e) (hw : XA e.M n ws) (hmt : self = false → MtS e mt) :
    Ae Tryz.prog 32 [] [.agg (Af e), Aq true ws, Ai self] [] (Bz true (Ch e mt ws self)) := by
  have hwl := hw.len
  refine Ah Am An Tryz.func32 (by kernel_rfl) rfl (XI _ e ws self) ⟨⟨by omega, by omega, by omega⟩, ?_⟩
  refine Bh Am An (fun g st => ∃ k : Nat, k ≤ ws.length ∧ g = ws.length - k ∧ st = Od e ws self ws.length (E5 (KK e mt ws self k)) (Eo e mt ws self k) k) (by kernel_rfl) (by kernel_rfl)
    ⟨ws.length, Up.mk (l' := [(1, Aq true ws), (2, Ai self), (3, .bp 0 0), (7, .ow 1 0 ws.length), (8, Ai false), (16, Aq true ws), (17, Ad ws.length), (18, Ad ((0 : Nat) : Int))]) (hs' := [.box (Af e), .arr true 0 ws.length 3 (E5 (KK e mt ws self 0))]) (AZ _) ⟨Ob.le_refl _, Ob.le_arr fun i hi => ?_, trivial⟩ ⟨0, Nat.zero_le _, rfl, rfl⟩⟩ ?_
  · have hz : E5 (KK e mt ws self 0) i = Bj default := by
      unfold E5
      rw [JB (by omega), if_neg (Nat.not_lt_zero _)]
    rw [hz]
    exact ⟨VV.le_refl _, VV.le_refl _, VV.le_nil, trivial⟩
  rintro g st ⟨k, hk, rfl, rfl⟩
  refine A9.raw (Vp _ e ws self _ _ _ k _) ⟨fun hlt => ?_, fun hge => ?_⟩
  · have hlt' : k < ws.length := by have := AQ hlt; omega
    have hto : (k : Int).toNat = k := by omega
    rw [hto]
    refine ⟨⟨by omega, by omega⟩, C0 e mt (ws.getD k default).S self, Rv h (hw.st _ (AF hlt')) hmt, ⟨by omega, by omega⟩, ?_⟩
    refine AH.le (hs' := [.box (Af e), .arr true 0 ws.length 3 (E5 (KK e mt ws self (k + 1)))]) (AZ _) ⟨Ob.le_refl _, Ob.le_arr fun i hi => A8 ?_, trivial⟩ ?_
    · unfold E5
      rw [JB hi, JB hi]
      by_cases hik : i = k
      · subst hik
        rw [if_pos (Nat.lt_succ_self _), Nat.beq_refl, cond_true]; rfl
      · rw [Zx hik, cond_false]
        by_cases h1 : i < k
        · rw [if_pos h1, if_pos (by omega)]
        · rw [if_neg h1, if_neg (by omega)]
    · have e0 : Ao [(1, Aq true ws), (2, Ai self), (3, .bp 0 0), (7, .ow 1 0 ws.length), (8, Ai (Eo e mt ws self k)), (9, Ad k), (16, Aq true ws), (17, Ad ws.length), (18, Ad k)] [.box (Af e), .arr true 0 ws.length 3 (E5 (KK e mt ws self (k + 1)))] = Oc e ws self (KK e mt ws self (k + 1)) (Eo e mt ws self k) k k := by
        unfold Oc; rw [Mm]
      refine Eq.mpr (congrArg (AH _ _) e0) ?_
      refine D0 Am An (by kernel_rfl) (Vn _ e ws self _ _ k k _) ⟨fun _ => by rw [Mm]; omega, ws.length - (k + 1), by omega, Up.of ⟨k + 1, hlt', rfl, ?_⟩⟩
      rw [Ap (by omega), hto, JB hlt', if_pos (Nat.lt_succ_self _), Mm]
      have : Eo e mt ws self (k + 1) = bif Eo e mt ws self k then true else (C0 e mt (ws.getD k default).S self).is := by
        rw [Bc]; rfl
      unfold Od
      rw [this]; rfl
  · obtain rfl : k = ws.length := by have := AV hge; omega
    generalize hsome : Eo e mt ws self ws.length = some
    refine Bh Am An (fun g st => ∃ k : Nat, k ≤ ws.length ∧ g = ws.length - k ∧ st = KM ws (JA e mt ws self k) some k) (by kernel_rfl) (by kernel_rfl) ⟨ws.length, Up.of ⟨0, Nat.zero_le _, rfl, by unfold KM; rw [Hf, Zv]; rfl⟩⟩ ?_
    rintro g st ⟨k, hk, rfl, rfl⟩
    refine A9.raw (Vo _ ws _ some k _) ⟨fun hlt => ?_, fun hge => ⟨trivial, ?_⟩⟩
    · have hlt' : k < ws.length := by have := AQ hlt; omega
      have hto : (k : Int).toNat = k := by omega
      rw [hto]
      have ek : (bif (ws.getD k default).S.Kind == (7 : Int) then !some else false) = (decide ((ws.getD k default).S.Kind = 7) && !(Eo e mt ws self ws.length)) := by rw [AS, ieq, hsome]
      have ea : Fj e mt ws self k = bif decide ((ws.getD k default).S.Kind = 7) && !(Eo e mt ws self ws.length) then { C0 e mt (ws.getD k default).S self with is := true } else C0 e mt (ws.getD k default).S self := rfl
      refine ⟨⟨by omega, by omega⟩, fun hy => ⟨by rw [Hf]; omega, ws.length - (k + 1), by omega, Up.mk (hs' := [.arr true 0 (JA e mt ws self k).length 3 (E5 (JA e mt ws self (k + 1)))]) (AZ _) ⟨Ob.le_arr fun i hi => A8 ?_, trivial⟩ ⟨k + 1, hlt', rfl, ?_⟩⟩, fun hy => ⟨ws.length - (k + 1), by omega, Up.of ⟨k + 1, hlt', rfl, ?_⟩⟩⟩
      · rw [ek] at hy
        rw [Hf] at hi
        rw [Ml hlt', if_neg (Nat.lt_irrefl _)]
        unfold E5
        rw [Ml hi, Ml hi]
        by_cases hik : i = k
        · subst hik
          rw [if_pos (Nat.lt_succ_self _), Nat.beq_refl, cond_true, ea, hy, cond_true]; rfl
        · rw [Zx hik, cond_false]
          by_cases h1 : i < k
          · rw [if_pos h1, if_pos (by omega)]; rfl
          · rw [if_neg h1, if_neg (by omega)]; rfl
      · rw [Ap (by omega)]
        unfold KM
        rw [Hf, Hf] <;> rfl
      · rw [ek] at hy
        have em : JA e mt ws self k = JA e mt ws self (k + 1) := by
          unfold JA
          apply List.map_congr_left
          intro i _
          by_cases hik : i = k
          · subst hik
            rw [if_neg (Nat.lt_irrefl _), if_pos (Nat.lt_succ_self _), ea, hy, cond_false]
          · by_cases h1 : i < k
            · rw [if_pos h1, if_pos (by omega)]
            · rw [if_neg h1, if_neg (by omega)]
        rw [Ap (by omega), em]; rfl
    · obtain rfl : k = ws.length := by have := AV hge; omega
      rw [Zu]; exact VV.le_refl _
end
end Go.Proofs.YtiaebjpcgjkhoaaGreatDoor
namespace Go.Proofs.YtiaebjpcgjkhoaaGreatDoor
open Go.RowKit
def Q2 : Nat → List Ab → Int
  | _, [] => -1
  | k, x :: r => bif x.is then (k : Int) else Q2 (k + 1) r
theorem NF {k : Nat} {x : Ab} {r : List Ab} : Q2 k (x :: r) = bif x.is then (k : Int) else Q2 (k + 1) r := rfl
theorem NE : ∀ {l : List Ab} {k : Nat}, decide (Q2 k l ≥ 0) = isSome l
  | [], k => by simp [Q2, isSome]
  | x :: r, k => by
    have ih := NE (l := r) (k := k + 1)
    unfold isSome at *
    rw [List.any_cons, NF]
    cases x.is with
    | true => simp
    | false => rw [cond_false, ih, Bool.false_or]
abbrev Aa8 : VV := .fn (.func 168) []
theorem RC {x : Ab} : Ae Tryz.prog 168 [] [.agg (Bj x)] [] (Ai x.is) :=
  Ah Am An Tryz.func168 (by kernel_rfl) rfl (Vi _ x) (As rfl)
theorem RF {l : List Ab} (hl : l.length ≤ 1048576) : Ae Tryz.prog 176 [] [Bz true l, Aa8] [] (Ad (Q2 0 l)) := by
  refine Ah Am An Tryz.func176 (by kernel_rfl) rfl (Vk _ l) ?_
  refine AI Am An l.length (fun k => T7 l k) (fun k => Q2 0 l = Q2 k (l.drop k)) (by kernel_rfl) (by kernel_rfl) rfl ?_
  intro k hk hI J next
  refine A9.raw (RG _ l k J) ⟨fun hlt => ?_, fun hge => BJ ?_⟩
  · have hlt' : k < l.length := by have := AQ hlt; omega
    have hto : (k : Int).toNat = k := by omega
    rw [hto]
    rw [BQ (d := default) hlt', NF] at hI
    refine ⟨by omega, (l.getD k default).is, RC, fun hy => BJ ?_, fun hy => next _ hlt' ?_ (Up.of ?_)⟩
    · rw [hy, cond_true] at hI; exact hI.symm
    · rw [hy, cond_false] at hI; exact hI
    · rw [Ap (by omega)]; rfl
  · have hge' : l.length ≤ k := by have := AV hge; omega
    rw [hI, List.drop_of_length_le hge']; rfl
theorem Pp {l : List Ab} (hl : l.length ≤ 1048576) : Ae Tryz.prog 167 [] [Bz true l, Aa8] [] (Ai (isSome l)) :=
  Ah Am An Tryz.func167 (by kernel_rfl) rfl (RO _ l) ⟨_, RF hl, As NE⟩
section
variable {e : D.Env} {c : Int} {m : List Int}
theorem Np {i : Int} : ∀ {ws : List D.Trans} {k : Nat}, (Cj e c m i k ws).length ≤ ws.length
  | [], _ => Nat.le_refl _
  | t :: r, k => by
    have := Np (i := i) (ws := r) (k := k + 1)
    unfold Cj
    cases EW e t.S c m <;> simp <;> omega
theorem SQ {i : Int} {k : Nat} {t : D.Trans} {r : List D.Trans} : Cj e c m i k (t :: r) = (bif EW e t.S c m then [⟨e.Pid, i, k⟩] else []) ++ Cj e c m i (k + 1) r := rfl
theorem AbN {out : List Pn} {x : Pn} {G : Nat → List VV} (hG : G 0 = Co x) {i : Nat} (hi : i < out.length + 1) : (bif i.blt out.length then EB out i else G (i - out.length)) = EB (out ++ [x]) i :=
  B8 (f := Co) (d := default) (l := out) (r := [x]) (F := EB out) (fun _ _ => rfl) (fun j hj => by
    obtain rfl : j = 0 := by simpa using hj
    exact hG) (by simp; omega)
theorem MR {n : Nat} {i : Int} {ws : List D.Trans} (h : Cp e) (hw : XA e.M n ws) :
    Ae Tryz.prog 165 (hsR e c m []) [Ad i, Aq true ws, .bp 0 0, .bp 1 0, .bp 2 0, .bp 3 0] (hsR e c m (Cj e c m i 0 ws)) (Ai (decide (0 < (Cj e c m i 0 ws).length) || isSome (Ch e Jq ws true))) := by
  have hwl := hw.len
  generalize hr : Cj e c m i 0 ws = r
  refine Ah Am An Tryz.func165 (by kernel_rfl) rfl (XE r [] _ e c m i ws) ?_
  refine Bh Am An (fun g st => ∃ (k : Nat) (out : List Pn), k ≤ ws.length ∧ g = ws.length - k ∧ out.length ≤ k ∧ out ++ Cj e c m i k (ws.drop k) = r ∧ st = Sd e c m out i ws k) (by kernel_rfl) (by kernel_rfl) ⟨ws.length, Up.of ⟨0, [], Nat.zero_le _, rfl, Nat.zero_le _, hr, rfl⟩⟩ ?_
  rintro g st ⟨k, out, hk, rfl, ho, hq, rfl⟩
  refine A9.raw (U9 r _ e c m out i ws k _) ⟨fun hlt => ?_, fun hge => ?_⟩
  · have hlt' : k < ws.length := by have := AQ hlt; omega
    have hto : (k : Int).toNat = k := by omega
    rw [hto]
    rw [BQ (d := default) hlt', SQ] at hq
    have hs := hw.st _ (AF (d := default) hlt')
    refine ⟨⟨by omega, by omega⟩, EW e (ws.getD k default).S c m, Pd h.ok.wf h.small hs.args hs.k6, fun hy => ⟨by omega, ws.length - (k + 1), by omega,
      Up.mk (hs' := [.box (Af e), .box [Ad c], .box [Aa true m], .box [.ow 4 0 (out.length + 1)], .arr true 0 (out.length + 1) 3 (EB (out ++ [Pn.mk e.Pid i k]))]) (AZ _) ⟨Ob.le_refl _, Ob.le_refl _, Ob.le_refl _, Ob.le_refl _, Ob.le_arr fun j hj => A8 (AbN (x := Pn.mk e.Pid i k) (G := fun j => List.take 3 (List.drop (j * 3) (Co (Pn.mk e.Pid i k)))) rfl hj), trivial⟩ ⟨k + 1, out ++ [Pn.mk e.Pid i k], hlt', rfl, by simp; omega, ?_, ?_⟩⟩, fun hy => ⟨ws.length - (k + 1), by omega, Up.of ⟨k + 1, out, hlt', rfl, by omega, ?_, ?_⟩⟩⟩
    · rw [hy, cond_true] at hq; rw [List.append_assoc]; exact hq
    · rw [Ap (by omega)]
      unfold Sd hsR
      rw [List.length_append]; rfl
    · rw [hy, cond_false, List.nil_append] at hq; exact hq
    · rw [Ap (by omega)]; rfl
  · have hge' : ws.length ≤ k := by have := AV hge; omega
    rw [List.drop_of_length_le hge'] at hq
    have hq : out = r := by simpa [Cj] using hq
    subst hq
    refine ⟨Ch e Jq ws true, fun _ => MV h hw (fun h => by cases h), isSome (Ch e Jq ws true), fun _ => Pp (by rw [Rm]; omega), ⟨Ob.le_refl _, Ob.le_refl _, Ob.le_refl _, Ob.le_refl _, Ob.le_refl _, trivial⟩, VV.le_eq ?_⟩
    have : decide ((out.length : Int) > 0) = decide (0 < out.length) := by rw [Bool.eq_iff_iff, decide_eq_true_eq, decide_eq_true_eq]; omega
    rw [Bc, this]
theorem Iu {i : Int} {ws : List D.Trans} {r : List (Int × List D.Trans)} : FT e c m ((i, ws) :: r) = bif decide (0 < (Cj e c m i 0 ws).length) || isSome (Ch e Jq ws true) then Cj e c m i 0 ws else FT e c m r := rfl
theorem NV {n : Nat} {l : D.Loc} (h : Cp e) (hl : l.Esc.length ≤ 1048576) (hw : ∀ ws ∈ Bt l, XA e.M n ws) :
    Ae Tryz.prog 30 (hsR e c m []) [.agg (AY l), Ab5] (hsR e c m (FT e c m (Ee l))) (.tup []) := by
  generalize hr : FT e c m (Ee l) = r
  refine Ah Am An Tryz.func30 (by kernel_rfl) rfl (Pj r [] e c m l) ?_
  refine Bh Am An (fun g st => ∃ k : Nat, k ≤ l.Esc.length ∧ g = l.Esc.length - k ∧ FT e c m (Rg k (l.Esc.drop k) ++ [(-1, l.Out)]) = r ∧ st = M9 e c m [] l k) (by kernel_rfl) (by kernel_rfl) ⟨l.Esc.length, Up.of ⟨0, Nat.zero_le _, rfl, hr, rfl⟩⟩ ?_
  rintro g st ⟨k, hk, rfl, hq, rfl⟩
  refine A9.raw (NW r e c m [] l k _) ⟨fun hlt => ?_, fun hge => ?_⟩
  · have hlt' : k < l.Esc.length := by have := AQ hlt; omega
    have hto : (k : Int).toNat = k := by omega
    rw [hto]
    rw [BQ (d := []) hlt'] at hq
    unfold Rg at hq
    rw [List.cons_append, Iu] at hq
    refine ⟨⟨by omega, by omega⟩, (Cj e c m k 0 (l.Esc.getD k []), decide (0 < (Cj e c m k 0 (l.Esc.getD k [])).length) || isSome (Ch e Jq (l.Esc.getD k []) true)), MR h (hw _ (List.mem_cons_of_mem _ (AF hlt'))), fun hy => ?_, fun hy => ⟨l.Esc.length - (k + 1), by omega, Up.of ⟨k + 1, hlt', rfl, ?_, ?_⟩⟩⟩
    · have hy : (decide (0 < (Cj e c m k 0 (l.Esc.getD k [])).length) || isSome (Ch e Jq (l.Esc.getD k []) true)) = true := hy
      rw [hy, cond_true] at hq
      subst hq
      exact ⟨⟨Ob.le_refl _, Ob.le_refl _, Ob.le_refl _, Ob.le_refl _, Ob.le_refl _, trivial⟩, VV.le_refl _⟩
    · have hy : (decide (0 < (Cj e c m k 0 (l.Esc.getD k [])).length) || isSome (Ch e Jq (l.Esc.getD k []) true)) = false := hy
      rw [hy, cond_false] at hq; exact hq
    · have hy : (decide (0 < (Cj e c m k 0 (l.Esc.getD k [])).length) || isSome (Ch e Jq (l.Esc.getD k []) true)) = false := hy
      rw [Bool.or_eq_false_iff] at hy
      have h0 : Cj e c m k 0 (l.Esc.getD k []) = [] := List.eq_nil_of_length_eq_zero (by have := of_decide_eq_false hy.1; omega)
      rw [Ap (by omega)]
      show Ao _ [_, _, _, .box [.ow 4 0 (Cj e c m k 0 (l.Esc.getD k [])).length], .arr true 0 (Cj e c m k 0 (l.Esc.getD k [])).length 3 (EB (Cj e c m k 0 (l.Esc.getD k []))), _] = _
      rw [h0]; rfl
  · have hge' : l.Esc.length ≤ k := by have := AV hge; omega
    rw [List.drop_of_length_le hge'] at hq
    refine ⟨(Cj e c m (-1) 0 l.Out, decide (0 < (Cj e c m (-1) 0 l.Out).length) || isSome (Ch e Jq l.Out true)), MR h (hw _ (List.mem_cons_self ..)), ?_, VV.le_refl _⟩
    have h0 : Cj e c m (-1) 0 l.Out = r := by
      rw [← hq]
      show _ = FT e c m ([] ++ [(-1, l.Out)])
      rw [List.nil_append, Iu]
      cases hy : (decide (0 < (Cj e c m (-1) 0 l.Out).length) || isSome (Ch e Jq l.Out true)) with
      | true => rfl
      | false =>
        rw [Bool.or_eq_false_iff] at hy
        exact List.eq_nil_of_length_eq_zero (by have := of_decide_eq_false hy.1; omega)
    subst h0
    exact ⟨Ob.le_refl _, Ob.le_refl _, Ob.le_refl _, Ob.le_refl _, Ob.le_refl _, trivial⟩
theorem Nn {N : Nat} : ∀ {ls : List (Int × List D.Trans)}, (∀ p ∈ ls, p.2.length ≤ N) → (FT e c m ls).length ≤ N
  | [], _ => Nat.zero_le _
  | (i, ws) :: r, h => by
    have h1 := h _ (List.mem_cons_self ..)
    have h2 := Nn (ls := r) fun p hp => h p (List.mem_cons_of_mem _ hp)
    have h3 := Np (e := e) (c := c) (m := m) (i := i) (ws := ws) (k := 0)
    rw [Iu]
    cases (decide (0 < (Cj e c m i 0 ws).length) || isSome (Ch e Jq ws true)) with
    | true => rw [cond_true]; exact Nat.le_trans h3 h1
    | false => exact h2
theorem Nw : ∀ {r : List (List D.Trans)} {k : Nat} {p : Int × List D.Trans}, p ∈ Rg k r → p.2 ∈ r
  | [], _, _, h => by cases h
  | w :: r, k, p, h => by
    rcases List.mem_cons.1 h with rfl | h
    · exact List.mem_cons_self ..
    · exact List.mem_cons_of_mem _ (Nw h)
theorem Ta {l : D.Loc} {p : Int × List D.Trans} (h : p ∈ Ee l) : p.2 ∈ Bt l := by
  rcases List.mem_append.1 h with h | h
  · exact List.mem_cons_of_mem _ (Nw h)
  · rw [List.mem_singleton.1 h]; exact List.mem_cons_self ..
theorem Nq (h : Cp e) : (E7 e c m).length ≤ 1024 := by
  unfold E7
  cases (!(Bm e).1 || decide ((Bm e).2 ≠ 0)) with
  | true => exact Nat.zero_le _
  | false => exact Nn fun p hp => (h.ws (Ta hp)).len
theorem Ry (h : Cp e) : Ae Tryz.prog 145 [] [.agg (Af e), Ad c, Aa true m] [] (BY true (E7 e c m)) := by
  have hq : E7 e c m = bif !(Bm e).1 || decide ((Bm e).2 ≠ 0) then [] else FT e c m (Ee (BZ e)) := rfl
  generalize E7 e c m = r at hq
  refine Ah Am An Tryz.func145 (by kernel_rfl) rfl (U8 r e c m) ⟨Bm e, K8 h, fun h1 => ?_, fun h1 => ⟨BZ e, FP h, r, ?_, trivial, VV.le_refl _⟩⟩
  · rw [Bc, A0] at h1
    rw [h1, cond_true] at hq
    rw [hq]
    exact ⟨trivial, VV.le_nil⟩
  · rw [Bc, A0] at h1
    rw [h1, cond_false] at hq
    rw [hq]
    exact Ae.ownB (i := 3) (j := 0) (cs := [.nl]) rfl rfl 3 (EB []) (NV h h.wloc.Esc.1 fun ws hw => h.ws hw)
theorem Cp.at (h : Cp e) {k : Nat} (hk : k < e.S.Procs.length) : Cp (Cf e k) := ⟨⟨h.ok.fits, h.ok.may, h.ok.wf, by show -1 ≤ (k : Int); omega, by show (k : Int) < _; exact Int.ofNat_lt.2 hk⟩, by show 0 ≤ (k : Int); omega⟩
theorem Iy (h : Cp e) : ∀ {n : Nat}, n ≤ e.S.Procs.length → (De e c m n).length ≤ n * 1024
  | 0, _ => Nat.zero_le _
  | n + 1, hn => by
    have h1 := Iy h (n := n) (by omega)
    have h2 := Nq (c := c) (m := m) (h.at (k := n) (by omega))
    unfold De
    rw [List.length_append]
    cases decide ((n : Int) ≠ e.Pid) with
    | true => rw [cond_true]; omega
    | false => rw [cond_false, List.length_nil, Nat.add_zero]; exact Nat.le_trans h1 (Nat.mul_le_mul_right _ (Nat.le_succ n))
set_option maxRecDepth 10000 in
theorem Pg (h : Cp e) : MtS e (BF e) := by
  intro c m
  have hp := h.ok.fit.p
  refine Ah Am An Tryz.func115 (by kernel_rfl) rfl (RA _ e c m) ?_
  refine AH.own 3 7 3 (EB []) rfl ?_
  refine Bh Am An (fun g st => ∃ k : Nat, k ≤ e.S.Procs.length ∧ g = e.S.Procs.length - k ∧ st = LB e c m (De e c m k) k) (by kernel_rfl) (by kernel_rfl) ⟨e.S.Procs.length, Up.of ⟨0, Nat.zero_le _, rfl, rfl⟩⟩ ?_
  rintro g st ⟨k, hk, rfl, rfl⟩
  have hlen := Iy (c := c) (m := m) h hk
  refine A9.raw (Ph _ e c m _ k _) ⟨fun hlt => ?_, fun hge => ⟨trivial, ?_⟩⟩
  · have hlt' : k < e.S.Procs.length := by have := AQ hlt; omega
    have hr := Nq (c := c) (m := m) (h.at hlt')
    refine ⟨fun hy => ⟨E7 (Cf e k) c m, Ry (h.at hlt'), by omega, fun i _ => rfl, e.S.Procs.length - (k + 1), by omega,
      Up.mk (hs' := [.box (Af e), .arr true 0 ((De e c m k).length + (E7 (Cf e k) c m).length) 3 (EB (De e c m k ++ E7 (Cf e k) c m))]) (AZ _) ⟨Ob.le_refl _, Ob.le_arr fun i hi => A8 ?_, trivial⟩ ⟨k + 1, hlt', rfl, ?_⟩⟩, fun hy => ⟨e.S.Procs.length - (k + 1), by omega, Up.of ⟨k + 1, hlt', rfl, ?_⟩⟩⟩
    · exact B8 (f := Co) (d := default) (l := De e c m k) (r := E7 (Cf e k) c m) (F := EB (De e c m k)) (fun _ _ => rfl) (fun _ _ => rfl) (by simpa using hi)
    · rw [A0] at hy
      have e1 : De e c m (k + 1) = De e c m k ++ E7 (Cf e k) c m := by
        show De e c m k ++ (bif decide ((k : Int) ≠ e.Pid) then _ else _) = _
        rw [hy, cond_true]
      rw [Ap (by omega), e1]
      unfold LB
      rw [List.length_append] <;> rfl
    · rw [A0] at hy
      have e1 : De e c m (k + 1) = De e c m k := by
        show De e c m k ++ (bif decide ((k : Int) ≠ e.Pid) then _ else _) = _
        rw [hy, cond_false, List.append_nil]
      rw [Ap (by omega), e1]; rfl
  · obtain rfl : k = e.S.Procs.length := by have := AV hge; omega
    exact VV.le_refl _
end
end Go.Proofs.YtiaebjpcgjkhoaaGreatDoor
namespace Go.Proofs.YtiaebjpcgjkhoaaGreatDoor
open Go.RowKit
section
variable {e : D.Env}
theorem Tb (h : Cp e) {c : Int} {m : List Int} : (BF e c m).length ≤ 16384 := by
  have h1 := Iy (c := c) (m := m) h (Nat.le_refl _)
  have h2 := h.ok.fit.p
  have h3 : e.S.Procs.length * 1024 ≤ 16 * 1024 := Nat.mul_le_mul_right _ h2
  exact Nat.le_trans h1 h3
theorem VR (h : Cp e) {s : D.Stmt} {self : Bool} : (C0 e (BF e) s self).wth.length ≤ 16384 := by
  have hz : ([] : List Pn).length ≤ 16384 := Nat.zero_le _
  unfold C0
  split
  · cases Fx e s.A <;> exact hz
  split
  · cases Fx e s.B <;> exact hz
  split
  · exact hz
  split
  · unfold Gi
    cases decide ((AL e s.A).2 ≠ 0)
    · cases decide ((BP e (AL e s.A).1).length ≠ s.Args.length)
      · cases decide (0 < (CN e.M (Dy e (AL e s.A).1).Shape).Room)
        · cases self
          · cases decide ((AM e s).2.2 ≠ 0)
            · exact Tb h
            · exact hz
          · exact hz
        · exact hz
      · exact hz
    · exact hz
  split
  · exact hz
  split <;> exact hz
theorem Xr {mt : Int → List Int → List Pn} {ws : List D.Trans} {self : Bool} {i : Nat} : (Fj e mt ws self i).wth = (C0 e mt (ws.getD i default).S self).wth := by
  unfold Fj
  cases (decide ((ws.getD i default).S.Kind = 7) && !(Eo e mt ws self ws.length)) <;> rfl
theorem Rl (h : Cp e) {ws : List D.Trans} {self : Bool} : ∀ x ∈ Ch e (BF e) ws self, x.wth.length ≤ 16384 := by
  intro x hx
  unfold Ch at hx
  obtain ⟨i, _, rfl⟩ := List.mem_map.1 hx
  rw [Xr]
  exact VR h
theorem M0 {i : Int} {k : Nat} {x : Ab} {r : List Ab} : CX i k (x :: r) = GA i k x ++ CX i (k + 1) r := rfl
theorem Yw {out : List Wy} {x : Wy} {G : Nat → List VV} (hG : G 0 = AX x) {i : Nat} (hi : i < out.length + 1) : (bif i.blt out.length then GS out i else G (i - out.length)) = GS (out ++ [x]) i :=
  B8 (f := AX) (d := default) (l := out) (r := [x]) (F := GS out) (fun _ _ => rfl) (fun j hj => by
    obtain rfl : j = 0 := by simpa using hj
    exact hG) (by simp; omega)
theorem AbO {a k j w : Nat} (h : a ≤ k * 16385 + 1 + j) (h1 : j ≤ w) (h2 : w ≤ 16384) : a ≤ (k + 1) * 16385 := by
  rw [Nat.succ_mul]
  generalize k * 16385 = t at h ⊢
  omega
set_option maxRecDepth 10000 in
theorem MS {n : Nat} {i : Int} {ws : List D.Trans} (h : Cp e) (hw : XA e.M n ws) :
    Ae Tryz.prog 31 (hsW e []) [Ad i, Aq true ws, .bp 0 0, .bp 1 0] (hsW e (CX i 0 (Ch e (BF e) ws false))) (Ai (decide (0 < (CX i 0 (Ch e (BF e) ws false)).length))) := by
  have hL : (Ch e (BF e) ws false).length ≤ 1024 := by rw [Rm]; exact hw.len
  have hwth := Rl h (ws := ws) (self := false)
  have hcan := MV h hw (self := false) (fun _ => Pg h)
  generalize Ch e (BF e) ws false = L at hL hwth hcan
  generalize hr : CX i 0 L = r
  refine Ah Am An Tryz.func31 (by kernel_rfl) rfl (XF r [] _ e i ws) ⟨L, hcan, ?_⟩
  refine Bh Am An (fun g st => ∃ (k : Nat) (out : List Wy), k ≤ L.length ∧ g = L.length - k ∧ out.length ≤ k * 16385 ∧ out ++ CX i k (L.drop k) = r ∧ st = Jb e out i L k) (by kernel_rfl) (by kernel_rfl) ⟨L.length, Up.of ⟨0, [], Nat.zero_le _, rfl, Nat.zero_le _, hr, rfl⟩⟩ ?_
  rintro g st ⟨k, out, hk, rfl, ho, hq, rfl⟩
  refine A9.raw (Vd r _ e out i L k _) ⟨fun hlt => ?_, fun hge => ?_⟩
  · have hlt' : k < L.length := by have := AQ hlt; omega
    have hto : (k : Int).toNat = k := by omega
    rw [hto]
    rw [BQ (d := default) hlt', M0] at hq
    have hx := hwth _ (AF (d := default) hlt')
    generalize L.getD k default = x at hq hx ⊢
    have hko : k * 16385 ≤ 1024 * 16385 := Nat.mul_le_mul_right _ (by omega)
    have key : ∀ (J : St → Prop) (out1 : List Wy), out1.length ≤ k * 16385 + 1 → out1 ++ (x.wth.map (GJ i k x.err) ++ CX i (k + 1) (L.drop (k + 1))) = r →
        (∀ st', Up (fun st => ∃ out2 : List Wy, out2.length ≤ (k + 1) * 16385 ∧ out2 ++ CX i (k + 1) (L.drop (k + 1)) = r ∧ st = Jb e out2 i L ((k + 1 : Nat) : Int)) st' → J st') →
        AH ((Ag Tryz.prog tb Cd Fm true Tryz.f31 (hsW e r) (Ai (decide (0 < r.length)))).loop [1, 0, 1, 0] J) [1, 1, 0, 0, 1, 1, 1, 1, 0] (Ja e out1 i L k ⟨i, k, -1, -1, -1, x.err⟩ x.wth 0) := by
      intro J out1 ho1 hq1 hJ
      refine Bh Am An (fun g st => ∃ (j : Nat) (w : Wy) (o : List Wy), j ≤ x.wth.length ∧ g = x.wth.length - j ∧ o.length ≤ k * 16385 + 1 + j ∧ o ++ ((x.wth.drop j).map (GJ i k x.err) ++ CX i (k + 1) (L.drop (k + 1))) = r ∧ (w.Esc = i ∧ w.Way = k ∧ w.Err = x.err) ∧ st = Ja e o i L k w x.wth j) (by kernel_rfl) (by kernel_rfl)
        ⟨x.wth.length, Up.of ⟨0, _, out1, Nat.zero_le _, rfl, ho1, hq1, ⟨rfl, rfl, rfl⟩, rfl⟩⟩ ?_
      rintro g st ⟨j, w, o, hj, rfl, hol, hoq, ⟨w1, w2, w3⟩, rfl⟩
      refine A9.raw (Vc r _ e o i L k w x.wth j _ _) ⟨fun hlt2 => ?_, fun hge2 => ?_⟩
      · have hlt2' : j < x.wth.length := by have := AQ hlt2; omega
        have hto2 : (j : Int).toNat = j := by omega
        rw [hto2]
        rw [BQ (d := default) hlt2', List.map_cons, List.cons_append] at hoq
        generalize x.wth.getD j default = p at hoq ⊢
        rw [w1, w2, w3]
        refine ⟨⟨by omega, by omega⟩, by omega, x.wth.length - (j + 1), by omega, Up.mk (hs' := [.box (Af e), .box [.ow 2 0 (o.length + 1)], .arr true 0 (o.length + 1) 6 (GS (o ++ [GJ i k x.err p])), .box (AX (GJ i k x.err p))]) (AZ _)
          ⟨Ob.le_refl _, Ob.le_refl _, Ob.le_arr fun t ht => A8 (Yw (x := GJ i k x.err p) (G := fun t => List.take 6 (List.drop (t * 6) (AX (GJ i k x.err p)))) rfl ht), Ob.le_refl _, trivial⟩ ⟨j + 1, GJ i k x.err p, o ++ [GJ i k x.err p], hlt2', rfl, by simp; omega, by rw [List.append_assoc]; exact hoq, ⟨rfl, rfl, rfl⟩, ?_⟩⟩
        rw [Ap (by omega)]
        unfold Ja hsW
        rw [List.length_append]; rfl
      · have hge2' : x.wth.length ≤ j := by have := AV hge2; omega
        rw [List.drop_of_length_le hge2', List.map_nil, List.nil_append] at hoq
        refine hJ _ (Up.of ⟨o, AbO hol hj hx, hoq, ?_⟩)
        rw [Ap (by omega)]; rfl
    have next : ∀ st', Up (fun st => ∃ out2 : List Wy, out2.length ≤ (k + 1) * 16385 ∧ out2 ++ CX i (k + 1) (L.drop (k + 1)) = r ∧ st = Jb e out2 i L ((k + 1 : Nat) : Int)) st' →
        ∃ g', g' < L.length - k ∧ Up (fun st => ∃ (k : Nat) (out : List Wy), k ≤ L.length ∧ g' = L.length - k ∧ out.length ≤ k * 16385 ∧ out ++ CX i k (L.drop k) = r ∧ st = Jb e out i L k) st' := by
      rintro st' ⟨s', hc, out2, h1, h2, h3⟩
      exact ⟨L.length - (k + 1), by omega, s', hc, k + 1, out2, hlt', rfl, h1, h2, h3⟩
    have ez : ((x.wth.length : Int) == 0) = decide (x.wth.length = 0) := by rw [Bool.eq_iff_iff, beq_iff_eq, decide_eq_true_eq]; omega
    refine ⟨⟨by omega, by omega⟩, fun hy => ⟨by omega, ?_⟩, fun hy => ?_⟩
    · rw [AS, ez] at hy
      have hw0 : GA i k x = Wy.mk i k (-1) (-1) (-1) x.err :: x.wth.map (GJ i k x.err) := by unfold GA; rw [hy]; rfl
      rw [hw0] at hq
      refine AH.le (hs' := [.box (Af e), .box [.ow 2 0 (out.length + 1)], .arr true 0 (out.length + 1) 6 (GS (out ++ [Wy.mk i k (-1) (-1) (-1) x.err])), .box (AX (Wy.mk i k (-1) (-1) (-1) x.err))]) (AZ _)
          ⟨Ob.le_refl _, Ob.le_refl _, Ob.le_arr fun t ht => A8 (Yw (x := Wy.mk i k (-1) (-1) (-1) x.err) (G := fun t => List.take 6 (List.drop (t * 6) (AX (Wy.mk i k (-1) (-1) (-1) x.err)))) rfl ht), Ob.le_refl _, trivial⟩ ?_
      have hk1 := key _ (out ++ [Wy.mk i k (-1) (-1) (-1) x.err]) (by simp; omega) (by rw [List.append_assoc]; exact hq) next
      unfold Ja hsW at hk1
      rw [List.length_append] at hk1
      exact hk1
    · rw [AS, ez] at hy
      have hw0 : GA i k x = x.wth.map (GJ i k x.err) := by unfold GA; rw [hy]; rfl
      rw [hw0] at hq
      exact key _ out (Nat.le_succ_of_le ho) hq next
  · have hge' : L.length ≤ k := by have := AV hge; omega
    rw [List.drop_of_length_le hge'] at hq
    have hq : out = r := by simpa [CX] using hq
    subst hq
    refine ⟨⟨Ob.le_refl _, Ob.le_refl _, Ob.le_refl _, trivial⟩, VV.le_eq ?_⟩
    have : decide ((out.length : Int) > 0) = decide (0 < out.length) := by rw [Bool.eq_iff_iff, decide_eq_true_eq, decide_eq_true_eq]; omega
    rw [this]
theorem LW {i : Int} {ws : List D.Trans} {r : List (Int × List D.Trans)} : FC e ((i, ws) :: r) = bif decide (0 < (CX i 0 (Ch e (BF e) ws false)).length) then CX i 0 (Ch e (BF e) ws false) else FC e r := rfl
theorem NT {n : Nat} {l : D.Loc} (h : Cp e) (hl : l.Esc.length ≤ 1048576) (hw : ∀ ws ∈ Bt l, XA e.M n ws) :
    Ae Tryz.prog 30 (hsW e []) [.agg (AY l), Ab4] (hsW e (FC e (Ee l))) (.tup []) := by
  generalize hr : FC e (Ee l) = r
  refine Ah Am An Tryz.func30 (by kernel_rfl) rfl (Pi r [] e l) ?_
  refine Bh Am An (fun g st => ∃ k : Nat, k ≤ l.Esc.length ∧ g = l.Esc.length - k ∧ FC e (Rg k (l.Esc.drop k) ++ [(-1, l.Out)]) = r ∧ st = M8 e [] l k) (by kernel_rfl) (by kernel_rfl) ⟨l.Esc.length, Up.of ⟨0, Nat.zero_le _, rfl, hr, rfl⟩⟩ ?_
  rintro g st ⟨k, hk, rfl, hq, rfl⟩
  refine A9.raw (NU r e [] l k _) ⟨fun hlt => ?_, fun hge => ?_⟩
  · have hlt' : k < l.Esc.length := by have := AQ hlt; omega
    have hto : (k : Int).toNat = k := by omega
    rw [hto]
    rw [BQ (d := []) hlt'] at hq
    unfold Rg at hq
    rw [List.cons_append, LW] at hq
    refine ⟨⟨by omega, by omega⟩, (CX k 0 (Ch e (BF e) (l.Esc.getD k []) false), decide (0 < (CX k 0 (Ch e (BF e) (l.Esc.getD k []) false)).length)), MS h (hw _ (List.mem_cons_of_mem _ (AF hlt'))), fun hy => ?_, fun hy => ⟨l.Esc.length - (k + 1), by omega, Up.of ⟨k + 1, hlt', rfl, ?_, ?_⟩⟩⟩
    · have hy : decide (0 < (CX k 0 (Ch e (BF e) (l.Esc.getD k []) false)).length) = true := hy
      rw [hy, cond_true] at hq
      subst hq
      exact ⟨⟨Ob.le_refl _, Ob.le_refl _, Ob.le_refl _, trivial⟩, VV.le_refl _⟩
    · have hy : decide (0 < (CX k 0 (Ch e (BF e) (l.Esc.getD k []) false)).length) = false := hy
      rw [hy, cond_false] at hq; exact hq
    · have hy : decide (0 < (CX k 0 (Ch e (BF e) (l.Esc.getD k []) false)).length) = false := hy
      have h0 : CX k 0 (Ch e (BF e) (l.Esc.getD k []) false) = [] := List.eq_nil_of_length_eq_zero (by have := of_decide_eq_false hy; omega)
      rw [Ap (by omega)]
      show Ao _ [_, .box [.ow 2 0 (CX k 0 (Ch e (BF e) (l.Esc.getD k []) false)).length], .arr true 0 (CX k 0 (Ch e (BF e) (l.Esc.getD k []) false)).length 6 (GS (CX k 0 (Ch e (BF e) (l.Esc.getD k []) false))), _] = _
      rw [h0]; rfl
  · have hge' : l.Esc.length ≤ k := by have := AV hge; omega
    rw [List.drop_of_length_le hge'] at hq
    refine ⟨(CX (-1) 0 (Ch e (BF e) l.Out false), decide (0 < (CX (-1) 0 (Ch e (BF e) l.Out false)).length)), MS h (hw _ (List.mem_cons_self ..)), ?_, VV.le_refl _⟩
    have h0 : CX (-1) 0 (Ch e (BF e) l.Out false) = r := by
      rw [← hq]
      show _ = FC e ([] ++ [(-1, l.Out)])
      rw [List.nil_append, LW]
      cases hy : decide (0 < (CX (-1) 0 (Ch e (BF e) l.Out false)).length) with
      | true => rfl
      | false => exact List.eq_nil_of_length_eq_zero (by have := of_decide_eq_false hy; omega)
    subst h0
    exact ⟨Ob.le_refl _, Ob.le_refl _, Ob.le_refl _, trivial⟩
theorem YV {w : Wy} {r : List Wy} (h : [w] = r) : leO [] [] ∧ VV.le (.sl true 1 6 fun i => List.take 6 (List.drop (i * 6) (AX w))) (Bf true r) := by
  subst h
  refine ⟨trivial, VV.le_sl (.inl rfl) fun i hi => A8 ?_⟩
  obtain rfl : i = 0 := by omega
  rfl
theorem Em (h : Cp e) : Ae Tryz.prog 16 [] [.agg (Af e)] [] (Bf true (BH e)) := by
  have hp := h.ok.fit.p
  have hq : BH e = bif decide ((Dz e e.Pid).Loc = (Dm e).Final) then (bif decide (e.Pid = (e.S.Procs.length : Int) - 1) then [Ic 0] else [])
    else bif decide ((Bm e).2 ≠ 0) then [Ic (Bm e).2]
    else bif !(Bm e).1 then [] else FC e (Ee (BZ e)) := rfl
  generalize BH e = r at hq
  refine Ah Am An Tryz.func16 (by kernel_rfl) rfl (Rz r e) ⟨⟨h.p0, h.ok.pid.2⟩, Dm e, K9 h, fun h1 => ⟨fun h2 => ⟨Ic 0, La, YV ?_⟩, fun h2 => ?_⟩,
    fun h1 => ⟨Bm e, K8 h, fun h2 => ⟨Ic (Bm e).2, La, YV ?_⟩, fun h2 => ⟨fun h3 => ?_, fun h3 => ⟨BZ e, FP h, FC e (Ee (BZ e)), ?_, ?_⟩⟩⟩⟩
  · rw [ieq] at h1
    rw [A6 (by omega) (by omega), ieq] at h2
    rw [hq, show decide ((Dz e e.Pid).Loc = (Dm e).Final) = true from h1, h2]; rfl
  · rw [ieq] at h1
    rw [A6 (by omega) (by omega), ieq] at h2
    rw [hq, show decide ((Dz e e.Pid).Loc = (Dm e).Final) = true from h1, h2]
    exact ⟨trivial, VV.le_nil⟩
  · rw [ieq] at h1
    rw [A0] at h2
    rw [hq, show decide ((Dz e e.Pid).Loc = (Dm e).Final) = false from h1, h2]; rfl
  · rw [ieq] at h1
    rw [A0] at h2
    rw [hq, show decide ((Dz e e.Pid).Loc = (Dm e).Final) = false from h1, h2, h3]
    exact ⟨trivial, VV.le_nil⟩
  · exact Ae.ownB (i := 1) (j := 0) (cs := [.nl]) rfl rfl 6 (GS []) (NT h h.wloc.Esc.1 fun ws hw => h.ws hw)
  · rw [ieq] at h1
    rw [A0] at h2
    rw [hq, show decide ((Dz e e.Pid).Loc = (Dm e).Final) = false from h1, h2, h3]
    exact ⟨trivial, VV.le_refl _⟩
theorem Lc (hw : AN e.M) (hs : Bl e.S) : Ae Tryz.prog 8 [] [.agg (Af e)] [] (.tup [Bf true (GK e).1, Ad (GK e).2]) := by
  have hq : GK e = bif decide (DJ e ≠ 0) then ([], DJ e) else (BH e, 0) := rfl
  generalize GK e = r at hq
  refine Ah Am An Tryz.func8 (by kernel_rfl) rfl (Vt r e) ⟨DJ e, IY hw hs, fun h1 => ?_, fun h1 => ⟨BH e, Em (J0 hw (by simpa using h1)), ?_⟩⟩
  · rw [A0] at h1
    rw [hq, h1]
    exact ⟨trivial, VV.le_tup ⟨VV.le_nil, VV.le_refl _, trivial⟩⟩
  · rw [A0] at h1
    rw [hq, h1]
    exact ⟨trivial, VV.le_refl _⟩
def Q1 (w : Wy) : Nat → List Wy → Int
  | _, [] => -1
  | k, x :: r => bif decide (w = x) then (k : Int) else Q1 w (k + 1) r
theorem ND {w x : Wy} {k : Nat} {r : List Wy} : Q1 w k (x :: r) = bif decide (w = x) then (k : Int) else Q1 w (k + 1) r := rfl
theorem Q0 {w : Wy} : ∀ {l : List Wy} {k : Nat}, decide (Q1 w k l ≥ 0) = decide (w ∈ l)
  | [], k => by simp [Q1]
  | x :: r, k => by
    have ih := Q0 (w := w) (l := r) (k := k + 1)
    rw [ND]
    by_cases h : w = x
    · simp [h]
    · simp only [h, decide_false, cond_false, ih]
      simp [h]
theorem Acd {w x : Wy} : (w.Esc == x.Esc && (w.Way == x.Way && (w.With == x.With && (w.WithEsc == x.WithEsc && (w.WithWay == x.WithWay && (w.Err == x.Err && true)))))) = decide (w = x) := by
  obtain ⟨a1, a2, a3, a4, a5, a6⟩ := w
  obtain ⟨b1, b2, b3, b4, b5, b6⟩ := x
  rw [Bool.eq_iff_iff]
  simp
theorem RD {l : List Wy} {w : Wy} (hl : l.length ≤ 1099511627776) : Ae Tryz.prog 33 [] [Bf true l, .agg (AX w)] [] (Ad (Q1 w 0 l)) := by
  refine Ah Am An Tryz.func33 (by kernel_rfl) rfl (Vj _ l w) ?_
  refine AI Am An l.length (fun k => T6 l w k) (fun k => Q1 w 0 l = Q1 w k (l.drop k)) (by kernel_rfl) (by kernel_rfl) rfl ?_
  intro k hk hI J next
  refine A9.raw (RE _ l w k J) ⟨fun hlt => ?_, fun hge => BJ ?_⟩
  · have hlt' : k < l.length := by have := AQ hlt; omega
    have hto : (k : Int).toNat = k := by omega
    rw [hto, Acd]
    rw [BQ (d := default) hlt', ND] at hI
    refine ⟨by omega, fun hy => BJ ?_, fun hy => next _ hlt' ?_ (Up.of ?_)⟩
    · rw [hy, cond_true] at hI; exact hI.symm
    · rw [hy, cond_false] at hI; exact hI
    · rw [Ap (by omega)]; rfl
  · have hge' : l.length ≤ k := by have := AV hge; omega
    rw [hI, List.drop_of_length_le hge']; rfl
theorem GI {l : List Wy} {w : Wy} (hl : l.length ≤ 1099511627776) : Ae Tryz.prog 17 [] [Bf true l, .agg (AX w)] [] (Ai (decide (w ∈ l))) :=
  Ah Am An Tryz.func17 (by kernel_rfl) rfl (RN _ l w) ⟨_, RD hl, As Q0⟩
end
end Go.Proofs.YtiaebjpcgjkhoaaGreatDoor
namespace Go.Proofs.YtiaebjpcgjkhoaaGreatDoor
open Go.RowKit
def Aa2 : Shp := { α := List D.Trans, enc := fun y => ([], Aq true y) }
def Yk : Shp := { α := D.Proc, enc := fun y => ([], .agg (AB y)) }
def AT (f : FuncId) : Shp :=
  bif Nat.beq f 143 || Nat.beq f 108 || Nat.beq f 137 || Nat.beq f 144 || Nat.beq f 14 || Nat.beq f 7 then VY
  else bif Nat.beq f 111 then Aae
  else bif Nat.beq f 112 then AeE
  else bif Nat.beq f 74 then Ym
  else bif Nat.beq f 48 then Ot
  else bif Nat.beq f 12 then Aa2
  else bif Nat.beq f 24 then Yk
  else Aag
end Go.Proofs.YtiaebjpcgjkhoaaGreatDoor
namespace Go.Proofs.YtiaebjpcgjkhoaaGreatDoor
open Go.RowKit
def F5 : Ann := { keep := fun
  | [0, 1, 0, 1, 1, 1, 1, 1, 1] => [1, 2, 6, 7, 8]
  | _ => [] }
def IQ : Ann := { keep := fun
  | [0, 1, 0, 1, 1, 1] => [1, 3, 4]
  | _ => [] }
def IN : Ann := { keep := fun
  | [0, 1, 0, 1] => [0, 1, 5]
  | _ => [] }
def IP : Ann := { keep := fun
  | [0, 1, 0, 1, 1] => [1, 3]
  | _ => [] }
def IR : Ann := { keep := fun
  | [0, 1, 0, 1] => [0, 1, 5]
  | _ => [] }
def A3 : Ann := { cut := (fun | [1, 1, 1, 1] => true | [1, 1, 1, 1, 1] => true | [1, 1, 1, 1, 1, 1] => true | [1, 1, 1, 1, 1, 1, 1] => true | _ => false), keep := fun
  | [0, 1, 1, 0, 1, 0, 1, 1, 1, 1, 1, 1, 1] => [1, 3, 5]
  | [1, 1, 1, 1] => [1, 3, 4]
  | [1, 1, 1, 1, 1] => [1, 3, 4]
  | [1, 1, 1, 1, 1, 1] => [1, 3]
  | [1, 1, 1, 1, 1, 1, 1] => [1, 3]
  | _ => [] }
def Kc : Ann := { keep := fun
  | [0, 1, 0, 1, 1, 1, 1, 1] => [1, 5, 9]
  | _ => [] }
def Gx : Ann := { keep := fun
  | [0, 1, 0, 1, 1, 1] => [2, 3, 4, 10]
  | _ => [] }
def H5 : Ann := { keep := fun
  | [0, 1, 0, 1, 1, 1, 1, 1] => [1, 2, 5, 6, 7, 8]
  | _ => [] }
def DG : Ann := { keep := fun
  | [0, 1, 0, 1, 1, 1, 1, 1, 1, 1] => [1, 2, 5, 7, 8]
  | [0, 1, 1, 1, 1, 0, 0, 1, 0, 0, 1, 0, 1, 1, 1, 1, 1, 1, 1] => [1, 2, 5, 7, 8, 10, 11]
  | [0, 1, 1, 1, 0, 0, 1, 0, 0, 1, 1, 1, 1, 0, 0, 1, 0, 0, 1, 0, 1, 1, 1, 1, 1, 1, 1] => [1, 2, 5, 7, 8, 10, 11, 12]
  | _ => [] }
def H4 : Ann := { keep := fun
  | [0, 1, 0, 1, 1, 0, 1, 1, 1, 1, 1, 1, 1, 1, 1, 0, 1, 0, 1, 1, 1, 1, 1, 1, 1] => [2, 3, 12]
  | _ => [] }
def Kd : Ann := { keep := fun
  | [0, 1, 0, 1, 1, 1, 1, 1] => [1, 4, 10, 11]
  | _ => [] }
def Fp : Ann := { keep := fun
  | [0, 1, 0, 1, 1, 1, 1, 1] => [1, 3, 5, 8]
  | _ => [] }
def C5 : Ann := { keep := fun
  | [0, 1, 0, 1, 1] => [1, 2, 5, 6]
  | [0, 1, 1, 0, 0, 1, 0, 0, 1, 0, 1, 1] => [1, 2, 5, 6, 7, 8]
  | [0, 1, 0, 0, 1, 0, 0, 1, 1, 0, 0, 1, 0, 0, 1, 0, 1, 1] => [1, 2, 5, 6, 7, 8, 9]
  | _ => [] }
def Cq : Ann := { keep := fun
  | [0, 1, 0, 1, 1, 1, 1, 1] => [1, 5]
  | [0, 1, 0, 1, 1, 1, 1, 1, 1] => [1, 7]
  | [0, 1, 0, 1, 1, 1, 1, 1, 1, 1, 1, 1] => [1, 8, 9]
  | [0, 1, 1, 1, 1, 0, 0, 1, 0, 0, 1, 0, 1, 1, 1, 1, 1, 1, 1, 1, 1] => [1, 8, 9, 11, 12]
  | _ => [] }
def Fs : Ann := { keep := fun
  | [0, 1, 0, 1, 1, 1, 1] => [1, 7, 8]
  | [0, 1, 0, 1, 1, 1, 1, 1, 1] => [1, 10]
  | _ => [] }
def Hm : Ann := { keep := fun
  | [0, 1, 0, 1, 1] => [0, 1, 5]
  | _ => [] }
def Fq : Ann := { keep := fun
  | [0, 1, 0, 1, 1, 1, 1] => [2, 3, 6]
  | [0, 1, 1, 1, 0, 0, 1, 0, 0, 1, 0, 1, 1, 1, 1] => [2, 3, 6, 7, 8]
  | [0, 1, 0, 1, 1, 1, 1, 1] => [2, 3, 9]
  | _ => [] }
def Ol (t : D.Type) (v most n i : Int) : St := Ao [(1, Ad v), (2, .bp 0 0), (6, Ad most), (7, Ad n), (8, Ad i)] [.box (AR t)]
def PV (v : D.Var) (n k : Int) : St := Ao [(1, .bp 0 0), (3, Ad n), (4, Ad k)] [.box (A4 v)]
def PT (t : List D.Type) (v : List Int) (k : Int) : St := Ao [(0, Aj true t), (1, Aa true v), (5, Ad k)] []
def PU (s : D.Shape) (k : Int) : St := Ao [(1, .bp 0 0), (3, Ad k)] [.box (Bq s)]
def PW (fz : Bool) (a : Int) (l : List Int) (k : Int) : St := Ao [(0, Ad a), (1, Aa fz l), (5, Ad k)] []
def Oj (x : D.Expr) (l : List Int) (k : Int) : St := Ao [(1, .bp 0 0), (3, .ow 1 0 l.length), (5, Ad k)] [.box (Au x), .arr true 0 l.length 1 (A7 l)]
def EZ (x : D.Expr) (l : List Int) (n : Int) : St := Ao [(1, .bp 0 0), (3, .ow 1 0 l.length), (4, Ad n)] [.box (Au x), .arr true 0 l.length 1 (A7 l)]
def Jd (x : D.Expr) (l : List Int) : St := Ao [(1, .bp 0 0), (3, .ow 1 0 l.length)] [.box (Au x), .arr true 0 l.length 1 (A7 l)]
def Ud (a : Int) (v : D.Var) (k : Int) : St := Ao [(1, Ad a), (5, .bp 0 0), (9, Ad k)] [.box (A4 v)]
def LD (m : D.Model) (args mt : List Int) (k : Int) : St := Ao [(2, Aa true args), (3, Aa true mt), (4, .bp 0 0), (10, Ad k)] [.box (Ac m)]
def Om (m : D.Model) (a : Int) (x : D.Expr) (n k : Int) : St := Ao [(1, Ad a), (2, .bp 0 0), (5, .bp 1 0), (6, Ad n), (7, .ow 2 0 3), (8, Ad k)] [.box (Ac m), .box (Au x), .arr true 0 3 1 (A7 [x.A, x.B, x.C])]
def Hw (m : D.Model) (a : Int) (p : D.Proc) (many k : Int) : St := Ao [(1, Ad a), (2, .bp 0 0), (5, .bp 1 0), (7, Ad many), (8, Ad k)] [.box (Ac m), .box (AB p)]
def JM (m : D.Model) (a : Int) (p : D.Proc) (many k : Int) (ws : List (List D.Trans)) (j : Int) : St := Ao [(1, Ad a), (2, .bp 0 0), (5, .bp 1 0), (7, Ad many), (8, Ad k), (10, AE true ws), (11, Ad j)] [.box (Ac m), .box (AB p)]
def Nb (m : D.Model) (a : Int) (p : D.Proc) (many k : Int) (ws : List (List D.Trans)) (j h : Int) : St := Ao [(1, Ad a), (2, .bp 0 0), (5, .bp 1 0), (7, Ad many), (8, Ad k), (10, AE true ws), (11, Ad j), (12, Ad h)] [.box (Ac m), .box (AB p)]
def Uj (m : D.Model) (s : D.Stmt) (k : Int) : St := Ao [(2, .bp 0 0), (3, .bp 1 0), (12, Ad k)] [.box (Ac m), .box (Av s)]
def Ue (m : D.Model) (a : Int) (l : List Int) (k : Int) : St := Ao [(1, Ad a), (4, .bp 0 0), (10, Aa true l), (11, Ad k)] [.box (Ac m)]
def Sg (m : D.Model) (a : Int) (s : D.Stmt) (k : Int) : St := Ao [(1, Ad a), (3, .bp 0 0), (5, .bp 1 0), (8, Ad k)] [.box (Ac m), .box (Av s)]
def Jc (m : D.Model) (a : Int) (p : D.Proc) (k : Int) : St := Ao [(1, Ad a), (2, .bp 0 0), (5, .bp 1 0), (6, Ad k)] [.box (Ac m), .box (AB p)]
def LC (m : D.Model) (a : Int) (p : D.Proc) (k : Int) (ws : List (List D.Trans)) (j : Int) : St := Ao [(1, Ad a), (2, .bp 0 0), (5, .bp 1 0), (6, Ad k), (7, AE true ws), (8, Ad j)] [.box (Ac m), .box (AB p)]
def PS (m : D.Model) (a : Int) (p : D.Proc) (k : Int) (ws : List (List D.Trans)) (j h : Int) : St := Ao [(1, Ad a), (2, .bp 0 0), (5, .bp 1 0), (6, Ad k), (7, AE true ws), (8, Ad j), (9, Ad h)] [.box (Ac m), .box (AB p)]
def Ui (m : D.Model) (k : Int) : St := Ao [(1, .bp 0 0), (5, Ad k)] [.box (Ac m)]
def Uh (m : D.Model) (k : Int) : St := Ao [(1, .bp 0 0), (7, Ad k)] [.box (Ac m)]
def Ug (m : D.Model) (had : List Bool) (k : Int) : St := Ao [(1, .bp 0 0), (8, .ow 1 0 had.length), (9, Ad k)] [.box (Ac m), .arr true 0 had.length 1 (DV had)]
def Uf (m : D.Model) (had : List Bool) (k : Int) (l : List Int) (j : Int) : St := Ao [(1, .bp 0 0), (8, .ow 1 0 had.length), (9, Ad k), (11, Aa true l), (12, Ad j)] [.box (Ac m), .arr true 0 had.length 1 (DV had)]
def Nd (m : D.Model) (many k : Int) : St := Ao [(1, .bp 0 0), (7, Ad many), (8, Ad k)] [.box (Ac m)]
def Nc (m : D.Model) (k : Int) : St := Ao [(1, .bp 0 0), (10, Ad k)] [.box (Ac m)]
def Na (t : List D.Type) (l : List Int) (k : Int) : St := Ao [(0, Aj true t), (1, Aa true l), (5, Ad k)] []
def Oi (m : D.Model) (s : D.State) (k : Int) : St := Ao [(2, .bp 0 0), (3, .bp 1 0), (6, Ad k)] [.box (Ac m), .box (Ax s)]
def Uk (m : D.Model) (s : D.State) (k : Int) (c : D.Chan) (j : Int) : St := Ao [(2, .bp 0 0), (3, .bp 1 0), (6, Ad k), (7, .bp 2 0), (8, Ad j)] [.box (Ac m), .box (Ax s), .box (Ar c)]
def Oh (m : D.Model) (s : D.State) (k : Int) : St := Ao [(2, .bp 0 0), (3, .bp 1 0), (9, Ad k)] [.box (Ac m), .box (Ax s)]
end Go.Proofs.YtiaebjpcgjkhoaaGreatDoor
namespace Go.Proofs.YtiaebjpcgjkhoaaGreatDoor
open Go.RowKit
set_option maxRecDepth 100000
theorem Yv (b : Bool) (t : D.Type) : (Ag Tryz.prog tb AT Bd true Tryz.f69 [] (Ai b)).goal (St.init [] [.agg (AR t)]) =
    (leO [] [] ∧ (Ai (bif bif decide (t.Bits ≥ (1 : Int)) then decide (t.Bits ≤ (32 : Int)) else false then bif bif !t.Signed then true else t.Bits == 16 then true else t.Bits == 32 else false)).le (Ai b)) := by kernel_rfl
theorem Wp (b : Bool) (t : D.Type) (v : Int) : (Ag Tryz.prog tb AT F5 true Tryz.f45 [] (Ai b)).goal (St.init [] [.agg (AR t), Ad v]) =
    (∃ (y : Bool), Ae Tryz.prog 69 [] [VV.agg (AR t)] [] (Ai y) ∧ ((!y) = true → leO [] [] ∧ (Ai false).le (Ai b)) ∧ ((!y) = false → (t.Signed = true → AH (Ag Tryz.prog tb AT F5 true Tryz.f45 [] (Ai b)) [1, 1, 1, 1, 1, 1, 0, 1, 0] (Ao [(1, Ad v), (2, VV.bp 0 0), (6, Ad (1 : Int)), (7, Ad (IntKind.i64.wrap (t.Bits - (1 : Int)))), (8, Ad (0 : Int))] [Ob.box (AR t)])) ∧ (t.Signed = false → AH (Ag Tryz.prog tb AT F5 true Tryz.f45 [] (Ai b)) [1, 1, 1, 1, 1, 1, 0, 1, 0] (Ao [(1, Ad v), (2, VV.bp 0 0), (6, Ad (1 : Int)), (7, Ad t.Bits), (8, Ad (0 : Int))] [Ob.box (AR t)])))) := by kernel_rfl
theorem SC (r : Int) (v : D.Var) : (Ag Tryz.prog tb AT IQ true Tryz.f143 [] (Ad r)).goal (St.init [] [.agg (A4 v)]) =
    (((bif bif decide (v.Slot < (0 : Int)) then true else decide (v.Slot > (1073741824 : Int)) then true else decide ((↑v.Dims.length : Int) > (4 : Int))) = true → leO [] [] ∧ (Ad (0 : Int)).le (Ad r)) ∧ ((bif bif decide (v.Slot < (0 : Int)) then true else decide (v.Slot > (1073741824 : Int)) then true else decide ((↑v.Dims.length : Int) > (4 : Int))) = false → AH (Ag Tryz.prog tb AT IQ true Tryz.f143 [] (Ad r)) [1, 1, 1, 0, 1, 0] (Ao [(1, VV.bp 0 0), (3, Ad (IntKind.i64.wrap (v.Slot + (1 : Int)))), (4, Ad (0 : Int))] [Ob.box (A4 v)]))) := by kernel_rfl
theorem Sv (r : Int) (t : List D.Type) (v : List Int) : (Ag Tryz.prog tb AT IN true Tryz.f108 [] (Ad r)).goal (St.init [] [Aj true t, Aa true v]) =
    (AH (Ag Tryz.prog tb AT IN true Tryz.f108 [] (Ad r)) [1, 0, 1, 0] (Ao [(0, Aj true t), (1, Aa true v), (5, Ad (0 : Int))] [])) := by kernel_rfl
theorem SA (b : Bool) (s : D.Shape) : (Ag Tryz.prog tb AT IP true Tryz.f109 [] (Ai b)).goal (St.init [] [.agg (Bq s)]) =
    (((bif bif bif decide (s.Room < (0 : Int)) then true else decide (s.Room > (16 : Int)) then true else decide ((↑s.Fields.length : Int) < (1 : Int)) then true else decide ((↑s.Fields.length : Int) > (8 : Int))) = true → leO [] [] ∧ (Ai false).le (Ai b)) ∧ ((bif bif bif decide (s.Room < (0 : Int)) then true else decide (s.Room > (16 : Int)) then true else decide ((↑s.Fields.length : Int) < (1 : Int)) then true else decide ((↑s.Fields.length : Int) > (8 : Int))) = false → AH (Ag Tryz.prog tb AT IP true Tryz.f109 [] (Ai b)) [1, 1, 0, 1, 0] (Ao [(1, VV.bp 0 0), (3, Ad (0 : Int))] [Ob.box (Bq s)]))) := by kernel_rfl
theorem Qp (b : Bool) (m : D.Model) (n : Int) : (Ag Tryz.prog tb AT Bd true Tryz.f139 [] (Ai b)).goal (St.init [] [.agg (Ac m), Ad n]) =
    (leO [] [] ∧ (Ai (bif bif decide (n ≥ (0 : Int)) then decide (n < (↑m.Procs.length : Int)) else false then n != m.Claim else false)).le (Ai b)) := by kernel_rfl
theorem SV (b : Bool) (a : Int) (l : List Int) : (Ag Tryz.prog tb AT IR true Tryz.f138 [] (Ai b)).goal (St.init [] [Ad a, Aa false l]) =
    (AH (Ag Tryz.prog tb AT IR true Tryz.f138 [] (Ai b)) [1, 0, 1, 0] (Ao [(0, Ad a), (1, Aa false l), (5, Ad (0 : Int))] [])) := by kernel_rfl
theorem SD (r : Int) (op : Int) : (Ag Tryz.prog tb AT Bd true Tryz.f137 [] (Ad r)).goal (St.init [] [Ad op]) =
    (((op == 1) = true → ((op == 1) = true → leO [] [] ∧ (Ad (0 : Int)).le (Ad r)) ∧ ((op == 1) = false → ((op == 24) = true → leO [] [] ∧ (Ad (3 : Int)).le (Ad r)) ∧ ((op == 24) = false → ((bif decide (op ≥ (6 : Int)) then decide (op ≤ (23 : Int)) else false) = true → leO [] [] ∧ (Ad (2 : Int)).le (Ad r)) ∧ ((bif decide (op ≥ (6 : Int)) then decide (op ≤ (23 : Int)) else false) = false → leO [] [] ∧ (Ad (1 : Int)).le (Ad r))))) ∧ ((op == 1) = false → ((op == 2) = true → ((op == 2) = true → leO [] [] ∧ (Ad (0 : Int)).le (Ad r)) ∧ ((op == 2) = false → ((op == 24) = true → leO [] [] ∧ (Ad (3 : Int)).le (Ad r)) ∧ ((op == 24) = false → ((bif decide (op ≥ (6 : Int)) then decide (op ≤ (23 : Int)) else false) = true → leO [] [] ∧ (Ad (2 : Int)).le (Ad r)) ∧ ((bif decide (op ≥ (6 : Int)) then decide (op ≤ (23 : Int)) else false) = false → leO [] [] ∧ (Ad (1 : Int)).le (Ad r))))) ∧ ((op == 2) = false → ((op == 31) = true → ((op == 31) = true → leO [] [] ∧ (Ad (0 : Int)).le (Ad r)) ∧ ((op == 31) = false → ((op == 24) = true → leO [] [] ∧ (Ad (3 : Int)).le (Ad r)) ∧ ((op == 24) = false → ((bif decide (op ≥ (6 : Int)) then decide (op ≤ (23 : Int)) else false) = true → leO [] [] ∧ (Ad (2 : Int)).le (Ad r)) ∧ ((bif decide (op ≥ (6 : Int)) then decide (op ≤ (23 : Int)) else false) = false → leO [] [] ∧ (Ad (1 : Int)).le (Ad r))))) ∧ ((op == 31) = false → ((op == 32) = true → ((op == 32) = true → leO [] [] ∧ (Ad (0 : Int)).le (Ad r)) ∧ ((op == 32) = false → ((op == 24) = true → leO [] [] ∧ (Ad (3 : Int)).le (Ad r)) ∧ ((op == 24) = false → ((bif decide (op ≥ (6 : Int)) then decide (op ≤ (23 : Int)) else false) = true → leO [] [] ∧ (Ad (2 : Int)).le (Ad r)) ∧ ((bif decide (op ≥ (6 : Int)) then decide (op ≤ (23 : Int)) else false) = false → leO [] [] ∧ (Ad (1 : Int)).le (Ad r))))) ∧ ((op == 32) = false → ((op == 33) = true → ((op == 33) = true → leO [] [] ∧ (Ad (0 : Int)).le (Ad r)) ∧ ((op == 33) = false → ((op == 24) = true → leO [] [] ∧ (Ad (3 : Int)).le (Ad r)) ∧ ((op == 24) = false → ((bif decide (op ≥ (6 : Int)) then decide (op ≤ (23 : Int)) else false) = true → leO [] [] ∧ (Ad (2 : Int)).le (Ad r)) ∧ ((bif decide (op ≥ (6 : Int)) then decide (op ≤ (23 : Int)) else false) = false → leO [] [] ∧ (Ad (1 : Int)).le (Ad r))))) ∧ ((op == 33) = false → ((op == 34) = true → ((op == 34) = true → leO [] [] ∧ (Ad (0 : Int)).le (Ad r)) ∧ ((op == 34) = false → ((op == 24) = true → leO [] [] ∧ (Ad (3 : Int)).le (Ad r)) ∧ ((op == 24) = false → ((bif decide (op ≥ (6 : Int)) then decide (op ≤ (23 : Int)) else false) = true → leO [] [] ∧ (Ad (2 : Int)).le (Ad r)) ∧ ((bif decide (op ≥ (6 : Int)) then decide (op ≤ (23 : Int)) else false) = false → leO [] [] ∧ (Ad (1 : Int)).le (Ad r))))) ∧ ((op == 34) = false → ((op == 35) = true → ((op == 35) = true → leO [] [] ∧ (Ad (0 : Int)).le (Ad r)) ∧ ((op == 35) = false → ((op == 24) = true → leO [] [] ∧ (Ad (3 : Int)).le (Ad r)) ∧ ((op == 24) = false → ((bif decide (op ≥ (6 : Int)) then decide (op ≤ (23 : Int)) else false) = true → leO [] [] ∧ (Ad (2 : Int)).le (Ad r)) ∧ ((bif decide (op ≥ (6 : Int)) then decide (op ≤ (23 : Int)) else false) = false → leO [] [] ∧ (Ad (1 : Int)).le (Ad r))))) ∧ ((op == 35) = false → ((op == 39) = true → leO [] [] ∧ (Ad (0 : Int)).le (Ad r)) ∧ ((op == 39) = false → ((op == 24) = true → leO [] [] ∧ (Ad (3 : Int)).le (Ad r)) ∧ ((op == 24) = false → ((bif decide (op ≥ (6 : Int)) then decide (op ≤ (23 : Int)) else false) = true → leO [] [] ∧ (Ad (2 : Int)).le (Ad r)) ∧ ((bif decide (op ≥ (6 : Int)) then decide (op ≤ (23 : Int)) else false) = false → leO [] [] ∧ (Ad (1 : Int)).le (Ad r)))))))))))) := by kernel_rfl
theorem Wo (r : List Int) (x : D.Expr) : (Ag Tryz.prog tb AT A3 true Tryz.f111 [] (Aa true r)).goal (St.init [] [.agg (Au x)]) =
    (∃ (y : Int), Ae Tryz.prog 137 [] [Ad x.Op] [] (Ad y) ∧ (decide (y ≥ (1 : Int)) = true → 1 * 8 ≤ 140737488355328 ∧ AH (Ag Tryz.prog tb AT A3 true Tryz.f111 [] (Aa true r)) [1, 1, 1, 1] (Ao [(1, VV.bp 0 0), (3, VV.ow 1 0 1), (4, Ad y)] [Ob.box (Au x), Ob.arr true 0 1 1 fun (i : Nat) => List.take 1 (List.drop (i * 1) [Ad x.A])])) ∧ (decide (y ≥ (1 : Int)) = false → AH (Ag Tryz.prog tb AT A3 true Tryz.f111 [] (Aa true r)) [1, 1, 1, 1] (Ao [(1, VV.bp 0 0), (3, VV.nl), (4, Ad y)] [Ob.box (Au x)]))) := by kernel_rfl
theorem Wb (b : Bool) (m : D.Model) (a : Int) (v : D.Var) : (Ag Tryz.prog tb AT Kc true Tryz.f140 [] (Ai b)).goal (St.init [] [.agg (Ac m), Ad a, .agg (A4 v)]) =
    (((bif bif bif bif decide (v.Scope < (0 : Int)) then true else decide (v.Scope > (2 : Int)) then true else decide (v.Slot < (0 : Int)) then true else decide (v.Slot > (128 : Int)) then true else decide ((↑v.Dims.length : Int) > (4 : Int))) = true → leO [] [] ∧ (Ai false).le (Ai b)) ∧ ((bif bif bif bif decide (v.Scope < (0 : Int)) then true else decide (v.Scope > (2 : Int)) then true else decide (v.Slot < (0 : Int)) then true else decide (v.Slot > (128 : Int)) then true else decide ((↑v.Dims.length : Int) > (4 : Int))) = false → ∃ (y : Bool), Ae Tryz.prog 138 [] [Ad a, VV.sl false 1 1 fun (i : Nat) => List.take 1 (List.drop (i * 1) [Ad v.Who])] [] (Ai y) ∧ ∃ (y_1 : Bool), Ae Tryz.prog 139 [] [VV.agg (Ac m), Ad v.Type_] [] (Ai y_1) ∧ ((bif bif v.Scope == 2 then bif !y then true else !y_1 else false then true else bif v.Scope != (2 : Int) then bif v.Who != (-1 : Int) then true else v.Type_ != (-1 : Int) else false) = true → leO [] [] ∧ (Ai false).le (Ai b)) ∧ ((bif bif v.Scope == 2 then bif !y then true else !y_1 else false then true else bif v.Scope != (2 : Int) then bif v.Who != (-1 : Int) then true else v.Type_ != (-1 : Int) else false) = false → AH (Ag Tryz.prog tb AT Kc true Tryz.f140 [] (Ai b)) [1, 1, 1, 1, 1, 0, 1, 0] (Ao [(1, Ad a), (5, VV.bp 0 0), (9, Ad (0 : Int))] [Ob.box (A4 v)])))) := by kernel_rfl
theorem OB (b : Bool) (m : D.Model) (a : Int) (args mt : List Int) : (Ag Tryz.prog tb AT Gx true Tryz.f141 [] (Ai b)).goal (St.init [] [.agg (Ac m), Ad a, Aa true args, Aa true mt]) =
    (∃ (y : Bool), Ae Tryz.prog 138 [] [Ad a, Aa true args] [] (Ai y) ∧ ((bif bif bif !y then true else decide ((↑args.length : Int) < (1 : Int)) then true else decide ((↑args.length : Int) > (8 : Int)) then true else (↑mt.length : Int) != (↑args.length : Int)) = true → leO [] [] ∧ (Ai false).le (Ai b)) ∧ ((bif bif bif !y then true else decide ((↑args.length : Int) < (1 : Int)) then true else decide ((↑args.length : Int) > (8 : Int)) then true else (↑mt.length : Int) != (↑args.length : Int)) = false → AH (Ag Tryz.prog tb AT Gx true Tryz.f141 [] (Ai b)) [1, 1, 1, 0, 1, 0] (Ao [(2, Aa true args), (3, Aa true mt), (4, VV.bp 0 0), (10, Ad (0 : Int))] [Ob.box (Ac m)]))) := by kernel_rfl
theorem Wq (b : Bool) (m : D.Model) (a : Int) : (Ag Tryz.prog tb AT H5 true Tryz.f110 [] (Ai b)).goal (St.init [] [.agg (Ac m), Ad a]) =
    (((0 : Int) ≤ a ∧ a < (↑m.Exprs.length : Int)) ∧ ((bif decide ((m.Exprs.getD a.toNat default).Op < (1 : Int)) then true else decide ((m.Exprs.getD a.toNat default).Op > (39 : Int))) = true → leO [] [] ∧ (Ai false).le (Ai b)) ∧ ((bif decide ((m.Exprs.getD a.toNat default).Op < (1 : Int)) then true else decide ((m.Exprs.getD a.toNat default).Op > (39 : Int))) = false → ∃ (y : Int), Ae Tryz.prog 137 [] [Ad (m.Exprs.getD a.toNat default).Op] [] (Ad y) ∧ AH (Ag Tryz.prog tb AT H5 true Tryz.f110 [] (Ai b)) [1, 1, 1, 1, 1, 0, 1, 0] (Ao [(1, Ad a), (2, VV.bp 0 0), (5, VV.bp 1 0), (6, Ad y), (7, VV.ow 2 0 3), (8, Ad (0 : Int))] [Ob.box (Ac m), Ob.box (Au (m.Exprs.getD a.toNat default)), Ob.arr true 0 3 1 fun (i : Nat) => List.take 1 (List.drop (i * 1) [Ad (m.Exprs.getD a.toNat default).A, Ad (m.Exprs.getD a.toNat default).B, Ad (m.Exprs.getD a.toNat default).C])]))) := by kernel_rfl
theorem V8 (r : List (List D.Trans)) (l : D.Loc) : (Ag Tryz.prog tb AT Bd true Tryz.f112 [] (AE true r)).goal (St.init [] [.agg (AY l)]) =
    (1 * 24 ≤ 140737488355328 ∧ (1 + l.Esc.length) * 24 ≤ 140737488355328 ∧ (∀ (i : Nat), i < l.Esc.length → ((fun (i : Nat) => [Aq true (l.Esc.getD i [])]) i).all VV.mem1 = true) ∧ leO [] [] ∧ (VV.sl true (1 + l.Esc.length) 1 fun (i : Nat) => bif i.blt 1 then (fun (i : Nat) => List.take 1 (List.drop (i * 1) [Aq true l.Out])) i else [Aq true (l.Esc.getD (i - 1) [])]).le (AE true r)) := by kernel_rfl
theorem Sx (b : Bool) (m : D.Model) (a : Int) : (Ag Tryz.prog tb AT DG true Tryz.f75 [] (Ai b)).goal (St.init [] [.agg (Ac m), Ad a]) =
    (((0 : Int) ≤ a ∧ a < (↑m.Procs.length : Int)) ∧ ((bif bif bif bif bif decide ((↑(m.Procs.getD a.toNat default).Frame.length : Int) > (128 : Int)) then true else (↑(m.Procs.getD a.toNat default).Init.length : Int) != (↑(m.Procs.getD a.toNat default).Frame.length : Int) then true else decide ((m.Procs.getD a.toNat default).Params < (0 : Int)) then true else decide ((m.Procs.getD a.toNat default).Params > (↑(m.Procs.getD a.toNat default).Frame.length : Int)) then true else decide ((↑(m.Procs.getD a.toNat default).Locs.length : Int) < (1 : Int)) then true else decide ((↑(m.Procs.getD a.toNat default).Locs.length : Int) > (256 : Int))) = true → leO [] [] ∧ (Ai false).le (Ai b)) ∧ ((bif bif bif bif bif decide ((↑(m.Procs.getD a.toNat default).Frame.length : Int) > (128 : Int)) then true else (↑(m.Procs.getD a.toNat default).Init.length : Int) != (↑(m.Procs.getD a.toNat default).Frame.length : Int) then true else decide ((m.Procs.getD a.toNat default).Params < (0 : Int)) then true else decide ((m.Procs.getD a.toNat default).Params > (↑(m.Procs.getD a.toNat default).Frame.length : Int)) then true else decide ((↑(m.Procs.getD a.toNat default).Locs.length : Int) < (1 : Int)) then true else decide ((↑(m.Procs.getD a.toNat default).Locs.length : Int) > (256 : Int))) = false → ∃ (y : Int), Ae Tryz.prog 108 [] [Aj true (m.Procs.getD a.toNat default).Frame, Aa true (m.Procs.getD a.toNat default).Init] [] (Ad y) ∧ ((bif bif bif bif bif bif bif bif bif bif decide (y ≥ (0 : Int)) then true else decide ((m.Procs.getD a.toNat default).Start < (0 : Int)) then true else decide ((m.Procs.getD a.toNat default).Start ≥ (↑(m.Procs.getD a.toNat default).Locs.length : Int)) then true else decide ((m.Procs.getD a.toNat default).Final < (0 : Int)) then true else decide ((m.Procs.getD a.toNat default).Final ≥ (↑(m.Procs.getD a.toNat default).Locs.length : Int)) then true else decide ((m.Procs.getD a.toNat default).Active < (0 : Int)) then true else decide ((m.Procs.getD a.toNat default).Active > (16 : Int)) then true else decide ((m.Procs.getD a.toNat default).Prio < (1 : Int)) then true else decide ((m.Procs.getD a.toNat default).Prio > (255 : Int)) then true else decide ((m.Procs.getD a.toNat default).Provided < (-1 : Int)) then true else decide ((m.Procs.getD a.toNat default).Provided ≥ (↑m.Exprs.length : Int))) = true → leO [] [] ∧ (Ai false).le (Ai b)) ∧ ((bif bif bif bif bif bif bif bif bif bif decide (y ≥ (0 : Int)) then true else decide ((m.Procs.getD a.toNat default).Start < (0 : Int)) then true else decide ((m.Procs.getD a.toNat default).Start ≥ (↑(m.Procs.getD a.toNat default).Locs.length : Int)) then true else decide ((m.Procs.getD a.toNat default).Final < (0 : Int)) then true else decide ((m.Procs.getD a.toNat default).Final ≥ (↑(m.Procs.getD a.toNat default).Locs.length : Int)) then true else decide ((m.Procs.getD a.toNat default).Active < (0 : Int)) then true else decide ((m.Procs.getD a.toNat default).Active > (16 : Int)) then true else decide ((m.Procs.getD a.toNat default).Prio < (1 : Int)) then true else decide ((m.Procs.getD a.toNat default).Prio > (255 : Int)) then true else decide ((m.Procs.getD a.toNat default).Provided < (-1 : Int)) then true else decide ((m.Procs.getD a.toNat default).Provided ≥ (↑m.Exprs.length : Int))) = false → ((bif a == m.Claim then bif bif decide ((↑(m.Procs.getD a.toNat default).Frame.length : Int) > (0 : Int)) then true else decide ((m.Procs.getD a.toNat default).Active > (0 : Int)) then true else decide ((m.Procs.getD a.toNat default).Provided ≥ (0 : Int)) else false) = true → leO [] [] ∧ (Ai false).le (Ai b)) ∧ ((bif a == m.Claim then bif bif decide ((↑(m.Procs.getD a.toNat default).Frame.length : Int) > (0 : Int)) then true else decide ((m.Procs.getD a.toNat default).Active > (0 : Int)) then true else decide ((m.Procs.getD a.toNat default).Provided ≥ (0 : Int)) else false) = false → AH (Ag Tryz.prog tb AT DG true Tryz.f75 [] (Ai b)) [1, 1, 1, 1, 1, 1, 1, 0, 1, 0] (Ao [(1, Ad a), (2, VV.bp 0 0), (5, VV.bp 1 0), (7, Ad (0 : Int)), (8, Ad (0 : Int))] [Ob.box (Ac m), Ob.box (AB (m.Procs.getD a.toNat default))]))))) := by kernel_rfl
theorem Qe (b : Bool) (m : D.Model) (a : Int) : (Ag Tryz.prog tb AT Bd true Tryz.f164 [] (Ai b)).goal (St.init [] [.agg (Ac m), Ad a]) =
    (((true && (bif decide (a ≥ (0 : Int)) then decide (a < (↑m.Exprs.length : Int)) else false) == true) = true → (0 : Int) ≤ a ∧ a < (↑m.Exprs.length : Int)) ∧ ((true && (bif bif decide (a ≥ (0 : Int)) then decide (a < (↑m.Exprs.length : Int)) else false then (m.Exprs.getD a.toNat default).Op == 2 else false) == true) = true → (0 : Int) ≤ a ∧ a < (↑m.Exprs.length : Int)) ∧ leO [] [] ∧ (Ai (bif bif bif decide (a ≥ (0 : Int)) then decide (a < (↑m.Exprs.length : Int)) else false then (m.Exprs.getD a.toNat default).Op == 2 else false then (m.Exprs.getD a.toNat default).V.Scope != (2 : Int) else false)).le (Ai b)) := by kernel_rfl
theorem Wh (b : Bool) (m : D.Model) (s : D.Stmt) : (Ag Tryz.prog tb AT H4 true Tryz.f142 [] (Ai b)).goal (St.init [] [.agg (Ac m), .agg (Av s)]) =
    (∃ (y : Bool), Ae Tryz.prog 164 [] [VV.agg (Ac m), Ad s.A] [] (Ai y) ∧ ∃ (y_1 : Bool), Ae Tryz.prog 138 [] [Ad (↑m.Exprs.length : Int), Aa true s.Args] [] (Ai y_1) ∧ ((s.Kind == 1) = true → ((s.Kind == 1) = true → leO [] [] ∧ (Ai (bif bif bif bif bif decide (s.A ≥ (0 : Int)) then decide (s.A < (↑m.Exprs.length : Int)) else false then s.B == (-1 : Int) else false then bif (↑s.Args.length : Int) == 0 then (↑s.Match.length : Int) == 0 else false else false then s.N == 0 else false then s.Text.toList == (⟨#[]⟩ : ByteArray).toList else false)).le (Ai b)) ∧ ((s.Kind == 1) = false → ((s.Kind == 2) = true → leO [] [] ∧ (Ai (bif bif bif bif y then bif decide (s.B ≥ (0 : Int)) then decide (s.B < (↑m.Exprs.length : Int)) else false else false then bif (↑s.Args.length : Int) == 0 then (↑s.Match.length : Int) == 0 else false else false then s.N == 0 else false then s.Text.toList == (⟨#[]⟩ : ByteArray).toList else false)).le (Ai b)) ∧ ((s.Kind == 2) = false → ((s.Kind == 4) = true → leO [] [] ∧ (Ai (bif bif bif bif bif s.A == (-1 : Int) then s.B == (-1 : Int) else false then y_1 else false then (↑s.Match.length : Int) == 0 else false then s.N == 0 else false then decide ((↑s.Text.size : Int) ≤ (256 : Int)) else false)).le (Ai b)) ∧ ((s.Kind == 4) = false → ((s.Kind == 5) = true → leO [] [] ∧ (Ai (bif bif bif bif bif bif bif bif decide (s.A ≥ (0 : Int)) then decide (s.A < (↑m.Exprs.length : Int)) else false then s.B == (-1 : Int) else false then y_1 else false then decide ((↑s.Args.length : Int) ≥ (1 : Int)) else false then decide ((↑s.Args.length : Int) ≤ (8 : Int)) else false then (↑s.Match.length : Int) == 0 else false then bif s.N == 0 then true else s.N == 1 else false then s.Text.toList == (⟨#[]⟩ : ByteArray).toList else false)).le (Ai b)) ∧ ((s.Kind == 5) = false → ((s.Kind == 6) = true → ∃ (y : Bool), Ae Tryz.prog 141 [] [VV.agg (Ac m), Ad (↑m.Exprs.length : Int), Aa true s.Args, Aa true s.Match] [] (Ai y) ∧ ((bif bif bif bif bif !bif decide (s.A ≥ (0 : Int)) then decide (s.A < (↑m.Exprs.length : Int)) else false then true else s.B != (-1 : Int) then true else !y then true else decide (s.N < (0 : Int)) then true else decide (s.N > (3 : Int)) then true else !s.Text.toList == (⟨#[]⟩ : ByteArray).toList) = true → leO [] [] ∧ (Ai false).le (Ai b)) ∧ ((bif bif bif bif bif !bif decide (s.A ≥ (0 : Int)) then decide (s.A < (↑m.Exprs.length : Int)) else false then true else s.B != (-1 : Int) then true else !y then true else decide (s.N < (0 : Int)) then true else decide (s.N > (3 : Int)) then true else !s.Text.toList == (⟨#[]⟩ : ByteArray).toList) = false → AH (Ag Tryz.prog tb AT H4 true Tryz.f142 [] (Ai b)) [1, 1, 1, 1, 1, 1, 1, 0, 1, 0, 1, 1, 1, 1, 1, 1, 1, 1, 1, 0, 1, 1, 0, 1, 0] (Ao [(2, VV.bp 0 0), (3, VV.bp 1 0), (12, Ad (0 : Int))] [Ob.box (Ac m), Ob.box (Av s)]))) ∧ ((s.Kind == 6) = false → ((s.Kind == 7) = true → ((s.Kind == 7) = true → leO [] [] ∧ (Ai (bif bif bif bif s.A == (-1 : Int) then s.B == (-1 : Int) else false then bif (↑s.Args.length : Int) == 0 then (↑s.Match.length : Int) == 0 else false else false then s.N == 0 else false then s.Text.toList == (⟨#[]⟩ : ByteArray).toList else false)).le (Ai b)) ∧ ((s.Kind == 7) = false → ((s.Kind == 9) = true → leO [] [] ∧ (Ai (bif bif bif bif bif y then s.B == (-1 : Int) else false then bif (↑s.Args.length : Int) == 0 then (↑s.Match.length : Int) == 0 else false else false then decide (s.N ≥ (0 : Int)) else false then decide (s.N < (↑m.Shapes.length : Int)) else false then s.Text.toList == (⟨#[]⟩ : ByteArray).toList else false)).le (Ai b)) ∧ ((s.Kind == 9) = false → leO [] [] ∧ (Ai false).le (Ai b)))) ∧ ((s.Kind == 7) = false → ((s.Kind == 8) = true → leO [] [] ∧ (Ai (bif bif bif bif s.A == (-1 : Int) then s.B == (-1 : Int) else false then bif (↑s.Args.length : Int) == 0 then (↑s.Match.length : Int) == 0 else false else false then s.N == 0 else false then s.Text.toList == (⟨#[]⟩ : ByteArray).toList else false)).le (Ai b)) ∧ ((s.Kind == 8) = false → ((s.Kind == 9) = true → leO [] [] ∧ (Ai (bif bif bif bif bif y then s.B == (-1 : Int) else false then bif (↑s.Args.length : Int) == 0 then (↑s.Match.length : Int) == 0 else false else false then decide (s.N ≥ (0 : Int)) else false then decide (s.N < (↑m.Shapes.length : Int)) else false then s.Text.toList == (⟨#[]⟩ : ByteArray).toList else false)).le (Ai b)) ∧ ((s.Kind == 9) = false → leO [] [] ∧ (Ai false).le (Ai b)))))))))) ∧ ((s.Kind == 1) = false → ((s.Kind == 3) = true → leO [] [] ∧ (Ai (bif bif bif bif bif decide (s.A ≥ (0 : Int)) then decide (s.A < (↑m.Exprs.length : Int)) else false then s.B == (-1 : Int) else false then bif (↑s.Args.length : Int) == 0 then (↑s.Match.length : Int) == 0 else false else false then s.N == 0 else false then s.Text.toList == (⟨#[]⟩ : ByteArray).toList else false)).le (Ai b)) ∧ ((s.Kind == 3) = false → ((s.Kind == 2) = true → leO [] [] ∧ (Ai (bif bif bif bif y then bif decide (s.B ≥ (0 : Int)) then decide (s.B < (↑m.Exprs.length : Int)) else false else false then bif (↑s.Args.length : Int) == 0 then (↑s.Match.length : Int) == 0 else false else false then s.N == 0 else false then s.Text.toList == (⟨#[]⟩ : ByteArray).toList else false)).le (Ai b)) ∧ ((s.Kind == 2) = false → ((s.Kind == 4) = true → leO [] [] ∧ (Ai (bif bif bif bif bif s.A == (-1 : Int) then s.B == (-1 : Int) else false then y_1 else false then (↑s.Match.length : Int) == 0 else false then s.N == 0 else false then decide ((↑s.Text.size : Int) ≤ (256 : Int)) else false)).le (Ai b)) ∧ ((s.Kind == 4) = false → ((s.Kind == 5) = true → leO [] [] ∧ (Ai (bif bif bif bif bif bif bif bif decide (s.A ≥ (0 : Int)) then decide (s.A < (↑m.Exprs.length : Int)) else false then s.B == (-1 : Int) else false then y_1 else false then decide ((↑s.Args.length : Int) ≥ (1 : Int)) else false then decide ((↑s.Args.length : Int) ≤ (8 : Int)) else false then (↑s.Match.length : Int) == 0 else false then bif s.N == 0 then true else s.N == 1 else false then s.Text.toList == (⟨#[]⟩ : ByteArray).toList else false)).le (Ai b)) ∧ ((s.Kind == 5) = false → ((s.Kind == 6) = true → ∃ (y : Bool), Ae Tryz.prog 141 [] [VV.agg (Ac m), Ad (↑m.Exprs.length : Int), Aa true s.Args, Aa true s.Match] [] (Ai y) ∧ ((bif bif bif bif bif !bif decide (s.A ≥ (0 : Int)) then decide (s.A < (↑m.Exprs.length : Int)) else false then true else s.B != (-1 : Int) then true else !y then true else decide (s.N < (0 : Int)) then true else decide (s.N > (3 : Int)) then true else !s.Text.toList == (⟨#[]⟩ : ByteArray).toList) = true → leO [] [] ∧ (Ai false).le (Ai b)) ∧ ((bif bif bif bif bif !bif decide (s.A ≥ (0 : Int)) then decide (s.A < (↑m.Exprs.length : Int)) else false then true else s.B != (-1 : Int) then true else !y then true else decide (s.N < (0 : Int)) then true else decide (s.N > (3 : Int)) then true else !s.Text.toList == (⟨#[]⟩ : ByteArray).toList) = false → AH (Ag Tryz.prog tb AT H4 true Tryz.f142 [] (Ai b)) [1, 1, 1, 1, 1, 1, 1, 0, 1, 0, 1, 1, 1, 1, 1, 1, 1, 1, 1, 0, 1, 1, 0, 1, 0] (Ao [(2, VV.bp 0 0), (3, VV.bp 1 0), (12, Ad (0 : Int))] [Ob.box (Ac m), Ob.box (Av s)]))) ∧ ((s.Kind == 6) = false → ((s.Kind == 7) = true → ((s.Kind == 7) = true → leO [] [] ∧ (Ai (bif bif bif bif s.A == (-1 : Int) then s.B == (-1 : Int) else false then bif (↑s.Args.length : Int) == 0 then (↑s.Match.length : Int) == 0 else false else false then s.N == 0 else false then s.Text.toList == (⟨#[]⟩ : ByteArray).toList else false)).le (Ai b)) ∧ ((s.Kind == 7) = false → ((s.Kind == 9) = true → leO [] [] ∧ (Ai (bif bif bif bif bif y then s.B == (-1 : Int) else false then bif (↑s.Args.length : Int) == 0 then (↑s.Match.length : Int) == 0 else false else false then decide (s.N ≥ (0 : Int)) else false then decide (s.N < (↑m.Shapes.length : Int)) else false then s.Text.toList == (⟨#[]⟩ : ByteArray).toList else false)).le (Ai b)) ∧ ((s.Kind == 9) = false → leO [] [] ∧ (Ai false).le (Ai b)))) ∧ ((s.Kind == 7) = false → ((s.Kind == 8) = true → leO [] [] ∧ (Ai (bif bif bif bif s.A == (-1 : Int) then s.B == (-1 : Int) else false then bif (↑s.Args.length : Int) == 0 then (↑s.Match.length : Int) == 0 else false else false then s.N == 0 else false then s.Text.toList == (⟨#[]⟩ : ByteArray).toList else false)).le (Ai b)) ∧ ((s.Kind == 8) = false → ((s.Kind == 9) = true → leO [] [] ∧ (Ai (bif bif bif bif bif y then s.B == (-1 : Int) else false then bif (↑s.Args.length : Int) == 0 then (↑s.Match.length : Int) == 0 else false else false then decide (s.N ≥ (0 : Int)) else false then decide (s.N < (↑m.Shapes.length : Int)) else false then s.Text.toList == (⟨#[]⟩ : ByteArray).toList else false)).le (Ai b)) ∧ ((s.Kind == 9) = false → leO [] [] ∧ (Ai false).le (Ai b))))))))))) := by kernel_rfl
theorem Wi (r : Int) (m : D.Model) (a : Int) (v : D.Var) : (Ag Tryz.prog tb AT Bd true Tryz.f144 [] (Ad r)).goal (St.init [] [.agg (Ac m), Ad a, .agg (A4 v)]) =
    (((v.Scope == 0) = true → leO [] [] ∧ (Ad (↑m.Globals.length : Int)).le (Ad r)) ∧ ((v.Scope == 0) = false → ((v.Scope == 1) = true → ((0 : Int) ≤ a ∧ a < (↑m.Procs.length : Int)) ∧ leO [] [] ∧ (Ad (↑(m.Procs.getD a.toNat default).Frame.length : Int)).le (Ad r)) ∧ ((v.Scope == 1) = false → ((0 : Int) ≤ v.Type_ ∧ v.Type_ < (↑m.Procs.length : Int)) ∧ leO [] [] ∧ (Ad (↑(m.Procs.getD v.Type_.toNat default).Frame.length : Int)).le (Ad r)))) := by kernel_rfl
theorem Wc (b : Bool) (m : D.Model) (a k : Int) (run : Bool) : (Ag Tryz.prog tb AT Kd true Tryz.f114 [] (Ai b)).goal (St.init [] [.agg (Ac m), Ad a, Ad k, Ai run]) =
    (((0 : Int) ≤ k ∧ k < (↑m.Exprs.length : Int)) ∧ ((bif bif (m.Exprs.getD k.toNat default).Op == 39 then !run else false then true else bif a == m.Claim then bif bif (m.Exprs.getD k.toNat default).Op == 31 then true else (m.Exprs.getD k.toNat default).Op == 39 then true else bif (m.Exprs.getD k.toNat default).Op == 2 then (m.Exprs.getD k.toNat default).V.Scope == 1 else false else false) = true → leO [] [] ∧ (Ai false).le (Ai b)) ∧ ((bif bif (m.Exprs.getD k.toNat default).Op == 39 then !run else false then true else bif a == m.Claim then bif bif (m.Exprs.getD k.toNat default).Op == 31 then true else (m.Exprs.getD k.toNat default).Op == 39 then true else bif (m.Exprs.getD k.toNat default).Op == 2 then (m.Exprs.getD k.toNat default).V.Scope == 1 else false else false) = false → ∃ (y : Int), ((true && ((m.Exprs.getD k.toNat default).Op == 2) == true) = true → Ae Tryz.prog 143 [] [VV.agg (A4 (m.Exprs.getD k.toNat default).V)] [] (Ad y)) ∧ ∃ (y_1 : Int), ((true && ((m.Exprs.getD k.toNat default).Op == 2) == true) = true → Ae Tryz.prog 144 [] [VV.agg (Ac m), Ad a, VV.agg (A4 (m.Exprs.getD k.toNat default).V)] [] (Ad y_1)) ∧ ((bif (m.Exprs.getD k.toNat default).Op == 2 then decide (y > y_1) else false) = true → leO [] [] ∧ (Ai false).le (Ai b)) ∧ ((bif (m.Exprs.getD k.toNat default).Op == 2 then decide (y > y_1) else false) = false → ∃ (y : List Int), Ae Tryz.prog 111 [] [VV.agg (Au (m.Exprs.getD k.toNat default))] [] (Aa true y) ∧ AH (Ag Tryz.prog tb AT Kd true Tryz.f114 [] (Ai b)) [1, 1, 1, 1, 1, 0, 1, 0] (Ao [(1, Ad a), (4, VV.bp 0 0), (10, Aa true y), (11, Ad (0 : Int))] [Ob.box (Ac m)])))) := by kernel_rfl
theorem Yt (b : Bool) (m : D.Model) (a : Int) (s : D.Stmt) : (Ag Tryz.prog tb AT Fp true Tryz.f113 [] (Ai b)).goal (St.init [] [.agg (Ac m), Ad a, .agg (Av s)]) =
    (∃ (y : Bool), Ae Tryz.prog 142 [] [VV.agg (Ac m), VV.agg (Av s)] [] (Ai y) ∧ ((bif !y then true else bif bif bif bif a == m.Claim then s.Kind != (1 : Int) else false then s.Kind != (3 : Int) else false then s.Kind != (7 : Int) else false then s.Kind != (8 : Int) else false) = true → leO [] [] ∧ (Ai false).le (Ai b)) ∧ ((bif !y then true else bif bif bif bif a == m.Claim then s.Kind != (1 : Int) else false then s.Kind != (3 : Int) else false then s.Kind != (7 : Int) else false then s.Kind != (8 : Int) else false) = false → (decide (s.A ≥ (0 : Int)) = true → ∃ (y : Bool), Ae Tryz.prog 114 [] [VV.agg (Ac m), Ad a, Ad s.A, Ai (s.Kind == 1)] [] (Ai y) ∧ ((!y) = true → leO [] [] ∧ (Ai false).le (Ai b)) ∧ ((!y) = false → (decide (s.B ≥ (0 : Int)) = true → ∃ (y : Bool), Ae Tryz.prog 114 [] [VV.agg (Ac m), Ad a, Ad s.B, Ai (s.Kind == 2)] [] (Ai y) ∧ ((!y) = true → leO [] [] ∧ (Ai false).le (Ai b)) ∧ ((!y) = false → AH (Ag Tryz.prog tb AT Fp true Tryz.f113 [] (Ai b)) [1, 1, 1, 1, 1, 0, 1, 0] (Ao [(1, Ad a), (3, VV.bp 0 0), (5, VV.bp 1 0), (8, Ad (0 : Int))] [Ob.box (Ac m), Ob.box (Av s)]))) ∧ (decide (s.B ≥ (0 : Int)) = false → AH (Ag Tryz.prog tb AT Fp true Tryz.f113 [] (Ai b)) [1, 1, 1, 1, 1, 0, 1, 0] (Ao [(1, Ad a), (3, VV.bp 0 0), (5, VV.bp 1 0), (8, Ad (0 : Int))] [Ob.box (Ac m), Ob.box (Av s)])))) ∧ (decide (s.A ≥ (0 : Int)) = false → (decide (s.B ≥ (0 : Int)) = true → ∃ (y : Bool), Ae Tryz.prog 114 [] [VV.agg (Ac m), Ad a, Ad s.B, Ai (s.Kind == 2)] [] (Ai y) ∧ ((!y) = true → leO [] [] ∧ (Ai false).le (Ai b)) ∧ ((!y) = false → AH (Ag Tryz.prog tb AT Fp true Tryz.f113 [] (Ai b)) [1, 1, 1, 1, 1, 0, 1, 0] (Ao [(1, Ad a), (3, VV.bp 0 0), (5, VV.bp 1 0), (8, Ad (0 : Int))] [Ob.box (Ac m), Ob.box (Av s)]))) ∧ (decide (s.B ≥ (0 : Int)) = false → AH (Ag Tryz.prog tb AT Fp true Tryz.f113 [] (Ai b)) [1, 1, 1, 1, 1, 0, 1, 0] (Ao [(1, Ad a), (3, VV.bp 0 0), (5, VV.bp 1 0), (8, Ad (0 : Int))] [Ob.box (Ac m), Ob.box (Av s)]))))) := by kernel_rfl
theorem Ow (b : Bool) (m : D.Model) (a : Int) : (Ag Tryz.prog tb AT C5 true Tryz.f76 [] (Ai b)).goal (St.init [] [.agg (Ac m), Ad a]) =
    (((0 : Int) ≤ a ∧ a < (↑m.Procs.length : Int)) ∧ AH (Ag Tryz.prog tb AT C5 true Tryz.f76 [] (Ai b)) [1, 1, 0, 1, 0] (Ao [(1, Ad a), (2, VV.bp 0 0), (5, VV.bp 1 0), (6, Ad (0 : Int))] [Ob.box (Ac m), Ob.box (AB (m.Procs.getD a.toNat default))])) := by kernel_rfl
theorem Qf (r e : Int) (m : D.Model) : (Ag Tryz.prog tb AT Cq true Tryz.f74 [] (.tup [Ad r, Ad e])).goal (St.init [] [.agg (Ac m)]) =
    (((bif decide ((↑m.Globals.length : Int) > (128 : Int)) then true else (↑m.Init.length : Int) != (↑m.Globals.length : Int)) = true → leO [] [] ∧ (VV.tup [Ad (1 : Int), Ad (-1 : Int)]).le (VV.tup [Ad r, Ad e])) ∧ ((bif decide ((↑m.Globals.length : Int) > (128 : Int)) then true else (↑m.Init.length : Int) != (↑m.Globals.length : Int)) = false → ∃ (y : Int), Ae Tryz.prog 108 [] [Aj true m.Globals, Aa true m.Init] [] (Ad y) ∧ (decide (y ≥ (0 : Int)) = true → leO [] [] ∧ (VV.tup [Ad (1 : Int), Ad y]).le (VV.tup [Ad r, Ad e])) ∧ (decide (y ≥ (0 : Int)) = false → ((bif decide ((↑m.Shapes.length : Int) > (32 : Int)) then true else decide ((↑m.Chans.length : Int) > (32 : Int))) = true → leO [] [] ∧ (VV.tup [Ad (2 : Int), Ad (-1 : Int)]).le (VV.tup [Ad r, Ad e])) ∧ ((bif decide ((↑m.Shapes.length : Int) > (32 : Int)) then true else decide ((↑m.Chans.length : Int) > (32 : Int))) = false → AH (Ag Tryz.prog tb AT Cq true Tryz.f74 [] (VV.tup [Ad r, Ad e])) [1, 1, 1, 1, 1, 0, 1, 0] (Ao [(1, VV.bp 0 0), (5, Ad (0 : Int))] [Ob.box (Ac m)]))))) := by kernel_rfl
theorem SU (r e f : Int) (m : D.Model) : (Ag Tryz.prog tb AT Fs true Tryz.f48 [] (.tup [Ad r, Ad e, Ad f])).goal (St.init [] [.agg (Ac m)]) =
    (∃ (y : Int × Int), Ae Tryz.prog 74 [] [VV.agg (Ac m)] [] (VV.tup [Ad y.fst, Ad y.snd]) ∧ (decide (y.fst > (0 : Int)) = true → leO [] [] ∧ (VV.tup [Ad (40 : Int), Ad y.fst, Ad y.snd]).le (VV.tup [Ad r, Ad e, Ad f])) ∧ (decide (y.fst > (0 : Int)) = false → AH (Ag Tryz.prog tb AT Fs true Tryz.f48 [] (VV.tup [Ad r, Ad e, Ad f])) [1, 1, 1, 1, 0, 1, 0] (Ao [(1, VV.bp 0 0), (7, Ad (0 : Int)), (8, Ad (0 : Int))] [Ob.box (Ac m)]))) := by kernel_rfl
theorem SF (b : Bool) (m : D.Model) : (Ag Tryz.prog tb AT Bd true Tryz.f26 [] (Ai b)).goal (St.init [] [.agg (Ac m)]) =
    (∃ (y : Int × Int × Int), Ae Tryz.prog 48 [] [VV.agg (Ac m)] [] (VV.tup [Ad y.fst, Ad y.snd.fst, Ad y.snd.snd]) ∧ leO [] [] ∧ (Ai (y.fst == 0)).le (Ai b)) := by kernel_rfl
theorem Qb (b : Bool) (t : List D.Type) (l : List Int) : (Ag Tryz.prog tb AT Hm true Tryz.f23 [] (Ai b)).goal (St.init [] [Aj true t, Aa true l]) =
    ((((↑t.length : Int) != (↑l.length : Int)) = true → leO [] [] ∧ (Ai false).le (Ai b)) ∧ (((↑t.length : Int) != (↑l.length : Int)) = false → AH (Ag Tryz.prog tb AT Hm true Tryz.f23 [] (Ai b)) [1, 1, 0, 1, 0] (Ao [(0, Aj true t), (1, Aa true l), (5, Ad (0 : Int))] []))) := by kernel_rfl
theorem Yx (b : Bool) (m : D.Model) (s : D.State) : (Ag Tryz.prog tb AT Fq true Tryz.f10 [] (Ai b)).goal (St.init [] [.agg (Ac m), .agg (Ax s)]) =
    (∃ (y : Bool), Ae Tryz.prog 23 [] [Aj true m.Globals, Aa true s.Globals] [] (Ai y) ∧ ((bif bif bif bif bif bif bif !y then true else decide ((↑s.Chans.length : Int) > (32 : Int)) then true else decide ((↑s.Procs.length : Int) > (16 : Int)) then true else decide (s.Last < (0 : Int)) then true else decide (s.Last > (15 : Int)) then true else decide (s.Alone < (-1 : Int)) then true else decide (s.Alone ≥ (↑s.Procs.length : Int)) then true else bif decide (m.Claim < (0 : Int)) then s.Claim != (-1 : Int) else false) = true → leO [] [] ∧ (Ai false).le (Ai b)) ∧ ((bif bif bif bif bif bif bif !y then true else decide ((↑s.Chans.length : Int) > (32 : Int)) then true else decide ((↑s.Procs.length : Int) > (16 : Int)) then true else decide (s.Last < (0 : Int)) then true else decide (s.Last > (15 : Int)) then true else decide (s.Alone < (-1 : Int)) then true else decide (s.Alone ≥ (↑s.Procs.length : Int)) then true else bif decide (m.Claim < (0 : Int)) then s.Claim != (-1 : Int) else false) = false → ((true && decide (m.Claim ≥ (0 : Int)) == true && decide (s.Claim < (0 : Int)) == false) = true → (0 : Int) ≤ m.Claim ∧ m.Claim < (↑m.Procs.length : Int)) ∧ ((bif decide (m.Claim ≥ (0 : Int)) then bif decide (s.Claim < (0 : Int)) then true else decide (s.Claim ≥ (↑(m.Procs.getD m.Claim.toNat default).Locs.length : Int)) else false) = true → leO [] [] ∧ (Ai false).le (Ai b)) ∧ ((bif decide (m.Claim ≥ (0 : Int)) then bif decide (s.Claim < (0 : Int)) then true else decide (s.Claim ≥ (↑(m.Procs.getD m.Claim.toNat default).Locs.length : Int)) else false) = false → AH (Ag Tryz.prog tb AT Fq true Tryz.f10 [] (Ai b)) [1, 1, 1, 1, 0, 1, 0] (Ao [(2, VV.bp 0 0), (3, VV.bp 1 0), (6, Ad (0 : Int))] [Ob.box (Ac m), Ob.box (Ax s)])))) := by kernel_rfl
theorem Qm (r : Int) (m : D.Model) (s : D.State) : (Ag Tryz.prog tb AT Bd true Tryz.f14 [] (Ad r)).goal (St.init [] [.agg (Ac m), .agg (Ax s)]) =
    (∃ (y : Bool), Ae Tryz.prog 26 [] [VV.agg (Ac m)] [] (Ai y) ∧ ((!y) = true → leO [] [] ∧ (Ad (40 : Int)).le (Ad r)) ∧ ((!y) = false → ∃ (y : Bool), Ae Tryz.prog 10 [] [VV.agg (Ac m), VV.agg (Ax s)] [] (Ai y) ∧ ((!y) = true → leO [] [] ∧ (Ad (41 : Int)).le (Ad r)) ∧ ((!y) = false → leO [] [] ∧ (Ad (0 : Int)).le (Ad r)))) := by kernel_rfl
theorem Qv (r : Int) (e : D.Env) : (Ag Tryz.prog tb AT Bd true Tryz.f7 [] (Ad r)).goal (St.init [] [.agg (Af e)]) =
    (∃ (y : Int), Ae Tryz.prog 14 [] [VV.agg (Ac e.M), VV.agg (Ax e.S)] [] (Ad y) ∧ ((y != (0 : Int)) = true → leO [] [] ∧ (Ad y).le (Ad r)) ∧ ((y != (0 : Int)) = false → ((bif decide (e.Pid < (0 : Int)) then true else decide (e.Pid ≥ (↑e.S.Procs.length : Int))) = true → leO [] [] ∧ (Ad (42 : Int)).le (Ad r)) ∧ ((bif decide (e.Pid < (0 : Int)) then true else decide (e.Pid ≥ (↑e.S.Procs.length : Int))) = false → leO [] [] ∧ (Ad (0 : Int)).le (Ad r)))) := by kernel_rfl
theorem Wn (r : List D.Trans) (e : D.Env) (esc : Int) : (Ag Tryz.prog tb AT Bd true Tryz.f12 [] (Aq true r)).goal (St.init [] [.agg (Af e), Ad esc]) =
    (∃ (y : D.Proc), Ae Tryz.prog 24 [] [VV.agg (Af e)] [] (VV.agg (AB y)) ∧ ((0 : Int) ≤ e.Pid ∧ e.Pid < (↑e.S.Procs.length : Int)) ∧ ((0 : Int) ≤ (e.S.Procs.getD e.Pid.toNat default).Loc ∧ (e.S.Procs.getD e.Pid.toNat default).Loc < (↑y.Locs.length : Int)) ∧ (decide (esc < (0 : Int)) = true → leO [] [] ∧ (Aq true (y.Locs.getD (e.S.Procs.getD e.Pid.toNat default).Loc.toNat default).Out).le (Aq true r)) ∧ (decide (esc < (0 : Int)) = false → ((0 : Int) ≤ esc ∧ esc < (↑(y.Locs.getD (e.S.Procs.getD e.Pid.toNat default).Loc.toNat default).Esc.length : Int)) ∧ leO [] [] ∧ (Aq true ((y.Locs.getD (e.S.Procs.getD e.Pid.toNat default).Loc.toNat default).Esc.getD esc.toNat [])).le (Aq true r))) := by kernel_rfl
theorem Sw (p : D.Proc) (e : D.Env) : (Ag Tryz.prog tb AT Bd true Tryz.f24 [] (.agg (AB p))).goal (St.init [] [.agg (Af e)]) =
    (((0 : Int) ≤ e.Pid ∧ e.Pid < (↑e.S.Procs.length : Int)) ∧ ((0 : Int) ≤ (e.S.Procs.getD e.Pid.toNat default).Type_ ∧ (e.S.Procs.getD e.Pid.toNat default).Type_ < (↑e.M.Procs.length : Int)) ∧ leO [] [] ∧ (VV.agg (AB (e.M.Procs.getD (e.S.Procs.getD e.Pid.toNat default).Type_.toNat default))).le (VV.agg (AB p))) := by kernel_rfl
theorem SK (b : Bool) (t : D.Type) (v most n i : Int) (J : St → Prop) : ((Ag Tryz.prog tb AT F5 true Tryz.f45 [] (Ai b)).loop [1, 1, 1, 1, 1, 1, 0, 1, 0] J).goal (Ol t v most n i) =
    ((decide (i < n) = true → J (Ao [(1, Ad v), (2, VV.bp 0 0), (6, Ad (IntKind.i64.wrap ((2 : Int) * most))), (7, Ad n), (8, Ad (IntKind.i64.wrap (i + (1 : Int))))] [Ob.box (AR t)])) ∧ (decide (i < n) = false → (t.Signed = true → leO [] [] ∧ (Ai (bif decide (v ≥ IntKind.i64.wrap ((0 : Int) - most)) then decide (v < most) else false)).le (Ai b)) ∧ (t.Signed = false → leO [] [] ∧ (Ai (bif decide (v ≥ (0 : Int)) then decide (v < most) else false)).le (Ai b)))) := by kernel_rfl
theorem Qo (r : Int) (v : D.Var) (n k : Int) (J : St → Prop) : ((Ag Tryz.prog tb AT IQ true Tryz.f143 [] (Ad r)).loop [1, 1, 1, 0, 1, 0] J).goal (PV v n k) =
    ((decide (k < (↑v.Dims.length : Int)) = true → ((0 : Int) ≤ k ∧ k < (↑v.Dims.length : Int)) ∧ ((bif bif bif decide ((v.Dims.getD k.toNat default).Len < (1 : Int)) then true else decide (IntKind.i64.wrap ((v.Dims.getD k.toNat default).Len - (1 : Int)) > (1073741824 : Int)) then true else decide ((v.Dims.getD k.toNat default).Stride < (0 : Int)) then true else decide ((v.Dims.getD k.toNat default).Stride > (1073741824 : Int))) = true → leO [] [] ∧ (Ad (0 : Int)).le (Ad r)) ∧ ((bif bif bif decide ((v.Dims.getD k.toNat default).Len < (1 : Int)) then true else decide (IntKind.i64.wrap ((v.Dims.getD k.toNat default).Len - (1 : Int)) > (1073741824 : Int)) then true else decide ((v.Dims.getD k.toNat default).Stride < (0 : Int)) then true else decide ((v.Dims.getD k.toNat default).Stride > (1073741824 : Int))) = false → J (Ao [(1, VV.bp 0 0), (3, Ad (IntKind.i64.wrap (n + IntKind.i64.wrap (IntKind.i64.wrap ((v.Dims.getD k.toNat default).Len - (1 : Int)) * (v.Dims.getD k.toNat default).Stride)))), (4, Ad (IntKind.i64.wrap (k + (1 : Int))))] [Ob.box (A4 v)]))) ∧ (decide (k < (↑v.Dims.length : Int)) = false → leO [] [] ∧ (Ad n).le (Ad r))) := by kernel_rfl
theorem Qc (r : Int) (t : List D.Type) (v : List Int) (k : Int) (J : St → Prop) : ((Ag Tryz.prog tb AT IN true Tryz.f108 [] (Ad r)).loop [1, 0, 1, 0] J).goal (PT t v k) =
    ((decide (k < (↑t.length : Int)) = true → ((0 : Int) ≤ k ∧ k < (↑t.length : Int)) ∧ ((0 : Int) ≤ k ∧ k < (↑v.length : Int)) ∧ ∃ (y : Bool), Ae Tryz.prog 45 [] [VV.agg (AR (t.getD k.toNat default)), Ad (v.getD k.toNat (0 : Int))] [] (Ai y) ∧ ((!y) = true → leO [] [] ∧ (Ad k).le (Ad r)) ∧ ((!y) = false → J (Ao [(0, Aj true t), (1, Aa true v), (5, Ad (IntKind.i64.wrap (k + (1 : Int))))] []))) ∧ (decide (k < (↑t.length : Int)) = false → leO [] [] ∧ (Ad (-1 : Int)).le (Ad r))) := by kernel_rfl
theorem Ql (b : Bool) (s : D.Shape) (k : Int) (J : St → Prop) : ((Ag Tryz.prog tb AT IP true Tryz.f109 [] (Ai b)).loop [1, 1, 0, 1, 0] J).goal (PU s k) =
    ((decide (k < (↑s.Fields.length : Int)) = true → ((0 : Int) ≤ k ∧ k < (↑s.Fields.length : Int)) ∧ ∃ (y : Bool), Ae Tryz.prog 69 [] [VV.agg (AR (s.Fields.getD k.toNat default))] [] (Ai y) ∧ ((!y) = true → leO [] [] ∧ (Ai false).le (Ai b)) ∧ ((!y) = false → J (Ao [(1, VV.bp 0 0), (3, Ad (IntKind.i64.wrap (k + (1 : Int))))] [Ob.box (Bq s)]))) ∧ (decide (k < (↑s.Fields.length : Int)) = false → leO [] [] ∧ (Ai true).le (Ai b))) := by kernel_rfl
theorem Qz (b : Bool) (a : Int) (l : List Int) (k : Int) (J : St → Prop) : ((Ag Tryz.prog tb AT IR true Tryz.f138 [] (Ai b)).loop [1, 0, 1, 0] J).goal (PW false a l k) =
    ((decide (k < (↑l.length : Int)) = true → ((0 : Int) ≤ k ∧ k < (↑l.length : Int)) ∧ ((true && decide (l.getD k.toNat (0 : Int) < (0 : Int)) == false) = true → (0 : Int) ≤ k ∧ k < (↑l.length : Int)) ∧ ((bif decide (l.getD k.toNat (0 : Int) < (0 : Int)) then true else decide (l.getD k.toNat (0 : Int) ≥ a)) = true → leO [] [] ∧ (Ai false).le (Ai b)) ∧ ((bif decide (l.getD k.toNat (0 : Int) < (0 : Int)) then true else decide (l.getD k.toNat (0 : Int) ≥ a)) = false → J (Ao [(0, Ad a), (1, Aa false l), (5, Ad (IntKind.i64.wrap (k + (1 : Int))))] []))) ∧ (decide (k < (↑l.length : Int)) = false → leO [] [] ∧ (Ai true).le (Ai b))) := by kernel_rfl
theorem LR (r : List Int) (x : D.Expr) (l : List Int) (n : Int) : ((Ag Tryz.prog tb AT A3 true Tryz.f111 [] (Aa true r)).cut [1, 1, 1, 1]).goal (EZ x l n) =
    ((decide (n ≥ (2 : Int)) = true → (l.length + 1) * 8 ≤ 140737488355328 ∧ AH ((Ag Tryz.prog tb AT A3 true Tryz.f111 [] (Aa true r)).cut [1, 1, 1, 1]) [1] (Ao [(1, VV.bp 0 0), (3, VV.ow 1 0 (l.length + 1)), (4, Ad n)] [Ob.box (Au x), Ob.arr true 0 (l.length + 1) 1 fun (i : Nat) => bif i.blt l.length then [Ad (l.getD i (0 : Int))] else (fun (i : Nat) => List.take 1 (List.drop (i * 1) [Ad x.B])) (i - l.length)])) ∧ (decide (n ≥ (2 : Int)) = false → AH ((Ag Tryz.prog tb AT A3 true Tryz.f111 [] (Aa true r)).cut [1, 1, 1, 1]) [1] (Ao [(1, VV.bp 0 0), (3, VV.ow 1 0 l.length), (4, Ad n)] [Ob.box (Au x), Ob.arr true 0 l.length 1 fun (i : Nat) => [Ad (l.getD i (0 : Int))]]))) := by kernel_rfl
theorem It (r : List Int) (x : D.Expr) (l : List Int) (n : Int) : ((Ag Tryz.prog tb AT A3 true Tryz.f111 [] (Aa true r)).cut [1, 1, 1, 1, 1]).goal (EZ x l n) =
    ((decide (n ≥ (3 : Int)) = true → (l.length + 1) * 8 ≤ 140737488355328 ∧ AH ((Ag Tryz.prog tb AT A3 true Tryz.f111 [] (Aa true r)).cut [1, 1, 1, 1, 1]) [1] (Ao [(1, VV.bp 0 0), (3, VV.ow 1 0 (l.length + 1))] [Ob.box (Au x), Ob.arr true 0 (l.length + 1) 1 fun (i : Nat) => bif i.blt l.length then [Ad (l.getD i (0 : Int))] else (fun (i : Nat) => List.take 1 (List.drop (i * 1) [Ad x.C])) (i - l.length)])) ∧ (decide (n ≥ (3 : Int)) = false → AH ((Ag Tryz.prog tb AT A3 true Tryz.f111 [] (Aa true r)).cut [1, 1, 1, 1, 1]) [1] (Ao [(1, VV.bp 0 0), (3, VV.ow 1 0 l.length)] [Ob.box (Au x), Ob.arr true 0 l.length 1 fun (i : Nat) => [Ad (l.getD i (0 : Int))]]))) := by kernel_rfl
theorem SI (r : List Int) (x : D.Expr) (l : List Int) : ((Ag Tryz.prog tb AT A3 true Tryz.f111 [] (Aa true r)).cut [1, 1, 1, 1, 1, 1]).goal (Jd x l) =
    (((bif x.Op == 30 then true else x.Op == 39) = true → (l.length + x.Args.length) * 8 ≤ 140737488355328 ∧ (∀ (i : Nat), i < x.Args.length → ((fun (i : Nat) => [Ad (x.Args.getD i (0 : Int))]) i).all VV.mem1 = true) ∧ AH ((Ag Tryz.prog tb AT A3 true Tryz.f111 [] (Aa true r)).cut [1, 1, 1, 1, 1, 1]) [1] (Ao [(1, VV.bp 0 0), (3, VV.ow 1 0 (l.length + x.Args.length))] [Ob.box (Au x), Ob.arr true 0 (l.length + x.Args.length) 1 fun (i : Nat) => bif i.blt l.length then A7 l i else (fun (i : Nat) => [Ad (x.Args.getD i (0 : Int))]) (i - l.length)])) ∧ ((bif x.Op == 30 then true else x.Op == 39) = false → AH ((Ag Tryz.prog tb AT A3 true Tryz.f111 [] (Aa true r)).cut [1, 1, 1, 1, 1, 1]) [1] (Ao [(1, VV.bp 0 0), (3, VV.ow 1 0 l.length)] [Ob.box (Au x), Ob.arr true 0 l.length 1 fun (i : Nat) => [Ad (l.getD i (0 : Int))]]))) := by kernel_rfl
theorem SH (r : List Int) (x : D.Expr) (l : List Int) : ((Ag Tryz.prog tb AT A3 true Tryz.f111 [] (Aa true r)).cut [1, 1, 1, 1, 1, 1, 1]).goal (Jd x l) =
    (((x.Op == 2) = true → ((x.V.Scope == 2) = true → (l.length + 1) * 8 ≤ 140737488355328 ∧ AH ((Ag Tryz.prog tb AT A3 true Tryz.f111 [] (Aa true r)).cut [1, 1, 1, 1, 1, 1, 1]) [0, 1, 0, 1, 1, 0] (Ao [(1, VV.bp 0 0), (3, VV.ow 1 0 (l.length + 1)), (5, Ad (0 : Int))] [Ob.box (Au x), Ob.arr true 0 (l.length + 1) 1 fun (i : Nat) => bif i.blt l.length then [Ad (l.getD i (0 : Int))] else (fun (i : Nat) => List.take 1 (List.drop (i * 1) [Ad x.V.Who])) (i - l.length)])) ∧ ((x.V.Scope == 2) = false → AH ((Ag Tryz.prog tb AT A3 true Tryz.f111 [] (Aa true r)).cut [1, 1, 1, 1, 1, 1, 1]) [0, 1, 0, 1, 1, 0] (Ao [(1, VV.bp 0 0), (3, VV.ow 1 0 l.length), (5, Ad (0 : Int))] [Ob.box (Au x), Ob.arr true 0 l.length 1 fun (i : Nat) => [Ad (l.getD i (0 : Int))]]))) ∧ ((x.Op == 2) = false → leO [] [] ∧ (Aa true l).le (Aa true r))) := by kernel_rfl
theorem SJ (r : List Int) (x : D.Expr) (l : List Int) (k : Int) (J : St → Prop) : ((Ag Tryz.prog tb AT A3 true Tryz.f111 [] (Aa true r)).loop [1, 1, 1, 1, 1, 1, 1, 0, 1, 0, 1, 1, 0] J).goal (Oj x l k) =
    ((decide (k < (↑x.V.Dims.length : Int)) = true → ((0 : Int) ≤ k ∧ k < (↑x.V.Dims.length : Int)) ∧ (l.length + 1) * 8 ≤ 140737488355328 ∧ J (Ao [(1, VV.bp 0 0), (3, VV.ow 1 0 (l.length + 1)), (5, Ad (IntKind.i64.wrap (k + (1 : Int))))] [Ob.box (Au x), Ob.arr true 0 (l.length + 1) 1 fun (i : Nat) => bif i.blt l.length then [Ad (l.getD i (0 : Int))] else (fun (i : Nat) => List.take 1 (List.drop (i * 1) [Ad (x.V.Dims.getD k.toNat default).I])) (i - l.length)])) ∧ (decide (k < (↑x.V.Dims.length : Int)) = false → leO [] [] ∧ (Aa true l).le (Aa true r))) := by kernel_rfl
theorem Ss (b : Bool) (_ : D.Model) (a : Int) (v : D.Var) (k : Int) (J : St → Prop) : ((Ag Tryz.prog tb AT Kc true Tryz.f140 [] (Ai b)).loop [1, 1, 1, 1, 1, 0, 1, 0] J).goal (Ud a v k) =
    ((decide (k < (↑v.Dims.length : Int)) = true → ((0 : Int) ≤ k ∧ k < (↑v.Dims.length : Int)) ∧ ∃ (y : Bool), Ae Tryz.prog 138 [] [Ad a, VV.sl false 1 1 fun (i : Nat) => List.take 1 (List.drop (i * 1) [Ad (v.Dims.getD k.toNat default).I])] [] (Ai y) ∧ ((bif bif bif bif !y then true else decide ((v.Dims.getD k.toNat default).Len < (1 : Int)) then true else decide ((v.Dims.getD k.toNat default).Len > (128 : Int)) then true else decide ((v.Dims.getD k.toNat default).Stride < (0 : Int)) then true else decide ((v.Dims.getD k.toNat default).Stride > (128 : Int))) = true → leO [] [] ∧ (Ai false).le (Ai b)) ∧ ((bif bif bif bif !y then true else decide ((v.Dims.getD k.toNat default).Len < (1 : Int)) then true else decide ((v.Dims.getD k.toNat default).Len > (128 : Int)) then true else decide ((v.Dims.getD k.toNat default).Stride < (0 : Int)) then true else decide ((v.Dims.getD k.toNat default).Stride > (128 : Int))) = false → J (Ao [(1, Ad a), (5, VV.bp 0 0), (9, Ad (IntKind.i64.wrap (k + (1 : Int))))] [Ob.box (A4 v)]))) ∧ (decide (k < (↑v.Dims.length : Int)) = false → leO [] [] ∧ (Ai true).le (Ai b))) := by kernel_rfl
theorem MF (b : Bool) (m : D.Model) (args mt : List Int) (k : Int) (J : St → Prop) : ((Ag Tryz.prog tb AT Gx true Tryz.f141 [] (Ai b)).loop [1, 1, 1, 0, 1, 0] J).goal (LD m args mt k) =
    ((decide (k < (↑mt.length : Int)) = true → ((0 : Int) ≤ k ∧ k < (↑mt.length : Int)) ∧ ((true && decide (mt.getD k.toNat (0 : Int) < (-1 : Int)) == false) = true → (0 : Int) ≤ k ∧ k < (↑mt.length : Int)) ∧ ((true && (bif decide (mt.getD k.toNat (0 : Int) < (-1 : Int)) then true else decide (mt.getD k.toNat (0 : Int) > (1 : Int))) == false) = true → (0 : Int) ≤ k ∧ k < (↑mt.length : Int)) ∧ ((true && (bif decide (mt.getD k.toNat (0 : Int) < (-1 : Int)) then true else decide (mt.getD k.toNat (0 : Int) > (1 : Int))) == false && (mt.getD k.toNat (0 : Int) == 0) == true) = true → (0 : Int) ≤ k ∧ k < (↑args.length : Int)) ∧ ((true && (bif decide (mt.getD k.toNat (0 : Int) < (-1 : Int)) then true else decide (mt.getD k.toNat (0 : Int) > (1 : Int))) == false && (mt.getD k.toNat (0 : Int) == 0) == true) = true → (0 : Int) ≤ args.getD k.toNat (0 : Int) ∧ args.getD k.toNat (0 : Int) < (↑m.Exprs.length : Int)) ∧ ((bif bif decide (mt.getD k.toNat (0 : Int) < (-1 : Int)) then true else decide (mt.getD k.toNat (0 : Int) > (1 : Int)) then true else bif mt.getD k.toNat (0 : Int) == 0 then (m.Exprs.getD (args.getD k.toNat (0 : Int)).toNat default).Op != (2 : Int) else false) = true → leO [] [] ∧ (Ai false).le (Ai b)) ∧ ((bif bif decide (mt.getD k.toNat (0 : Int) < (-1 : Int)) then true else decide (mt.getD k.toNat (0 : Int) > (1 : Int)) then true else bif mt.getD k.toNat (0 : Int) == 0 then (m.Exprs.getD (args.getD k.toNat (0 : Int)).toNat default).Op != (2 : Int) else false) = false → J (Ao [(2, Aa true args), (3, Aa true mt), (4, VV.bp 0 0), (10, Ad (IntKind.i64.wrap (k + (1 : Int))))] [Ob.box (Ac m)]))) ∧ (decide (k < (↑mt.length : Int)) = false → leO [] [] ∧ (Ai true).le (Ai b))) := by kernel_rfl
theorem SM (b : Bool) (m : D.Model) (a : Int) (x : D.Expr) (n k : Int) (J : St → Prop) : ((Ag Tryz.prog tb AT H5 true Tryz.f110 [] (Ai b)).loop [1, 1, 1, 1, 1, 0, 1, 0] J).goal (Om m a x n k) =
    ((decide (k < (3 : Int)) = true → ((0 : Int) ≤ k ∧ k < (↑3 : Int)) ∧ ∃ (y : Bool), Ae Tryz.prog 138 [] [Ad a, VV.sl false 1 1 fun (i : Nat) => List.take 1 (List.drop (i * 1) [Ad ([x.A, x.B, x.C].getD k.toNat (0 : Int))])] [] (Ai y) ∧ ((true && (bif decide (k < n) then !y else false) == false && decide (k ≥ n) == true) = true → (0 : Int) ≤ k ∧ k < (↑3 : Int)) ∧ ((bif bif decide (k < n) then !y else false then true else bif decide (k ≥ n) then [x.A, x.B, x.C].getD k.toNat (0 : Int) != (-1 : Int) else false) = true → leO [] [] ∧ (Ai false).le (Ai b)) ∧ ((bif bif decide (k < n) then !y else false then true else bif decide (k ≥ n) then [x.A, x.B, x.C].getD k.toNat (0 : Int) != (-1 : Int) else false) = false → J (Ao [(1, Ad a), (2, VV.bp 0 0), (5, VV.bp 1 0), (6, Ad n), (7, VV.ow 2 0 3), (8, Ad (IntKind.i64.wrap (k + (1 : Int))))] [Ob.box (Ac m), Ob.box (Au x), Ob.arr true 0 3 1 fun (i : Nat) => [Ad ([x.A, x.B, x.C].getD i (0 : Int))]]))) ∧ (decide (k < (3 : Int)) = false → ∃ (y : Bool), Ae Tryz.prog 139 [] [VV.agg (Ac m), Ad x.N] [] (Ai y) ∧ ∃ (y_1 : Bool), Ae Tryz.prog 138 [] [Ad a, Aa true x.Args] [] (Ai y_1) ∧ ((x.Op == 1) = true → leO [] [] ∧ (Ai (bif decide (x.N ≥ (-2147483648 : Int)) then decide (x.N ≤ (2147483647 : Int)) else false)).le (Ai b)) ∧ ((x.Op == 1) = false → ((x.Op == 2) = true → ∃ (y : Bool), Ae Tryz.prog 140 [] [VV.agg (Ac m), Ad a, VV.agg (A4 x.V)] [] (Ai y) ∧ leO [] [] ∧ (Ai y).le (Ai b)) ∧ ((x.Op == 2) = false → ((x.Op == 30) = true → ∃ (y : Bool), Ae Tryz.prog 141 [] [VV.agg (Ac m), Ad a, Aa true x.Args, Aa true x.Match] [] (Ai y) ∧ leO [] [] ∧ (Ai (bif y then bif x.N == 0 then true else x.N == 1 else false)).le (Ai b)) ∧ ((x.Op == 30) = false → ((x.Op == 38) = true → ((bif !y then true else decide ((↑x.Args.length : Int) < (1 : Int))) = true → leO [] [] ∧ (Ai false).le (Ai b)) ∧ ((bif !y then true else decide ((↑x.Args.length : Int) < (1 : Int))) = false → ((0 : Int) ≤ x.N ∧ x.N < (↑m.Procs.length : Int)) ∧ ∃ (y : Bool), Ae Tryz.prog 138 [] [Ad (↑(m.Procs.getD x.N.toNat default).Locs.length : Int), Aa true x.Args] [] (Ai y) ∧ leO [] [] ∧ (Ai y).le (Ai b))) ∧ ((x.Op == 38) = false → ((x.Op == 39) = true → ((true && (bif y then y_1 else false) == true) = true → (0 : Int) ≤ x.N ∧ x.N < (↑m.Procs.length : Int)) ∧ leO [] [] ∧ (Ai (bif bif y then y_1 else false then (↑x.Args.length : Int) == (m.Procs.getD x.N.toNat default).Params else false)).le (Ai b)) ∧ ((x.Op == 39) = false → leO [] [] ∧ (Ai true).le (Ai b)))))))) := by kernel_rfl
theorem Qj (b : Bool) (m : D.Model) (a : Int) (p : D.Proc) (many k : Int) (J : St → Prop) : ((Ag Tryz.prog tb AT DG true Tryz.f75 [] (Ai b)).loop [1, 1, 1, 1, 1, 1, 1, 0, 1, 0] J).goal (Hw m a p many k) =
    ((decide (k < (↑p.Locs.length : Int)) = true → ((0 : Int) ≤ k ∧ k < (↑p.Locs.length : Int)) ∧ ((bif bif bif decide ((↑(p.Locs.getD k.toNat default).Esc.length : Int) > (8 : Int)) then true else bif (p.Locs.getD k.toNat default).Dstep then (p.Locs.getD k.toNat default).Atomic else false then true else bif k == p.Final then bif decide ((↑(p.Locs.getD k.toNat default).Out.length : Int) > (0 : Int)) then true else decide ((↑(p.Locs.getD k.toNat default).Esc.length : Int) > (0 : Int)) else false then true else bif a == m.Claim then bif bif decide ((↑(p.Locs.getD k.toNat default).Esc.length : Int) > (0 : Int)) then true else (p.Locs.getD k.toNat default).Atomic then true else (p.Locs.getD k.toNat default).Dstep else false) = true → leO [] [] ∧ (Ai false).le (Ai b)) ∧ ((bif bif bif decide ((↑(p.Locs.getD k.toNat default).Esc.length : Int) > (8 : Int)) then true else bif (p.Locs.getD k.toNat default).Dstep then (p.Locs.getD k.toNat default).Atomic else false then true else bif k == p.Final then bif decide ((↑(p.Locs.getD k.toNat default).Out.length : Int) > (0 : Int)) then true else decide ((↑(p.Locs.getD k.toNat default).Esc.length : Int) > (0 : Int)) else false then true else bif a == m.Claim then bif bif decide ((↑(p.Locs.getD k.toNat default).Esc.length : Int) > (0 : Int)) then true else (p.Locs.getD k.toNat default).Atomic then true else (p.Locs.getD k.toNat default).Dstep else false) = false → ∃ (y : List (List D.Trans)), Ae Tryz.prog 112 [] [VV.agg (AY (p.Locs.getD k.toNat default))] [] (AE true y) ∧ AH ((Ag Tryz.prog tb AT DG true Tryz.f75 [] (Ai b)).loop [1, 1, 1, 1, 1, 1, 1, 0, 1, 0] J) [1, 0, 0, 1, 1, 1, 1, 0] (Ao [(1, Ad a), (2, VV.bp 0 0), (5, VV.bp 1 0), (7, Ad many), (8, Ad k), (10, AE true y), (11, Ad (0 : Int))] [Ob.box (Ac m), Ob.box (AB p)]))) ∧ (decide (k < (↑p.Locs.length : Int)) = false → leO [] [] ∧ (Ai (decide (many ≤ (1024 : Int)))).le (Ai b))) := by kernel_rfl
theorem Qi (b : Bool) (m : D.Model) (a : Int) (p : D.Proc) (many k : Int) (ws : List (List D.Trans)) (j : Int) (J J2 : St → Prop) : (((Ag Tryz.prog tb AT DG true Tryz.f75 [] (Ai b)).loop [1, 1, 1, 1, 1, 1, 1, 0, 1, 0] J).loop [1, 0, 0, 1, 1, 1, 1, 0] J2).goal (JM m a p many k ws j) =
    ((decide (j < (↑ws.length : Int)) = true → ((true && decide (j > (0 : Int)) == true) = true → (0 : Int) ≤ j ∧ j < (↑ws.length : Int)) ∧ ((bif decide (j > (0 : Int)) then (↑(ws.getD j.toNat []).length : Int) == 0 else false) = true → leO [] [] ∧ (Ai false).le (Ai b)) ∧ ((bif decide (j > (0 : Int)) then (↑(ws.getD j.toNat []).length : Int) == 0 else false) = false → ((0 : Int) ≤ j ∧ j < (↑ws.length : Int)) ∧ AH (((Ag Tryz.prog tb AT DG true Tryz.f75 [] (Ai b)).loop [1, 1, 1, 1, 1, 1, 1, 0, 1, 0] J).loop [1, 0, 0, 1, 1, 1, 1, 0] J2) [1, 0, 0, 1, 1, 1, 0] (Ao [(1, Ad a), (2, VV.bp 0 0), (5, VV.bp 1 0), (7, Ad (IntKind.i64.wrap (many + (↑(ws.getD j.toNat []).length : Int)))), (8, Ad k), (10, AE true ws), (11, Ad j), (12, Ad (0 : Int))] [Ob.box (Ac m), Ob.box (AB p)]))) ∧ (decide (j < (↑ws.length : Int)) = false → J (Ao [(1, Ad a), (2, VV.bp 0 0), (5, VV.bp 1 0), (7, Ad many), (8, Ad (IntKind.i64.wrap (k + (1 : Int))))] [Ob.box (Ac m), Ob.box (AB p)]))) := by kernel_rfl
theorem Qh (b : Bool) (m : D.Model) (a : Int) (p : D.Proc) (many k : Int) (ws : List (List D.Trans)) (j h : Int) (J J2 J3 : St → Prop) : ((((Ag Tryz.prog tb AT DG true Tryz.f75 [] (Ai b)).loop [1, 1, 1, 1, 1, 1, 1, 0, 1, 0] J).loop [1, 0, 0, 1, 1, 1, 1, 0] J2).loop [1, 0, 0, 1, 1, 1, 0] J3).goal (Nb m a p many k ws j h) =
    (((0 : Int) ≤ j ∧ j < (↑ws.length : Int)) ∧ (decide (h < (↑(ws.getD j.toNat []).length : Int)) = true → ((0 : Int) ≤ j ∧ j < (↑ws.length : Int)) ∧ ((0 : Int) ≤ h ∧ h < (↑(ws.getD j.toNat []).length : Int)) ∧ ((true && decide (((ws.getD j.toNat []).getD h.toNat default).To < (0 : Int)) == false) = true → (0 : Int) ≤ j ∧ j < (↑ws.length : Int)) ∧ ((true && decide (((ws.getD j.toNat []).getD h.toNat default).To < (0 : Int)) == false) = true → (0 : Int) ≤ h ∧ h < (↑(ws.getD j.toNat []).length : Int)) ∧ ((bif decide (((ws.getD j.toNat []).getD h.toNat default).To < (0 : Int)) then true else decide (((ws.getD j.toNat []).getD h.toNat default).To ≥ (↑p.Locs.length : Int))) = true → leO [] [] ∧ (Ai false).le (Ai b)) ∧ ((bif decide (((ws.getD j.toNat []).getD h.toNat default).To < (0 : Int)) then true else decide (((ws.getD j.toNat []).getD h.toNat default).To ≥ (↑p.Locs.length : Int))) = false → J3 (Ao [(1, Ad a), (2, VV.bp 0 0), (5, VV.bp 1 0), (7, Ad many), (8, Ad k), (10, AE true ws), (11, Ad j), (12, Ad (IntKind.i64.wrap (h + (1 : Int))))] [Ob.box (Ac m), Ob.box (AB p)]))) ∧ (decide (h < (↑(ws.getD j.toNat []).length : Int)) = false → J2 (Ao [(1, Ad a), (2, VV.bp 0 0), (5, VV.bp 1 0), (7, Ad many), (8, Ad k), (10, AE true ws), (11, Ad (IntKind.i64.wrap (j + (1 : Int))))] [Ob.box (Ac m), Ob.box (AB p)]))) := by kernel_rfl
theorem Sz (b : Bool) (m : D.Model) (s : D.Stmt) (k : Int) (J : St → Prop) : ((Ag Tryz.prog tb AT H4 true Tryz.f142 [] (Ai b)).loop [1, 1, 1, 1, 1, 1, 1, 0, 1, 0, 1, 1, 1, 1, 1, 1, 1, 1, 1, 0, 1, 1, 0, 1, 0] J).goal (Uj m s k) =
    ((decide (k < (↑s.Args.length : Int)) = true → ((0 : Int) ≤ k ∧ k < (↑s.Args.length : Int)) ∧ ∃ (y : Bool), Ae Tryz.prog 164 [] [VV.agg (Ac m), Ad (s.Args.getD k.toNat (0 : Int))] [] (Ai y) ∧ ((0 : Int) ≤ k ∧ k < (↑s.Match.length : Int)) ∧ ((bif s.Match.getD k.toNat (0 : Int) == 0 then !y else false) = true → leO [] [] ∧ (Ai false).le (Ai b)) ∧ ((bif s.Match.getD k.toNat (0 : Int) == 0 then !y else false) = false → J (Ao [(2, VV.bp 0 0), (3, VV.bp 1 0), (12, Ad (IntKind.i64.wrap (k + (1 : Int))))] [Ob.box (Ac m), Ob.box (Av s)]))) ∧ (decide (k < (↑s.Args.length : Int)) = false → leO [] [] ∧ (Ai true).le (Ai b))) := by kernel_rfl
theorem Su (b : Bool) (m : D.Model) (a : Int) (l : List Int) (k : Int) (J : St → Prop) : ((Ag Tryz.prog tb AT Kd true Tryz.f114 [] (Ai b)).loop [1, 1, 1, 1, 1, 0, 1, 0] J).goal (Ue m a l k) =
    ((decide (k < (↑l.length : Int)) = true → ((0 : Int) ≤ k ∧ k < (↑l.length : Int)) ∧ ∃ (y : Bool), Ae Tryz.prog 114 [] [VV.agg (Ac m), Ad a, Ad (l.getD k.toNat (0 : Int)), Ai false] [] (Ai y) ∧ ((!y) = true → leO [] [] ∧ (Ai false).le (Ai b)) ∧ ((!y) = false → J (Ao [(1, Ad a), (4, VV.bp 0 0), (10, Aa true l), (11, Ad (IntKind.i64.wrap (k + (1 : Int))))] [Ob.box (Ac m)]))) ∧ (decide (k < (↑l.length : Int)) = false → leO [] [] ∧ (Ai true).le (Ai b))) := by kernel_rfl
theorem Wa (b : Bool) (m : D.Model) (a : Int) (s : D.Stmt) (k : Int) (J : St → Prop) : ((Ag Tryz.prog tb AT Fp true Tryz.f113 [] (Ai b)).loop [1, 1, 1, 1, 1, 0, 1, 0] J).goal (Sg m a s k) =
    ((decide (k < (↑s.Args.length : Int)) = true → ((0 : Int) ≤ k ∧ k < (↑s.Args.length : Int)) ∧ ∃ (y : Bool), Ae Tryz.prog 114 [] [VV.agg (Ac m), Ad a, Ad (s.Args.getD k.toNat (0 : Int)), Ai false] [] (Ai y) ∧ ((!y) = true → leO [] [] ∧ (Ai false).le (Ai b)) ∧ ((!y) = false → J (Ao [(1, Ad a), (3, VV.bp 0 0), (5, VV.bp 1 0), (8, Ad (IntKind.i64.wrap (k + (1 : Int))))] [Ob.box (Ac m), Ob.box (Av s)]))) ∧ (decide (k < (↑s.Args.length : Int)) = false → leO [] [] ∧ (Ai true).le (Ai b))) := by kernel_rfl
theorem Sq (b : Bool) (m : D.Model) (a : Int) (p : D.Proc) (k : Int) (J : St → Prop) : ((Ag Tryz.prog tb AT C5 true Tryz.f76 [] (Ai b)).loop [1, 1, 0, 1, 0] J).goal (Jc m a p k) =
    ((decide (k < (↑p.Locs.length : Int)) = true → ((0 : Int) ≤ k ∧ k < (↑p.Locs.length : Int)) ∧ ∃ (y : List (List D.Trans)), Ae Tryz.prog 112 [] [VV.agg (AY (p.Locs.getD k.toNat default))] [] (AE true y) ∧ AH ((Ag Tryz.prog tb AT C5 true Tryz.f76 [] (Ai b)).loop [1, 1, 0, 1, 0] J) [1, 0, 0, 1, 1, 0] (Ao [(1, Ad a), (2, VV.bp 0 0), (5, VV.bp 1 0), (6, Ad k), (7, AE true y), (8, Ad (0 : Int))] [Ob.box (Ac m), Ob.box (AB p)])) ∧ (decide (k < (↑p.Locs.length : Int)) = false → (decide (p.Provided < (0 : Int)) = true → leO [] [] ∧ (Ai true).le (Ai b)) ∧ (decide (p.Provided < (0 : Int)) = false → ∃ (y : Bool), Ae Tryz.prog 114 [] [VV.agg (Ac m), Ad a, Ad p.Provided, Ai false] [] (Ai y) ∧ leO [] [] ∧ (Ai y).le (Ai b)))) := by kernel_rfl
theorem Sp (b : Bool) (m : D.Model) (a : Int) (p : D.Proc) (k : Int) (ws : List (List D.Trans)) (j : Int) (J J2 : St → Prop) : (((Ag Tryz.prog tb AT C5 true Tryz.f76 [] (Ai b)).loop [1, 1, 0, 1, 0] J).loop [1, 0, 0, 1, 1, 0] J2).goal (LC m a p k ws j) =
    ((decide (j < (↑ws.length : Int)) = true → AH (((Ag Tryz.prog tb AT C5 true Tryz.f76 [] (Ai b)).loop [1, 1, 0, 1, 0] J).loop [1, 0, 0, 1, 1, 0] J2) [1, 0, 0, 1, 0] (Ao [(1, Ad a), (2, VV.bp 0 0), (5, VV.bp 1 0), (6, Ad k), (7, AE true ws), (8, Ad j), (9, Ad (0 : Int))] [Ob.box (Ac m), Ob.box (AB p)])) ∧ (decide (j < (↑ws.length : Int)) = false → J (Ao [(1, Ad a), (2, VV.bp 0 0), (5, VV.bp 1 0), (6, Ad (IntKind.i64.wrap (k + (1 : Int))))] [Ob.box (Ac m), Ob.box (AB p)]))) := by kernel_rfl
theorem So (b : Bool) (m : D.Model) (a : Int) (p : D.Proc) (k : Int) (ws : List (List D.Trans)) (j h : Int) (J J2 J3 : St → Prop) : ((((Ag Tryz.prog tb AT C5 true Tryz.f76 [] (Ai b)).loop [1, 1, 0, 1, 0] J).loop [1, 0, 0, 1, 1, 0] J2).loop [1, 0, 0, 1, 0] J3).goal (PS m a p k ws j h) =
    (((0 : Int) ≤ j ∧ j < (↑ws.length : Int)) ∧ (decide (h < (↑(ws.getD j.toNat []).length : Int)) = true → ((0 : Int) ≤ j ∧ j < (↑ws.length : Int)) ∧ ((0 : Int) ≤ h ∧ h < (↑(ws.getD j.toNat []).length : Int)) ∧ ∃ (y : Bool), Ae Tryz.prog 113 [] [VV.agg (Ac m), Ad a, VV.agg (Av ((ws.getD j.toNat []).getD h.toNat default).S)] [] (Ai y) ∧ ((!y) = true → leO [] [] ∧ (Ai false).le (Ai b)) ∧ ((!y) = false → J3 (Ao [(1, Ad a), (2, VV.bp 0 0), (5, VV.bp 1 0), (6, Ad k), (7, AE true ws), (8, Ad j), (9, Ad (IntKind.i64.wrap (h + (1 : Int))))] [Ob.box (Ac m), Ob.box (AB p)]))) ∧ (decide (h < (↑(ws.getD j.toNat []).length : Int)) = false → J2 (Ao [(1, Ad a), (2, VV.bp 0 0), (5, VV.bp 1 0), (6, Ad k), (7, AE true ws), (8, Ad (IntKind.i64.wrap (j + (1 : Int))))] [Ob.box (Ac m), Ob.box (AB p)]))) := by kernel_rfl
theorem Wg (r e : Int) (m : D.Model) (k : Int) (J : St → Prop) : ((Ag Tryz.prog tb AT Cq true Tryz.f74 [] (.tup [Ad r, Ad e])).loop [1, 1, 1, 1, 1, 0, 1, 0] J).goal (Ui m k) =
    ((decide (k < (↑m.Shapes.length : Int)) = true → ((0 : Int) ≤ k ∧ k < (↑m.Shapes.length : Int)) ∧ ∃ (y : Bool), Ae Tryz.prog 109 [] [VV.agg (Bq (m.Shapes.getD k.toNat default))] [] (Ai y) ∧ ((!y) = true → leO [] [] ∧ (VV.tup [Ad (2 : Int), Ad k]).le (VV.tup [Ad r, Ad e])) ∧ ((!y) = false → J (Ao [(1, VV.bp 0 0), (5, Ad (IntKind.i64.wrap (k + (1 : Int))))] [Ob.box (Ac m)]))) ∧ (decide (k < (↑m.Shapes.length : Int)) = false → AH (Ag Tryz.prog tb AT Cq true Tryz.f74 [] (VV.tup [Ad r, Ad e])) [1, 1, 1, 1, 1, 1, 0, 1, 0] (Ao [(1, VV.bp 0 0), (7, Ad (0 : Int))] [Ob.box (Ac m)]))) := by kernel_rfl
theorem Wf (r e : Int) (m : D.Model) (k : Int) (J : St → Prop) : ((Ag Tryz.prog tb AT Cq true Tryz.f74 [] (.tup [Ad r, Ad e])).loop [1, 1, 1, 1, 1, 1, 0, 1, 0] J).goal (Uh m k) =
    ((decide (k < (↑m.Chans.length : Int)) = true → ((0 : Int) ≤ k ∧ k < (↑m.Chans.length : Int)) ∧ ((true && decide (m.Chans.getD k.toNat (0 : Int) < (0 : Int)) == false) = true → (0 : Int) ≤ k ∧ k < (↑m.Chans.length : Int)) ∧ ((bif decide (m.Chans.getD k.toNat (0 : Int) < (0 : Int)) then true else decide (m.Chans.getD k.toNat (0 : Int) ≥ (↑m.Shapes.length : Int))) = true → leO [] [] ∧ (VV.tup [Ad (2 : Int), Ad k]).le (VV.tup [Ad r, Ad e])) ∧ ((bif decide (m.Chans.getD k.toNat (0 : Int) < (0 : Int)) then true else decide (m.Chans.getD k.toNat (0 : Int) ≥ (↑m.Shapes.length : Int))) = false → J (Ao [(1, VV.bp 0 0), (7, Ad (IntKind.i64.wrap (k + (1 : Int))))] [Ob.box (Ac m)]))) ∧ (decide (k < (↑m.Chans.length : Int)) = false → ((bif bif bif bif decide ((↑m.Procs.length : Int) < (1 : Int)) then true else decide ((↑m.Procs.length : Int) > (16 : Int)) then true else decide (m.Claim < (-1 : Int)) then true else decide (m.Claim ≥ (↑m.Procs.length : Int)) then true else decide ((↑m.Exprs.length : Int) > (4096 : Int))) = true → leO [] [] ∧ (VV.tup [Ad (3 : Int), Ad (-1 : Int)]).le (VV.tup [Ad r, Ad e])) ∧ ((bif bif bif bif decide ((↑m.Procs.length : Int) < (1 : Int)) then true else decide ((↑m.Procs.length : Int) > (16 : Int)) then true else decide (m.Claim < (-1 : Int)) then true else decide (m.Claim ≥ (↑m.Procs.length : Int)) then true else decide ((↑m.Exprs.length : Int) > (4096 : Int))) = false → ((0 : Int) ≤ (↑m.Exprs.length : Int) ∧ (↑m.Exprs.length : Int) ≤ (↑m.Exprs.length : Int) ∧ (↑m.Exprs.length : Int) * (↑1 : Int) ≤ (140737488355328 : Int)) ∧ AH (Ag Tryz.prog tb AT Cq true Tryz.f74 [] (VV.tup [Ad r, Ad e])) [1, 1, 1, 1, 1, 1, 1, 1, 1, 0, 1, 0] (Ao [(1, VV.bp 0 0), (8, VV.ow 1 0 (↑m.Exprs.length : Int).toNat), (9, Ad (0 : Int))] [Ob.box (Ac m), Ob.arr true 0 (↑m.Exprs.length : Int).toNat 1 fun (_ : Nat) => ((Ag Tryz.prog tb AT Cq true Tryz.f74 [] (VV.tup [Ad r, Ad e])).T (4 : TypeId)).zero])))) := by kernel_rfl
theorem We (r e : Int) (m : D.Model) (had : List Bool) (k : Int) (J : St → Prop) : ((Ag Tryz.prog tb AT Cq true Tryz.f74 [] (.tup [Ad r, Ad e])).loop [1, 1, 1, 1, 1, 1, 1, 1, 1, 0, 1, 0] J).goal (Ug m had k) =
    ((decide (k < (↑m.Exprs.length : Int)) = true → ∃ (y : Bool), Ae Tryz.prog 110 [] [VV.agg (Ac m), Ad k] [] (Ai y) ∧ ((!y) = true → leO [] [] ∧ (VV.tup [Ad (3 : Int), Ad k]).le (VV.tup [Ad r, Ad e])) ∧ ((!y) = false → ((0 : Int) ≤ k ∧ k < (↑m.Exprs.length : Int)) ∧ ∃ (y : List Int), Ae Tryz.prog 111 [] [VV.agg (Au (m.Exprs.getD k.toNat default))] [] (Aa true y) ∧ AH ((Ag Tryz.prog tb AT Cq true Tryz.f74 [] (VV.tup [Ad r, Ad e])).loop [1, 1, 1, 1, 1, 1, 1, 1, 1, 0, 1, 0] J) [1, 0, 0, 1, 1, 1, 1, 0] (Ao [(1, VV.bp 0 0), (8, VV.ow 1 0 had.length), (9, Ad k), (11, Aa true y), (12, Ad (0 : Int))] [Ob.box (Ac m), Ob.arr true 0 had.length 1 fun (i : Nat) => [Ai (had.getD i false)]]))) ∧ (decide (k < (↑m.Exprs.length : Int)) = false → leO [] [] ∧ (VV.tup [Ad (0 : Int), Ad (0 : Int)]).le (VV.tup [Ad r, Ad e]))) := by kernel_rfl
theorem Wd (r e : Int) (m : D.Model) (had : List Bool) (k : Int) (l : List Int) (j : Int) (J J2 : St → Prop) : (((Ag Tryz.prog tb AT Cq true Tryz.f74 [] (.tup [Ad r, Ad e])).loop [1, 1, 1, 1, 1, 1, 1, 1, 1, 0, 1, 0] J).loop [1, 0, 0, 1, 1, 1, 1, 0] J2).goal (Uf m had k l j) =
    ((decide (j < (↑l.length : Int)) = true → ((0 : Int) ≤ j ∧ j < (↑l.length : Int)) ∧ ((0 : Int) ≤ l.getD j.toNat (0 : Int) ∧ l.getD j.toNat (0 : Int) < (↑had.length : Int)) ∧ (had.getD (l.getD j.toNat (0 : Int)).toNat false = true → leO [] [] ∧ (VV.tup [Ad (3 : Int), Ad k]).le (VV.tup [Ad r, Ad e])) ∧ (had.getD (l.getD j.toNat (0 : Int)).toNat false = false → ((0 : Int) ≤ j ∧ j < (↑l.length : Int)) ∧ ((0 : Int) ≤ l.getD j.toNat (0 : Int) ∧ l.getD j.toNat (0 : Int) < (↑had.length : Int)) ∧ J2 (Ao [(1, VV.bp 0 0), (8, VV.ow 1 0 had.length), (9, Ad k), (11, Aa true l), (12, Ad (IntKind.i64.wrap (j + (1 : Int))))] [Ob.box (Ac m), Ob.arr true 0 had.length 1 fun (j_1 : Nat) => bif j_1.beq (l.getD j.toNat (0 : Int)).toNat then [Ai true] else [Ai (had.getD j_1 false)]]))) ∧ (decide (j < (↑l.length : Int)) = false → J (Ao [(1, VV.bp 0 0), (8, VV.ow 1 0 had.length), (9, Ad (IntKind.i64.wrap (k + (1 : Int))))] [Ob.box (Ac m), Ob.arr true 0 had.length 1 fun (i : Nat) => [Ai (had.getD i false)]]))) := by kernel_rfl
theorem Qy (r e f : Int) (m : D.Model) (many k : Int) (J : St → Prop) : ((Ag Tryz.prog tb AT Fs true Tryz.f48 [] (.tup [Ad r, Ad e, Ad f])).loop [1, 1, 1, 1, 0, 1, 0] J).goal (Nd m many k) =
    ((decide (k < (↑m.Procs.length : Int)) = true → ∃ (y : Bool), Ae Tryz.prog 75 [] [VV.agg (Ac m), Ad k] [] (Ai y) ∧ ((!y) = true → leO [] [] ∧ (VV.tup [Ad (40 : Int), Ad (4 : Int), Ad k]).le (VV.tup [Ad r, Ad e, Ad f])) ∧ ((!y) = false → ((0 : Int) ≤ k ∧ k < (↑m.Procs.length : Int)) ∧ J (Ao [(1, VV.bp 0 0), (7, Ad (IntKind.i64.wrap (many + (m.Procs.getD k.toNat default).Active))), (8, Ad (IntKind.i64.wrap (k + (1 : Int))))] [Ob.box (Ac m)]))) ∧ (decide (k < (↑m.Procs.length : Int)) = false → (decide (many > (16 : Int)) = true → leO [] [] ∧ (VV.tup [Ad (40 : Int), Ad (5 : Int), Ad (-1 : Int)]).le (VV.tup [Ad r, Ad e, Ad f])) ∧ (decide (many > (16 : Int)) = false → AH (Ag Tryz.prog tb AT Fs true Tryz.f48 [] (VV.tup [Ad r, Ad e, Ad f])) [1, 1, 1, 1, 1, 1, 0, 1, 0] (Ao [(1, VV.bp 0 0), (10, Ad (0 : Int))] [Ob.box (Ac m)])))) := by kernel_rfl
theorem Qx (r e f : Int) (m : D.Model) (k : Int) (J : St → Prop) : ((Ag Tryz.prog tb AT Fs true Tryz.f48 [] (.tup [Ad r, Ad e, Ad f])).loop [1, 1, 1, 1, 1, 1, 0, 1, 0] J).goal (Nc m k) =
    ((decide (k < (↑m.Procs.length : Int)) = true → ∃ (y : Bool), Ae Tryz.prog 76 [] [VV.agg (Ac m), Ad k] [] (Ai y) ∧ ((!y) = true → leO [] [] ∧ (VV.tup [Ad (40 : Int), Ad (6 : Int), Ad k]).le (VV.tup [Ad r, Ad e, Ad f])) ∧ ((!y) = false → J (Ao [(1, VV.bp 0 0), (10, Ad (IntKind.i64.wrap (k + (1 : Int))))] [Ob.box (Ac m)]))) ∧ (decide (k < (↑m.Procs.length : Int)) = false → leO [] [] ∧ (VV.tup [Ad (0 : Int), Ad (0 : Int), Ad (0 : Int)]).le (VV.tup [Ad r, Ad e, Ad f]))) := by kernel_rfl
theorem Oy (b : Bool) (t : List D.Type) (l : List Int) (k : Int) (J : St → Prop) : ((Ag Tryz.prog tb AT Hm true Tryz.f23 [] (Ai b)).loop [1, 1, 0, 1, 0] J).goal (Na t l k) =
    ((decide (k < (↑t.length : Int)) = true → ((0 : Int) ≤ k ∧ k < (↑t.length : Int)) ∧ ((0 : Int) ≤ k ∧ k < (↑l.length : Int)) ∧ ∃ (y : Bool), Ae Tryz.prog 45 [] [VV.agg (AR (t.getD k.toNat default)), Ad (l.getD k.toNat (0 : Int))] [] (Ai y) ∧ ((!y) = true → leO [] [] ∧ (Ai false).le (Ai b)) ∧ ((!y) = false → J (Ao [(0, Aj true t), (1, Aa true l), (5, Ad (IntKind.i64.wrap (k + (1 : Int))))] []))) ∧ (decide (k < (↑t.length : Int)) = false → leO [] [] ∧ (Ai true).le (Ai b))) := by kernel_rfl
theorem Wm (b : Bool) (m : D.Model) (s : D.State) (k : Int) (J : St → Prop) : ((Ag Tryz.prog tb AT Fq true Tryz.f10 [] (Ai b)).loop [1, 1, 1, 1, 0, 1, 0] J).goal (Oi m s k) =
    ((decide (k < (↑s.Chans.length : Int)) = true → ((0 : Int) ≤ k ∧ k < (↑s.Chans.length : Int)) ∧ ((true && (bif decide ((s.Chans.getD k.toNat default).Shape < (0 : Int)) then true else decide ((s.Chans.getD k.toNat default).Shape ≥ (↑m.Shapes.length : Int))) == false) = true → (0 : Int) ≤ (s.Chans.getD k.toNat default).Shape ∧ (s.Chans.getD k.toNat default).Shape < (↑m.Shapes.length : Int)) ∧ ((bif bif decide ((s.Chans.getD k.toNat default).Shape < (0 : Int)) then true else decide ((s.Chans.getD k.toNat default).Shape ≥ (↑m.Shapes.length : Int)) then true else decide ((↑(s.Chans.getD k.toNat default).Queue.length : Int) > (m.Shapes.getD (s.Chans.getD k.toNat default).Shape.toNat default).Room)) = true → leO [] [] ∧ (Ai false).le (Ai b)) ∧ ((bif bif decide ((s.Chans.getD k.toNat default).Shape < (0 : Int)) then true else decide ((s.Chans.getD k.toNat default).Shape ≥ (↑m.Shapes.length : Int)) then true else decide ((↑(s.Chans.getD k.toNat default).Queue.length : Int) > (m.Shapes.getD (s.Chans.getD k.toNat default).Shape.toNat default).Room)) = false → AH ((Ag Tryz.prog tb AT Fq true Tryz.f10 [] (Ai b)).loop [1, 1, 1, 1, 0, 1, 0] J) [1, 0, 0, 1, 1, 1, 0] (Ao [(2, VV.bp 0 0), (3, VV.bp 1 0), (6, Ad k), (7, VV.bp 2 0), (8, Ad (0 : Int))] [Ob.box (Ac m), Ob.box (Ax s), Ob.box (Ar (s.Chans.getD k.toNat default))]))) ∧ (decide (k < (↑s.Chans.length : Int)) = false → AH (Ag Tryz.prog tb AT Fq true Tryz.f10 [] (Ai b)) [1, 1, 1, 1, 1, 0, 1, 0] (Ao [(2, VV.bp 0 0), (3, VV.bp 1 0), (9, Ad (0 : Int))] [Ob.box (Ac m), Ob.box (Ax s)]))) := by kernel_rfl
theorem Wl (b : Bool) (m : D.Model) (s : D.State) (k : Int) (c : D.Chan) (j : Int) (J J2 : St → Prop) : (((Ag Tryz.prog tb AT Fq true Tryz.f10 [] (Ai b)).loop [1, 1, 1, 1, 0, 1, 0] J).loop [1, 0, 0, 1, 1, 1, 0] J2).goal (Uk m s k c j) =
    ((decide (j < (↑c.Queue.length : Int)) = true → ((0 : Int) ≤ c.Shape ∧ c.Shape < (↑m.Shapes.length : Int)) ∧ ((0 : Int) ≤ j ∧ j < (↑c.Queue.length : Int)) ∧ ∃ (y : Bool), Ae Tryz.prog 23 [] [Aj true (m.Shapes.getD c.Shape.toNat default).Fields, Aa true (c.Queue.getD j.toNat [])] [] (Ai y) ∧ ((!y) = true → leO [] [] ∧ (Ai false).le (Ai b)) ∧ ((!y) = false → J2 (Ao [(2, VV.bp 0 0), (3, VV.bp 1 0), (6, Ad k), (7, VV.bp 2 0), (8, Ad (IntKind.i64.wrap (j + (1 : Int))))] [Ob.box (Ac m), Ob.box (Ax s), Ob.box (Ar c)]))) ∧ (decide (j < (↑c.Queue.length : Int)) = false → J (Ao [(2, VV.bp 0 0), (3, VV.bp 1 0), (6, Ad (IntKind.i64.wrap (k + (1 : Int))))] [Ob.box (Ac m), Ob.box (Ax s)]))) := by kernel_rfl
theorem Wk (b : Bool) (m : D.Model) (s : D.State) (k : Int) (J : St → Prop) : ((Ag Tryz.prog tb AT Fq true Tryz.f10 [] (Ai b)).loop [1, 1, 1, 1, 1, 0, 1, 0] J).goal (Oh m s k) =
    ((decide (k < (↑s.Procs.length : Int)) = true → ((0 : Int) ≤ k ∧ k < (↑s.Procs.length : Int)) ∧ ((bif bif decide ((s.Procs.getD k.toNat default).Type_ < (0 : Int)) then true else decide ((s.Procs.getD k.toNat default).Type_ ≥ (↑m.Procs.length : Int)) then true else (s.Procs.getD k.toNat default).Type_ == m.Claim) = true → leO [] [] ∧ (Ai false).le (Ai b)) ∧ ((bif bif decide ((s.Procs.getD k.toNat default).Type_ < (0 : Int)) then true else decide ((s.Procs.getD k.toNat default).Type_ ≥ (↑m.Procs.length : Int)) then true else (s.Procs.getD k.toNat default).Type_ == m.Claim) = false → ((0 : Int) ≤ (s.Procs.getD k.toNat default).Type_ ∧ (s.Procs.getD k.toNat default).Type_ < (↑m.Procs.length : Int)) ∧ ∃ (y : Bool), Ae Tryz.prog 23 [] [Aj true (m.Procs.getD (s.Procs.getD k.toNat default).Type_.toNat default).Frame, Aa true (s.Procs.getD k.toNat default).Frame] [] (Ai y) ∧ ((bif bif bif !y then true else decide ((s.Procs.getD k.toNat default).Loc < (0 : Int)) then true else decide ((s.Procs.getD k.toNat default).Loc ≥ (↑(m.Procs.getD (s.Procs.getD k.toNat default).Type_.toNat default).Locs.length : Int)) then true else (s.Procs.getD k.toNat default).Prio != (m.Procs.getD (s.Procs.getD k.toNat default).Type_.toNat default).Prio) = true → leO [] [] ∧ (Ai false).le (Ai b)) ∧ ((bif bif bif !y then true else decide ((s.Procs.getD k.toNat default).Loc < (0 : Int)) then true else decide ((s.Procs.getD k.toNat default).Loc ≥ (↑(m.Procs.getD (s.Procs.getD k.toNat default).Type_.toNat default).Locs.length : Int)) then true else (s.Procs.getD k.toNat default).Prio != (m.Procs.getD (s.Procs.getD k.toNat default).Type_.toNat default).Prio) = false → J (Ao [(2, VV.bp 0 0), (3, VV.bp 1 0), (9, Ad (IntKind.i64.wrap (k + (1 : Int))))] [Ob.box (Ac m), Ob.box (Ax s)])))) ∧ (decide (k < (↑s.Procs.length : Int)) = false → leO [] [] ∧ (Ai true).le (Ai b))) := by kernel_rfl
end Go.Proofs.YtiaebjpcgjkhoaaGreatDoor
namespace Go.Proofs.YtiaebjpcgjkhoaaGreatDoor
open Go.RowKit
theorem Nl (t : D.Type) : Ae Tryz.prog 69 [] [.agg (AR t)] [] (Ai (EV t)) := by
  refine Ah Am An Tryz.func69 (by kernel_rfl) rfl (Yv _ t) (As ?_)
  unfold EV
  simp only [AS, Bc, ieq, ge_iff_le, Bool.or_assoc, Bool.and_assoc]
theorem LS (t : D.Type) (v : Int) : Ae Tryz.prog 45 [] [.agg (AR t), Ad v] [] (Ai (Cz t v)) := by
  refine Ah Am An Tryz.func45 (by kernel_rfl) rfl (Wp _ t v) ⟨EV t, Nl t, fun h => As ?_, fun h => ?_⟩
  · have h' : EV t = false := by simpa using h
    simp [Cz, h']
  have h' : EV t = true := by simpa using h
  obtain ⟨h1, h2, h3⟩ := XW h'
  have key : ∀ n : Nat, (n : Int) = (bif t.Signed then t.Bits - 1 else t.Bits) → AH (Ag Tryz.prog tb AT F5 true Tryz.f45 [] (Ai (Cz t v))) [1, 1, 1, 1, 1, 1, 0, 1, 0] (Ol t v 1 n 0) := by
    intro n hn
    have hn32 : n ≤ 32 := by cases hs : t.Signed <;> rw [hs] at hn <;> simp at hn <;> omega
    refine Bh Am An (fun g st => ∃ k : Nat, k ≤ n ∧ g = n - k ∧ st = Ol t v (2 ^ k) n k) (by kernel_rfl) (by kernel_rfl) ⟨n, Up.of ⟨0, Nat.zero_le _, rfl, rfl⟩⟩ ?_
    rintro g st ⟨k, hk, rfl, rfl⟩
    have hp := S1 (n := k) (by omega)
    refine A9.raw (SK _ t v (2 ^ k) n k _) ⟨fun hlt => ?_, fun hge => ?_⟩
    · have hlt' : k < n := by have := AQ hlt; omega
      refine ⟨n - (k + 1), by omega, Up.of ⟨k + 1, hlt', rfl, ?_⟩⟩
      rw [Ap (by omega), A6 (by omega) (by omega), show (2 : Int) * 2 ^ k = 2 ^ (k + 1) by rw [Int.pow_succ]; omega]
      rfl
    · obtain rfl : k = n := by have := AV hge; omega
      refine ⟨fun hs => As ?_, fun hs => As ?_⟩
      · rw [hs, cond_true] at hn
        rw [A6 (by omega) (by omega)]
        simp only [Cz, h', hs, cond_true, Bool.true_and, ge_iff_le]
        rw [← hn, show ((k : Nat) : Int).toNat = k by omega, show (0 : Int) - 2 ^ k = -(2 ^ k) by omega, AS]
      · rw [hs, cond_false] at hn
        simp only [Cz, h', hs, cond_false, Bool.true_and, ge_iff_le]
        rw [← hn, show ((k : Nat) : Int).toNat = k by omega, AS]
  refine ⟨fun hs => ?_, fun hs => ?_⟩
  · have hw : IntKind.i64.wrap (t.Bits - 1) = t.Bits - 1 := A6 (by omega) (by omega)
    have := key (t.Bits - 1).toNat (by rw [hs, cond_true]; omega)
    rw [hw]
    rwa [show (((t.Bits - 1).toNat : Nat) : Int) = t.Bits - 1 by omega] at this
  · have := key t.Bits.toNat (by rw [hs, cond_false]; omega)
    rwa [show ((t.Bits.toNat : Nat) : Int) = t.Bits by omega] at this
theorem Qn {v : D.Var} (hv : Gc v) : Ae Tryz.prog 143 [] [.agg (A4 v)] [] (Ad (CE v)) := by
  have hd := hv.Dims
  refine Ah Am An Tryz.func143 (by kernel_rfl) rfl (SC _ v) ⟨fun h => BJ ?_, fun h => ?_⟩
  · unfold CE
    have : (decide (v.Slot < 0) || (decide (1073741824 < v.Slot) || decide (4 < v.Dims.length))) = true := by simp at h ⊢; omega
    rw [this, cond_true]
  · have hb : 0 ≤ v.Slot ∧ v.Slot ≤ 1073741824 ∧ v.Dims.length ≤ 4 := by simp at h; omega
    have e : CE v = CQ (v.Slot + 1) v.Dims := by
      unfold CE
      have : (decide (v.Slot < 0) || (decide (1073741824 < v.Slot) || decide (4 < v.Dims.length))) = false := by simp; omega
      rw [this, cond_false]
    rw [e, A6 (by omega) (by omega)]
    refine Bh Am An (fun g st => ∃ (k : Nat) (n : Int), k ≤ v.Dims.length ∧ g = v.Dims.length - k ∧ 0 ≤ n ∧ n ≤ 1073741825 + k * 1152921504606846976 ∧ CQ n (v.Dims.drop k) = CQ (v.Slot + 1) v.Dims ∧ st = PV v n k) (by kernel_rfl) (by kernel_rfl)
      ⟨_, Up.of ⟨0, v.Slot + 1, Nat.zero_le _, rfl, by omega, by omega, rfl, rfl⟩⟩ ?_
    rintro g st ⟨k, n, hk, rfl, hn0, hn1, hr, rfl⟩
    refine A9.raw (Qo _ v n k _) ⟨fun hlt => ?_, fun hge => BJ ?_⟩
    · have hlt' : k < v.Dims.length := by have := AQ hlt; omega
      have hto : (k : Int).toNat = k := by omega
      rw [hto]
      rw [BQ (d := default) hlt'] at hr
      have hw := hd.2 _ (AF (d := default) hlt')
      generalize v.Dims.getD k default = d at hr hw ⊢
      have hwl := Aa0 hw.Len
      refine ⟨⟨by omega, by omega⟩, fun hy => BJ ?_, fun hy => ?_⟩
      · rw [← hr]
        have : Fh d = true := by
          unfold Fh
          by_cases hl : d.Len < 1
          · simp [hl]
          · rw [A6 (by omega) (by omega)] at hy
            simp at hy ⊢; omega
        show _ = CQ n (d :: _)
        unfold CQ; rw [this]; rfl
      · have hl : 1 ≤ d.Len := by
          by_cases hl : d.Len < 1
          · simp [hl] at hy
          · omega
        have hwr : IntKind.i64.wrap (d.Len - 1) = d.Len - 1 := A6 (by omega) (by omega)
        rw [hwr] at hy ⊢
        have hb2 : d.Len - 1 ≤ 1073741824 ∧ 0 ≤ d.Stride ∧ d.Stride ≤ 1073741824 := by simp at hy; omega
        have hbad : Fh d = false := by unfold Fh; simp; omega
        have hm1 : 0 ≤ (d.Len - 1) * d.Stride := Int.mul_nonneg (by omega) hb2.2.1
        have hm2 : (d.Len - 1) * d.Stride ≤ 1073741824 * 1073741824 := Int.mul_le_mul hb2.1 hb2.2.2 hb2.2.1 (by omega)
        rw [A6 (n := (d.Len - 1) * d.Stride) (by omega) (by omega), A6 (n := n + _) (by omega) (by omega), Ap (by omega)]
        refine ⟨v.Dims.length - (k + 1), by omega, Up.of ⟨k + 1, n + (d.Len - 1) * d.Stride, by omega, rfl, by omega, by omega, ?_, rfl⟩⟩
        rw [← hr]
        show _ = CQ n (d :: _)
        conv => rhs; unfold CQ
        rw [hbad]; rfl
    · have hge' : v.Dims.length ≤ k := by have := AV hge; omega
      rw [List.drop_eq_nil_of_le hge'] at hr
      rw [← hr]; rfl
theorem Kt {t : List D.Type} {init : List Int} (hl : t.length ≤ init.length) (hs : t.length ≤ 1048576) : Ae Tryz.prog 108 [] [Aj true t, Aa true init] [] (Ad (Dl t init)) := by
  refine Ah Am An Tryz.func108 (by kernel_rfl) rfl (Sv _ t init) ?_
  refine AI Am An t.length (fun k => PT t init k) (fun k => ∀ i, i < k → Cz (t.getD i default) (init.getD i 0) = true) (by kernel_rfl) (by kernel_rfl) (fun i hi => by omega) ?_
  intro k hk hI J next
  refine A9.raw (Qc _ t init k J) ⟨fun hlt => ?_, fun hge => BJ ?_⟩
  · have hlt' : k < t.length := by have := AQ hlt; omega
    refine ⟨⟨by omega, by omega⟩, ⟨by omega, by omega⟩, Cz (t.getD k default) (init.getD k 0), LS _ _, fun hy => BJ ?_, fun hy => next _ hlt' (Bx hI (by simpa using hy)) (Up.of ?_)⟩
    · exact (Dc (f := fun i => Cz (t.getD i default) (init.getD i 0)) hI hlt' (by simpa using hy)).symm
    · rw [Ap (by omega)]; rfl
  · have hge' : t.length ≤ k := by have := AV hge; omega
    exact (Dd (f := fun i => Cz (t.getD i default) (init.getD i 0)) fun i hi => hI i (by omega)).symm
theorem Qk {s : D.Shape} (hs : I0 s) : Ae Tryz.prog 109 [] [.agg (Bq s)] [] (Ai (CM s)) := by
  have hl := hs.Fields.1
  refine Ah Am An Tryz.func109 (by kernel_rfl) rfl (SA _ s) ⟨fun h => As ?_, fun h => ?_⟩
  · symm; rw [Bool.eq_false_iff]; intro hc; simp [CM] at hc h; omega
  · have e : CM s = B3 s.Fields.length fun i => EV (s.Fields.getD i default) := by
      unfold CM
      have : (decide (0 ≤ s.Room) && decide (s.Room ≤ 16) && decide (1 ≤ s.Fields.length) && decide (s.Fields.length ≤ 8)) = true := by simp at h ⊢; omega
      rw [this, Bool.true_and]
    rw [e]
    refine AI Am An s.Fields.length (fun k => PU s k) (fun k => ∀ i, i < k → EV (s.Fields.getD i default) = true) (by kernel_rfl) (by kernel_rfl) (fun i hi => by omega) ?_
    intro k hk hI J next
    refine A9.raw (Ql _ s k J) ⟨fun hlt => ?_, fun hge => As ?_⟩
    · have hlt' : k < s.Fields.length := by have := AQ hlt; omega
      refine ⟨⟨by omega, by omega⟩, EV (s.Fields.getD k default), Nl _, fun hy => As ?_, fun hy => next _ hlt' (Bx hI (by simpa using hy)) (Up.of ?_)⟩
      · exact (Bg (f := fun i => EV (s.Fields.getD i default)) hlt' (by simpa using hy)).symm
      · rw [Ap (by omega)]; rfl
    · have hge' : s.Fields.length ≤ k := by have := AV hge; omega
      exact (AW.2 fun i hi => hI i (by omega)).symm
theorem Jg (m : D.Model) (n : Int) : Ae Tryz.prog 139 [] [.agg (Ac m), Ad n] [] (Ai (BN m n)) := by
  refine Ah Am An Tryz.func139 (by kernel_rfl) rfl (Qp _ m n) (As ?_)
  rw [Bool.eq_iff_iff]; simp [BN]
theorem Jk {a : Int} {l : List Int} (hl : l.length ≤ 1099511627776) : Ae Tryz.prog 138 [] [Ad a, Aa false l] [] (Ai (BI a l)) := by
  refine Ah Am An Tryz.func138 (by kernel_rfl) rfl (SV _ a l) ?_
  refine AI Am An l.length (fun k => PW false a l k) (fun k => ∀ i, i < k → inP a (l.getD i 0) = true) (by kernel_rfl) (by kernel_rfl) (fun i hi => by omega) ?_
  intro k hk hI J next
  refine A9.raw (Qz _ a l k J) ⟨fun hlt => ?_, fun hge => As ?_⟩
  · have hlt' : k < l.length := by have := AQ hlt; omega
    have hto : (k : Int).toNat = k := by omega
    rw [hto]
    refine ⟨⟨by omega, by omega⟩, fun _ => ⟨by omega, by omega⟩, fun hy => As ?_, fun hy => next _ hlt' (Bx hI ?_) (Up.of ?_)⟩
    · exact (Bg (f := fun i => inP a (l.getD i 0)) hlt' (by rw [Bool.eq_false_iff]; intro hc; simp [inP] at hc hy; omega)).symm
    · simp [inP] at hy ⊢; omega
    · rw [Ap (by omega)]; rfl
  · have hge' : l.length ≤ k := by have := AV hge; omega
    exact (AW.2 fun i hi => hI i (by omega)).symm
theorem FA {a : Int} {l : List Int} (hl : l.length ≤ 1099511627776) : Ae Tryz.prog 138 [] [Ad a, Aa true l] [] (Ai (BI a l)) :=
  (Jk hl).frz rfl fun j x y hx hy => by
    match j, hx, hy with
    | 0, hx, hy => obtain rfl := Option.some.inj hx; obtain rfl := Option.some.inj hy; exact CJ _
    | 1, hx, hy => obtain rfl := Option.some.inj hx; obtain rfl := Option.some.inj hy; exact JV
    | j + 2, hx, _ => simp at hx
theorem Iv {a x : Int} : Ae Tryz.prog 138 [] [Ad a, .sl false 1 1 fun i => List.take 1 (List.drop (i * 1) [.sc (.int .i64 x)])] [] (Ai (inP a x)) := by
  have h := Jk (a := a) (l := [x]) (by simp)
  have e : BI a [x] = inP a x := by simp [BI, B3, List.getD]
  rw [e] at h
  refine h.le trivial ⟨VV.le_refl _, VV.le_sl (.inl rfl) fun i hi => A8 ?_, trivial⟩ trivial (VV.le_refl _)
  obtain rfl : i = 0 := by omega
  rfl
theorem Ku (op : Int) : Ae Tryz.prog 137 [] [Ad op] [] (Ad (AK op)) := by
  refine Ah Am An Tryz.func137 (by kernel_rfl) rfl (SD _ op) ?_
  have k0 : ∀ {p : Prop}, (op = 1 ∨ op = 2 ∨ op = 31 ∨ op = 32 ∨ op = 33 ∨ op = 34 ∨ op = 35 ∨ op = 39) → leO [] [] ∧ VV.le (.sc (.int .i64 0)) (.sc (.int .i64 (AK op : Nat))) := fun h => BJ (by unfold AK; rw [if_pos h]; rfl)
  have kx : ¬(op = 1 ∨ op = 2 ∨ op = 31 ∨ op = 32 ∨ op = 33 ∨ op = 34 ∨ op = 35 ∨ op = 39) → ((op == (24 : Int)) = true → leO [] [] ∧ (VV.sc (.int .i64 3)).le (.sc (.int .i64 (AK op : Nat)))) ∧ ((op == (24 : Int)) = false →
      ((bif decide (op ≥ (6 : Int)) then decide (op ≤ (23 : Int)) else false) = true → leO [] [] ∧ (VV.sc (.int .i64 2)).le (.sc (.int .i64 (AK op : Nat)))) ∧ ((bif decide (op ≥ (6 : Int)) then decide (op ≤ (23 : Int)) else false) = false → leO [] [] ∧ (VV.sc (.int .i64 1)).le (.sc (.int .i64 (AK op : Nat))))) := by
    intro hn
    refine ⟨fun h => BJ ?_, fun h => ⟨fun h2 => BJ ?_, fun h2 => BJ ?_⟩⟩
    · unfold AK; rw [if_neg hn, if_pos (by simpa using h)]; rfl
    · unfold AK; rw [if_neg hn, if_neg (by simpa using h), if_pos (by simp at h2; omega)]; rfl
    · unfold AK; rw [if_neg hn, if_neg (by simpa using h), if_neg (by simp at h2; omega)]; rfl
  refine ⟨fun h1 => ⟨fun _ => k0 (p := True) (by simp at h1; omega), fun h => bt h1 h⟩, fun h1 => ⟨fun h2 => ⟨fun _ => k0 (p := True) (by simp at h2; omega), fun h => bt h2 h⟩, fun h2 => ⟨fun h3 => ⟨fun _ => k0 (p := True) (by simp at h3; omega), fun h => bt h3 h⟩, fun h3 => ⟨fun h4 => ⟨fun _ => k0 (p := True) (by simp at h4; omega), fun h => bt h4 h⟩, fun h4 => ⟨fun h5 => ⟨fun _ => k0 (p := True) (by simp at h5; omega), fun h => bt h5 h⟩, fun h5 =>
    ⟨fun h6 => ⟨fun _ => k0 (p := True) (by simp at h6; omega), fun h => bt h6 h⟩, fun h6 => ⟨fun h7 => ⟨fun _ => k0 (p := True) (by simp at h7; omega), fun h => bt h7 h⟩, fun h7 => ⟨fun h8 => k0 (p := True) (by simp at h8; omega), fun h8 => kx (by simp at h1 h2 h3 h4 h5 h6 h7 h8; omega)⟩⟩⟩⟩⟩⟩⟩⟩
theorem Sr {m : D.Model} {a : Int} {v : D.Var} (hv : Gc v) : Ae Tryz.prog 140 [] [.agg (Ac m), Ad a, .agg (A4 v)] [] (Ai (Cr m a v)) := by
  have hl := hv.Dims.1
  refine Ah Am An Tryz.func140 (by kernel_rfl) rfl (Wb _ m a v) ⟨fun h => As ?_, fun h => ⟨inP a v.Who, Iv, BN m v.Type_, Jg _ _, fun hy => As ?_, fun hy => ?_⟩⟩
  · unfold Cr
    symm; rw [Bool.eq_false_iff]; intro hc; simp at h hc; omega
  · unfold Cr
    symm; rw [Bool.eq_false_iff]; intro hc
    simp only [Bool.and_eq_true] at hc
    have hc := hc.1.2
    by_cases h2 : v.Scope = 2
    · rw [decide_eq_true h2, cond_true, Bool.and_eq_true] at hc
      simp [h2, hc.1, hc.2] at hy
    · rw [decide_eq_false h2, cond_false] at hc
      simp [h2] at hy hc
      omega
  · have e : Cr m a v = B3 v.Dims.length fun i => Gs a (v.Dims.getD i default) := by
      unfold Cr
      have e1 : (decide (0 ≤ v.Scope) && decide (v.Scope ≤ 2) && decide (0 ≤ v.Slot) && decide (v.Slot ≤ 128) && decide (v.Dims.length ≤ 4)) = true := by simp at h ⊢; omega
      have e2 : (bif decide (v.Scope = 2) then inP a v.Who && BN m v.Type_ else decide (v.Who = -1) && decide (v.Type_ = -1)) = true := by
        by_cases h2 : v.Scope = 2
        · rw [decide_eq_true h2, cond_true]
          cases h3 : inP a v.Who <;> cases h4 : BN m v.Type_ <;> simp [h2, h3, h4] at hy ⊢
        · rw [decide_eq_false h2, cond_false]
          simp [h2] at hy ⊢
          omega
      rw [e1, e2, Bool.true_and, Bool.true_and]
    rw [e]
    refine AI Am An v.Dims.length (fun k => Ud a v k) (fun k => ∀ i, i < k → Gs a (v.Dims.getD i default) = true) (by kernel_rfl) (by kernel_rfl) (fun i hi => by omega) ?_
    intro k hk hI J next
    refine A9.raw (Ss _ m a v k J) ⟨fun hlt => ?_, fun hge => As ?_⟩
    · have hlt' : k < v.Dims.length := by have := AQ hlt; omega
      have hto : (k : Int).toNat = k := by omega
      rw [hto]
      have hdim : ∀ d : D.Dim, Gs a d = !(bif bif bif bif !(inP a d.I) then true else decide (d.Len < 1) then true else decide (d.Len > 128) then true else decide (d.Stride < 0) then true else decide (d.Stride > 128)) := by
        intro d
        unfold Gs
        cases inP a d.I
        · rfl
        · rw [Bool.eq_iff_iff]; simp <;> omega
      refine ⟨⟨by omega, by omega⟩, inP a (v.Dims.getD k default).I, Iv, fun hy => As ?_, fun hy => next _ hlt' (Bx hI ?_) (Up.of ?_)⟩
      · exact (Bg (f := fun i => Gs a (v.Dims.getD i default)) hlt' (by show Gs a _ = false; rw [hdim, hy]; rfl)).symm
      · rw [hdim, hy]; rfl
      · rw [Ap (by omega)]; rfl
    · have hge' : v.Dims.length ≤ k := by have := AV hge; omega
      exact (AW.2 fun i hi => hI i (by omega)).symm
theorem Ib {m : D.Model} {a : Int} {args mt : List Int} (ha : a ≤ m.Exprs.length) (h1 : args.length ≤ 1048576) (h2 : mt.length ≤ 1048576) :
    Ae Tryz.prog 141 [] [.agg (Ac m), Ad a, Aa true args, Aa true mt] [] (Ai (Bn m a args mt)) := by
  refine Ah Am An Tryz.func141 (by kernel_rfl) rfl (OB _ m a args mt) ⟨BI a args, FA (by omega), fun h => As ?_, fun h => ?_⟩
  · unfold Bn
    symm; rw [Bool.eq_false_iff]; intro hc
    simp at hc h
    obtain ⟨⟨⟨⟨c1, c2⟩, c3⟩, c4⟩, _⟩ := hc
    rw [c4] at h
    simp at h
    omega
  · have hb : BI a args = true := by
      cases hq : BI a args with
      | true => rfl
      | false => rw [hq] at h; simp at h
    have hlen : 1 ≤ args.length ∧ args.length ≤ 8 ∧ mt.length = args.length := by rw [hb] at h; simp at h; omega
    have e : Bn m a args mt = B3 mt.length fun i => Ed m (args.getD i 0) (mt.getD i 0) := by
      unfold Bn
      rw [hb]; simp [hlen]
    rw [e]
    have hin := DF.1 hb
    refine AI Am An mt.length (fun k => LD m args mt k) (fun k => ∀ i, i < k → Ed m (args.getD i 0) (mt.getD i 0) = true) (by kernel_rfl) (by kernel_rfl) (fun i hi => by omega) ?_
    intro k hk hI J next
    refine A9.raw (MF _ m args mt k J) ⟨fun hlt => ?_, fun hge => As ?_⟩
    · have hlt' : k < mt.length := by have := AQ hlt; omega
      have hto : (k : Int).toNat = k := by omega
      rw [hto]
      have hx := hin _ (AF (d := (0 : Int)) (show k < args.length by omega))
      have hm : Ed m (args.getD k 0) (mt.getD k 0) = !(bif bif decide (mt.getD k 0 < -1) then true else decide (mt.getD k 0 > 1) then true else bif mt.getD k 0 == 0 then (m.Exprs.getD (args.getD k 0).toNat default).Op != 2 else false) := by
        unfold Ed AD
        rw [Bool.eq_iff_iff]; simp <;> omega
      refine ⟨⟨by omega, by omega⟩, fun _ => ⟨by omega, by omega⟩, fun _ => ⟨by omega, by omega⟩, fun _ => ⟨by omega, by omega⟩, fun _ => ⟨by omega, by omega⟩, fun hy => As ?_, fun hy => next _ hlt' (Bx hI ?_) (Up.of ?_)⟩
      · exact (Bg (f := fun i => Ed m (args.getD i 0) (mt.getD i 0)) hlt' (by show Ed m _ _ = false; rw [hm, hy]; rfl)).symm
      · rw [hm, hy]; rfl
      · rw [Ap (by omega)]; rfl
    · have hge' : mt.length ≤ k := by have := AV hge; omega
      exact (AW.2 fun i hi => hI i (by omega)).symm
end Go.Proofs.YtiaebjpcgjkhoaaGreatDoor
namespace Go.Proofs.YtiaebjpcgjkhoaaGreatDoor
open Go.RowKit
theorem LQ {x : D.Expr} (h1 : x.Args.length ≤ 1048576) (h2 : x.V.Dims.length ≤ 1048576) : Ae Tryz.prog 111 [] [.agg (Au x)] [] (Aa true (Bb x)) := by
  have hp3 := LX x.Op
  have loop : ∀ (L : List Int), L.length ≤ 2097152 → L ++ x.V.Dims.map D.Dim.I = Bb x → AH (Ag Tryz.prog tb AT A3 true Tryz.f111 [] (Aa true (Bb x))) [1, 1, 1, 1, 1, 1, 1, 0, 1, 0, 1, 1, 0] (Oj x L 0) := by
    intro L hL hR
    generalize Bb x = R at hR ⊢
    refine AI Am An x.V.Dims.length (fun k => Oj x (L ++ (x.V.Dims.take k).map D.Dim.I) k) (fun _ => True) (by kernel_rfl) (by kernel_rfl) trivial ?_ |> fun h => by simpa using h
    intro k hk _ J next
    have hlen : (L ++ (x.V.Dims.take k).map D.Dim.I).length = L.length + k := by simp; omega
    refine A9.raw (SJ _ x _ k J) ⟨fun hlt => ?_, fun hge => ⟨trivial, ?_⟩⟩
    · have hlt' : k < x.V.Dims.length := by have := AQ hlt; omega
      have hto : (k : Int).toNat = k := by omega
      rw [hto]
      refine ⟨⟨by omega, by omega⟩, by rw [hlen]; omega, next _ hlt' trivial ?_⟩
      have hpush : (x.V.Dims.take (k + 1)).map D.Dim.I = (x.V.Dims.take k).map D.Dim.I ++ [(x.V.Dims.getD k default).I] := by rw [DH (d := default) hlt']; simp
      have e : L ++ (x.V.Dims.take (k + 1)).map D.Dim.I = (L ++ (x.V.Dims.take k).map D.Dim.I) ++ [(x.V.Dims.getD k default).I] := by rw [hpush, List.append_assoc]
      rw [e, Ap (by omega)]
      generalize L ++ (x.V.Dims.take k).map D.Dim.I = M
      generalize (x.V.Dims.getD k default).I = z
      refine Up.mk (l' := [(1, .bp 0 0), (3, .ow 1 0 (M ++ [z]).length), (5, Ad ((k + 1 : Nat) : Int))]) (hs' := [.box (Au x), .arr true 0 (M ++ [z]).length 1 (A7 (M ++ [z]))]) ?_ ?_ rfl
      · rw [show M.length + 1 = (M ++ [z]).length by simp]; exact AZ _
      · rw [show M.length + 1 = (M ++ [z]).length by simp]
        exact ⟨Ob.le_refl _, Ob.le_arr fun i hi => A8 (B8 (f := fun n => [Ad n]) (d := 0) (l := M) (r := [z]) (F := fun i => [.sc (.int .i64 (M.getD i 0))]) (fun i hi => rfl) DW hi), trivial⟩
    · have hge' : x.V.Dims.length ≤ k := by have := AV hge; omega
      rw [List.take_of_length_le hge', hR]
      exact VV.le_refl _
  have dD : ∀ st, AH ((Ag Tryz.prog tb AT A3 true Tryz.f111 [] (Aa true (Bb x))).cut [1, 1, 1, 1, 1, 1, 1]) [0, 1, 0, 1, 1, 0] st = AH (Ag Tryz.prog tb AT A3 true Tryz.f111 [] (Aa true (Bb x))) [1, 1, 1, 1, 1, 1, 1, 0, 1, 0, 1, 1, 0] st := fun st => by kernel_rfl
  have dC : ∀ st, AH ((Ag Tryz.prog tb AT A3 true Tryz.f111 [] (Aa true (Bb x))).cut [1, 1, 1, 1, 1, 1]) [1] st = AH (Ag Tryz.prog tb AT A3 true Tryz.f111 [] (Aa true (Bb x))) [1, 1, 1, 1, 1, 1, 1] st := fun st => by kernel_rfl
  have dB : ∀ st, AH ((Ag Tryz.prog tb AT A3 true Tryz.f111 [] (Aa true (Bb x))).cut [1, 1, 1, 1, 1]) [1] st = AH (Ag Tryz.prog tb AT A3 true Tryz.f111 [] (Aa true (Bb x))) [1, 1, 1, 1, 1, 1] st := fun st => by kernel_rfl
  have dA : ∀ st, AH ((Ag Tryz.prog tb AT A3 true Tryz.f111 [] (Aa true (Bb x))).cut [1, 1, 1, 1]) [1] st = AH (Ag Tryz.prog tb AT A3 true Tryz.f111 [] (Aa true (Bb x))) [1, 1, 1, 1, 1] st := fun st => by kernel_rfl
  have hheld : Bb x = [x.A, x.B, x.C].take (AK x.Op) ++ ((if x.Op = 30 ∨ x.Op = 39 then x.Args else []) ++ (if x.Op = 2 then (if x.V.Scope = 2 then [x.V.Who] else []) ++ x.V.Dims.map D.Dim.I else [])) := rfl
  generalize Bb x = R at hheld loop dA dB dC dD ⊢
  have push : ∀ {c : Ctx} {rel : List Nat} (l : List (Nat × VV)) (M : List Int) (z : Int) (F : Nat → List VV), (∀ i, F i = [VV.sc (.int .i64 (M.getD i 0))]) → AH c rel (Ao ((1, .bp 0 0) :: (3, .ow 1 0 (M ++ [z]).length) :: l) [.box (Au x), .arr true 0 (M ++ [z]).length 1 (A7 (M ++ [z]))]) →
      AH c rel (Ao ((1, .bp 0 0) :: (3, .ow 1 0 (M.length + 1)) :: l) [.box (Au x), .arr true 0 (M.length + 1) 1 (fun i => bif i.blt M.length then F i else (fun i => List.take 1 (List.drop (i * 1) [.sc (.int .i64 z)])) (i - M.length))]) := by
    intro c rel l M z F hF h
    rw [show M.length + 1 = (M ++ [z]).length by simp]
    exact AH.le (hs' := [.box (Au x), .arr true 0 (M ++ [z]).length 1 (A7 (M ++ [z]))]) (AZ _) ⟨Ob.le_refl _, Ob.le_arr fun i hi => A8 (B8 (f := fun n => [Ad n]) (d := 0) (l := M) (r := [z]) (F := F) (fun i _ => hF i) DW hi), trivial⟩ h
  have hD : ∀ (L : List Int), L.length ≤ 2097151 → L ++ (if x.Op = 2 then (if x.V.Scope = 2 then [x.V.Who] else []) ++ x.V.Dims.map D.Dim.I else []) = R → AH (Ag Tryz.prog tb AT A3 true Tryz.f111 [] (Aa true R)) [1, 1, 1, 1, 1, 1, 1] (Jd x L) := by
    intro L hL hR
    refine D0 Am An (by kernel_rfl) (SH _ x L) ⟨fun k => ⟨fun q => ⟨by omega, ?_⟩, fun q => ?_⟩, fun k => ⟨trivial, ?_⟩⟩
    · refine push _ L _ _ (fun _ => rfl) (Eq.mpr (dD _) (loop _ (by simp; omega) ?_))
      rw [if_pos (by simpa using k), if_pos (by simpa using q)] at hR
      rw [← hR, List.append_assoc]
    · refine Eq.mpr (dD _) (loop _ (by omega) ?_)
      rw [if_pos (by simpa using k), if_neg (by simpa using q)] at hR
      exact hR
    · rw [if_neg (by simpa using k), List.append_nil] at hR
      rw [hR]; exact VV.le_refl _
  have hC : ∀ (L : List Int), L.length ≤ 3 → L ++ ((if x.Op = 30 ∨ x.Op = 39 then x.Args else []) ++ (if x.Op = 2 then (if x.V.Scope = 2 then [x.V.Who] else []) ++ x.V.Dims.map D.Dim.I else [])) = R → AH (Ag Tryz.prog tb AT A3 true Tryz.f111 [] (Aa true R)) [1, 1, 1, 1, 1, 1] (Jd x L) := by
    intro L hL hR
    refine D0 Am An (by kernel_rfl) (SI _ x L) ⟨fun k => ⟨by omega, fun _ _ => rfl, ?_⟩, fun k => Eq.mpr (dC _) (hD L (by omega) ?_)⟩
    · have e : L.length + x.Args.length = (L ++ x.Args).length := by simp
      rw [e]
      refine AH.le (hs' := [.box (Au x), .arr true 0 (L ++ x.Args).length 1 (A7 (L ++ x.Args))]) (AZ _) ⟨Ob.le_refl _, Ob.le_arr fun i hi => A8 (O9 (fun i _ => rfl) hi), trivial⟩ (Eq.mpr (dC _) (hD (L ++ x.Args) (by simp; omega) ?_))
      rw [if_pos (by simpa using k)] at hR
      rw [← hR, List.append_assoc]
    · rw [if_neg (by simpa using k), List.nil_append] at hR
      exact hR
  refine Ah Am An Tryz.func111 (by kernel_rfl) rfl (Wo _ x) ⟨(AK x.Op : Nat), Ku _, fun g1 => ⟨by omega, ?_⟩, fun g1 => ?_⟩
  · have c1 : 1 ≤ AK x.Op := by simp at g1; omega
    refine AH.le (l' := [(1, .bp 0 0), (3, .ow 1 0 [x.A].length), (4, Ad (AK x.Op : Nat))]) (hs' := [.box (Au x), .arr true 0 [x.A].length 1 (A7 [x.A])]) (AZ _) ⟨Ob.le_refl _, Ob.le_arr fun i hi => A8 (DW i hi), trivial⟩ ?_
    change AH _ _ (EZ x [x.A] (AK x.Op : Nat))
    refine D0 Am An (by kernel_rfl) (LR _ x [x.A] _) ⟨fun g2 => ⟨by simp, push _ [x.A] _ _ (fun _ => rfl) (Eq.mpr (dA _) ?_)⟩, fun g2 => Eq.mpr (dA _) ?_⟩
    · have c2 : 2 ≤ AK x.Op := by simp at g2; omega
      change AH _ _ (EZ x [x.A, x.B] (AK x.Op : Nat))
      refine D0 Am An (by kernel_rfl) (It _ x [x.A, x.B] _) ⟨fun g3 => ⟨by simp, push _ [x.A, x.B] _ _ (fun _ => rfl) (Eq.mpr (dB _) (hC [x.A, x.B, x.C] (by simp) ?_))⟩, fun g3 => Eq.mpr (dB _) (hC [x.A, x.B] (by simp) ?_)⟩
      · have c3 : AK x.Op = 3 := by simp at g3; omega
        rw [hheld, c3]; rfl
      · have c3 : AK x.Op = 2 := by simp at g3; omega
        rw [hheld, c3]; rfl
    · have c2 : AK x.Op = 1 := by simp at g2; omega
      change AH _ _ (EZ x [x.A] (AK x.Op : Nat))
      refine D0 Am An (by kernel_rfl) (It _ x [x.A] _) ⟨fun g3 => absurd g3 (by rw [c2]; decide), fun g3 => Eq.mpr (dB _) (hC [x.A] (by simp) ?_)⟩
      rw [hheld, c2]; rfl
  · have c1 : AK x.Op = 0 := by simp at g1; omega
    refine AH.own 1 3 1 (A7 []) rfl ?_
    change AH _ _ (EZ x [] (AK x.Op : Nat))
    refine D0 Am An (by kernel_rfl) (LR _ x [] _) ⟨fun g2 => absurd g2 (by rw [c1]; decide), fun g2 => Eq.mpr (dA _) ?_⟩
    change AH _ _ (EZ x [] (AK x.Op : Nat))
    refine D0 Am An (by kernel_rfl) (It _ x [] _) ⟨fun g3 => absurd g3 (by rw [c1]; decide), fun g3 => Eq.mpr (dB _) (hC [] (by simp) ?_)⟩
    rw [hheld, c1]; rfl
theorem LN {l : D.Loc} (h1 : l.Esc.length ≤ 1048576) : Ae Tryz.prog 112 [] [.agg (AY l)] [] (AE true (Bt l)) := by
  refine Ah Am An Tryz.func112 (by kernel_rfl) rfl (V8 _ l) ⟨by omega, by omega, fun i hi => rfl, trivial, ?_⟩
  have e : 1 + l.Esc.length = (Bt l).length := by simp [Bt]; omega
  rw [e]
  refine VV.le_sl (.inl rfl) fun i hi => A8 ?_
  refine B8 (l := [l.Out]) (r := l.Esc) (f := fun w => [Aq true w]) (d := []) (F := fun i => List.take 1 (List.drop (i * 1) [Aq true l.Out])) (G := fun i => [Aq true (l.Esc.getD i [])]) (fun i hi => ?_) (fun i hi => rfl) hi
  obtain rfl : i = 0 := by simpa using hi
  rfl
theorem SL {m : D.Model} {a : Int} (h0 : 0 ≤ a) (ha : a < m.Exprs.length) (hw : Hs (AD m a)) (hP : m.Procs.length ≤ 1048576) : Ae Tryz.prog 110 [] [.agg (Ac m), Ad a] [] (Ai (CT m a)) := by
  refine Ah Am An Tryz.func110 (by kernel_rfl) rfl (Wq _ m a) ⟨⟨h0, ha⟩, fun h => As ?_, fun h => ?_⟩
  · symm; rw [Bool.eq_false_iff]; intro hc
    unfold CT at hc
    simp only [Bool.and_eq_true, decide_eq_true_eq] at hc
    have h' : (bif decide ((AD m a).Op < 1) then true else decide ((AD m a).Op > 39)) = true := h
    simp at h'
    omega
  · have hop : 1 ≤ (AD m a).Op ∧ (AD m a).Op ≤ 39 := by
      have h' : (bif decide ((AD m a).Op < 1) then true else decide ((AD m a).Op > 39)) = false := h
      simp at h'; omega
    have hargs := hw.Args.1
    have hmt := hw.Match.1
    have hwv := hw.V
    have hwn := hw.N
    generalize hb : CT m a = b
    unfold CT at hb
    simp only at hb
    refine ⟨(AK (AD m a).Op : Nat), Ku _, ?_⟩
    show AH _ _ (Ao [(1, Ad a), (2, .bp 0 0), (5, .bp 1 0), (6, Ad (AK (AD m a).Op : Nat)), (7, .ow 2 0 3), (8, Ad 0)] [.box (Ac m), .box (Au (AD m a)), .arr true 0 3 1 (fun i => List.take 1 (List.drop (i * 1) [VV.sc (.int .i64 (AD m a).A), .sc (.int .i64 (AD m a).B), .sc (.int .i64 (AD m a).C)]))])
    generalize AD m a = x at hop hargs hmt hwv hwn hb ⊢
    have e : (decide (1 ≤ x.Op) && decide (x.Op ≤ 39)) = true := by simp; omega
    rw [e, Bool.true_and] at hb
    have st0 : AH (Ag Tryz.prog tb AT H5 true Tryz.f110 [] (Ai b)) [1, 1, 1, 1, 1, 0, 1, 0] (Om m a x (AK x.Op : Nat) 0) := by
      refine AI Am An 3 (fun k => Om m a x (AK x.Op : Nat) k) (fun k => ∀ i, i < k → C8 a x.Op i ([x.A, x.B, x.C].getD i 0) = true) (by kernel_rfl) (by kernel_rfl) (fun i hi => by omega) ?_
      intro k hk hI J next
      refine A9.raw (SM _ m a x _ k J) ⟨fun hlt => ?_, fun hge => ?_⟩
      · have hlt' : k < 3 := by have := AQ (b := 3) hlt; omega
        have hto : (k : Int).toNat = k := by omega
        rw [hto]
        refine ⟨⟨by omega, by omega⟩, inP a ([x.A, x.B, x.C].getD k 0), Iv, fun _ => ⟨by omega, by omega⟩, fun hy => As ?_, fun hy => next _ hlt' (Bx hI ?_) (Up.of ?_)⟩
        · have hp : C8 a x.Op k ([x.A, x.B, x.C].getD k 0) = false := by rw [Ep]; exact congrArg (!·) hy
          rw [← hb]
          rcases (show k = 0 ∨ k = 1 ∨ k = 2 by omega) with rfl | rfl | rfl
          · have hp' : C8 a x.Op 0 x.A = false := hp
            rw [hp']; rfl
          · have hp' : C8 a x.Op 1 x.B = false := hp
            rw [hp']; simp
          · have hp' : C8 a x.Op 2 x.C = false := hp
            rw [hp']; simp
        · rw [Ep]; exact congrArg (!·) hy
        · rw [Ap (by omega)]; rfl
      · have hge' : 3 ≤ k := by simp at hge; omega
        have p0 : C8 a x.Op 0 x.A = true := hI 0 (by omega)
        have p1 : C8 a x.Op 1 x.B = true := hI 1 (by omega)
        have p2 : C8 a x.Op 2 x.C = true := hI 2 (by omega)
        rw [p0, p1, p2] at hb
        simp only [Bool.and_self, Bool.true_and] at hb
        subst hb
        refine ⟨BN m x.N, Jg _ _, BI a x.Args, FA (by omega), fun h1 => As ?_, fun h1 => ⟨fun h2 => ⟨_, Sr hwv, As ?_⟩, fun h2 => ⟨fun h3 => ⟨_, Ib (by omega) hargs hmt, As ?_⟩, fun h3 => ⟨fun h4 => ⟨fun h5 => As ?_, fun h5 => ⟨?_, BI (G3 m x.N).length x.Args, FA (by omega), As ?_⟩⟩, fun h4 =>
          ⟨fun h5 => ⟨fun hy => ?_, As ?_⟩, fun h5 => As ?_⟩⟩⟩⟩⟩
        · rw [if_pos (by simpa using h1)]
          rw [Bool.eq_iff_iff]; simp [Cz, EV]; omega
        · rw [if_neg (by simpa using h1), if_pos (by simpa using h2)]
        · rw [if_neg (by simpa using h1), if_neg (by simpa using h2), if_pos (by simpa using h3)]
          cases Bn m a x.Args x.Match
          · rfl
          · rw [Bool.eq_iff_iff]; simp
        · rw [if_neg (by simpa using h1), if_neg (by simpa using h2), if_neg (by simpa using h3), if_pos (by simpa using h4)]
          symm; rw [Bool.eq_false_iff]; intro hc
          simp [HA] at hc h5; simp [hc] at h5; omega
        · have : BN m x.N = true := by
            cases hq : BN m x.N with
            | true => rfl
            | false => rw [hq] at h5; simp at h5
          simp [BN] at this; omega
        · have hq : BN m x.N = true := by
            cases hq : BN m x.N with
            | true => rfl
            | false => rw [hq] at h5; simp at h5
          rw [if_neg (by simpa using h1), if_neg (by simpa using h2), if_neg (by simpa using h3), if_pos (by simpa using h4)]
          have hn : 0 ≤ x.N ∧ x.N < 1073741824 := by simp [BN] at hq; omega
          have hl : 1 ≤ x.Args.length := by rw [hq] at h5; simp at h5; omega
          unfold HA
          rw [hq]; simp [hn, hl]
        · have : BN m x.N = true := by
            cases hq : BN m x.N with
            | true => rfl
            | false => rw [hq] at hy; simp at hy
          simp [BN] at this; omega
        · rw [if_neg (by simpa using h1), if_neg (by simpa using h2), if_neg (by simpa using h3), if_neg (by simpa using h4), if_pos (by simpa using h5)]
          cases hq : BN m x.N
          · rw [Bool.eq_iff_iff]; simp
          · have hn : 0 ≤ x.N ∧ x.N < 1073741824 := by simp [BN] at hq; omega
            cases BI a x.Args <;> rw [Bool.eq_iff_iff] <;> simp [hn]
        · rw [if_neg (by simpa using h1), if_neg (by simpa using h2), if_neg (by simpa using h3), if_neg (by simpa using h4), if_neg (by simpa using h5)]
    exact AH.le (hs' := [.box (Ac m), .box (Au x), .arr true 0 3 1 (A7 [x.A, x.B, x.C])]) (AZ _) ⟨Ob.le_refl _, Ob.le_refl _, Ob.le_arr fun i hi => A8 (by rcases (show i = 0 ∨ i = 1 ∨ i = 2 by omega) with rfl | rfl | rfl <;> rfl), trivial⟩ st0
end Go.Proofs.YtiaebjpcgjkhoaaGreatDoor
namespace Go.Proofs.YtiaebjpcgjkhoaaGreatDoor
open Go.RowKit
theorem Jf (m : D.Model) (a : Int) : Ae Tryz.prog 164 [] [.agg (Ac m), Ad a] [] (Ai (Bp m a)) := by
  have hin : (bif decide (a ≥ 0) then decide (a < (m.Exprs.length : Int)) else false) = true → 0 ≤ a ∧ a < m.Exprs.length := fun h => by simpa using h
  refine Ah Am An Tryz.func164 (by kernel_rfl) rfl (Qe _ m a) ⟨fun h => hin (by simpa using h), fun h => hin ?_, As ?_⟩
  · simp only [AS, Bool.true_and, beq_true, Bool.and_eq_true] at h ⊢
    exact h.1
  · show _ = Bp m a
    unfold Bp AD Cl inP
    simp only [AS, ieq, ge_iff_le, bne, decide_not, Bool.and_assoc]
theorem Sy {m : D.Model} {s : D.Stmt} (hs : Kj s) : Ae Tryz.prog 142 [] [.agg (Ac m), .agg (Av s)] [] (Ai (Az m s)) := by
  have ha := hs.a
  have hb := hs.m
  have hkn : ∀ {k : Int}, (s.Kind == k) = true → s.Kind = k := fun h => by simpa using h
  have hkf : ∀ {k : Int}, (s.Kind == k) = false → s.Kind ≠ k := fun h => by simpa using h
  have len0 : ((bif (s.Args.length : Int) == 0 then (s.Match.length : Int) == 0 else false)) = decide (s.Args.length + s.Match.length = 0) := by
    simp only [ieq, AS]
    rw [Bool.eq_iff_iff]; simp only [Bool.and_eq_true, decide_eq_true_eq]; omega
  have pl : (bif decide (s.A ≥ 0) then decide (s.A < (m.Exprs.length : Int)) else false) = Cl m s.A := by rw [AS]; rfl
  have plB : (bif decide (s.B ≥ 0) then decide (s.B < (m.Exprs.length : Int)) else false) = Cl m s.B := by rw [AS]; rfl
  have em : CO s true true true = (decide (s.Args.length + s.Match.length = 0) && decide (s.N = 0) && decide (s.Text.size = 0)) := by simp only [CO, Bool.not_true, Bool.false_or]
  have emn : CO s true false true = (decide (s.Args.length + s.Match.length = 0) && decide (s.Text.size = 0)) := by simp only [CO, Bool.not_true, Bool.not_false, Bool.true_or, Bool.and_true, Bool.false_or]
  refine Ah Am An Tryz.func142 (by kernel_rfl) rfl (Wh _ m s) ⟨Bp m s.A, Jf m s.A, BI m.Exprs.length s.Args, FA (by omega), ?_⟩
  have t13 : s.Kind = 1 ∨ s.Kind = 3 → Az m s = (Cl m s.A && decide (s.B = -1) && CO s true true true) := fun h => by unfold Az; rw [if_pos h]
  have t2 : s.Kind = 2 → Az m s = (Bp m s.A && Cl m s.B && CO s true true true) := fun h => by unfold Az; rw [if_neg (by omega), if_pos h]
  have t4 : s.Kind = 4 → Az m s = (decide (s.A = -1) && decide (s.B = -1) && BI m.Exprs.length s.Args && decide (s.Match.length = 0) && decide (s.Text.size ≤ 256) && decide (s.N = 0)) := fun h => by unfold Az; rw [if_neg (by omega), if_neg (by omega), if_pos h]
  have t5 : s.Kind = 5 → Az m s = (Cl m s.A && decide (s.B = -1) && decide (1 ≤ s.Args.length) && decide (s.Args.length ≤ 8) && BI m.Exprs.length s.Args && decide (s.Match.length = 0) && (decide (s.N = 0) || decide (s.N = 1)) && decide (s.Text.size = 0)) := fun h => by unfold Az; rw [if_neg (by omega), if_neg (by omega), if_neg (by omega), if_pos h]
  have t6 : s.Kind = 6 → Az m s = (Cl m s.A && decide (s.B = -1) && EX m s && decide (0 ≤ s.N) && decide (s.N ≤ 3) && decide (s.Text.size = 0)) := fun h => by unfold Az; rw [if_neg (by omega), if_neg (by omega), if_neg (by omega), if_neg (by omega), if_pos h]
  have t7 : s.Kind = 7 ∨ s.Kind = 8 → Az m s = (decide (s.A = -1) && decide (s.B = -1) && CO s true true true) := fun h => by unfold Az; rw [if_neg (by omega), if_neg (by omega), if_neg (by omega), if_neg (by omega), if_neg (by omega), if_pos h]
  have t9 : s.Kind = 9 → Az m s = (Bp m s.A && decide (s.B = -1) && decide (0 ≤ s.N) && decide (s.N < m.Shapes.length) && CO s true false true) := fun h => by unfold Az; rw [if_neg (by omega), if_neg (by omega), if_neg (by omega), if_neg (by omega), if_neg (by omega), if_neg (by omega), if_pos h]
  have tx : ¬(s.Kind = 1 ∨ s.Kind = 3) → s.Kind ≠ 2 → s.Kind ≠ 4 → s.Kind ≠ 5 → s.Kind ≠ 6 → ¬(s.Kind = 7 ∨ s.Kind = 8) → s.Kind ≠ 9 → Az m s = false := fun h1 h2 h3 h4 h5 h6 h7 => by unfold Az; rw [if_neg h1, if_neg h2, if_neg h3, if_neg h4, if_neg h5, if_neg h6, if_neg h7]
  generalize Az m s = b at t13 t2 t4 t5 t6 t7 t9 tx ⊢
  rw [len0, pl, plB, I8]
  rw [em] at t13 t2 t7
  rw [emn] at t9
  generalize decide (s.Args.length + s.Match.length = 0) = eLen at t13 t2 t7 t9 ⊢
  generalize decide (s.Text.size = 0) = eText at t13 t2 t5 t6 t7 t9 ⊢
  refine ⟨fun h1 => ⟨fun _ => As ?_, fun h => bt h1 h⟩, fun h1 => ⟨fun h3 => As ?_, fun h3 => ⟨fun h2 => As ?_, fun h2 => ⟨fun h4 => As ?_, fun h4 => ⟨fun h5 => As ?_, fun h5 => ⟨fun h6 => ⟨Bn m m.Exprs.length s.Args s.Match, Ib (Int.le_refl _) ha hb, fun hy => As ?_, fun hy => ?_⟩, fun h6 => ⟨fun h7 => ⟨fun _ => As ?_, fun h => bt h7 h⟩, fun h7 => ⟨fun h8 => As ?_, fun h8 => ⟨fun h9 => As ?_, fun h9 => As ?_⟩⟩⟩⟩⟩⟩⟩⟩⟩
  · rw [t13 (.inl (hkn h1))]; simp only [ieq, AS, Bool.and_assoc]
  · rw [t13 (.inr (hkn h3))]; simp only [ieq, AS, Bool.and_assoc]
  · rw [t2 (hkn h2)]; simp only [ieq, AS, Bool.and_assoc]
  · rw [t4 (hkn h4)]; simp only [ieq, AS, Bool.and_assoc, Aau, Aa6]
    rw [Bool.and_comm (decide (s.Text.size ≤ 256))]
  · rw [t5 (hkn h5)]; simp only [ieq, AS, Bc, Aau, le8, ge1]
    cases Cl m s.A <;> cases BI (m.Exprs.length : Int) s.Args <;> rw [Bool.eq_iff_iff] <;> simp [-List.length_eq_zero_iff, and_assoc, and_left_comm, and_comm]
  · rw [t6 (hkn h6)]
    symm; rw [Bool.eq_false_iff]; intro hc
    simp only [EX, Bool.and_eq_true, decide_eq_true_eq] at hc
    obtain ⟨⟨⟨⟨⟨c1, c2⟩, ⟨c3, _⟩⟩, c4⟩, c5⟩, c6⟩ := hc
    rw [c1, c3, c6] at hy
    simp at hy; omega
  · have hall : Cl m s.A = true ∧ s.B = -1 ∧ Bn m m.Exprs.length s.Args s.Match = true ∧ 0 ≤ s.N ∧ s.N ≤ 3 ∧ eText = true := by
      generalize Cl m s.A = q1 at hy ⊢
      generalize Bn m m.Exprs.length s.Args s.Match = q2 at hy ⊢
      cases q1 <;> cases q2 <;> cases eText <;> simp at hy ⊢
      omega
    obtain ⟨c1, c2, c3, c4, c5, c6⟩ := hall
    have hlen : s.Match.length = s.Args.length := by
      unfold Bn at c3
      simp only [Bool.and_eq_true, decide_eq_true_eq] at c3
      exact c3.1.1.2
    have e : b = B3 s.Match.length fun i => !decide (s.Match.getD i 0 = 0) || Bp m (s.Args.getD i 0) := by
      rw [t6 (hkn h6), c1, c6]
      unfold EX
      rw [c3]; simp [c2, c4, c5]
    rw [e]
    refine AI Am An s.Args.length (fun k => Uj m s k) (fun k => ∀ i, i < k → (!decide (s.Match.getD i 0 = 0) || Bp m (s.Args.getD i 0)) = true) (by kernel_rfl) (by kernel_rfl) (fun i hi => by omega) ?_
    intro k hk hI J next
    refine A9.raw (Sz _ m s k J) ⟨fun hlt => ?_, fun hge => As ?_⟩
    · have hlt' : k < s.Args.length := by have := AQ hlt; omega
      have hto : (k : Int).toNat = k := by omega
      rw [hto]
      have hm : (!decide (s.Match.getD k 0 = 0) || Bp m (s.Args.getD k 0)) = !(bif s.Match.getD k 0 == 0 then !(Bp m (s.Args.getD k 0)) else false) := by
        generalize s.Match.getD k 0 = z
        cases Bp m (s.Args.getD k 0)
        · rw [Bool.eq_iff_iff]; simp
        · simp
      refine ⟨⟨by omega, by omega⟩, Bp m (s.Args.getD k 0), Jf _ _, ⟨by omega, by omega⟩, fun hy => As ?_, fun hy => next _ hlt' (fun i hi => ?_) (Up.of ?_)⟩
      · exact (Bg (n := s.Match.length) (k := k) (f := fun i => !decide (s.Match.getD i 0 = 0) || Bp m (s.Args.getD i 0)) (by omega) (by show (!decide (s.Match.getD k 0 = 0) || Bp m (s.Args.getD k 0)) = false; rw [hm, hy]; rfl)).symm
      · rcases Nat.lt_succ_iff_lt_or_eq.1 hi with h | rfl
        · exact hI i h
        · rw [hm, hy]; rfl
      · rw [Ap (by omega)]; rfl
    · have hge' : s.Args.length ≤ k := by have := AV hge; omega
      exact (AW.2 fun i hi => hI i (by omega)).symm
  · rw [t7 (.inl (hkn h7))]; simp only [ieq, AS, Bool.and_assoc]
  · rw [t7 (.inr (hkn h8))]; simp only [ieq, AS, Bool.and_assoc]
  · rw [t9 (hkn h9)]; simp only [ieq, AS, Bool.and_assoc, ge_iff_le]
    cases Bp m s.A <;> cases eLen <;> cases eText <;> simp
  · exact (tx (fun h => h.elim (hkf h1) (hkf h3)) (hkf h2) (hkf h4) (hkf h5) (hkf h6) (fun h => h.elim (hkf h7) (hkf h8)) (hkf h9)).symm
theorem SB {m : D.Model} {i : Int} {v : D.Var} (h1 : v.Scope = 1 → 0 ≤ i ∧ i < m.Procs.length) (h2 : v.Scope ≠ 0 → v.Scope ≠ 1 → 0 ≤ v.Type_ ∧ v.Type_ < m.Procs.length) : Ae Tryz.prog 144 [] [.agg (Ac m), Ad i, .agg (A4 v)] [] (Ad (DT m i v)) := by
  refine Ah Am An Tryz.func144 (by kernel_rfl) rfl (Wi _ m i v) ⟨fun h => BJ ?_, fun h => ⟨fun k => ⟨h1 (by simpa using k), BJ ?_⟩, fun k => ⟨h2 (by simpa using h) (by simpa using k), BJ ?_⟩⟩⟩
  · unfold DT; rw [if_pos (by simpa using h)]
  · unfold DT; rw [if_neg (by simpa using h), if_pos (by simpa using k)]
  · unfold DT; rw [if_neg (by simpa using h), if_neg (by simpa using k)]
def N6 (m : D.Model) (a k : Int) (run : Bool) : Bool :=
  bif bif (AD m k).Op == 39 then !run else false then true else bif a == m.Claim then bif bif (AD m k).Op == 31 then true else (AD m k).Op == 39 then true else bif (AD m k).Op == 2 then (AD m k).V.Scope == 1 else false else false
def I7 (m : D.Model) (a : Int) : Nat → Int → Bool → Bool
  | 0, _, _ => true
  | g + 1, k, run => !N6 m a k run && (!(bif (AD m k).Op == 2 then decide (CE (AD m k).V > DT m a (AD m k).V) else false) &&
      B3 (Bb (AD m k)).length fun i => I7 m a g ((Bb (AD m k)).getD i 0) false)
def En (m : D.Model) (a k : Int) (run : Bool) : Bool := I7 m a (k.toNat + 1) k run
theorem Nk {m : D.Model} (hr : D8 m) {a : Int} (ha0 : 0 ≤ a) (ha : a < m.Procs.length) : ∀ (g : Nat) (k : Int) (run : Bool), 0 ≤ k → k < m.Exprs.length → k.toNat < g → Ae Tryz.prog 114 [] [.agg (Ac m), Ad a, Ad k, Ai run] [] (Ai (I7 m a g k run))
  | 0, _, _, _, _, h => absurd h (Nat.not_lt_zero _)
  | g + 1, k, run, h0, hk, hg => by
    have ih := Nk hr ha0 ha g
    have hx := hr.at h0 hk
    have hsm := hr.small _ (Jx h0 hk)
    have hwv := (hr.wf.Exprs.2 _ (Jx h0 hk)).V
    have hslots := hr.slots h0 hk
    have hheld := KY hx
    have hhl := Jv hsm.1 hsm.2
    refine Ah Am An Tryz.func114 (by kernel_rfl) rfl (Wc _ m a k run) ⟨⟨h0, hk⟩, ?_⟩
    show ((N6 m a k run) = true → _) ∧ ((N6 m a k run) = false → _)
    change (_ → _) ∧ (_ → ∃ y, (_ → Ae _ _ _ [.agg (A4 (AD m k).V)] _ _) ∧ ∃ y_1, (_ → Ae _ _ _ [_, _, .agg (A4 (AD m k).V)] _ _) ∧ _)
    refine ⟨fun h => As ?_, fun h => ⟨CE (AD m k).V, fun _ => Qn hwv, DT m a (AD m k).V, fun h2 => SB (fun _ => ⟨ha0, ha⟩) (hslots (by simpa [AD] using h2)), fun h2 => As ?_, fun h2 => ⟨Bb (AD m k), LQ hsm.1 hsm.2, ?_⟩⟩⟩
    · unfold I7; rw [h]; rfl
    · unfold I7
      have h2' : (bif (AD m k).Op == 2 then decide (CE (AD m k).V > DT m a (AD m k).V) else false) = true := h2
      rw [h2', h]; rfl
    · have h2' : (bif (AD m k).Op == 2 then decide (CE (AD m k).V > DT m a (AD m k).V) else false) = false := h2
      unfold I7
      rw [h2', h]
      simp only [Bool.not_false, Bool.true_and]
      generalize Bb (AD m k) = l at hheld hhl
      refine AI Am An l.length (fun j => Ue m a l j) (fun j => ∀ i, i < j → I7 m a g (l.getD i 0) false = true) (by kernel_rfl) (by kernel_rfl) (fun i hi => by omega) ?_
      intro j hj hI J next
      refine A9.raw (Su _ m a l j J) ⟨fun hlt => ?_, fun hge => As ?_⟩
      · have hlt' : j < l.length := by have := AQ hlt; omega
        have hto : (j : Int).toNat = j := by omega
        rw [hto]
        have hin := hheld _ (AF (d := (0 : Int)) hlt')
        refine ⟨⟨by omega, by omega⟩, I7 m a g (l.getD j 0) false, ih _ _ (by omega) (by omega) (by omega), fun hy => As ?_, fun hy => next _ hlt' (Bx hI (by simpa using hy)) (Up.of ?_)⟩
        · exact (Bg (f := fun i => I7 m a g (l.getD i 0) false) hlt' (by simpa using hy)).symm
        · rw [Ap (by omega)]; rfl
      · have hge' : l.length ≤ j := by have := AV hge; omega
        exact (AW.2 fun i hi => hI i (by omega)).symm
theorem E3 {m : D.Model} (hr : D8 m) {a : Int} (ha0 : 0 ≤ a) (ha : a < m.Procs.length) {k : Int} {run : Bool} (h0 : 0 ≤ k) (hk : k < m.Exprs.length) : Ae Tryz.prog 114 [] [.agg (Ac m), Ad a, Ad k, Ai run] [] (Ai (En m a k run)) :=
  Nk hr ha0 ha _ k run h0 hk (Nat.lt_succ_self _)
end Go.Proofs.YtiaebjpcgjkhoaaGreatDoor
namespace Go.Proofs.YtiaebjpcgjkhoaaGreatDoor
open Go.RowKit
def NP (m : D.Model) (a : Int) (s : D.Stmt) : Bool := bif bif bif bif a == m.Claim then s.Kind != 1 else false then s.Kind != 3 else false then s.Kind != 7 else false then s.Kind != 8 else false
def RT (m : D.Model) (a : Int) (s : D.Stmt) : Bool :=
  Az m s && (!NP m a s && ((!decide (s.A ≥ 0) || En m a s.A (s.Kind == 1)) && ((!decide (s.B ≥ 0) || En m a s.B (s.Kind == 2)) && B3 s.Args.length fun i => En m a (s.Args.getD i 0) false)))
theorem V9 {m : D.Model} {a : Int} {s : D.Stmt} (hr : D8 m) (ha0 : 0 ≤ a) (ha : a < m.Procs.length) (hs : Kj s) : Ae Tryz.prog 113 [] [.agg (Ac m), Ad a, .agg (Av s)] [] (Ai (RT m a s)) := by
  have hlen := hs.a
  refine Ah Am An Tryz.func113 (by kernel_rfl) rfl (Yt _ m a s) ⟨Az m s, Sy hs, ?_⟩
  change ((bif !(Az m s) then true else NP m a s) = true → _) ∧ ((bif !(Az m s) then true else NP m a s) = false → _)
  have e0 : RT m a s = (Az m s && (!NP m a s && ((!decide (s.A ≥ 0) || En m a s.A (s.Kind == 1)) && ((!decide (s.B ≥ 0) || En m a s.B (s.Kind == 2)) && B3 s.Args.length fun i => En m a (s.Args.getD i 0) false)))) := rfl
  generalize RT m a s = b at e0 ⊢
  refine ⟨fun h => As ?_, fun h => ?_⟩
  · rw [e0]
    cases hq : Az m s
    · rfl
    · rw [hq] at h
      rw [show NP m a s = true by simpa using h]; rfl
  have hq : Az m s = true := by
    cases hq : Az m s with
    | true => rfl
    | false => rw [hq] at h; simp at h
  have hcl : NP m a s = false := by rw [hq] at h; simpa using h
  rw [hq, hcl] at e0
  simp only [Bool.not_false, Bool.true_and] at e0
  obtain ⟨hin, hA, hB⟩ := T5 hq
  have loop : b = (B3 s.Args.length fun i => En m a (s.Args.getD i 0) false) → AH (Ag Tryz.prog tb AT Fp true Tryz.f113 [] (Ai b)) [1, 1, 1, 1, 1, 0, 1, 0] (Sg m a s 0) := by
    intro e
    rw [e]
    refine AI Am An s.Args.length (fun j => Sg m a s j) (fun j => ∀ i, i < j → En m a (s.Args.getD i 0) false = true) (by kernel_rfl) (by kernel_rfl) (fun i hi => by omega) ?_
    intro j hj hI J next
    refine A9.raw (Wa _ m a s j J) ⟨fun hlt => ?_, fun hge => As ?_⟩
    · have hlt' : j < s.Args.length := by have := AQ hlt; omega
      have hto : (j : Int).toNat = j := by omega
      rw [hto]
      have hx := hin _ (AF (d := (0 : Int)) hlt')
      refine ⟨⟨by omega, by omega⟩, En m a (s.Args.getD j 0) false, E3 hr ha0 ha hx.1 hx.2, fun hy => As ?_, fun hy => next _ hlt' (Bx hI (by simpa using hy)) (Up.of ?_)⟩
      · exact (Bg (f := fun i => En m a (s.Args.getD i 0) false) hlt' (by simpa using hy)).symm
      · rw [Ap (by omega)]; rfl
    · have hge' : s.Args.length ≤ j := by have := AV hge; omega
      exact (AW.2 fun i hi => hI i (by omega)).symm
  refine ⟨fun h1 => ⟨En m a s.A (s.Kind == 1), E3 hr ha0 ha (by simpa using h1) (hA (by simpa using h1)), fun hy => As ?_, fun hy => ⟨fun h2 => ⟨En m a s.B (s.Kind == 2), E3 hr ha0 ha (by simpa using h2) (hB (by simpa using h2)), fun hy2 => As ?_, fun hy2 => loop ?_⟩, fun h2 => loop ?_⟩⟩, fun h1 => ⟨fun h2 => ⟨En m a s.B (s.Kind == 2), E3 hr ha0 ha (by simpa using h2) (hB (by simpa using h2)), fun hy2 => As ?_, fun hy2 => loop ?_⟩, fun h2 => loop ?_⟩⟩
  all_goals (try simp only [Bool.not_eq_true', Bool.not_eq_false'] at *)
  all_goals simp only [*, Bool.not_true, Bool.not_false, Bool.false_or, Bool.true_or, Bool.true_and, Bool.false_and, Bool.and_false]
def Lt (m : D.Model) (a : Int) (w : List D.Trans) : Bool := B3 w.length fun h => RT m a (w.getD h default).S
def QR (m : D.Model) (a : Int) (l : D.Loc) : Bool := B3 (Bt l).length fun j => Lt m a ((Bt l).getD j [])
def Kp (m : D.Model) (a : Int) : Bool := (B3 (Bo m a).Locs.length fun k => QR m a ((Bo m a).Locs.getD k default)) && (decide ((Bo m a).Provided < 0) || En m a (Bo m a).Provided false)
theorem VT {s : D.Stmt} (h : KL s) : Kj s := ⟨h.Args.1, h.Match.1⟩
theorem ME {m : D.Model} {a : Int} (hr : D8 m) (ha0 : 0 ≤ a) (ha : a < m.Procs.length) (hpv : (Bo m a).Provided < m.Exprs.length) : Ae Tryz.prog 76 [] [.agg (Ac m), Ad a] [] (Ai (Kp m a)) := by
  have hwp : Fw (Bo m a) := hr.wf.Procs.2 _ (AF (by omega))
  refine Ah Am An Tryz.func76 (by kernel_rfl) rfl (Ow _ m a) ⟨⟨ha0, ha⟩, ?_⟩
  have e0 : Kp m a = ((B3 (Bo m a).Locs.length fun k => QR m a ((Bo m a).Locs.getD k default)) && (decide ((Bo m a).Provided < 0) || En m a (Bo m a).Provided false)) := rfl
  change AH _ _ (Jc m a (Bo m a) 0)
  generalize Kp m a = b at e0 ⊢
  generalize Bo m a = p at e0 hwp hpv ⊢
  have hL := hwp.Locs.1
  refine AI Am An p.Locs.length (fun k => Jc m a p k) (fun k => ∀ i, i < k → QR m a (p.Locs.getD i default) = true) (by kernel_rfl) (by kernel_rfl) (fun i hi => by omega) ?_
  intro k hk hI J next
  refine A9.raw (Sq _ m a p k J) ⟨fun hlt => ?_, fun hge => ?_⟩
  · have hlt' : k < p.Locs.length := by have := AQ hlt; omega
    have hto : (k : Int).toNat = k := by omega
    rw [hto]
    have hwl := hwp.Locs.2 _ (AF (d := default) hlt')
    have no : QR m a (p.Locs.getD k default) = false → false = b := fun h => by
      rw [e0, Bg (f := fun k => QR m a (p.Locs.getD k default)) hlt' h]; rfl
    have yes : QR m a (p.Locs.getD k default) = true → J (Jc m a p ((k : Int) + 1)) := fun h => next _ hlt' (Bx hI h) (Up.of rfl)
    generalize p.Locs.getD k default = l at hwl no yes ⊢
    have ho := hwl.Out.1
    have hes := hwl.Esc.1
    refine ⟨⟨by omega, by omega⟩, Bt l, LN hes, ?_⟩
    have hwsl : (Bt l).length ≤ 1048577 := by simp [Bt]; omega
    have hwse : ∀ w ∈ Bt l, w.length ≤ 1048576 ∧ ∀ t ∈ w, IZ t := by
      intro w hw
      rcases List.mem_cons.1 hw with rfl | hw
      · exact hwl.Out
      · exact hwl.Esc.2 w hw
    unfold QR at no yes
    generalize Bt l = ws at no yes hwsl hwse ⊢
    refine AI Am An ws.length (fun j => LC m a p k ws j) (fun j => ∀ i, i < j → Lt m a (ws.getD i []) = true) (by kernel_rfl) (by kernel_rfl) (fun i hi => by omega) ?_
    intro j hj hI2 J2 next2
    refine A9.raw (Sp _ m a p k ws j J J2) ⟨fun hlt2 => ?_, fun hge2 => ?_⟩
    · have hlt2' : j < ws.length := by have := AQ hlt2; omega
      have hto2 : (j : Int).toNat = j := by omega
      have hwle := hwse _ (AF (d := []) hlt2')
      have no2 : Lt m a (ws.getD j []) = false → false = b := fun h => no (Bg (f := fun j => Lt m a (ws.getD j [])) hlt2' h)
      have yes2 : Lt m a (ws.getD j []) = true → J2 (LC m a p k ws ((j : Int) + 1)) := fun h => next2 _ hlt2' (Bx hI2 h) (Up.of rfl)
      refine AI Am An (ws.getD j []).length (fun h => PS m a p k ws j h) (fun h => ∀ i, i < h → RT m a ((ws.getD j []).getD i default).S = true) (by kernel_rfl) (by kernel_rfl) (fun i hi => by omega) ?_
      intro h3 hh3 hI3 J3 next3
      refine A9.raw (So _ m a p k ws j h3 J J2 J3) ?_
      rw [hto2]
      have hwl3 := hwle.1
      refine ⟨⟨by omega, by omega⟩, fun hlt3 => ?_, fun hge3 => ?_⟩
      · have hlt3' : h3 < (ws.getD j []).length := by have := AQ hlt3; omega
        have hto3 : (h3 : Int).toNat = h3 := by omega
        rw [hto3]
        have hws := (hwle.2 _ (AF (d := default) hlt3')).S
        refine ⟨⟨by omega, by omega⟩, ⟨by omega, by omega⟩, RT m a ((ws.getD j []).getD h3 default).S, V9 hr ha0 ha (VT hws), fun hy => As (no2 ?_), fun hy => next3 _ hlt3' (Bx hI3 (by simpa using hy)) (Up.of ?_)⟩
        · exact Bg (f := fun h => RT m a ((ws.getD j []).getD h default).S) hlt3' (by simpa using hy)
        · rw [Ap (by omega)]; rfl
      · have hge3' : (ws.getD j []).length ≤ h3 := by have := AV hge3; omega
        rw [Ap (by omega)]
        exact yes2 (AW.2 fun i hi => hI3 i (by omega))
    · have hge2' : ws.length ≤ j := by have := AV hge2; omega
      rw [Ap (by omega)]
      exact yes (AW.2 fun i hi => hI2 i (by omega))
  · have hge' : p.Locs.length ≤ k := by have := AV hge; omega
    rw [(AW (n := p.Locs.length) (f := fun k => QR m a (p.Locs.getD k default))).2 fun i hi => hI i (by omega), Bool.true_and] at e0
    refine ⟨fun h2 => As ?_, fun h2 => ⟨En m a p.Provided false, E3 hr ha0 ha ?_ hpv, As ?_⟩⟩
    · rw [e0, h2]; rfl
    · have := of_decide_eq_false h2; omega
    · rw [e0, h2]; rfl
def X1 (p : D.Proc) : Bool :=
  bif bif bif bif bif decide ((p.Frame.length : Int) > 128) then true else (p.Init.length : Int) != (p.Frame.length : Int) then true else decide (p.Params < 0) then true else decide (p.Params > (p.Frame.length : Int)) then true else decide ((p.Locs.length : Int) < 1) then true else decide ((p.Locs.length : Int) > 256)
def X0 (m : D.Model) (p : D.Proc) (y : Int) : Bool :=
  bif bif bif bif bif bif bif bif bif bif decide (y ≥ 0) then true else decide (p.Start < 0) then true else decide (p.Start ≥ (p.Locs.length : Int)) then true else decide (p.Final < 0) then true else decide (p.Final ≥ (p.Locs.length : Int)) then true else decide (p.Active < 0) then true else decide (p.Active > 16) then true else decide (p.Prio < 1) then true else decide (p.Prio > 255) then true else decide (p.Provided < (-1 : Int)) then true else decide (p.Provided ≥ (m.Exprs.length : Int))
def Z9 (m : D.Model) (a : Int) (p : D.Proc) : Bool :=
  bif a == m.Claim then bif bif decide ((p.Frame.length : Int) > 0) then true else decide (p.Active > 0) then true else decide (p.Provided ≥ 0) else false
def Ly (m : D.Model) (a : Int) (p : D.Proc) (k : Int) (l : D.Loc) : Bool :=
  bif bif bif decide ((l.Esc.length : Int) > 8) then true else bif l.Dstep then l.Atomic else false then true else bif k == p.Final then bif decide ((l.Out.length : Int) > 0) then true else decide ((l.Esc.length : Int) > 0) else false then true else bif a == m.Claim then bif bif decide ((l.Esc.length : Int) > 0) then true else l.Atomic then true else l.Dstep else false
def H9 (p : D.Proc) (t : D.Trans) : Bool := bif decide (t.To < 0) then true else decide (t.To ≥ (p.Locs.length : Int))
def Ij (j : Int) (w : List D.Trans) : Bool := bif decide (j > 0) then (w.length : Int) == 0 else false
def PM (p : D.Proc) (ws : List (List D.Trans)) : Bool := B3 ws.length fun j => !Ij j (ws.getD j []) && B3 (ws.getD j []).length fun h => !H9 p ((ws.getD j []).getD h default)
def H7 (ws : List (List D.Trans)) : Nat := (ws.map List.length).sum
def ML (ls : List D.Loc) : Nat := (ls.map fun l => H7 (Bt l)).sum
def EY (m : D.Model) (a : Int) : Bool :=
  !X1 (Bo m a) && (!X0 m (Bo m a) (Dl (Bo m a).Frame (Bo m a).Init) && (!Z9 m a (Bo m a) &&
    ((B3 (Bo m a).Locs.length fun k => !Ly m a (Bo m a) k ((Bo m a).Locs.getD k default) && PM (Bo m a) (Bt ((Bo m a).Locs.getD k default))) && decide ((ML (Bo m a).Locs : Int) ≤ 1024))))
theorem W1 {ws : List (List D.Trans)} {j : Nat} (hj : j < ws.length) : H7 (ws.take (j + 1)) = H7 (ws.take j) + (ws.getD j []).length := by
  unfold H7; rw [DH (d := []) hj, List.map_append, List.sum_append]; simp
theorem W2 {ls : List D.Loc} {j : Nat} (hj : j < ls.length) : ML (ls.take (j + 1)) = ML (ls.take j) + H7 (Bt (ls.getD j default)) := by
  unfold ML; rw [DH (d := default) hj, List.map_append, List.sum_append]; simp
theorem Qg {m : D.Model} {a : Int} (hw : AN m) (ha0 : 0 ≤ a) (ha : a < m.Procs.length) : Ae Tryz.prog 75 [] [.agg (Ac m), Ad a] [] (Ai (EY m a)) := by
  have hwp : Fw (Bo m a) := hw.Procs.2 _ (AF (by omega))
  refine Ah Am An Tryz.func75 (by kernel_rfl) rfl (Sx _ m a) ⟨⟨ha0, ha⟩, ?_⟩
  have e0 : EY m a = (!X1 (Bo m a) && (!X0 m (Bo m a) (Dl (Bo m a).Frame (Bo m a).Init) && (!Z9 m a (Bo m a) &&
    ((B3 (Bo m a).Locs.length fun k => !Ly m a (Bo m a) k ((Bo m a).Locs.getD k default) && PM (Bo m a) (Bt ((Bo m a).Locs.getD k default))) && decide ((ML (Bo m a).Locs : Int) ≤ 1024))))) := rfl
  change (X1 (Bo m a) = true → _) ∧ (X1 (Bo m a) = false → ∃ y, Ae _ _ _ [Aj true (Bo m a).Frame, Aa true (Bo m a).Init] _ _ ∧ (X0 m (Bo m a) y = true → _) ∧ (X0 m (Bo m a) y = false → (Z9 m a (Bo m a) = true → _) ∧ (Z9 m a (Bo m a) = false → AH _ _ (Hw m a (Bo m a) 0 0))))
  generalize EY m a = b at e0 ⊢
  generalize Bo m a = p at e0 hwp ⊢
  have hfr := hwp.Frame.1
  refine ⟨fun h => As (by rw [e0, h]; rfl), fun h => ?_⟩
  have hA : p.Init.length = p.Frame.length ∧ p.Locs.length ≤ 256 := by
    unfold X1 at h; simp at h; omega
  rw [h] at e0
  refine ⟨Dl p.Frame p.Init, Kt (by omega) hfr, fun h2 => As (by rw [e0, h2]; rfl), fun h2 => ?_⟩
  rw [h2] at e0
  refine ⟨fun h3 => As (by rw [e0, h3]; rfl), fun h3 => ?_⟩
  rw [h3] at e0
  simp only [Bool.not_false, Bool.true_and] at e0
  refine AI Am An p.Locs.length (fun k => Hw m a p (ML (p.Locs.take k)) k) (fun k => (∀ i, i < k → (!Ly m a p i (p.Locs.getD i default) && PM p (Bt (p.Locs.getD i default))) = true) ∧ ML (p.Locs.take k) ≤ k * 9437184) (by kernel_rfl) (by kernel_rfl) ⟨fun i hi => by omega, by simp [ML]⟩ ?_
  intro k hk ⟨hI, hmk⟩ J next
  refine A9.raw (Qj _ m a p _ k J) ⟨fun hlt => ?_, fun hge => ?_⟩
  · have hlt' : k < p.Locs.length := by have := AQ hlt; omega
    have hto : (k : Int).toNat = k := by omega
    rw [hto]
    have hwl := hwp.Locs.2 _ (AF (d := default) hlt')
    have no : (!Ly m a p k (p.Locs.getD k default) && PM p (Bt (p.Locs.getD k default))) = false → false = b := fun h => by
      rw [e0, Bg (f := fun k : Nat => !Ly m a p k (p.Locs.getD k default) && PM p (Bt (p.Locs.getD k default))) hlt' h]; rfl
    have hlt1 := W2 hlt'
    have yes : (!Ly m a p k (p.Locs.getD k default) && PM p (Bt (p.Locs.getD k default))) = true → H7 (Bt (p.Locs.getD k default)) ≤ 9437184 → J (Hw m a p ((ML (p.Locs.take k) : Int) + H7 (Bt (p.Locs.getD k default))) ((k : Int) + 1)) := fun h h' => next _ hlt' ⟨fun i hi => by
        rcases Nat.lt_succ_iff_lt_or_eq.1 hi with h2 | rfl
        · exact hI i h2
        · exact h, by omega⟩ (Up.of (by rw [hlt1]; rfl))
    clear next
    generalize ML (p.Locs.take k) = many at hmk yes ⊢
    generalize p.Locs.getD k default = l at hwl no yes ⊢
    have ho := hwl.Out.1
    have hes := hwl.Esc.1
    refine ⟨⟨by omega, by omega⟩, fun hy => As (no ?_), fun hy => ⟨Bt l, LN hes, ?_⟩⟩
    · rw [show Ly m a p k l = true from hy]; rfl
    have hesc8 : l.Esc.length ≤ 8 := by
      have hy' : Ly m a p k l = false := hy
      unfold Ly at hy'
      simp only [Bc, Bool.or_eq_false_iff, decide_eq_false_iff_not] at hy'
      omega
    rw [show Ly m a p k l = false from hy] at no yes
    simp only [Bool.not_false, Bool.true_and] at no yes
    have hwsl : (Bt l).length ≤ 9 := by simp [Bt]; omega
    have hwse : ∀ w ∈ Bt l, w.length ≤ 1048576 := by
      intro w hw
      rcases List.mem_cons.1 hw with rfl | hw
      · exact ho
      · exact (hwl.Esc.2 w hw).1
    generalize Bt l = ws at no yes hwsl hwse ⊢
    unfold PM at no yes
    refine AI Am An ws.length (fun j => JM m a p ((many : Int) + H7 (ws.take j)) k ws j) (fun j => (∀ i : Nat, i < j → (!Ij i (ws.getD i []) && B3 (ws.getD i []).length fun h => !H9 p ((ws.getD i []).getD h default)) = true) ∧ H7 (ws.take j) ≤ j * 1048576) (by kernel_rfl) (by kernel_rfl) ⟨fun i hi => by omega, by simp [H7]⟩ ?_ |> fun h => by rw [show (many : Int) + (H7 (ws.take 0) : Nat) = many by simp [H7]] at h; exact h
    intro j hj ⟨hI2, hmj⟩ J2 next2
    refine A9.raw (Qi _ m a p _ k ws j J J2) ⟨fun hlt2 => ?_, fun hge2 => ?_⟩
    · have hlt2' : j < ws.length := by have := AQ hlt2; omega
      have hto2 : (j : Int).toNat = j := by omega
      rw [hto2]
      have hwle := hwse _ (AF (d := []) hlt2')
      have hls := W1 hlt2'
      have no2 : (!Ij j (ws.getD j []) && B3 (ws.getD j []).length fun h => !H9 p ((ws.getD j []).getD h default)) = false → false = b := fun h => no (Bg (f := fun j : Nat => !Ij j (ws.getD j []) && B3 (ws.getD j []).length fun h => !H9 p ((ws.getD j []).getD h default)) hlt2' h)
      have yes2 : (!Ij j (ws.getD j []) && B3 (ws.getD j []).length fun h => !H9 p ((ws.getD j []).getD h default)) = true → J2 (JM m a p ((many : Int) + (H7 (ws.take j) + (ws.getD j []).length : Nat)) k ws ((j : Int) + 1)) := fun h => next2 _ hlt2' ⟨fun i hi => by
        rcases Nat.lt_succ_iff_lt_or_eq.1 hi with h2 | rfl
        · exact hI2 i h2
        · exact h, by omega⟩ (Up.of (by rw [hls]; rfl))
      refine ⟨fun _ => ⟨by omega, by omega⟩, fun hy2 => As (no2 ?_), fun hy2 => ⟨⟨by omega, by omega⟩, ?_⟩⟩
      · rw [show Ij j (ws.getD j []) = true from hy2]; rfl
      rw [show Ij j (ws.getD j []) = false from hy2] at no2 yes2
      simp only [Bool.not_false, Bool.true_and] at no2 yes2
      have hN : IntKind.i64.wrap ((many : Int) + H7 (ws.take j) + ((ws.getD j []).length : Int)) = (many : Int) + (H7 (ws.take j) + (ws.getD j []).length : Nat) := by
        rw [A6 (by omega) (by omega)]; omega
      rw [hN]
      generalize (many : Int) + (H7 (ws.take j) + (ws.getD j []).length : Nat) = M at yes2 ⊢
      refine AI Am An (ws.getD j []).length (fun h => Nb m a p M k ws j h) (fun h => ∀ i, i < h → (!H9 p ((ws.getD j []).getD i default)) = true) (by kernel_rfl) (by kernel_rfl) (fun i hi => by omega) ?_
      intro h3 hh3 hI3 J3 next3
      refine A9.raw (Qh _ m a p M k ws j h3 J J2 J3) ?_
      rw [hto2]
      refine ⟨⟨by omega, by omega⟩, fun hlt3 => ?_, fun hge3 => ?_⟩
      · have hlt3' : h3 < (ws.getD j []).length := by have := AQ hlt3; omega
        have hto3 : (h3 : Int).toNat = h3 := by omega
        rw [hto3]
        refine ⟨⟨by omega, by omega⟩, ⟨by omega, by omega⟩, fun _ => ⟨by omega, by omega⟩, fun _ => ⟨by omega, by omega⟩, fun hy => As (no2 ?_), fun hy => next3 _ hlt3' (Bx hI3 ?_) (Up.of ?_)⟩
        · exact Bg (f := fun h => !H9 p ((ws.getD j []).getD h default)) hlt3' (by show (!H9 p _) = false; rw [show H9 p ((ws.getD j []).getD h3 default) = true from hy]; rfl)
        · rw [show H9 p ((ws.getD j []).getD h3 default) = false from hy]; rfl
        · rw [Ap (by omega)]; rfl
      · have hge3' : (ws.getD j []).length ≤ h3 := by have := AV hge3; omega
        rw [Ap (by omega)]
        exact yes2 (AW.2 fun i hi => hI3 i (by omega))
    · have hge2' : ws.length ≤ j := by have := AV hge2; omega
      rw [Ap (by omega), List.take_of_length_le hge2']
      rw [List.take_of_length_le hge2'] at hmj
      exact yes (AW.2 fun i hi => hI2 i (by omega)) (by
        have hj9 : j ≤ 9 := by omega
        have := Nat.mul_le_mul_right 1048576 hj9
        omega)
  · have hge' : p.Locs.length ≤ k := by have := AV hge; omega
    rw [(AW (n := p.Locs.length) (f := fun k : Nat => !Ly m a p k (p.Locs.getD k default) && PM p (Bt (p.Locs.getD k default)))).2 fun i hi => hI i (by omega), Bool.true_and] at e0
    rw [List.take_of_length_le hge']
    exact As e0.symm
theorem M5 {m : D.Model} {a : Int} (h : EY m a = true) : (Bo m a).Provided < m.Exprs.length ∧ 0 ≤ (Bo m a).Active ∧ (Bo m a).Active ≤ 16 := by
  unfold EY at h
  simp only [Bool.and_eq_true, Bool.not_eq_true'] at h
  have hb := h.2.1
  unfold X0 at hb
  simp only [Bc, Bool.or_eq_false_iff, decide_eq_false_iff_not] at hb
  omega
end Go.Proofs.YtiaebjpcgjkhoaaGreatDoor
namespace Go.Proofs.YtiaebjpcgjkhoaaGreatDoor
open Go.RowKit
theorem Oz {m : D.Model} (hw : AN m) : Ae Tryz.prog 74 [] [.agg (Ac m)] [] (.tup [Ad (Bk m).1, Ad (Bk m).2]) := by
  have hG := hw.Globals.1
  have hS := hw.Shapes.1
  have hC := hw.Chans.1
  have hE := hw.Exprs.1
  have hPr := hw.Procs.1
  refine Ah Am An Tryz.func74 (by kernel_rfl) rfl (Qf _ _ m) ?_
  have t1 : (bif decide ((m.Globals.length : Int) > 128) then true else (m.Init.length : Int) != (m.Globals.length : Int)) = (decide (128 < m.Globals.length) || !decide (m.Init.length = m.Globals.length)) := by rw [Bool.eq_iff_iff]; simp; omega
  have t2 : (bif decide ((m.Shapes.length : Int) > 32) then true else decide ((m.Chans.length : Int) > 32)) = (decide (32 < m.Shapes.length) || decide (32 < m.Chans.length)) := by rw [Bool.eq_iff_iff]; simp; omega
  have t3 : (bif bif bif bif decide ((m.Procs.length : Int) < 1) then true else decide ((m.Procs.length : Int) > 16) then true else decide (m.Claim < (-1 : Int)) then true else decide (m.Claim ≥ (m.Procs.length : Int)) then true else decide ((m.Exprs.length : Int) > 4096)) =
      (decide (m.Procs.length < 1) || (decide (16 < m.Procs.length) || (decide (m.Claim < -1) || (decide ((m.Procs.length : Int) ≤ m.Claim) || decide (4096 < m.Exprs.length))))) := by
    have u1 : decide ((m.Procs.length : Int) < 1) = decide (m.Procs.length < 1) := by rw [Bool.eq_iff_iff, decide_eq_true_eq, decide_eq_true_eq]; omega
    have u2 : decide ((m.Procs.length : Int) > 16) = decide (16 < m.Procs.length) := ngt _ 16
    have u3 : decide ((m.Exprs.length : Int) > 4096) = decide (4096 < m.Exprs.length) := ngt _ 4096
    rw [u1, u2, u3]; simp only [Bc, Bool.or_assoc]
  rw [t1, t2]
  generalize hR : Bk m = R
  unfold Bk at hR
  refine ⟨fun h => D6 (by rw [h, cond_true] at hR; exact hR), fun h => ⟨Dl m.Globals m.Init, Kt (by simp at h; omega) hG, fun h2 => D6 (by rw [h, cond_false, h2, cond_true] at hR; exact hR), fun h2 => ⟨fun h3 => D6 ?_, fun h3 => ?_⟩⟩⟩
  · rw [h, cond_false, h2, cond_false, h3, cond_true] at hR; exact hR
  rw [h, cond_false, h2, cond_false, h3, cond_false] at hR
  refine AI Am An m.Shapes.length (fun k => Ui m k) (fun k => ∀ i, i < k → CM (m.Shapes.getD i default) = true) (by kernel_rfl) (by kernel_rfl) (fun i hi => by omega) ?_
  intro k hk hI J next
  refine A9.raw (Wg _ _ m k J) ⟨fun hlt => ?_, fun hge => ?_⟩
  · have hlt' : k < m.Shapes.length := by have := AQ hlt; omega
    refine ⟨⟨by omega, by omega⟩, CM (m.Shapes.getD k default), Qk (hw.Shapes.2 _ (AF hlt')), fun hy => D6 ?_, fun hy => next _ hlt' (Bx hI (by simpa using hy)) (Up.of ?_)⟩
    · have e : DB m = k := Dc (f := fun i => CM (m.Shapes.getD i default)) hI hlt' (by simpa using hy)
      rw [e, show decide ((0 : Int) ≤ (k : Int)) = true by simp, cond_true] at hR
      exact hR
    · rw [Ap (by omega)]; rfl
  have hge' : m.Shapes.length ≤ k := by have := AV hge; omega
  have es : DB m = -1 := Dd (f := fun i => CM (m.Shapes.getD i default)) fun i hi => hI i (by omega)
  rw [es, show decide ((0 : Int) ≤ -1) = false from rfl, cond_false] at hR
  clear hI next
  refine AI Am An m.Chans.length (fun k => Uh m k) (fun k => ∀ i, i < k → inP m.Shapes.length (m.Chans.getD i 0) = true) (by kernel_rfl) (by kernel_rfl) (fun i hi => by omega) ?_
  intro k hk hI J next
  refine A9.raw (Wf _ _ m k J) ⟨fun hlt => ?_, fun hge => ?_⟩
  · have hlt' : k < m.Chans.length := by have := AQ hlt; omega
    have hto : (k : Int).toNat = k := by omega
    rw [hto]
    have hin : inP m.Shapes.length (m.Chans.getD k 0) = !(bif decide (m.Chans.getD k 0 < 0) then true else decide (m.Chans.getD k 0 ≥ (m.Shapes.length : Int))) := by unfold inP; rw [Bool.eq_iff_iff]; simp
    refine ⟨⟨by omega, by omega⟩, fun _ => ⟨by omega, by omega⟩, fun hy => D6 ?_, fun hy => next _ hlt' (Bx hI (by rw [hin, hy]; rfl)) (Up.of ?_)⟩
    · have e : EF m = k := Dc (f := fun i => inP m.Shapes.length (m.Chans.getD i 0)) hI hlt' (by show inP _ _ = false; rw [hin, hy]; rfl)
      rw [e, show decide ((0 : Int) ≤ (k : Int)) = true by simp, cond_true] at hR
      exact hR
    · rw [Ap (by omega)]; rfl
  have hge' : m.Chans.length ≤ k := by have := AV hge; omega
  have ec : EF m = -1 := Dd (f := fun i => inP m.Shapes.length (m.Chans.getD i 0)) fun i hi => hI i (by omega)
  rw [ec, show decide ((0 : Int) ≤ -1) = false from rfl, cond_false] at hR
  rw [t3]
  refine ⟨fun h4 => D6 (by rw [h4, cond_true] at hR; exact hR), fun h4 => ⟨⟨by omega, by omega, by omega⟩, ?_⟩⟩
  rw [h4, cond_false] at hR
  clear hI next
  have hnn : ((m.Exprs.length : Int).toNat) = (AO m).length := by simp [AO]
  have hnl : (AO m).length = m.Exprs.length := by simp [AO]
  refine AH.le (l' := [(1, .bp 0 0), (8, .ow 1 0 (AO m).length), (9, Ad 0)]) (hs' := [.box (Ac m), .arr true 0 (AO m).length 1 (DV (AO m))]) ?_ ?_ ?_
  · rw [hnn]; exact AZ _
  · rw [hnn]
    refine ⟨Ob.le_refl _, Ob.le_arr fun i hi => A8 ?_, trivial⟩
    have : (AO m).getD i false = false := by
      have hi' : i < m.Exprs.length := by rw [← hnl]; exact hi
      simp [AO, List.getD, hi']
    show _ = [Ai ((AO m).getD i false)]
    rw [this]; rfl
  generalize hX : EE m = X at hR
  have fin : ∀ {y : Int × Int}, (bif decide (0 ≤ X) then ((3 : Int), X) else (0, 0)) = y → y = R := fun h => by rw [← h]; exact hR
  refine Bh Am An (fun g st => ∃ (k : Nat) (had : List Bool), k ≤ m.Exprs.length ∧ g = m.Exprs.length - k ∧ had.length = m.Exprs.length ∧ Eg m (m.Exprs.length - k) k had = X ∧ st = Ug m had k) (by kernel_rfl) (by kernel_rfl) ⟨_, Up.of ⟨0, AO m, Nat.zero_le _, rfl, hnl, hX, rfl⟩⟩ ?_
  rintro g st ⟨k, had, hk, rfl, hhl, hr, rfl⟩
  refine A9.raw (We _ _ m had k _) ⟨fun hlt => ?_, fun hge => D6 (fin ?_)⟩
  · have hlt' : k < m.Exprs.length := by have := AQ hlt; omega
    have hto : (k : Int).toNat = k := by omega
    rw [hto]
    have hwx : Hs (m.Exprs.getD k default) := hw.Exprs.2 _ (AF hlt')
    rw [show m.Exprs.length - k = (m.Exprs.length - (k + 1)) + 1 by omega] at hr
    unfold Eg at hr
    refine ⟨CT m k, SL (by omega) (by omega) (by unfold AD; rw [hto]; exact hwx) hPr, fun hy => D6 (fin ?_), fun hy => ⟨⟨by omega, by omega⟩, Bb (m.Exprs.getD k default), LQ hwx.Args.1 hwx.V.Dims.1, ?_⟩⟩
    · rw [show CT m k = false by simpa using hy, cond_false] at hr
      rw [← hr, show decide ((0 : Int) ≤ (k : Int)) = true by simp, cond_true]
    · have hye : CT m k = true := by simpa using hy
      rw [hye, cond_true] at hr
      have hin := KY hye
      have hhlen := Jv hwx.Args.1 hwx.V.Dims.1
      unfold AD at hin
      rw [hto] at hin
      generalize Bb (m.Exprs.getD k default) = l at hin hhlen hr ⊢
      generalize ho : MM had l = o at hr
      refine Bh Am An (fun g st => ∃ (j : Nat) (had' : List Bool), j ≤ l.length ∧ g = l.length - j ∧ had'.length = m.Exprs.length ∧ MM had' (l.drop j) = o ∧ st = Uf m had' k l j) (by kernel_rfl) (by kernel_rfl) ⟨_, Up.of ⟨0, had, Nat.zero_le _, rfl, hhl, ho, rfl⟩⟩ ?_
      rintro g st ⟨j, had', hj, rfl, hhl', hq, rfl⟩
      refine A9.raw (Wd _ _ m had' k l j _ _) ⟨fun hlt2 => ?_, fun hge2 => ?_⟩
      · have hlt2' : j < l.length := by have := AQ hlt2; omega
        have hto2 : (j : Int).toNat = j := by omega
        rw [hto2]
        have hpi := hin _ (AF (d := 0) hlt2')
        rw [BQ (d := 0) hlt2'] at hq
        generalize l.getD j 0 = p at hpi hq ⊢
        unfold MM at hq
        refine ⟨⟨by omega, by omega⟩, ⟨by omega, by omega⟩, fun hy => D6 (fin ?_), fun hy => ⟨⟨by omega, by omega⟩, ⟨by omega, by omega⟩, l.length - (j + 1), by omega, ?_⟩⟩
        · rw [hy, cond_true] at hq
          rw [← hq] at hr
          rw [← hr, show decide ((0 : Int) ≤ (k : Int)) = true by simp, cond_true]
        · rw [hy, cond_false] at hq
          have hsl : (had'.set p.toNat true).length = had'.length := by simp
          rw [Ap (by omega)]
          refine Up.mk (l' := [(1, .bp 0 0), (8, .ow 1 0 (had'.set p.toNat true).length), (9, Ad k), (11, Aa true l), (12, Ad ((j + 1 : Nat) : Int))])
            (hs' := [.box (Ac m), .arr true 0 (had'.set p.toNat true).length 1 (DV (had'.set p.toNat true))]) ?_ ?_ ⟨j + 1, had'.set p.toNat true, by omega, rfl, by rw [hsl]; exact hhl', hq, rfl⟩
          · rw [hsl]; exact AZ _
          · rw [hsl]
            exact ⟨Ob.le_refl _, Ob.le_arr fun i hi => A8 (KO hi), trivial⟩
      · have hge2' : l.length ≤ j := by have := AV hge2; omega
        rw [List.drop_eq_nil_of_le hge2'] at hq
        unfold MM at hq
        rw [← hq] at hr
        rw [Ap (by omega)]
        exact ⟨m.Exprs.length - (k + 1), by omega, Up.of ⟨k + 1, had', by omega, rfl, hhl', hr, rfl⟩⟩
  · have hge' : m.Exprs.length ≤ k := by have := AV hge; omega
    rw [show m.Exprs.length - k = 0 by omega] at hr
    unfold Eg at hr
    rw [← hr]; rfl
def T2 (m : D.Model) : Int := Gv m.Procs.length fun i : Nat => EY m i
def AaX (m : D.Model) : Int := Gv m.Procs.length fun i : Nat => Kp m i
def Hb (m : D.Model) : Int × Int × Int :=
  bif decide (0 < (Bk m).1) then (40, Bk m) else bif decide (0 ≤ T2 m) then (40, 4, T2 m) else bif decide (16 < Df m m.Procs.length) then (40, 5, -1)
  else bif decide (0 ≤ AaX m) then (40, 6, AaX m) else (0, 0, 0)
def QN (m : D.Model) : Bool := (Hb m).1 == 0
theorem Qw {m : D.Model} (hw : AN m) : Ae Tryz.prog 48 [] [.agg (Ac m)] [] (.tup [Ad (Hb m).1, Ad (Hb m).2.1, Ad (Hb m).2.2]) := by
  have hP := hw.Procs.1
  refine Ah Am An Tryz.func48 (by kernel_rfl) rfl (SU _ _ _ m) ⟨Bk m, Oz hw, ?_⟩
  generalize hR : Hb m = R
  unfold Hb at hR
  refine ⟨fun h => Ie (by rw [show decide (0 < (Bk m).1) = true from h, cond_true] at hR; exact hR), fun h => ?_⟩
  have hready := I9 hw (of_decide_eq_false h)
  rw [show decide (0 < (Bk m).1) = false from h, cond_false] at hR
  refine AI Am An m.Procs.length (fun k => Nd m (Df m k) k) (fun k => (∀ i : Nat, i < k → EY m i = true) ∧ 0 ≤ Df m k ∧ Df m k ≤ 16 * k) (by kernel_rfl) (by kernel_rfl) ⟨fun i hi => by omega, by simp [Df], by simp [Df]⟩ ?_
  intro k hk ⟨hI, hm0, hm1⟩ J next
  refine A9.raw (Qy _ _ _ m (Df m k) k J) ⟨fun hlt => ?_, fun hge => ?_⟩
  · have hlt' : k < m.Procs.length := by have := AQ hlt; omega
    have hto : (k : Int).toNat = k := by omega
    rw [hto]
    refine ⟨EY m k, Qg hw (by omega) (by omega), fun hy => Ie ?_, fun hy => ⟨⟨by omega, by omega⟩, ?_⟩⟩
    · have e : T2 m = k := Dc (f := fun i : Nat => EY m i) hI hlt' (by simpa using hy)
      rw [e, show decide ((0 : Int) ≤ (k : Int)) = true by simp, cond_true] at hR
      exact hR
    · have hy' : EY m k = true := by simpa using hy
      have hac := (M5 hy').2
      unfold Bo at hac
      rw [hto] at hac
      have hms := Nx hlt'
      refine next _ hlt' ⟨Bx hI hy', by omega, by omega⟩ (Up.of ?_)
      rw [hms, Ap (by omega), A6 (n := Df m k + _) (by omega) (by omega)]; rfl
  · have hge' : k = m.Procs.length := by have := AV hge; omega
    subst hge'
    have e : T2 m = -1 := Dd (f := fun i : Nat => EY m i) fun i hi => hI i (by omega)
    rw [e, show decide ((0 : Int) ≤ -1) = false from rfl, cond_false] at hR
    refine ⟨fun h2 => Ie (by rw [show decide (16 < Df m m.Procs.length) = true from h2, cond_true] at hR; exact hR), fun h2 => ?_⟩
    rw [show decide (16 < Df m m.Procs.length) = false from h2, cond_false] at hR
    have hpv : ∀ i : Nat, i < m.Procs.length → (Bo m i).Provided < m.Exprs.length := fun i hi => (M5 (hI i hi)).1
    clear hI next
    refine AI Am An m.Procs.length (fun k => Nc m k) (fun k => ∀ i : Nat, i < k → Kp m i = true) (by kernel_rfl) (by kernel_rfl) (fun i hi => by omega) ?_
    intro k hk hI J next
    refine A9.raw (Qx _ _ _ m k J) ⟨fun hlt => ?_, fun hge => Ie ?_⟩
    · have hlt' : k < m.Procs.length := by have := AQ hlt; omega
      refine ⟨Kp m k, ME hready (by omega) (by omega) (hpv _ (by omega)), fun hy => Ie ?_, fun hy => next _ hlt' (Bx hI (by simpa using hy)) (Up.of ?_)⟩
      · have e : AaX m = k := Dc (f := fun i : Nat => Kp m i) hI hlt' (by simpa using hy)
        rw [e, show decide ((0 : Int) ≤ (k : Int)) = true by simp, cond_true] at hR
        exact hR
      · rw [Ap (by omega)]; rfl
    · have hge' : m.Procs.length ≤ k := by have := AV hge; omega
      have e : AaX m = -1 := Dd (f := fun i : Nat => Kp m i) fun i hi => hI i (by omega)
      rw [e, show decide ((0 : Int) ≤ -1) = false from rfl, cond_false] at hR
      exact hR
theorem Qs {m : D.Model} (hw : AN m) : Ae Tryz.prog 26 [] [.agg (Ac m)] [] (Ai (QN m)) :=
  Ah Am An Tryz.func26 (by kernel_rfl) rfl (SF _ m) ⟨Hb m, Qw hw, As rfl⟩
theorem YN {m : D.Model} (h : QN m = true) : Bk m = (0, 0) := by
  unfold QN Hb at h
  have hx : ¬ 0 < (Bk m).1 := by
    intro hc
    rw [show decide (0 < (Bk m).1) = true by simpa using hc, cond_true] at h
    simp at h
  have cases2 : (Bk m) = (0, 0) ∨ 0 < (Bk m).1 := by
    unfold Bk
    generalize (decide (128 < m.Globals.length) || !decide (m.Init.length = m.Globals.length)) = b1
    generalize decide (0 ≤ Dl m.Globals m.Init) = b2
    generalize (decide (32 < m.Shapes.length) || decide (32 < m.Chans.length)) = b3
    generalize decide (0 ≤ DB m) = b4
    generalize decide (0 ≤ EF m) = b5
    generalize (decide (m.Procs.length < 1) || (decide (16 < m.Procs.length) || (decide (m.Claim < -1) || (decide ((m.Procs.length : Int) ≤ m.Claim) || decide (4096 < m.Exprs.length))))) = b6
    generalize decide (0 ≤ EE m) = b7
    cases b1 <;> cases b2 <;> cases b3 <;> cases b4 <;> cases b5 <;> cases b6 <;> cases b7 <;> simp
  exact cases2.resolve_right hx
theorem Gj {t : List D.Type} {l : List Int} (hl : Len l.length) : Ae Tryz.prog 23 [] [Aj true t, Aa true l] [] (Ai (BE t l)) := by
  unfold Len at hl
  refine Ah Am An Tryz.func23 (by kernel_rfl) rfl (Qb _ t l) ⟨fun h => As ?_, fun h => ?_⟩
  · unfold BE
    have : decide (t.length = l.length) = false := by simp at h; simp; omega
    rw [this, Bool.false_and]
  · have hlen : t.length = l.length := by simp at h; omega
    have e : BE t l = B3 l.length fun i => Cz (t.getD i default) (l.getD i 0) := by unfold BE; rw [show decide (t.length = l.length) = true by simpa using hlen, Bool.true_and]
    rw [e]
    refine AI Am An t.length (fun k => Na t l k) (fun k => ∀ i, i < k → Cz (t.getD i default) (l.getD i 0) = true) (by kernel_rfl) (by kernel_rfl) (fun i hi => by omega) ?_
    intro k hk hI J next
    refine A9.raw (Oy _ t l k J) ⟨fun hlt => ?_, fun hge => As ?_⟩
    · have hlt' : k < t.length := by have := AQ hlt; omega
      refine ⟨⟨by omega, by omega⟩, ⟨by omega, by omega⟩, Cz (t.getD k default) (l.getD k 0), LS _ _, fun hy => As ?_, fun hy => next _ hlt' (Bx hI (by simpa using hy)) (Up.of ?_)⟩
      · exact (Bg (n := l.length) (k := k) (f := fun i => Cz (t.getD i default) (l.getD i 0)) (by omega) (by simpa using hy)).symm
      · rw [Ap (by omega)]; rfl
    · have hge' : t.length ≤ k := by have := AV hge; omega
      exact (AW.2 fun i hi => hI i (by omega)).symm
theorem Wj {m : D.Model} {s : D.State} (hs : Bl s) (hcl : m.Claim < m.Procs.length) : Ae Tryz.prog 10 [] [.agg (Ac m), .agg (Ax s)] [] (Ai (Cw m s)) := by
  have hc := hs.c
  have hp := hs.p
  unfold Len at hc hp
  have ht : (bif bif bif bif bif bif bif !(BE m.Globals s.Globals) then true else decide ((s.Chans.length : Int) > 32) then true else decide ((s.Procs.length : Int) > 16) then true else decide (s.Last < 0) then true else decide (s.Last > 15) then true else decide (s.Alone < (-1 : Int)) then true else decide (s.Alone ≥ (s.Procs.length : Int)) then true else bif decide (m.Claim < 0) then s.Claim != (-1 : Int) else false) =
      !(F4 m s && (bif decide (m.Claim < 0) then decide (s.Claim = -1) else true)) := by
    unfold F4
    cases BE m.Globals s.Globals
    · rfl
    · cases decide (m.Claim < 0)
      · rw [Bool.eq_iff_iff]; simp; omega
      · rw [Bool.eq_iff_iff]; simp; omega
  refine Ah Am An Tryz.func10 (by kernel_rfl) rfl (Yx _ m s) ⟨BE m.Globals s.Globals, Gj hs.g, ?_⟩
  rw [ht]
  have e0 : Cw m s = (F4 m s && (B3 s.Chans.length fun i => Dp m (s.Chans.getD i default)) && (B3 s.Procs.length fun i => BL m (s.Procs.getD i default)) && FE m s) := rfl
  generalize Cw m s = b at e0 ⊢
  refine ⟨fun h => As ?_, fun h => ⟨fun h2 => ?_, fun h2 => As ?_, fun h2 => ?_⟩⟩
  · rw [e0]; unfold FE
    cases hq : F4 m s
    · rfl
    · rw [hq] at h
      cases hq2 : decide (m.Claim < 0)
      · rw [hq2] at h; simp at h
      · rw [hq2] at h
        simp only [cond_true, Bool.true_and, Bool.not_eq_true'] at h
        simp only [cond_true, h, Bool.and_false]
  · simp only [Bool.true_and, beq_true, Bool.and_eq_true, decide_eq_true_eq] at h2
    omega
  · rw [e0]; unfold FE
    cases hq2 : decide (m.Claim < 0)
    · rw [show decide (m.Claim ≥ 0) = true by simp at hq2 ⊢; omega, cond_true] at h2
      rw [cond_false, show inP (Bo m m.Claim).Locs.length s.Claim = false from ?_, Bool.and_false]
      have h2' : (bif decide (s.Claim < 0) then true else decide (s.Claim ≥ ((Bo m m.Claim).Locs.length : Int))) = true := h2
      rw [Bool.eq_false_iff]; intro hc; unfold inP at hc; simp at hc h2'; omega
    · rw [show decide (m.Claim ≥ 0) = false by simp at hq2 ⊢; omega, cond_false] at h2
      cases h2
  have hh : F4 m s = true ∧ FE m s = true := by
    simp only [Bool.not_eq_false', Bool.and_eq_true] at h
    refine ⟨h.1, ?_⟩
    unfold FE
    have h3 := h.2
    cases hq2 : decide (m.Claim < 0)
    · rw [show decide (m.Claim ≥ 0) = true by simp at hq2 ⊢; omega, cond_true] at h2
      rw [cond_false]
      have h2' : (bif decide (s.Claim < 0) then true else decide (s.Claim ≥ ((Bo m m.Claim).Locs.length : Int))) = false := h2
      unfold inP; simp at h2' ⊢; omega
    · rw [hq2, cond_true] at h3; exact h3
  rw [hh.1, hh.2, Bool.true_and, Bool.and_true] at e0
  refine AI Am An s.Chans.length (fun k => Oi m s k) (fun k => ∀ i, i < k → Dp m (s.Chans.getD i default) = true) (by kernel_rfl) (by kernel_rfl) (fun i hi => by omega) ?_
  intro k hk hI J next
  refine A9.raw (Wm _ m s k J) ⟨fun hlt => ?_, fun hge => ?_⟩
  · have hlt' : k < s.Chans.length := by have := AQ hlt; omega
    have hto : (k : Int).toNat = k := by omega
    rw [hto]
    have hsm := hs.cs _ (AF (d := default) hlt')
    have no : Dp m (s.Chans.getD k default) = false → false = b := fun h => by
      rw [e0, Bg (f := fun i => Dp m (s.Chans.getD i default)) hlt' h]; rfl
    have yes : Dp m (s.Chans.getD k default) = true → J (Oi m s ((k : Int) + 1)) := fun h => next _ hlt' (Bx hI h) (Up.of rfl)
    clear next
    generalize s.Chans.getD k default = c at hsm no yes ⊢
    have hq := hsm.q
    unfold Len at hq
    have hsh : (m.Shapes.getD c.Shape.toNat default) = CN m c.Shape := rfl
    rw [hsh]
    have ecp : Dp m c = (inP m.Shapes.length c.Shape && decide ((c.Queue.length : Int) ≤ (CN m c.Shape).Room) && B3 c.Queue.length fun i => BE (CN m c.Shape).Fields (c.Queue.getD i [])) := rfl
    refine ⟨⟨by omega, by omega⟩, fun hy => ?_, fun hy => As (no ?_), fun hy => ?_⟩
    · simp at hy; omega
    · rw [ecp]
      cases hin : inP m.Shapes.length c.Shape
      · rfl
      · have := Cn.1 hin
        rw [show decide ((c.Queue.length : Int) ≤ (CN m c.Shape).Room) = false from ?_]
        · rfl
        · generalize (CN m c.Shape).Room = rm at hy ⊢
          simp at hy ⊢; omega
    have hin : 0 ≤ c.Shape ∧ c.Shape < m.Shapes.length ∧ (c.Queue.length : Int) ≤ (CN m c.Shape).Room := by
      generalize (CN m c.Shape).Room = rm at hy ⊢
      simp at hy; omega
    rw [Cn.2 ⟨hin.1, hin.2.1⟩, show decide ((c.Queue.length : Int) ≤ (CN m c.Shape).Room) = true by simpa using hin.2.2, Bool.true_and, Bool.true_and] at ecp
    rw [ecp] at no yes
    refine AI Am An c.Queue.length (fun j => Uk m s k c j) (fun j => ∀ i, i < j → BE (CN m c.Shape).Fields (c.Queue.getD i []) = true) (by kernel_rfl) (by kernel_rfl) (fun i hi => by omega) ?_
    intro j hj hI2 J2 next2
    refine A9.raw (Wl _ m s k c j J J2) ⟨fun hlt2 => ?_, fun hge2 => ?_⟩
    · have hlt2' : j < c.Queue.length := by have := AQ hlt2; omega
      have hto2 : (j : Int).toNat = j := by omega
      rw [hto2]
      refine ⟨⟨hin.1, hin.2.1⟩, ⟨by omega, by omega⟩, BE (CN m c.Shape).Fields (c.Queue.getD j []), Gj (hsm.m _ (AF hlt2')), fun hy => As (no ?_), fun hy => next2 _ hlt2' (Bx hI2 (by simpa using hy)) (Up.of ?_)⟩
      · exact Bg (f := fun i => BE (CN m c.Shape).Fields (c.Queue.getD i [])) hlt2' (by simpa using hy)
      · rw [Ap (by omega)]; rfl
    · have hge2' : c.Queue.length ≤ j := by have := AV hge2; omega
      rw [Ap (by omega)]
      exact yes (AW.2 fun i hi => hI2 i (by omega))
  have hge' : s.Chans.length ≤ k := by have := AV hge; omega
  rw [(AW (n := s.Chans.length) (f := fun i => Dp m (s.Chans.getD i default))).2 fun i hi => hI i (by omega), Bool.true_and] at e0
  clear hI next
  refine AI Am An s.Procs.length (fun k => Oh m s k) (fun k => ∀ i, i < k → BL m (s.Procs.getD i default) = true) (by kernel_rfl) (by kernel_rfl) (fun i hi => by omega) ?_
  intro k hk hI J next
  refine A9.raw (Wk _ m s k J) ⟨fun hlt => ?_, fun hge => As ?_⟩
  · have hlt' : k < s.Procs.length := by have := AQ hlt; omega
    have hto : (k : Int).toNat = k := by omega
    rw [hto]
    have hsm := hs.ps _ (AF (d := default) hlt')
    have no : BL m (s.Procs.getD k default) = false → false = b := fun h => by
      rw [e0, Bg (f := fun i => BL m (s.Procs.getD i default)) hlt' h]
    have yes : BL m (s.Procs.getD k default) = true → J (Oh m s ((k : Int) + 1)) := fun h => next _ hlt' (Bx hI h) (Up.of rfl)
    clear next
    generalize s.Procs.getD k default = p at hsm no yes ⊢
    have hpr : m.Procs.getD p.Type_.toNat default = Bo m p.Type_ := rfl
    rw [hpr]
    have ep : BL m p = (BN m p.Type_ && inP (Bo m p.Type_).Locs.length p.Loc && decide (p.Prio = (Bo m p.Type_).Prio) && BE (Bo m p.Type_).Frame p.Frame) := rfl
    refine ⟨⟨by omega, by omega⟩, fun hy => As (no ?_), fun hy => ?_⟩
    · rw [ep, show BN m p.Type_ = false from ?_]
      · rfl
      · unfold BN; rw [Bool.eq_false_iff]; intro hc; simp at hc hy; omega
    have hpp : 0 ≤ p.Type_ ∧ p.Type_ < m.Procs.length ∧ p.Type_ ≠ m.Claim := by simp at hy; omega
    rw [show BN m p.Type_ = true by unfold BN; simp; omega, Bool.true_and] at ep
    refine ⟨⟨hpp.1, hpp.2.1⟩, BE (Bo m p.Type_).Frame p.Frame, Gj hsm, ?_⟩
    have ht2 : (bif bif bif !(BE (Bo m p.Type_).Frame p.Frame) then true else decide (p.Loc < 0) then true else decide (p.Loc ≥ ((Bo m p.Type_).Locs.length : Int)) then true else p.Prio != (Bo m p.Type_).Prio) = !(BL m p) := by
      rw [ep]; unfold inP
      cases BE (Bo m p.Type_).Frame p.Frame
      · simp
      · rw [Bool.eq_iff_iff]; simp <;> omega
    rw [ht2]
    refine ⟨fun hy2 => As (no (by simpa using hy2)), fun hy2 => ?_⟩
    rw [Ap (by omega)]
    exact yes (by simpa using hy2)
  have hge' : s.Procs.length ≤ k := by have := AV hge; omega
  rw [(AW (n := s.Procs.length) (f := fun i => BL m (s.Procs.getD i default))).2 fun i hi => hI i (by omega)] at e0
  exact e0.symm
def E0 (m : D.Model) (s : D.State) : Int := bif QN m then (bif Cw m s then 0 else 41) else 40
theorem OA {m : D.Model} {s : D.State} (hw : AN m) (hs : Bl s) : Ae Tryz.prog 14 [] [.agg (Ac m), .agg (Ax s)] [] (Ad (E0 m s)) := by
  refine Ah Am An Tryz.func14 (by kernel_rfl) rfl (Qm _ m s) ⟨QN m, Qs hw, fun h => BJ ?_, fun h => ⟨Cw m s, Wj hs (N8 (YN (by simpa using h))).claim.2, fun h2 => BJ ?_, fun h2 => BJ ?_⟩⟩
  · unfold E0; rw [show QN m = false by simpa using h]; rfl
  · unfold E0; rw [show QN m = true by simpa using h, show Cw m s = false by simpa using h2]; rfl
  · unfold E0; rw [show QN m = true by simpa using h, show Cw m s = true by simpa using h2]; rfl
def Jy (e : D.Env) : Int := bif E0 e.M e.S != 0 then E0 e.M e.S else bif (bif decide (e.Pid < 0) then true else decide (e.Pid ≥ (e.S.Procs.length : Int))) then 42 else 0
theorem OC {e : D.Env} (hw : RQ e) : Ae Tryz.prog 7 [] [.agg (Af e)] [] (Ad (Jy e)) := by
  refine Ah Am An Tryz.func7 (by kernel_rfl) rfl (Qv _ e) ⟨E0 e.M e.S, OA hw.M (P7 hw.S), fun h => BJ ?_, fun h => ⟨fun h2 => BJ ?_, fun h2 => BJ ?_⟩⟩
  · unfold Jy; rw [h]; rfl
  · unfold Jy; rw [h, h2]; rfl
  · unfold Jy; rw [h, h2]; rfl
def VG (e : D.Env) : D.Proc := Bo e.M (e.S.Procs.getD e.Pid.toNat default).Type_
def YS (e : D.Env) (esc : Int) : List D.Trans :=
  bif decide (esc < 0) then ((VG e).Locs.getD (e.S.Procs.getD e.Pid.toNat default).Loc.toNat default).Out else ((VG e).Locs.getD (e.S.Procs.getD e.Pid.toNat default).Loc.toNat default).Esc.getD esc.toNat []
theorem Qd {e : D.Env} (h1 : 0 ≤ e.Pid ∧ e.Pid < e.S.Procs.length) (h2 : 0 ≤ (e.S.Procs.getD e.Pid.toNat default).Type_ ∧ (e.S.Procs.getD e.Pid.toNat default).Type_ < e.M.Procs.length) : Ae Tryz.prog 24 [] [.agg (Af e)] [] (.agg (AB (VG e))) :=
  Ah Am An Tryz.func24 (by kernel_rfl) rfl (Sw _ e) ⟨h1, h2, trivial, VV.le_refl _⟩
theorem SG {e : D.Env} {esc : Int} (h1 : 0 ≤ e.Pid ∧ e.Pid < e.S.Procs.length) (h2 : 0 ≤ (e.S.Procs.getD e.Pid.toNat default).Type_ ∧ (e.S.Procs.getD e.Pid.toNat default).Type_ < e.M.Procs.length)
    (h3 : 0 ≤ (e.S.Procs.getD e.Pid.toNat default).Loc ∧ (e.S.Procs.getD e.Pid.toNat default).Loc < (VG e).Locs.length) (h4 : 0 ≤ esc → esc < ((VG e).Locs.getD (e.S.Procs.getD e.Pid.toNat default).Loc.toNat default).Esc.length) :
    Ae Tryz.prog 12 [] [.agg (Af e), Ad esc] [] (Aq true (YS e esc)) := by
  refine Ah Am An Tryz.func12 (by kernel_rfl) rfl (Wn _ e esc) ⟨VG e, Qd h1 h2, h1, h3, fun h => ⟨trivial, ?_⟩, fun h => ?_⟩
  · unfold YS; rw [h, cond_true]; exact VV.le_refl _
  · have h0 : 0 ≤ esc := by have := of_decide_eq_false h; omega
    refine ⟨⟨h0, h4 h0⟩, trivial, ?_⟩
    unfold YS; rw [h, cond_false]; exact VV.le_refl _
end Go.Proofs.YtiaebjpcgjkhoaaGreatDoor
namespace Go.Proofs.YtiaebjpcgjkhoaaGreatDoor
open Go.RowKit
theorem Ri {xs : List Int} (hr : xs.length * 8 ≤ 140737488355328) : Ae Tryz.prog 35 [] [Aa true xs] [] (Aa true xs) := by
  refine Ae.hand ⟨_, Tryz.func35, rfl, by kernel_rfl⟩ fun w E vs hA hL _ _ hs => ?_
  obtain ⟨u1, us1, rfl, v1, hs⟩ := hs.cons_inv
  obtain rfl := hs.nil_inv
  obtain ⟨ao, cap, rfl, h1, h2, h3⟩ := V.sl_inv v1
  refine (Jz h1 h2 hr fun hp => ?_).mono ?_
  · obtain ⟨b, off, rfl, _, _, _, u, hc, hv⟩ := h3 hp
    refine ⟨_, rfl, fun i hi => ?_⟩
    have c1 := hc i 0 _ hi rfl
    have c2 := (hv i 0 _ hi rfl).sc_inv
    rw [Addr.add_lit]
    rw [c2] at c1
    simpa using c1
  · rintro e w' ⟨v', rfl, ho, hb⟩
    exact ⟨v', rfl, PF ho hA, hb⟩
def FK (l : List D.Chan) : Nat → List VV := fun i => Ar (l.getD i default)
def JQ (l : List D.Process) : Nat → List VV := fun i => Ak (l.getD i default)
def SE (l : List (List Int)) : Nat → List VV := fun i => [Aa true (l.getD i [])]
def Ce (x : D.State) (c p : VV) : List VV := [Aa true x.Globals, c, p, Ad x.Last, Ad x.Alone, Ad x.Claim]
def Rh (x : D.Env) (c p : VV) : List VV := [Aj true x.M.Globals, Aa true x.M.Init, Aw true x.M.Shapes, Aa true x.M.Chans, AA true x.M.Procs, Ad x.M.Claim, AC true x.M.Exprs, Aa true x.S.Globals, c, p, Ad x.S.Last, Ad x.S.Alone, Ad x.S.Claim, Ad x.Pid, Ai x.Timeout, Ay true x.Able]
def obC (s : D.State) : Ob := .arr true 0 s.Chans.length 2 (FK s.Chans)
def obP (s : D.State) : Ob := .arr true 0 s.Procs.length 4 (JQ s.Procs)
def hsE (e : D.Env) : List Ob := [.box (Rh e (.ow 1 0 e.S.Chans.length) (.ow 2 0 e.S.Procs.length)), obC e.S, obP e.S]
def Aaf : Shp := { α := D.State, enc := fun y => ([obC y, obP y], .agg (Ce y (.ow 0 0 y.Chans.length) (.ow 1 0 y.Procs.length))) }
def AeK : Shp := { α := D.Env × Int, enc := fun y => (hsE y.1, Ad y.2), lend := true }
def AbC : Shp := { α := D.Env × Int × Int, enc := fun y => (hsE y.1, .tup [Ad y.2.1, Ad y.2.2]), lend := true }
def AbB : Shp := { α := D.Env × ByteArray × Int, enc := fun y => (hsE y.1, .tup [Iq y.2.1, Ad y.2.2]), lend := true }
def AeJ : Shp := { α := D.State × ByteArray × Int, enc := fun y => ([], .tup [.agg (Ax y.1), Iq y.2.1, Ad y.2.2]) }
def AbD : Shp := { α := List Bool × Int, enc := fun y => ([], .tup [Ay true y.1, Ad y.2]) }
def AeG : Shp := { α := D.State, enc := fun y => ([], .agg (Ax y)) }
def AeF : Shp := { α := ByteArray, enc := fun y => ([], Iq y) }
def GQ (f : FuncId) : Shp :=
  bif Nat.beq f 19 then Aaf
  else bif Nat.beq f 22 then AbB
  else bif Nat.beq f 37 then AbC
  else bif Nat.beq f 38 || Nat.beq f 42 || Nat.beq f 43 || Nat.beq f 44 || Nat.beq f 65 then AeK
  else bif Nat.beq f 18 then AeG
  else bif Nat.beq f 9 then AeJ
  else bif Nat.beq f 13 then AbD
  else bif Nat.beq f 25 || Nat.beq f 7 then VY
  else bif Nat.beq f 12 then Aa2
  else bif Nat.beq f 6 then Aag
  else bif Nat.beq f 34 || Nat.beq f 35 then Aae
  else bif Nat.beq f 41 then AeF
  else Cd f
end Go.Proofs.YtiaebjpcgjkhoaaGreatDoor
namespace Go.Proofs.YtiaebjpcgjkhoaaGreatDoor
open Go.RowKit
section
variable {w : World} {E : AU} {m : Option Phi} {n0 : Nat}
def My (w : World) (n0 : Nat) (E : AU) : Prop := ∀ k, E.fz k → k < n0 ∨ ∃ cur t, w.heap[k]? = some (.cells cur t (0, 0)) ∧ t ≠ Di ∧ t ≠ Fc
theorem My.off {k : Nat} {cur : Array Value} {t : TypeId} (h : My w n0 E) (hk : n0 ≤ k) (hb : w.heap[k]? = some (.cells cur t (0, 0))) (ht : t = Di ∨ t = Fc) : ¬ E.fz k := by
  intro hf
  rcases h k hf with h1 | ⟨cur', t', h1, h2, h3⟩
  · omega
  · rw [hb] at h1
    simp only [Option.some.injEq, Obj.cells.injEq] at h1
    obtain ⟨_, rfl, _⟩ := h1
    exact ht.elim h2 h3
theorem UF {e : TypeId} {sz n : Nat} {a : Addr} {cap : Nat} {xs : List Value} (h : w.ownsRow n0 e sz (.slice (some a) n cap) n xs) : ∃ cur, n0 ≤ a.block ∧ w.heap[a.block]? = some (.cells cur e (0, 0)) := by
  rcases h.2 with ⟨h1, _⟩ | ⟨g, cap', cur, h1, h2, h3, _⟩
  · cases h1
  · simp only [Value.slice.injEq, Option.some.injEq] at h1
    obtain ⟨rfl, _, _⟩ := h1
    exact ⟨cur, h2, h3⟩
theorem RY {v : Value} {xs : List Int} (h : Gz w n0 v xs) (hA : My w n0 E) : V w E m (Aa true xs) v := by
  obtain ⟨ao, cap, rfl, h1, h2, h3⟩ := CH h
  refine V.sl_mk h1 h2 fun hp => ?_
  obtain ⟨g, rfl, hg, hlt, hc⟩ := h3 hp
  obtain ⟨cur, hb0, hb⟩ := UF h
  refine ⟨g, 0, rfl, hlt, hA.off hb0 hb (.inl rfl), fun i _ => rfl, fun i _ => .int .i64 (xs.getD i 0), fun i j y hi hy => ?_, fun i j y hi hy => ?_⟩
  · match j, hy with
    | 0, _ =>
      have := hc i (by omega)
      simp only [Nat.zero_add, Nat.mul_one, Nat.add_zero]
      rw [this]; simp [List.getD, hi]
    | j + 1, hy => simp at hy
  · match j, hy with
    | 0, hy => simp only [List.getElem?_cons_zero, Option.some.injEq] at hy; subst hy; exact .sc
    | j + 1, hy => simp at hy
theorem Ae6 {v : Value} {vs : List Value} {q : List (List Int)} (h : Ga w n0 v vs q) (hA : ∀ b, My w n0 (E.at b)) (hE : My w n0 E) : V w E m (BA true q) v := by
  obtain ⟨ao, cap, rfl, h1, h2, h3⟩ := CH h.row
  refine V.sl_mk h1 h2 fun hp => ?_
  obtain ⟨g, rfl, hg, hlt, hc⟩ := h3 hp
  obtain ⟨cur, hb0, hb⟩ := UF h.row
  refine ⟨g, 0, rfl, hlt, hE.off hb0 hb (.inr rfl), fun i _ => rfl, fun i _ => vs.getD i undef, fun i j y hi hy => ?_, fun i j y hi hy => ?_⟩
  · match j, hy with
    | 0, _ =>
      have := hc i (by omega)
      have hv : i < vs.length := by rw [h.len]; exact hi
      simp only [Nat.zero_add, Nat.mul_one, Nat.add_zero]
      rw [this]; simp [List.getD, hv]
    | j + 1, hy => simp at hy
  · match j, hy with
    | 0, hy =>
      simp only [List.getElem?_cons_zero, Option.some.injEq] at hy; subst hy
      have hv : i < vs.length := by rw [h.len]; exact hi
      exact RY (h.each i _ _ (by simp [List.getD, hv]) (by simp [List.getD, hi])) (hA true)
    | j + 1, hy => simp at hy
theorem EG.base {v : Value} {qs : List Value} {cs : List D.Chan} {n1 : Nat} (h : EG w n0 v qs cs) (hb : n1 ≤ n0) : EG w n1 v qs cs :=
  ⟨BV h.row hb, h.len, fun i u c h1 h2 => let ⟨vs, hq⟩ := h.each i u c h1 h2; ⟨vs, hq.base hb⟩⟩
theorem DL.base {v : Value} {fs : List Value} {ps : List D.Process} {n1 : Nat} (h : DL w n0 v fs ps) (hb : n1 ≤ n0) : DL w n1 v fs ps :=
  ⟨BV h.row hb, h.len, fun i u p h1 h2 => BV (h.each i u p h1 h2) hb, h.apart⟩
theorem Qr {e : TypeId} {sz n : Nat} {v : Value} {xs : List Value} (h : w.ownsRow n0 e sz v n xs) : v.oneCell' = true := by
  obtain ⟨_, ⟨rfl, _⟩ | ⟨g, cap, cur, rfl, _⟩⟩ := h <;> rfl
theorem Mj : ∀ {cs : List D.Chan} {qs : List Value}, (∀ u ∈ qs, u.oneCell' = true) → ∀ u ∈ D1 cs qs, u.oneCell' = true
  | [], _, _, u, h => by simp [D1] at h
  | _ :: _, [], _, u, h => by simp [D1] at h
  | c :: cs, q :: qs, hq, u, h => by
    simp only [D1, List.mem_cons] at h
    rcases h with rfl | rfl | h
    · rfl
    · exact hq _ List.mem_cons_self
    · exact Mj (fun u hu => hq u (List.mem_cons_of_mem _ hu)) u h
theorem Mi : ∀ {ps : List D.Process} {fs : List Value}, (∀ u ∈ fs, u.oneCell' = true) → ∀ u ∈ CU ps fs, u.oneCell' = true
  | [], _, _, u, h => by simp [CU] at h
  | _ :: _, [], _, u, h => by simp [CU] at h
  | c :: cs, q :: qs, hq, u, h => by
    simp only [CU, List.mem_cons] at h
    rcases h with rfl | rfl | rfl | rfl | h
    · rfl
    · rfl
    · rfl
    · exact hq _ List.mem_cons_self
    · exact Mi (fun u hu => hq u (List.mem_cons_of_mem _ hu)) u h
theorem NH {l : List Value} {k : Nat} {u : Value} (h : l[k]? = some u) : l.getD k undef = u := by simp [List.getD, h]
theorem Abe {l : List Value} {k : Nat} (h : k < l.length) : l[k]? = some (l.getD k undef) := by simp [List.getD, h]
theorem UX {α : Type} {R : Value → α → Prop} {vs : List Value} {l : List α} (hl : vs.length = l.length) (h : ∀ (i : Nat) x y, vs[i]? = some x → l[i]? = some y → R x y) {u : Value} (hu : u ∈ vs) : ∃ a, R u a := by
  obtain ⟨i, hi, rfl⟩ := List.getElem_of_mem hu
  exact ⟨l[i]'(by omega), h i _ _ (List.getElem?_eq_getElem hi) (List.getElem?_eq_getElem (by omega))⟩
theorem S9 {w0 w' : World} {s : D.State} {vg vc vp : Value} {qs fs : List Value} (hb : Below w0.heap.size w0 w') (hn : w0.heap.size ≤ n0) (hg : Gz w' n0 vg s.Globals) (hc : EG w' n0 vc qs s.Chans) (hp : DL w' n0 vp fs s.Procs) (hE : ∀ k, E.fz k → k < w0.heap.size) (_ : ∀ k, E.br k → E.fz k) :
    ∃ pls, Dt w0 E Es 0 [obC s, obP s] pls w' ∧ V w' (E.up (Ci Es 0 pls)) (some (Ci Es 0 pls)) (.agg (Ce s (.ow 0 0 s.Chans.length) (.ow 1 0 s.Procs.length))) (.agg #[vg, vc, vp, .int .i64 s.Last, .int .i64 s.Alone, .int .i64 s.Claim]) := by
  obtain ⟨hdC, c1, c2, c3⟩ := Uz hc.row (Mj fun u hu => by obtain ⟨a, vs, hq⟩ := UX (R := fun u (c : D.Chan) => ∃ vs, Ga w' n0 u vs c.Queue) hc.len hc.each hu; exact Qr hq.row)
  obtain ⟨hdP, p1, p2, p3⟩ := Uz hp.row (Mi fun u hu => by obtain ⟨a, hq⟩ := UX (R := fun u (p : D.Process) => Gz w' n0 u p.Frame) hp.len hp.each hu; exact Qr hq)
  have hφ0 : Ci Es 0 [Pl.arr 0 s.Chans.length hdC, Pl.arr 0 s.Procs.length hdP] 0 = some (.arr 0 s.Chans.length hdC) := Dh (nx := 0) (i := 0) rfl
  have hφ1 : Ci Es 0 [Pl.arr 0 s.Chans.length hdC, Pl.arr 0 s.Procs.length hdP] 1 = some (.arr 0 s.Procs.length hdP) := Dh (nx := 0) (i := 1) rfl
  have hφx : ∀ id, 2 ≤ id → Ci Es 0 [Pl.arr 0 s.Chans.length hdC, Pl.arr 0 s.Procs.length hdP] id = none := fun id h => CW (.inr (by simp; omega))
  generalize hφ : Ci Es 0 [Pl.arr 0 s.Chans.length hdC, Pl.arr 0 s.Procs.length hdP] = φ at hφ0 hφ1 hφx
  have hown : ∀ k, Own φ k → n0 ≤ k ∧ ∃ cur t, w'.heap[k]? = some (.cells cur t (0, 0)) ∧ (t = Dg ∨ t = Dw) := by
    rintro k ⟨id, hbk⟩
    obtain ⟨p, hp', hpb⟩ := AJ.1 hbk
    rcases (show id = 0 ∨ id = 1 ∨ 2 ≤ id by omega) with rfl | rfl | h
    · rw [hφ0] at hp'; obtain rfl := Option.some.inj hp'
      obtain ⟨cap, hd⟩ := hpb
      obtain ⟨_, h1, cur, h2⟩ := c2 k cap hd
      exact ⟨h1, cur, _, h2, .inl rfl⟩
    · rw [hφ1] at hp'; obtain rfl := Option.some.inj hp'
      obtain ⟨cap, hd⟩ := hpb
      obtain ⟨_, h1, cur, h2⟩ := p2 k cap hd
      exact ⟨h1, cur, _, h2, .inr rfl⟩
    · rw [hφx id h] at hp'; cases hp'
  have hty : My w' n0 (E.up φ) := by
    rintro k (hk | hk)
    · have := hE k hk; exact .inl (by omega)
    · obtain ⟨_, cur, t, h1, h2⟩ := hown k hk
      exact .inr ⟨cur, t, h1, by rcases h2 with rfl | rfl <;> decide, by rcases h2 with rfl | rfl <;> decide⟩
  have hat : ∀ {b b'}, My w' n0 (((E.up φ).at b).at b') := fun {b b'} => by cases b <;> cases b' <;> exact hty
  refine ⟨[Pl.arr 0 s.Chans.length hdC, Pl.arr 0 s.Procs.length hdP], ⟨⟨hb, fun i p k hi hk => ?_, fun i j p q k hi hj h1 h2 => ?_⟩, rfl, fun i o p ho hi => ?_⟩, ?_⟩
  · have hm : Own φ k := by
      refine ⟨i, AJ.2 ⟨p, ?_, hk⟩⟩
      rw [← hφ]
      have := Dh (φ := Es) (nx := 0) hi
      rwa [Nat.zero_add] at this
    have := (hown k hm).1; omega
  · have ty : ∀ (i : Nat) (p : Pl), [Pl.arr 0 s.Chans.length hdC, Pl.arr 0 s.Procs.length hdP][i]? = some p → PlB p k → ∃ cur, w'.heap[k]? = some (.cells cur (if i = 0 then Dg else Dw) (0, 0)) ∧ i < 2 := by
      intro i p hi hk
      match i, hi with
      | 0, hi => obtain rfl := Option.some.inj hi; obtain ⟨cap, hd⟩ := hk; obtain ⟨_, _, cur, h2⟩ := c2 k cap hd; exact ⟨cur, h2, by omega⟩
      | 1, hi => obtain rfl := Option.some.inj hi; obtain ⟨cap, hd⟩ := hk; obtain ⟨_, _, cur, h2⟩ := p2 k cap hd; exact ⟨cur, h2, by omega⟩
      | i + 2, hi => simp at hi
    obtain ⟨cu, a1, a2⟩ := ty i p hi h1
    obtain ⟨cv, b1, b2⟩ := ty j q hj h2
    rw [a1] at b1
    simp only [Option.some.injEq, Obj.cells.injEq] at b1
    have hne : Dg ≠ Dw := by decide
    rcases (show i = 0 ∨ i = 1 by omega) with rfl | rfl <;> rcases (show j = 0 ∨ j = 1 by omega) with rfl | rfl
    · rfl
    · exact absurd b1.2.1 (by simpa using hne)
    · exact absurd b1.2.1.symm (by simpa using hne)
    · rfl
  · rw [hφ]
    match i, ho, hi with
    | 0, ho, hi =>
      obtain rfl := Option.some.inj ho
      obtain rfl := Option.some.inj hi
      refine ⟨rfl, rfl, c3 E φ (FK s.Chans) (fun i _ => rfl) fun i j x hi hx => ?_⟩
      have hv : i < qs.length := by rw [hc.len]; exact hi
      obtain ⟨x0, x1⟩ := Mk hc.len hi
      match j, hx with
      | 0, hx =>
        obtain rfl := Option.some.inj hx
        rw [Nat.add_zero, NH x0]; exact .sc
      | 1, hx =>
        obtain rfl := Option.some.inj hx
        rw [NH (x1.trans (Abe hv))]
        obtain ⟨vs, hq⟩ := hc.each i (qs.getD i undef) (s.Chans.getD i default) (by simp [List.getD, hv]) (by simp [List.getD, hi])
        exact Ae6 (m := none) (E := (E.up φ).hold) hq (fun b => hat (b := true) (b' := b)) (hat (b := true) (b' := false))
      | j + 2, hx => simp [FK, Ar] at hx
    | 1, ho, hi =>
      obtain rfl := Option.some.inj ho
      obtain rfl := Option.some.inj hi
      refine ⟨rfl, rfl, p3 E φ (JQ s.Procs) (fun i _ => rfl) fun i j x hi hx => ?_⟩
      have hv : i < fs.length := by rw [hp.len]; exact hi
      obtain ⟨x0, x1, x2, x3⟩ := IJ hp.len hi
      match j, hx with
      | 0, hx =>
        obtain rfl := Option.some.inj hx
        rw [Nat.add_zero, NH x0]; exact .sc
      | 1, hx =>
        obtain rfl := Option.some.inj hx
        rw [NH x1]; exact .sc
      | 2, hx =>
        obtain rfl := Option.some.inj hx
        rw [NH x2]; exact .sc
      | 3, hx =>
        obtain rfl := Option.some.inj hx
        rw [NH (x3.trans (Abe hv))]
        exact RY (m := none) (E := (E.up φ).hold) (hp.each i (fs.getD i undef) (s.Procs.getD i default) (by simp [List.getD, hv]) (by simp [List.getD, hi])) (hat (b := true) (b' := false))
      | j + 4, hx => simp [JQ, Ak] at hx
    | i + 2, ho, hi => simp at ho
  · rw [hφ]
    refine .agg rfl fun j x hx => ?_
    match j, hx with
    | 0, hx => obtain rfl := Option.some.inj hx; exact RY hg hty
    | 1, hx => obtain rfl := Option.some.inj hx; exact .ow hφ0 (Nat.le_refl _) c1 fun _ => ⟨rfl, Nat.le_refl _⟩
    | 2, hx => obtain rfl := Option.some.inj hx; exact .ow hφ1 (Nat.le_refl _) p1 fun _ => ⟨rfl, Nat.le_refl _⟩
    | 3, hx => obtain rfl := Option.some.inj hx; exact .sc
    | 4, hx => obtain rfl := Option.some.inj hx; exact .sc
    | 5, hx => obtain rfl := Option.some.inj hx; exact .sc
    | j + 6, hx => simp [Ce] at hx
end
end Go.Proofs.YtiaebjpcgjkhoaaGreatDoor
namespace Go.Proofs.YtiaebjpcgjkhoaaGreatDoor
open Go.RowKit
theorem Lz {e : D.Env} (hw : AN e.M) (hs : Bl e.S) (x v : Int) : Ae Tryz.prog 63 [] [.agg (Bu e), Ad x, Ad v] [obC (A5 e x v).1, obP (A5 e x v).1]
    (.tup [.agg (Ce (A5 e x v).1 (.ow 0 0 (A5 e x v).1.Chans.length) (.ow 1 0 (A5 e x v).1.Procs.length)), Ad (A5 e x v).2]) := by
  refine Ae.handN ⟨_, Tryz.func63, rfl, by kernel_rfl⟩ fun w E vs hA hL hB hbr hs0 => ?_
  obtain ⟨u1, us1, rfl, v1, hs0⟩ := hs0.cons_inv
  obtain ⟨u2, us2, rfl, v2, hs0⟩ := hs0.cons_inv
  obtain ⟨u3, us3, rfl, v3, hs0⟩ := hs0.cons_inv
  obtain rfl := hs0.nil_inv
  obtain rfl := v2.sc_inv
  obtain rfl := v3.sc_inv
  have v1' := Lu w E u1 v1 (fun _ => False)
  obtain ⟨c0, c1, c2, c3, c4, c6, c7, c8, c9, c15, rfl, hat⟩ := AaP v1'
  refine (VO hw hs hL hB v1' hat).mono ?_
  rintro r w' ⟨vs, rfl, hv, hb⟩
  obtain ⟨vg, vc, vp, qs, fs, rfl, h1, h2, h3⟩ := hv
  obtain ⟨pls, hn, hV⟩ := S9 hb (Nat.le_refl _) h1 h2 h3 hA hbr
  exact ⟨_, pls, rfl, hn, RX hV .sc⟩
end Go.Proofs.YtiaebjpcgjkhoaaGreatDoor
namespace Go.Proofs.YtiaebjpcgjkhoaaGreatDoor
open Go.RowKit
def Ei : Ann := { keep := fun
  | [0, 1, 0, 1, 1, 1, 1] => [1, 2, 3, 19, 20, 21]
  | [0, 1, 0, 1, 1, 0, 0, 1, 1, 0, 0, 1, 0, 1, 1, 1, 1] => [1, 2, 3, 5, 6, 19, 20, 21, 26, 27, 28]
  | [0, 1, 0, 1, 1, 1, 1, 1] => [2, 3, 49, 50, 51]
  | _ => [] }
def H3 : Ann := { keep := fun
  | [0, 1, 0, 1, 1, 1] => [2, 3, 7, 21, 22]
  | _ => [] }
def Ab9 : Ann := { base := 3, keep := fun _ => [] }
def IS : Ann := { cut := (fun | [1, 1, 1, 1] => true | _ => false), keep := fun
  | [1, 1, 1, 1] => [1, 2, 3]
  | _ => [] }
def Aac (m : D.Model) (s : D.State) (e : D.Env) : St := Ao [(1, .bp 0 0), (2, .bp 4 0), (3, .bp 6 0)] [.box (Ac m), .gone 1, .gone 1, .gone 1, .box (Ax s), .gone 1, .box (Af e)]
def T8 (m : D.Model) (s : D.State) (l : List Bool) (k : Int) : St := Ao [(2, .bp 0 0), (3, .bp 1 0), (7, .ow 2 0 l.length), (21, Ad s.Procs.length), (22, Ad k)] [.box (Ac m), .box (Ax s), .arr true 0 l.length 1 (DV l)]
def MP : List VV := [.nl, .nl, .nl, Ad 0, Ad 0, Ad 0]
def Us (s : D.State) (cs : List D.Chan) (k : Int) : St := Ao [(1, .bp 0 0), (2, .bp 1 0), (3, .bp 2 0), (19, Br true s.Chans), (20, Ad s.Chans.length), (21, Ad k)] [.box (Ax s), .box MP, .box (Ce s (.ow 3 0 cs.length) .nl), .arr true 0 cs.length 2 (FK cs)]
def Uq (s : D.State) (cs : List D.Chan) (ps : List D.Process) (k : Int) : St := Ao [(2, .bp 0 0), (3, .bp 1 0), (49, A1 true s.Procs), (50, Ad s.Procs.length), (51, Ad k)] [.box MP, .box (Ce s (.ow 2 0 cs.length) (.ow 3 0 ps.length)), .arr true 0 cs.length 2 (FK cs), .arr true 0 ps.length 4 (JQ ps)]
def KN (e : D.Env) (up : Bool) (l : List Wy) (i : Int) : St := Ao [(1, .bp 0 0), (3, Ai up), (5, Bf true l), (7, Ad i)] [.box (Af e)]
def Ur (s : D.State) (cs : List D.Chan) (k : Int) (c : D.Chan) (q : List (List Int)) (j : Int) : St := Ao [(1, .bp 0 0), (2, .bp 1 0), (3, .bp 2 0), (5, .bp 4 0), (6, .ow 5 0 q.length), (19, Br true s.Chans), (20, Ad s.Chans.length), (21, Ad k), (26, BA true c.Queue), (27, Ad c.Queue.length), (28, Ad j)] [.box (Ax s), .box MP, .box (Ce s (.ow 3 0 cs.length) .nl), .arr true 0 cs.length 2 (FK cs), .box (Ar c), .arr true 0 q.length 1 (SE q)]
end Go.Proofs.YtiaebjpcgjkhoaaGreatDoor
namespace Go.Proofs.YtiaebjpcgjkhoaaGreatDoor
open Go.RowKit
set_option maxRecDepth 100000
theorem Vl (hs' : List Ob) (r : VV) (s : D.State) : (Ag Tryz.prog tb GQ Ei false Tryz.f19 hs' (r)).goal (St.init [] [.agg (Ax s)]) =
    (∃ (y : List Int), Ae Tryz.prog 34 [] [Aa true s.Globals] [] (Aa true y) ∧ AH (Ag Tryz.prog tb GQ Ei false Tryz.f19 hs' r) [1, 1, 1, 1, 0, 1, 0] (Ao [(1, VV.bp 0 0), (2, VV.bp 1 0), (3, VV.bp 2 0), (19, Br true s.Chans), (20, Ad (↑s.Chans.length : Int)), (21, Ad (0 : Int))] [Ob.box (Ax s), Ob.box [VV.nl, VV.nl, VV.nl, Ad (0 : Int), Ad (0 : Int), Ad (0 : Int)], Ob.box [Aa true y, VV.nl, VV.nl, Ad s.Last, Ad s.Alone, Ad s.Claim]])) := by kernel_rfl
theorem NX (r : D.State × ByteArray × Int) (e : D.Env) (w : Wy) : (Ag Tryz.prog tb GQ Bd true Tryz.f9 [] (.tup [.agg (Ax r.1), Iq r.2.1, Ad r.2.2])).goal (St.init [] [.agg (Af e), .agg (AX w)]) =
    (∃ (y : Int), Ae Tryz.prog 15 [] [VV.agg (Af e)] [] (Ad y) ∧ ((y != (0 : Int)) = true → leO [] [] ∧ (VV.tup [VV.agg [VV.nl, VV.nl, VV.nl, Ad (0 : Int), Ad (0 : Int), Ad (0 : Int)], Iq (⟨#[]⟩ : ByteArray), Ad y]).le (VV.tup [VV.agg (Ax r.fst), Iq r.snd.fst, Ad r.snd.snd])) ∧ ((y != (0 : Int)) = false → ∃ (y : List Wy), Ae Tryz.prog 16 [] [VV.agg (Af e)] [] (Bf true y) ∧ ∃ (y_1 : Bool), Ae Tryz.prog 17 [] [Bf true y, VV.agg (AX w)] [] (Ai y_1) ∧ ((!y_1) = true → leO [] [] ∧ (VV.tup [VV.agg [VV.nl, VV.nl, VV.nl, Ad (0 : Int), Ad (0 : Int), Ad (0 : Int)], Iq (⟨#[]⟩ : ByteArray), Ad (42 : Int)]).le (VV.tup [VV.agg (Ax r.fst), Iq r.snd.fst, Ad r.snd.snd])) ∧ ((!y_1) = false → ((w.Err != (0 : Int)) = true → leO [] [] ∧ (VV.tup [VV.agg [VV.nl, VV.nl, VV.nl, Ad (0 : Int), Ad (0 : Int), Ad (0 : Int)], Iq (⟨#[]⟩ : ByteArray), Ad w.Err]).le (VV.tup [VV.agg (Ax r.fst), Iq r.snd.fst, Ad r.snd.snd])) ∧ ((w.Err != (0 : Int)) = false → (decide (w.Way < (0 : Int)) = true → ∃ (y : D.State), Ae Tryz.prog 18 [] [VV.agg (Af e)] [] (VV.agg (Ax y)) ∧ leO [] [] ∧ (VV.tup [VV.agg (Ax y), Iq (⟨#[]⟩ : ByteArray), Ad (0 : Int)]).le (VV.tup [VV.agg (Ax r.fst), Iq r.snd.fst, Ad r.snd.snd])) ∧ (decide (w.Way < (0 : Int)) = false → ∃ (y : D.State), Ae Tryz.prog 19 [] [VV.agg (Ax e.S)] [Ob.arr true 0 y.Chans.length 2 fun (i : Nat) => Ar (y.Chans.getD i default), Ob.arr true 0 y.Procs.length 4 fun (i : Nat) => Ak (y.Procs.getD i default)] (VV.agg [Aa true y.Globals, VV.ow 0 0 y.Chans.length, VV.ow 1 0 y.Procs.length, Ad y.Last, Ad y.Alone, Ad y.Claim]) ∧ ∃ (y_2 : D.Loc), Ae Tryz.prog 21 [] [VV.agg (Af e)] [] (VV.agg (AY y_2)) ∧ ∃ (y_3 : D.Trans), Ae Tryz.prog 20 [] [VV.agg (AY y_2), Ad w.Esc, Ad w.Way] [] (VV.agg (Cs y_3)) ∧ ∃ (y_4 : D.Env × ByteArray × Int), Ae Tryz.prog 22 [Ob.box [Aj true e.M.Globals, Aa true e.M.Init, Aw true e.M.Shapes, Aa true e.M.Chans, AA true e.M.Procs, Ad e.M.Claim, AC true e.M.Exprs, Aa true y.Globals, VV.ow 1 0 y.Chans.length, VV.ow 2 0 y.Procs.length, Ad y.Last, Ad y.Alone, Ad y.Claim, Ad e.Pid, Ai e.Timeout, Ay true e.Able], Ob.arr true 0 y.Chans.length 2 fun (i : Nat) => Ar (y.Chans.getD i default), Ob.arr true 0 y.Procs.length 4 fun (i : Nat) => Ak (y.Procs.getD i default)] [VV.bp 0 0, VV.agg (Av y_3.S), VV.agg (AX w)] (hsE y_4.fst) (VV.tup [Iq y_4.snd.fst, Ad y_4.snd.snd]) ∧ ((y_4.snd.snd != (0 : Int)) = true → leO [] [] ∧ (VV.tup [VV.agg [VV.nl, VV.nl, VV.nl, Ad (0 : Int), Ad (0 : Int), Ad (0 : Int)], Iq (⟨#[]⟩ : ByteArray), Ad y_4.snd.snd]).le (VV.tup [VV.agg (Ax r.fst), Iq r.snd.fst, Ad r.snd.snd])) ∧ ((y_4.snd.snd != (0 : Int)) = false → (decide (w.With ≥ (0 : Int)) = true → ∃ (y : D.Loc), Ae Tryz.prog 21 [] [VV.agg [Aj true e.M.Globals, Aa true e.M.Init, Aw true e.M.Shapes, Aa true e.M.Chans, AA true e.M.Procs, Ad e.M.Claim, AC true e.M.Exprs, Aa true e.S.Globals, Br true e.S.Chans, A1 true e.S.Procs, Ad e.S.Last, Ad e.S.Alone, Ad e.S.Claim, Ad w.With, Ai e.Timeout, Ay true e.Able]] [] (VV.agg (AY y)) ∧ ∃ (y_5 : D.Trans), Ae Tryz.prog 20 [] [VV.agg (AY y), Ad w.WithEsc, Ad w.WithWay] [] (VV.agg (Cs y_5)) ∧ ((0 : Int) ≤ w.With ∧ w.With < (↑y_4.fst.S.Procs.length : Int)) ∧ ((0 : Int) ≤ e.Pid ∧ e.Pid < (↑y_4.fst.S.Procs.length : Int)) ∧ leO [] [] ∧ (VV.tup [VV.agg [Aa true y_4.fst.S.Globals, Br true y_4.fst.S.Chans, VV.sl true y_4.fst.S.Procs.length 4 fun (j : Nat) => bif j.beq e.Pid.toNat then bif Nat.beq 1 4 then [Ad y_3.To] else List.take 1 ((fun (j : Nat) => bif j.beq w.With.toNat then [Ad (y_4.fst.S.Procs.getD w.With.toNat default).Type_, Ad y_5.To, Ad (y_4.fst.S.Procs.getD w.With.toNat default).Prio, Aa true (y_4.fst.S.Procs.getD w.With.toNat default).Frame] else [Ad (y_4.fst.S.Procs.getD j default).Type_, Ad (y_4.fst.S.Procs.getD j default).Loc, Ad (y_4.fst.S.Procs.getD j default).Prio, Aa true (y_4.fst.S.Procs.getD j default).Frame]) e.Pid.toNat) ++ [Ad y_3.To] ++ List.drop 2 ((fun (j : Nat) => bif j.beq w.With.toNat then [Ad (y_4.fst.S.Procs.getD w.With.toNat default).Type_, Ad y_5.To, Ad (y_4.fst.S.Procs.getD w.With.toNat default).Prio, Aa true (y_4.fst.S.Procs.getD w.With.toNat default).Frame] else [Ad (y_4.fst.S.Procs.getD j default).Type_, Ad (y_4.fst.S.Procs.getD j default).Loc, Ad (y_4.fst.S.Procs.getD j default).Prio, Aa true (y_4.fst.S.Procs.getD j default).Frame]) e.Pid.toNat) else (fun (j : Nat) => bif j.beq w.With.toNat then [Ad (y_4.fst.S.Procs.getD w.With.toNat default).Type_, Ad y_5.To, Ad (y_4.fst.S.Procs.getD w.With.toNat default).Prio, Aa true (y_4.fst.S.Procs.getD w.With.toNat default).Frame] else [Ad (y_4.fst.S.Procs.getD j default).Type_, Ad (y_4.fst.S.Procs.getD j default).Loc, Ad (y_4.fst.S.Procs.getD j default).Prio, Aa true (y_4.fst.S.Procs.getD j default).Frame]) j, Ad e.Pid, Ad y_4.fst.S.Alone, Ad y_4.fst.S.Claim], Iq y_4.snd.fst, Ad (0 : Int)]).le (VV.tup [VV.agg (Ax r.fst), Iq r.snd.fst, Ad r.snd.snd])) ∧ (decide (w.With ≥ (0 : Int)) = false → ((0 : Int) ≤ e.Pid ∧ e.Pid < (↑y_4.fst.S.Procs.length : Int)) ∧ leO [] [] ∧ (VV.tup [VV.agg [Aa true y_4.fst.S.Globals, Br true y_4.fst.S.Chans, VV.sl true y_4.fst.S.Procs.length 4 fun (j : Nat) => bif j.beq e.Pid.toNat then [Ad (y_4.fst.S.Procs.getD e.Pid.toNat default).Type_, Ad y_3.To, Ad (y_4.fst.S.Procs.getD e.Pid.toNat default).Prio, Aa true (y_4.fst.S.Procs.getD e.Pid.toNat default).Frame] else [Ad (y_4.fst.S.Procs.getD j default).Type_, Ad (y_4.fst.S.Procs.getD j default).Loc, Ad (y_4.fst.S.Procs.getD j default).Prio, Aa true (y_4.fst.S.Procs.getD j default).Frame], Ad e.Pid, Ad y_4.fst.S.Alone, Ad y_4.fst.S.Claim], Iq y_4.snd.fst, Ad (0 : Int)]).le (VV.tup [VV.agg (Ax r.fst), Iq r.snd.fst, Ad r.snd.snd])))))))) := by kernel_rfl
theorem Vs (l : List Bool) (r : Int) (m : D.Model) (s : D.State) : (Ag Tryz.prog tb GQ H3 true Tryz.f13 [] (.tup [Ay true l, Ad r])).goal (St.init [] [.agg (Ac m), .agg (Ax s)]) =
    (∃ (y : Int), Ae Tryz.prog 25 [] [VV.agg (Ac m), VV.agg (Ax s)] [] (Ad y) ∧ ((y != (0 : Int)) = true → leO [] [] ∧ (VV.tup [VV.nl, Ad y]).le (VV.tup [Ay true l, Ad r])) ∧ ((y != (0 : Int)) = false → ((0 : Int) ≤ (↑s.Procs.length : Int) ∧ (↑s.Procs.length : Int) ≤ (↑s.Procs.length : Int) ∧ (↑s.Procs.length : Int) * (↑1 : Int) ≤ (140737488355328 : Int)) ∧ AH (Ag Tryz.prog tb GQ H3 true Tryz.f13 [] (VV.tup [Ay true l, Ad r])) [1, 1, 1, 0, 1, 0] (Ao [(2, VV.bp 0 0), (3, VV.bp 1 0), (7, VV.ow 2 0 (↑s.Procs.length : Int).toNat), (21, Ad (↑s.Procs.length : Int)), (22, Ad (0 : Int))] [Ob.box (Ac m), Ob.box (Ax s), Ob.arr true 0 (↑s.Procs.length : Int).toNat 1 fun (_ : Nat) => ((Ag Tryz.prog tb GQ H3 true Tryz.f13 [] (VV.tup [Ay true l, Ad r])).T (4 : TypeId)).zero]))) := by kernel_rfl
theorem Tc (b : Bool) : (Ag Tryz.prog tb GQ IS true Tryz.f6 [] (Ai b)).goal (St.init [] []) =
    (AH (Ag Tryz.prog tb GQ IS true Tryz.f6 [] (Ai b)) [1, 1, 1, 1] (Ao [(1, VV.bp 0 0), (2, VV.bp 4 0), (3, VV.bp 6 0)] [Ob.box [VV.nl, VV.nl, VV.nl, VV.nl, VV.ow 1 0 1, Ad (-1 : Int), VV.nl], Ob.arr false 0 1 10 (Qq [[Iq ByteArray.empty, Ad (0 : Int), VV.nl, VV.nl, VV.ow 2 0 2, Ad (0 : Int), Ad (1 : Int), Ad (1 : Int), Ad (1 : Int), Ad (-1 : Int)]]), Ob.arr false 0 2 7 (Qq [[VV.ow 3 0 1, VV.nl, Ai false, Ai false, Ai false, Ai false, Ai false], [VV.nl, VV.nl, Ai false, Ai false, Ai false, Ai false, Ai false]]), Ob.arr true 0 1 9 fun (i : Nat) => List.take 9 (List.drop (i * 9) [Ad (8 : Int), Ad (-1 : Int), Ad (-1 : Int), Ad (0 : Int), VV.nl, VV.nl, Iq ByteArray.empty, Ad (1 : Int), Ad (0 : Int)]), Ob.box [VV.nl, VV.nl, VV.ow 5 0 1, Ad (0 : Int), Ad (-1 : Int), Ad (-1 : Int)], Ob.arr true 0 1 4 fun (i : Nat) => List.take 4 (List.drop (i * 4) [Ad (0 : Int), Ad (0 : Int), Ad (1 : Int), VV.nl]), Ob.box [VV.nl, VV.nl, VV.nl, VV.nl, VV.ow 1 0 1, Ad (-1 : Int), VV.nl, VV.nl, VV.nl, VV.ow 5 0 1, Ad (0 : Int), Ad (-1 : Int), Ad (-1 : Int), Ad (0 : Int), Ai false, VV.nl]])) := by kernel_rfl
theorem MU (y : D.Env) (t : ByteArray) (r : Int) (e : D.Env) (s : D.Stmt) (w : Wy) : (Ag Tryz.prog tb GQ Ab9 false Tryz.f22 (hsE y) (.tup [Iq t, Ad r])).goal (St.init (hsE e) [.bp 0 0, .agg (Av s), .agg (AX w)]) =
    (((s.Kind == 1) = true → ∃ (y_1 : Bool), Ae Tryz.prog 36 [] [VV.agg (Ac e.M), Ad s.A] [] (Ai y_1) ∧ (y_1 = true → ∃ (y_2 : D.Env × Int × Int), Ae Tryz.prog 37 (hsE e) [VV.bp 0 0, Ad s.A] (hsE y_2.fst) (VV.tup [Ad y_2.snd.fst, Ad y_2.snd.snd]) ∧ leO (hsE y_2.fst) (hsE y) ∧ (VV.tup [Iq (⟨#[]⟩ : ByteArray), Ad y_2.snd.snd]).le (VV.tup [Iq t, Ad r])) ∧ (y_1 = false → leO (hsE e) (hsE y) ∧ (VV.tup [Iq (⟨#[]⟩ : ByteArray), Ad (0 : Int)]).le (VV.tup [Iq t, Ad r]))) ∧ ((s.Kind == 1) = false → ((s.Kind == 2) = true → ∃ (y_1 : D.Env × Int), Ae Tryz.prog 38 (hsE e) [VV.bp 0 0, VV.agg (Av s)] (hsE y_1.fst) (Ad y_1.snd) ∧ leO (hsE y_1.fst) (hsE y) ∧ (VV.tup [Iq (⟨#[]⟩ : ByteArray), Ad y_1.snd]).le (VV.tup [Iq t, Ad r])) ∧ ((s.Kind == 2) = false → ((s.Kind == 3) = true → ∃ (y_1 : Int × Int), Ae Tryz.prog 39 [] [VV.agg (Bu e), Ad s.A] [] (VV.tup [Ad y_1.fst, Ad y_1.snd]) ∧ ((bif y_1.snd == 0 then y_1.fst == 0 else false) = true → leO (hsE e) (hsE y) ∧ (VV.tup [Iq (⟨#[]⟩ : ByteArray), Ad (50 : Int)]).le (VV.tup [Iq t, Ad r])) ∧ ((bif y_1.snd == 0 then y_1.fst == 0 else false) = false → leO (hsE e) (hsE y) ∧ (VV.tup [Iq (⟨#[]⟩ : ByteArray), Ad y_1.snd]).le (VV.tup [Iq t, Ad r]))) ∧ ((s.Kind == 3) = false → ((s.Kind == 4) = true → ∃ (y_1 : List Int × Int), Ae Tryz.prog 40 [] [VV.agg (Bu e), Aa true s.Args] [Ob.arr true 0 y_1.fst.length 1 fun (i : Nat) => [Ad (y_1.fst.getD i (0 : Int))]] (VV.tup [VV.ow 0 0 y_1.fst.length, Ad y_1.snd]) ∧ ((y_1.snd != (0 : Int)) = true → leO (hsE e) (hsE y) ∧ (VV.tup [Iq (⟨#[]⟩ : ByteArray), Ad y_1.snd]).le (VV.tup [Iq t, Ad r])) ∧ ((y_1.snd != (0 : Int)) = false → ∃ (y_2 : ByteArray), Ae Tryz.prog 41 [] [Iq s.Text, Aa false y_1.fst] [] (Iq y_2) ∧ leO (hsE e) (hsE y) ∧ (VV.tup [Iq y_2, Ad (0 : Int)]).le (VV.tup [Iq t, Ad r]))) ∧ ((s.Kind == 4) = false → ((s.Kind == 9) = true → (e.S.Chans.length + 1) * 32 ≤ 140737488355328 ∧ ∃ (y_1 : D.Env × Int), Ae Tryz.prog 42 [Ob.box [Aj true e.M.Globals, Aa true e.M.Init, Aw true e.M.Shapes, Aa true e.M.Chans, AA true e.M.Procs, Ad e.M.Claim, AC true e.M.Exprs, Aa true e.S.Globals, VV.ow 1 0 (e.S.Chans.length + 1), VV.ow 2 0 e.S.Procs.length, Ad e.S.Last, Ad e.S.Alone, Ad e.S.Claim, Ad e.Pid, Ai e.Timeout, Ay true e.Able], Ob.arr true 0 (e.S.Chans.length + 1) 2 fun (i : Nat) => bif i.blt e.S.Chans.length then [Ad (e.S.Chans.getD i default).Shape, BA true (e.S.Chans.getD i default).Queue] else (fun (i : Nat) => List.take 2 (List.drop (i * 2) [Ad s.N, VV.nl])) (i - e.S.Chans.length), Ob.arr true 0 e.S.Procs.length 4 fun (i : Nat) => Ak (e.S.Procs.getD i default)] [VV.bp 0 0, Ad s.A, Ad (↑(e.S.Chans.length + 1) : Int)] (hsE y_1.fst) (Ad y_1.snd) ∧ leO (hsE y_1.fst) (hsE y) ∧ (VV.tup [Iq (⟨#[]⟩ : ByteArray), Ad y_1.snd]).le (VV.tup [Iq t, Ad r])) ∧ ((s.Kind == 9) = false → ((s.Kind == 5) = true → ∃ (y_1 : D.Env × Int), Ae Tryz.prog 43 (hsE e) [VV.bp 0 0, VV.agg (Av s), VV.agg (AX w)] (hsE y_1.fst) (Ad y_1.snd) ∧ leO (hsE y_1.fst) (hsE y) ∧ (VV.tup [Iq (⟨#[]⟩ : ByteArray), Ad y_1.snd]).le (VV.tup [Iq t, Ad r])) ∧ ((s.Kind == 5) = false → ((s.Kind == 6) = true → ∃ (y_1 : D.Env × Int), Ae Tryz.prog 44 (hsE e) [VV.bp 0 0, VV.agg (Av s)] (hsE y_1.fst) (Ad y_1.snd) ∧ leO (hsE y_1.fst) (hsE y) ∧ (VV.tup [Iq (⟨#[]⟩ : ByteArray), Ad y_1.snd]).le (VV.tup [Iq t, Ad r])) ∧ ((s.Kind == 6) = false → leO (hsE e) (hsE y) ∧ (VV.tup [Iq (⟨#[]⟩ : ByteArray), Ad (0 : Int)]).le (VV.tup [Iq t, Ad r]))))))))) := by kernel_rfl
theorem QQ (b : Bool) (m : D.Model) (s : D.State) (e : D.Env) : ((Ag Tryz.prog tb GQ IS true Tryz.f6 [] (Ai b)).cut [1, 1, 1, 1]).goal (Aac m s e) =
    (∃ (y : List Wy × Int), Ae Tryz.prog 8 [] [VV.agg (Af e)] [] (VV.tup [Bf true y.fst, Ad y.snd]) ∧ (((↑y.fst.length : Int) != (1 : Int)) = true → leO [] [] ∧ (Ai false).le (Ai b)) ∧ (((↑y.fst.length : Int) != (1 : Int)) = false → ((0 : Int) ≤ (0 : Int) ∧ (0 : Int) < (↑y.fst.length : Int)) ∧ ∃ (y_1 : D.State × ByteArray × Int), Ae Tryz.prog 9 [] [VV.agg (Af e), VV.agg (AX (y.fst.getD (Int.toNat (0 : Int)) default))] [] (VV.tup [VV.agg (Ax y_1.fst), Iq y_1.snd.fst, Ad y_1.snd.snd]) ∧ (((↑y_1.fst.Procs.length : Int) != (1 : Int)) = true → leO [] [] ∧ (Ai false).le (Ai b)) ∧ (((↑y_1.fst.Procs.length : Int) != (1 : Int)) = false → ∃ (y_2 : List Bool × Int), Ae Tryz.prog 13 [] [VV.agg (Ac m), VV.agg (Ax s)] [] (VV.tup [Ay true y_2.fst, Ad y_2.snd]) ∧ ∃ (y_3 : D.State × ByteArray × Int), Ae Tryz.prog 9 [] [VV.agg (Af e), VV.agg [Ad (0 : Int), Ad (0 : Int), Ad (0 : Int), Ad (0 : Int), Ad (0 : Int), Ad (0 : Int)]] [] (VV.tup [VV.agg (Ax y_3.fst), Iq y_3.snd.fst, Ad y_3.snd.snd]) ∧ ((true && (y.snd == 0) == true) = true → (0 : Int) ≤ (0 : Int) ∧ (0 : Int) < (↑y.fst.length : Int)) ∧ ((true && (bif bif y.snd == 0 then (y.fst.getD (Int.toNat (0 : Int)) default).Esc == (-1 : Int) && ((y.fst.getD (Int.toNat (0 : Int)) default).Way == 0 && ((y.fst.getD (Int.toNat (0 : Int)) default).With == (-1 : Int) && ((y.fst.getD (Int.toNat (0 : Int)) default).WithEsc == (-1 : Int) && ((y.fst.getD (Int.toNat (0 : Int)) default).WithWay == (-1 : Int) && ((y.fst.getD (Int.toNat (0 : Int)) default).Err == 0 && true))))) else false then y_1.snd.snd == 0 else false) == true) = true → (0 : Int) ≤ (0 : Int) ∧ (0 : Int) < (↑y_1.fst.Procs.length : Int)) ∧ ((true && (bif bif bif bif bif y.snd == 0 then (y.fst.getD (Int.toNat (0 : Int)) default).Esc == (-1 : Int) && ((y.fst.getD (Int.toNat (0 : Int)) default).Way == 0 && ((y.fst.getD (Int.toNat (0 : Int)) default).With == (-1 : Int) && ((y.fst.getD (Int.toNat (0 : Int)) default).WithEsc == (-1 : Int) && ((y.fst.getD (Int.toNat (0 : Int)) default).WithWay == (-1 : Int) && ((y.fst.getD (Int.toNat (0 : Int)) default).Err == 0 && true))))) else false then y_1.snd.snd == 0 else false then (y_1.fst.Procs.getD (Int.toNat (0 : Int)) default).Loc == 1 else false then y_2.snd == 0 else false then (↑y_2.fst.length : Int) == 1 else false) == true) = true → (0 : Int) ≤ (0 : Int) ∧ (0 : Int) < (↑y_2.fst.length : Int)) ∧ leO [] [] ∧ (Ai (bif bif bif bif bif bif bif y.snd == 0 then (y.fst.getD (Int.toNat (0 : Int)) default).Esc == (-1 : Int) && ((y.fst.getD (Int.toNat (0 : Int)) default).Way == 0 && ((y.fst.getD (Int.toNat (0 : Int)) default).With == (-1 : Int) && ((y.fst.getD (Int.toNat (0 : Int)) default).WithEsc == (-1 : Int) && ((y.fst.getD (Int.toNat (0 : Int)) default).WithWay == (-1 : Int) && ((y.fst.getD (Int.toNat (0 : Int)) default).Err == 0 && true))))) else false then y_1.snd.snd == 0 else false then (y_1.fst.Procs.getD (Int.toNat (0 : Int)) default).Loc == 1 else false then y_2.snd == 0 else false then (↑y_2.fst.length : Int) == 1 else false then y_2.fst.getD (Int.toNat (0 : Int)) false else false then y_3.snd.snd == 42 else false)).le (Ai b)))) := by kernel_rfl
theorem RP (l : List Bool) (r : Int) (m : D.Model) (s : D.State) (l' : List Bool) (k : Int) (J : St → Prop) : ((Ag Tryz.prog tb GQ H3 true Tryz.f13 [] (.tup [Ay true l, Ad r])).loop [1, 1, 1, 0, 1, 0] J).goal (T8 m s l' k) =
    ((decide (k < (↑s.Procs.length : Int)) = true → ∃ (y : List Wy), Ae Tryz.prog 16 [] [VV.agg [Aj true m.Globals, Aa true m.Init, Aw true m.Shapes, Aa true m.Chans, AA true m.Procs, Ad m.Claim, AC true m.Exprs, Aa true s.Globals, Br true s.Chans, A1 true s.Procs, Ad s.Last, Ad s.Alone, Ad s.Claim, Ad k, Ai false, VV.nl]] [] (Bf true y) ∧ ((0 : Int) ≤ k ∧ k < (↑l'.length : Int)) ∧ J (Ao [(2, VV.bp 0 0), (3, VV.bp 1 0), (7, VV.ow 2 0 l'.length), (21, Ad (↑s.Procs.length : Int)), (22, Ad (IntKind.i64.wrap (k + (1 : Int))))] [Ob.box (Ac m), Ob.box (Ax s), Ob.arr true 0 l'.length 1 fun (j : Nat) => bif j.beq k.toNat then [Ai (decide ((↑y.length : Int) > (0 : Int)))] else [Ai (l'.getD j false)]])) ∧ (decide (k < (↑s.Procs.length : Int)) = false → leO [] [] ∧ (VV.tup [Ay true l', Ad (0 : Int)]).le (VV.tup [Ay true l, Ad r]))) := by kernel_rfl
theorem RM (hs' : List Ob) (r : VV) (s : D.State) (cs : List D.Chan) (k : Int) (J : St → Prop) : ((Ag Tryz.prog tb GQ Ei false Tryz.f19 hs' (r)).loop [1, 1, 1, 1, 0, 1, 0] J).goal (Us s cs k) =
    ((decide (k < (↑s.Chans.length : Int)) = true → ((0 : Int) ≤ k ∧ k < (↑s.Chans.length : Int)) ∧ AH ((Ag Tryz.prog tb GQ Ei false Tryz.f19 hs' r).loop [1, 1, 1, 1, 0, 1, 0] J) [1, 1, 0, 0, 1, 1, 0, 1, 0] (Ao [(1, VV.bp 0 0), (2, VV.bp 1 0), (3, VV.bp 2 0), (5, VV.bp 4 0), (6, VV.nl), (19, Br true s.Chans), (20, Ad (↑s.Chans.length : Int)), (21, Ad k), (26, BA true (s.Chans.getD k.toNat default).Queue), (27, Ad (↑(s.Chans.getD k.toNat default).Queue.length : Int)), (28, Ad (0 : Int))] [Ob.box (Ax s), Ob.box [VV.nl, VV.nl, VV.nl, Ad (0 : Int), Ad (0 : Int), Ad (0 : Int)], Ob.box [Aa true s.Globals, VV.ow 3 0 cs.length, VV.nl, Ad s.Last, Ad s.Alone, Ad s.Claim], Ob.arr true 0 cs.length 2 fun (i : Nat) => Ar (cs.getD i default), Ob.box (Ar (s.Chans.getD k.toNat default))])) ∧ (decide (k < (↑s.Chans.length : Int)) = false → AH (Ag Tryz.prog tb GQ Ei false Tryz.f19 hs' r) [1, 1, 1, 1, 1, 0, 1, 0] (Ao [(2, VV.bp 0 0), (3, VV.bp 1 0), (49, A1 true s.Procs), (50, Ad (↑s.Procs.length : Int)), (51, Ad (0 : Int))] [Ob.box [VV.nl, VV.nl, VV.nl, Ad (0 : Int), Ad (0 : Int), Ad (0 : Int)], Ob.box [Aa true s.Globals, VV.ow 2 0 cs.length, VV.nl, Ad s.Last, Ad s.Alone, Ad s.Claim], Ob.arr true 0 cs.length 2 fun (i : Nat) => Ar (cs.getD i default)]))) := by kernel_rfl
theorem RK (hs' : List Ob) (r : VV) (s : D.State) (cs : List D.Chan) (ps : List D.Process) (k : Int) (J : St → Prop) : ((Ag Tryz.prog tb GQ Ei false Tryz.f19 hs' (r)).loop [1, 1, 1, 1, 1, 0, 1, 0] J).goal (Uq s cs ps k) =
    ((decide (k < (↑s.Procs.length : Int)) = true → ((0 : Int) ≤ k ∧ k < (↑s.Procs.length : Int)) ∧ ∃ (y : List Int), Ae Tryz.prog 34 [] [Aa true (s.Procs.getD k.toNat default).Frame] [] (Aa true y) ∧ (ps.length + 1) * 48 ≤ 140737488355328 ∧ J (Ao [(2, VV.bp 0 0), (3, VV.bp 1 0), (49, A1 true s.Procs), (50, Ad (↑s.Procs.length : Int)), (51, Ad (IntKind.i64.wrap (k + (1 : Int))))] [Ob.box [VV.nl, VV.nl, VV.nl, Ad (0 : Int), Ad (0 : Int), Ad (0 : Int)], Ob.box [Aa true s.Globals, VV.ow 2 0 cs.length, VV.ow 3 0 (ps.length + 1), Ad s.Last, Ad s.Alone, Ad s.Claim], Ob.arr true 0 cs.length 2 fun (i : Nat) => Ar (cs.getD i default), Ob.arr true 0 (ps.length + 1) 4 fun (i : Nat) => bif i.blt ps.length then [Ad (ps.getD i default).Type_, Ad (ps.getD i default).Loc, Ad (ps.getD i default).Prio, Aa true (ps.getD i default).Frame] else (fun (i : Nat) => List.take 4 (List.drop (i * 4) [Ad (s.Procs.getD k.toNat default).Type_, Ad (s.Procs.getD k.toNat default).Loc, Ad (s.Procs.getD k.toNat default).Prio, Aa true y])) (i - ps.length)])) ∧ (decide (k < (↑s.Procs.length : Int)) = false → leO [Ob.arr true 0 cs.length 2 fun (i : Nat) => Ar (cs.getD i default), Ob.arr true 0 ps.length 4 fun (i : Nat) => Ak (ps.getD i default)] hs' ∧ (VV.agg [Aa true s.Globals, VV.ow 0 0 cs.length, VV.ow 1 0 ps.length, Ad s.Last, Ad s.Alone, Ad s.Claim]).le r)) := by kernel_rfl
theorem RL (hs' : List Ob) (r : VV) (s : D.State) (cs : List D.Chan) (k : Int) (c : D.Chan) (q : List (List Int)) (j : Int) (J J2 : St → Prop) : (((Ag Tryz.prog tb GQ Ei false Tryz.f19 hs' (r)).loop [1, 1, 1, 1, 0, 1, 0] J).loop [1, 1, 0, 0, 1, 1, 0, 1, 0] J2).goal (Ur s cs k c q j) =
    ((decide (j < (↑c.Queue.length : Int)) = true → ((0 : Int) ≤ j ∧ j < (↑c.Queue.length : Int)) ∧ ∃ (y : List Int), Ae Tryz.prog 35 [] [Aa true (c.Queue.getD j.toNat [])] [] (Aa true y) ∧ (q.length + 1) * 24 ≤ 140737488355328 ∧ J2 (Ao [(1, VV.bp 0 0), (2, VV.bp 1 0), (3, VV.bp 2 0), (5, VV.bp 4 0), (6, VV.ow 5 0 (q.length + 1)), (19, Br true s.Chans), (20, Ad (↑s.Chans.length : Int)), (21, Ad k), (26, BA true c.Queue), (27, Ad (↑c.Queue.length : Int)), (28, Ad (IntKind.i64.wrap (j + (1 : Int))))] [Ob.box (Ax s), Ob.box [VV.nl, VV.nl, VV.nl, Ad (0 : Int), Ad (0 : Int), Ad (0 : Int)], Ob.box [Aa true s.Globals, VV.ow 3 0 cs.length, VV.nl, Ad s.Last, Ad s.Alone, Ad s.Claim], Ob.arr true 0 cs.length 2 fun (i : Nat) => Ar (cs.getD i default), Ob.box (Ar c), Ob.arr true 0 (q.length + 1) 1 fun (i : Nat) => bif i.blt q.length then [Aa true (q.getD i [])] else (fun (i : Nat) => List.take 1 (List.drop (i * 1) [Aa true y])) (i - q.length)])) ∧ (decide (j < (↑c.Queue.length : Int)) = false → (cs.length + 1) * 32 ≤ 140737488355328 ∧ J (Ao [(1, VV.bp 0 0), (2, VV.bp 1 0), (3, VV.bp 2 0), (19, Br true s.Chans), (20, Ad (↑s.Chans.length : Int)), (21, Ad (IntKind.i64.wrap (k + (1 : Int))))] [Ob.box (Ax s), Ob.box [VV.nl, VV.nl, VV.nl, Ad (0 : Int), Ad (0 : Int), Ad (0 : Int)], Ob.box [Aa true s.Globals, VV.ow 3 0 (cs.length + 1), VV.nl, Ad s.Last, Ad s.Alone, Ad s.Claim], Ob.arr true 0 (cs.length + 1) 2 fun (i : Nat) => bif i.blt cs.length then [Ad (cs.getD i default).Shape, BA true (cs.getD i default).Queue] else (fun (i : Nat) => (List.map (fun (x : List VV × List Nat) => x.fst) [([Ad c.Shape, BA true q], List.flatMap (fun (x : VV × List Nat) => x.snd) [(Ad c.Shape, []), (BA true q, [5])])]).getD i []) (i - cs.length)]))) := by kernel_rfl
end Go.Proofs.YtiaebjpcgjkhoaaGreatDoor
namespace Go.Proofs.YtiaebjpcgjkhoaaGreatDoor
open Go.RowKit
def Gp (ids : List Nat) : Nat → List Ob → List Ob
  | _, [] => []
  | k, o :: l => (bif ids.any (Nat.beq k) then (match o with
      | .arr _ g _ _ _ => .gone (g + 1)
      | .gone g => .gone (g + 1)
      | .box cs => .box cs) else o) :: Gp ids (k + 1) l
theorem ID (ids : List Nat) : ∀ (l : List Ob) (k : Nat), (Gp ids k l).length = l.length
  | [], _ => rfl
  | _ :: l, k => by simp only [Gp, List.length_cons, ID ids l (k + 1)]
theorem NG (ids : List Nat) : ∀ (l : List Ob) (k j : Nat), j < l.length → (Gp ids k l).getD j (.gone 0) = (bif ids.any (Nat.beq (k + j)) then (match l.getD j (.gone 0) with
      | .arr _ g _ _ _ => .gone (g + 1)
      | .gone g => .gone (g + 1)
      | .box cs => .box cs) else l.getD j (.gone 0))
  | [], _, j, h => absurd h (Nat.not_lt_zero j)
  | o :: l, k, 0, _ => rfl
  | o :: l, k, j + 1, h => by
    have := NG ids l (k + 1) j (Nat.lt_of_succ_lt_succ h)
    rw [show k + (j + 1) = k + 1 + j by omega]
    exact this
def GU (H : Nat → Ob) (k : Nat) : List Ob → Option (List Ob × List Nat)
  | [] => some ([], [])
  | .box cs :: l =>
    match CR (EM H k) cs with
    | some r => match GU H k l with
      | some q => some (.box (r.map (·.1)) :: q.1, r.flatMap (·.2) ++ q.2)
      | none => none
    | none => none
  | o :: l => match GU H k l with
    | some q => some (o :: q.1, q.2)
    | none => none
theorem JR {H : Nat → Ob} {k : Nat} : ∀ {l l' : List Ob} {ids : List Nat}, GU H k l = some (l', ids) → l'.length = l.length ∧ ∀ j, j < l.length → (l'.getD j (.gone 0) = l.getD j (.gone 0) ∧ (∀ cs, l.getD j (.gone 0) ≠ .box cs)) ∨
    ∃ cs r, l.getD j (.gone 0) = .box cs ∧ l'.getD j (.gone 0) = .box (r.map (·.1)) ∧ CR (EM H k) cs = some r ∧ ∀ p ∈ r, ∀ i ∈ p.2, i ∈ ids
  | [], l', ids, h => by
    simp only [GU, Option.some.injEq, Prod.mk.injEq] at h
    obtain ⟨rfl, rfl⟩ := h
    exact ⟨rfl, fun j hj => absurd hj (Nat.not_lt_zero j)⟩
  | o :: l, l', ids, h => by
    have other : (∀ cs, o ≠ .box cs) → (match GU H k l with
        | some q => some (o :: q.1, q.2)
        | none => none) = some (l', ids) → l'.length = (o :: l).length ∧ ∀ j, j < (o :: l).length → (l'.getD j (.gone 0) = (o :: l).getD j (.gone 0) ∧ (∀ cs, (o :: l).getD j (.gone 0) ≠ .box cs)) ∨
          ∃ cs r, (o :: l).getD j (.gone 0) = .box cs ∧ l'.getD j (.gone 0) = .box (r.map (·.1)) ∧ CR (EM H k) cs = some r ∧ ∀ p ∈ r, ∀ i ∈ p.2, i ∈ ids := by
      intro hn h
      split at h
      · rename_i q hq
        simp only [Option.some.injEq, Prod.mk.injEq] at h
        obtain ⟨rfl, rfl⟩ := h
        obtain ⟨e1, e2⟩ := JR (l' := q.1) (ids := q.2) hq
        refine ⟨by simp [e1], fun j hj => ?_⟩
        cases j with
        | zero => exact .inl ⟨rfl, hn⟩
        | succ j => exact e2 j (Nat.lt_of_succ_lt_succ hj)
      · cases h
    cases o with
    | box cs =>
      simp only [GU] at h
      split at h
      · rename_i r hr
        split at h
        · rename_i q hq
          simp only [Option.some.injEq, Prod.mk.injEq] at h
          obtain ⟨rfl, rfl⟩ := h
          obtain ⟨e1, e2⟩ := JR (l' := q.1) (ids := q.2) hq
          refine ⟨by simp [e1], fun j hj => ?_⟩
          cases j with
          | zero => exact .inr ⟨cs, r, rfl, rfl, hr, fun p hp i hi => List.mem_append_left _ (List.mem_flatMap.2 ⟨p, hp, hi⟩)⟩
          | succ j =>
            rcases e2 j (Nat.lt_of_succ_lt_succ hj) with h | ⟨cs', r', h1, h2, h3, h4⟩
            · exact .inl h
            · exact .inr ⟨cs', r', h1, h2, h3, fun p hp i hi => List.mem_append_right _ (h4 p hp i hi)⟩
        · cases h
      · cases h
    | arr fr g n sz f => exact other (fun _ h => by cases h) h
    | gone g => exact other (fun _ h => by cases h) h
theorem Cv.pubB {l : List (Nat × VV)} {hs hs' : List Ob} {ids : List Nat} (k : Nat) (h : GU (BK hs) k hs = some (hs', ids)) : Cv (Ao l hs) (Ao l (Gp ids 0 hs')) := by
  intro N E φ a w hr
  have hg := hr.hp.gone (ids := ids)
  obtain ⟨hlen, hat⟩ := JR h
  refine ⟨Cb ids φ, ⟨hr.sz, hr.df, hr.old.ext CF, fun t' => ?_, ⟨hg.sub, fun id p e => ?_, hg.inj, hg.free⟩, fun j hj => ?_, fun j hj => ?_⟩, CF⟩
  · have hv : V w _ _ (Et t' l) _ := hr.tm t'
    exact hv.ext CF
  · have h1 := hg.ob id p e
    have hid : id < hs.length := Classical.byContradiction fun hn => by
      have := (Cx (ids := ids)).2 (hr.fr id (Nat.le_of_not_lt hn))
      rw [this] at e; cases e
    have hgo := NG ids hs' 0 id (by omega)
    rw [Nat.zero_add] at hgo
    show ObV w E (Cb ids φ) ((Gp ids 0 hs').getD id (.gone 0)) p
    rw [hgo]
    rcases hat id hid with ⟨e1, hn⟩ | ⟨cs, r, e1, e2, e3, e4⟩
    · rw [e1]; exact h1
    · rw [e2]
      have hob : ∀ q, φ id = some q → ObV w E φ (.box cs) q := fun q hq => by
        have := hr.hp.ob id q hq
        have e1' : (Ao l hs).H id = .box cs := e1
        rw [e1'] at this
        exact this
      have hbx : (bif ids.any (Nat.beq id) then Ob.box (r.map (·.1)) else Ob.box (r.map (·.1))) = Ob.box (r.map (·.1)) := by cases ids.any (Nat.beq id) <;> rfl
      show ObV w E (Cb ids φ) (bif ids.any (Nat.beq id) then Ob.box (r.map (·.1)) else Ob.box (r.map (·.1))) p
      rw [hbx]
      have hp : ∃ q, φ id = some q ∧ (p = q ∨ p = OX q) := by
        unfold Cb at e
        cases hq : ids.any (Nat.beq id) with
        | false => rw [hq] at e; exact ⟨p, e, .inl rfl⟩
        | true =>
          rw [hq] at e
          simp only [cond_true, Option.map_eq_some_iff] at e
          obtain ⟨q, h1, h2⟩ := e
          exact ⟨q, h1, .inr h2.symm⟩
      obtain ⟨q, hq, hpq⟩ := hp
      have hb := hob q hq
      cases q with
      | arr => exact hb.elim
      | box b =>
        have : p = .box b := by rcases hpq with h | h <;> exact h
        subst this
        obtain ⟨c, ty, k1, k2⟩ := hb
        obtain ⟨o1, o2⟩ := CI e3
        refine ⟨c, ty, k1, ⟨by simp [o1, k2.1], fun j y hy => ?_⟩⟩
        simp only [List.getElem?_map, Option.map_eq_some_iff] at hy
        obtain ⟨z, hz, rfl⟩ := hy
        obtain ⟨x, hx, hf⟩ := o2 j z hz
        exact (V.unhold (Jm hr.hp (ids := ids) k _ _ _ _ (k2.2 j x hx) hf (e4 z (List.mem_of_getElem? hz)))).held
  · have hj' : (Gp ids 0 hs').length ≤ j := hj
    rw [ID, hlen] at hj'
    exact Cx.2 (hr.fr j hj')
  · have hj' : j < (Gp ids 0 hs').length := hj
    rw [ID, hlen] at hj'
    exact fun h => hr.lv j hj' (Cx.1 h)
theorem AH.cv {c : Ctx} {rel : List Nat} {st st' : St} (h : Cv st st') (k : AH c rel st') : AH c rel st := Sat.cv h k
def W3 (r : VV → VV → Bool) : List VV → List VV → Bool
  | [], [] => true
  | y :: ys, x :: xs => r y x && W3 r ys xs
  | _, _ => false
def leF : Nat → VV → VV → Bool
  | 0, _, _ => false
  | _ + 1, .sc u, .sc v => YR u v
  | _ + 1, .nl, .nl => true
  | _ + 1, .nl, .sl _ n _ _ => Nat.beq n 0
  | k + 1, .sl z n s f, .sl z' n' s' f' => (z == z') && (Nat.beq n n' && (Nat.beq s s' && B3 n fun i => W3 (leF k) (f i) (f' i)))
  | k + 1, .agg ys, .agg xs => W3 (leF k) ys xs
  | _ + 1, _, _ => false
theorem KX {r : VV → VV → Bool} (hr : ∀ y x, r y x = true → VV.le y x) : ∀ {ys xs : List VV}, W3 r ys xs = true → leL ys xs
  | [], [], _ => trivial
  | y :: ys, x :: xs, h => by
    simp only [W3, Bool.and_eq_true] at h
    exact ⟨hr _ _ h.1, KX hr h.2⟩
  | [], _ :: _, h => by cases h
  | _ :: _, [], h => by cases h
theorem Th : ∀ (k : Nat) (y x : VV), leF k y x = true → VV.le y x
  | 0, _, _, h => by cases h
  | k + 1, y, x, h => by
    unfold leF at h
    split at h
    · cases h
    · obtain rfl := YQ h; exact VV.le_refl _
    · exact VV.le_refl _
    · obtain rfl := Nat.eq_of_beq_eq_true h; exact VV.le_nil
    · simp only [Bool.and_eq_true, beq_iff_eq] at h
      obtain ⟨rfl, h1, h2, h3⟩ := h
      obtain rfl := Nat.eq_of_beq_eq_true h1
      exact VV.le_sl (.inl (Nat.eq_of_beq_eq_true h2)) fun i hi => KX (fun y x h => Th _ y x h) (AW.1 h3 i hi)
    · exact VV.le_agg (KX (fun y x h => Th _ y x h) h)
    · cases h
def Tg (k : Nat) : List Ob → List Ob → Bool
  | [], [] => true
  | .box cs :: l, .box cs' :: l' => W3 (leF k) cs cs' && Tg k l l'
  | .gone g :: l, .gone g' :: l' => Nat.beq g g' && Tg k l l'
  | _, _ => false
theorem OU {k : Nat} : ∀ {l l' : List Ob}, Tg k l l' = true → leO l l'
  | [], [], _ => trivial
  | .box cs :: l, .box cs' :: l', h => by
    simp only [Tg, Bool.and_eq_true] at h
    exact ⟨Ob.le_box (KX (fun y x h => Th _ y x h) h.1), OU h.2⟩
  | .gone g :: l, .gone g' :: l', h => by
    simp only [Tg, Bool.and_eq_true] at h
    obtain rfl := Nat.eq_of_beq_eq_true h.1
    exact ⟨Ob.le_refl _, OU h.2⟩
  | [], _ :: _, h => by cases h
  | .box _ :: _, [], h => by cases h
  | .box _ :: _, .arr .. :: _, h => by cases h
  | .box _ :: _, .gone _ :: _, h => by cases h
  | .gone _ :: _, [], h => by cases h
  | .gone _ :: _, .arr .. :: _, h => by cases h
  | .gone _ :: _, .box _ :: _, h => by cases h
  | .arr .. :: _, _, h => by simp [Tg] at h
theorem AH.pubB {c : Ctx} {rel : List Nat} {l : List (Nat × VV)} {hs hs' : List Ob} (k n : Nat) (h : (match GU (BK hs) k hs with
    | some q => Tg n (Gp q.2 0 q.1) hs'
    | none => false) = true) (kk : AH c rel (Ao l hs')) : AH c rel (Ao l hs) := by
  split at h
  · rename_i q hq
    exact AH.cv (Cv.pubB (hs' := q.1) (ids := q.2) k hq) (AH.le (AZ _) (OU h) kk)
  · cases h
end Go.Proofs.YtiaebjpcgjkhoaaGreatDoor
