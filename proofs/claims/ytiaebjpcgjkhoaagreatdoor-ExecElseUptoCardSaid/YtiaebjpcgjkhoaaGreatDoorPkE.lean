/-
  Texts, joined: EcW2, EcW3, EcW4, EcW5, EcW6, EcW7, CoP, CoV, CellRet, CoW, RfS, RfA, RfH, RfW1, RfW2, RfW3, RfW4, RfW5, EgE, EgA.
-/
import Derived.Test.YtiaebjpcgjkhoaaGreatDoorPkD
import Derived.WalkKit
import Derived.Laws.Rows
import Derived.KernelRfl
namespace Go.Proofs.YtiaebjpcgjkhoaaGreatDoor
open Go.RowKit
theorem thaw_mem {x : VV} (hx : x.mem = true) : thawT x x := fun _ E _ h B =>
  (h.mem (E' := ⟨E.fz, B⟩) (m' := none) hx rfl).less (fun _ h => h.elim) fun _ h => h
theorem thawL_mem : ∀ {l : List VV}, l.all VV.mem = true → thawL l l
  | [], _ => trivial
  | x :: l, h => by
    simp only [List.all_cons, Bool.and_eq_true] at h
    exact ⟨thaw_mem h.1, thawL_mem h.2⟩
theorem thaw_env {e : D.Env} : thawT (.agg (enc_EnvB e)) (.agg (enc_Env e)) :=
  thaw_agg ⟨thaw_mem rfl, thaw_mem rfl, thaw_mem rfl, thaw_mem rfl, thaw_mem rfl, thaw_mem rfl, thaw_mem rfl, thaw_mem rfl, thaw_sl fun _ _ => thawL_mem rfl, thaw_sl fun _ _ => thawL_mem rfl, thaw_mem rfl, thaw_mem rfl, thaw_mem rfl, thaw_mem rfl, thaw_mem rfl, thaw_mem rfl, trivial⟩
theorem frz_env {e : D.Env} : leS (.agg (enc_Env e)) (.agg (enc_EnvB e)) := by
  refine leS_agg rfl fun j x y hx hy => ?_
  rcases Nat.lt_or_ge j 16 with hj | hj
  · rcases (show j = 0 ∨ j = 1 ∨ j = 2 ∨ j = 3 ∨ j = 4 ∨ j = 5 ∨ j = 6 ∨ j = 7 ∨ j = 8 ∨ j = 9 ∨ j = 10 ∨ j = 11 ∨ j = 12 ∨ j = 13 ∨ j = 14 ∨ j = 15 by omega) with rfl | rfl | rfl | rfl | rfl | rfl | rfl | rfl | rfl | rfl | rfl | rfl | rfl | rfl | rfl | rfl <;>
      (obtain rfl := Option.some.inj hx; obtain rfl := Option.some.inj hy; first | exact leS_refl _ | exact leS_sl)
  · rw [List.getElem?_eq_none (by show (16 : Nat) ≤ j; exact hj)] at hx; cases hx
section
variable {e : D.Env}
theorem eevalB (hw : wf_Model e.M) (hs : SmallS' e.S) (x : Int) : VSpec Tryz.prog 39 [] [.agg (enc_EnvB e), intV x] [] (vII (evalP e x)) :=
  (eeval_spec hw hs x).thaw (plain_tup fun x hx => by
    simp only [List.mem_cons, List.not_mem_nil, or_false] at hx
    rcases hx with rfl | rfl <;> exact plain_sc) ⟨thaw_env, thaw_sc, trivial⟩
theorem echanB (hw : wf_Model e.M) (hs : SmallS' e.S) (x : Int) : VSpec Tryz.prog 92 [] [.agg (enc_EnvB e), intV x] [] (vII (echanP e x)) :=
  (echan_spec hw hs x).thaw (plain_tup fun x hx => by
    simp only [List.mem_cons, List.not_mem_nil, or_false] at hx
    rcases hx with rfl | rfl <;> exact plain_sc) ⟨thaw_env, thaw_sc, trivial⟩
theorem fit_spec (t : D.Type) (v : Int) : VSpec Tryz.prog 91 [] [.agg (enc_Type t), intV v] [] (intV (fitT t v)) := by
  refine VSpec.hand ⟨_, Tryz.func91, rfl, by kernel_rfl⟩ fun w E vs hA hL hB _ hs0 => ?_
  obtain ⟨u1, us1, rfl, v1, hs0⟩ := hs0.cons_inv
  obtain ⟨u2, us2, rfl, v2, hs0⟩ := hs0.cons_inv
  obtain rfl := hs0.nil_inv
  obtain ⟨a, b, rfl, va, vb⟩ := v1.agg2_inv
  rw [va.sc_inv, vb.sc_inv, v2.sc_inv]
  refine (vfit t.Bits v t.Signed w).mono ?_
  rintro r w' ⟨rfl, hb⟩
  exact ⟨_, rfl, .sc, hb⟩
structure ChIn (e : D.Env) (n : Int) : Prop where
  ok : EnvOk e
  lo : 1 ≤ n
  hi : n ≤ e.S.Chans.length
  le : e.S.Chans.length ≤ 32
  sh : 0 ≤ (chAt e n).Shape ∧ (chAt e n).Shape < e.M.Shapes.length
  q : (chAt e n).Queue.length ≤ 16
theorem echan_in (hw : wf_Model e.M) {x : Int} (h : (echanP e x).2 = 0) : ChIn e (echanP e x).1 := by
  unfold echanP at h ⊢
  cases c : decide (exCheck e x ≠ 0) with
  | true => rw [c, cond_true] at h; exact absurd h (of_decide_eq_true c)
  | false =>
    rw [c, cond_false] at h
    rw [cond_false]
    obtain ⟨hE, _, _⟩ := env_ok (x := x) hw (by simpa using c)
    have hn := chan_in hE (a := x) (by simpa using h)
    generalize (chanV e (evalF e e.M.Exprs.length) x).1 = n at hn ⊢
    have hm : chAt e n ∈ e.S.Chans := getD_mem (by omega)
    exact ⟨hE, hn.1, hn.2.1, hn.2.2, (chan_facts (hE.chan hm)).1, (hE.fit.q _ hm).1⟩
theorem ne_len {a b : Nat} : ((a : Int) != (b : Int)) = decide (a ≠ b) := by
  rw [Bool.eq_iff_iff, bne_iff_ne, decide_eq_true_eq]; omega
theorem leafM {a c : Int} {l : List Int} {r : Int × List Int × Int} (h : (a, l, c) = r) : leO [] [] ∧ VV.le (.tup [.sc (.int .i64 a), encL_Int true l, .sc (.int .i64 c)]) (.tup [.sc (.int .i64 r.1), encL_Int true r.2.1, .sc (.int .i64 r.2.2)]) := by
  subst h; exact ⟨trivial, VV.le_refl _⟩
theorem leafMn {a c : Int} {r : Int × List Int × Int} (h : (a, [], c) = r) : leO [] [] ∧ VV.le (.tup [.sc (.int .i64 a), .nl, .sc (.int .i64 c)]) (.tup [.sc (.int .i64 r.1), encL_Int true r.2.1, .sc (.int .i64 r.2.2)]) := by
  subst h; exact ⟨trivial, VV.le_tup ⟨VV.le_refl _, VV.le_nil, VV.le_refl _, trivial⟩⟩
theorem allE_len {l : List Int} (h : (allE e l).2 = 0) : (allE e l).1.length = l.length := by
  have key : ∀ (l o : List Int), (allG (evalP e) o l).2 = 0 → (allG (evalP e) o l).1.length = o.length + l.length := by
    intro l
    induction l with
    | nil => intro o _; rfl
    | cons x l ih =>
      intro o h
      rw [allG_cons] at h ⊢
      cases c : decide ((evalP e x).2 ≠ 0) with
      | true => rw [c, cond_true] at h; exact absurd h (of_decide_eq_true c)
      | false =>
        rw [c, cond_false] at h
        rw [cond_false, ih _ h]; simp; omega
  have := key l [] h
  simpa [allE] using this
def fitAt (f : List D.Type) (l : List Int) (k : Nat) : List Int := (List.range l.length).map fun i => if i < k then fitT (f.getD i default) (l.getD i 0) else l.getD i 0
theorem fitAt_len {f : List D.Type} {l : List Int} {k : Nat} : (fitAt f l k).length = l.length := by simp [fitAt]
theorem fitAt_get {f : List D.Type} {l : List Int} {k i : Nat} (hi : i < l.length) : (fitAt f l k).getD i 0 = if i < k then fitT (f.getD i default) (l.getD i 0) else l.getD i 0 := by simp [fitAt, List.getD, hi]
theorem fitAt_zero {f : List D.Type} {l : List Int} : fitAt f l 0 = l := by
  apply List.ext_getElem (by simp [fitAt])
  intro i h1 h2
  simp [fitAt, List.getD, h2]
theorem fitAt_all {f : List D.Type} {l : List Int} : fitAt f l l.length = fitL f l := by
  unfold fitAt fitL
  apply List.map_congr_left
  intro i hi
  rw [if_pos (List.mem_range.1 hi)]
theorem xmsg_specB {s : D.Stmt} (hw : wf_Model e.M) (hs : SmallS' e.S) (hl : s.Args.length ≤ 1048576) :
    VSpec Tryz.prog 64 [] [.agg (enc_EnvB e), .agg (enc_Stmt s)] [] (.tup [intV (messageE e s).1, encL_Int true (messageE e s).2.1, intV (messageE e s).2.2]) := by
  have hq : messageE e s = bif decide ((echanP e s.A).2 ≠ 0) then (0, [], (echanP e s.A).2)
    else bif decide ((fieldsE e (echanP e s.A).1).length ≠ s.Args.length) then (0, [], 49)
    else bif decide ((allE e s.Args).2 ≠ 0) then (0, [], (allE e s.Args).2)
    else ((echanP e s.A).1, fitL (fieldsE e (echanP e s.A).1) (allE e s.Args).1, 0) := rfl
  generalize messageE e s = r at hq
  refine vspec_raw tb_ok mixed Tryz.func64 (by kernel_rfl) rfl (xmsg_raw r e s) ⟨echanP e s.A, echanB hw hs s.A, fun h => leafMn ?_, fun h => ?_⟩
  · rw [hq, show decide ((echanP e s.A).2 ≠ 0) = true by simpa using h]; rfl
  have h0 : (echanP e s.A).2 = 0 := by simpa using h
  rw [h0] at hq
  have hc := echan_in hw h0
  generalize (echanP e s.A).1 = n at hc hq ⊢
  have h1 := hc.lo
  have h2 := hc.hi
  have h3 := hc.le
  rw [wrap_id (by omega) (by omega)]
  refine ⟨by omega, hc.sh, fun hf => leafMn ?_, fun hf => ⟨allE e s.Args, xall_spec (fun x _ => eevalB hw hs x) hl, fun ha => leafMn ?_, fun ha => ?_⟩⟩
  · rw [ne_len] at hf
    rw [hq]
    have : decide ((fieldsE e n).length ≠ s.Args.length) = true := hf
    rw [this]; rfl
  · rw [ne_len] at hf
    rw [hq, show decide ((fieldsE e n).length ≠ s.Args.length) = false from hf, show decide ((allE e s.Args).2 ≠ 0) = true by simpa using ha]; rfl
  rw [ne_len] at hf
  have ha0 : (allE e s.Args).2 = 0 := by simpa using ha
  have hlen := allE_len ha0
  rw [show decide ((fieldsE e n).length ≠ s.Args.length) = false from hf, ha0] at hq
  have hfl : (fieldsE e n).length = s.Args.length := Classical.not_not.1 (of_decide_eq_false hf)
  change SatC _ _ (mkSt [(7, intV n), (9, encL_Type true (fieldsE e n)), (10, .ow 0 0 (allE e s.Args).1.length), (53, .ow 0 0 (allE e s.Args).1.length), (54, intV (allE e s.Args).1.length), (55, intV 0)] [.arr true 0 (allE e s.Args).1.length 1 (rowsIn (allE e s.Args).1)])
  generalize fieldsE e n = f at hq hfl ⊢
  generalize (allE e s.Args).1 = l at hq hlen ⊢
  change r = (n, fitL f l, 0) at hq
  refine loop_raw tb_ok mixed (fun g st => ∃ k : Nat, k ≤ l.length ∧ g = l.length - k ∧ st = stXmsg n f (fitAt f l k) k) (by kernel_rfl) (by kernel_rfl) ⟨_, Up.of ⟨0, Nat.zero_le _, rfl, by unfold stXmsg; rw [fitAt_zero]; rfl⟩⟩ ?_
  rintro g st ⟨k, hk, rfl, rfl⟩
  refine Asks.raw (xmsg1_raw r n f _ k _) ⟨fun hlt => ?_, fun hge => leafM ?_⟩
  · rw [fitAt_len] at hlt
    have hlt' : k < l.length := by have := lt_of hlt; omega
    have hto : (k : Int).toNat = k := by omega
    rw [hto, fitAt_len, fitAt_get hlt', if_neg (Nat.lt_irrefl _)]
    refine ⟨by omega, by omega, fitT (f.getD k default) (l.getD k 0), fit_spec _ _, by omega, l.length - (k + 1), by omega, Up.mk (hs' := [.arr true 0 l.length 1 (rowsIn (fitAt f l (k + 1)))]) (leT_refl _) ⟨Ob.le_arr fun i hi => leL_eq ?_, trivial⟩ ⟨k + 1, by omega, rfl, ?_⟩⟩
    · by_cases hik : i = k
      · subst hik
        simp only [Nat.beq_refl, cond_true]
        unfold rowsIn
        rw [fitAt_get hlt', if_pos (Nat.lt_succ_self _)] <;> rfl
      · have hb : Nat.beq i k = false := by
          cases hq : Nat.beq i k with
          | true => exact absurd (Nat.eq_of_beq_eq_true hq) hik
          | false => rfl
        simp only [hb, cond_false]
        unfold rowsIn
        rw [fitAt_get hi, fitAt_get hi]
        by_cases h : i < k
        · rw [if_pos h, if_pos (by omega)] <;> rfl
        · rw [if_neg h, if_neg (by omega)] <;> rfl
    · rw [wrap_succ (by omega)]
      unfold stXmsg
      rw [fitAt_len] <;> rfl
  · rw [fitAt_len] at hge
    have hge' : k = l.length := by have := ge_of hge; omega
    subst hge'
    rw [fitAt_all, hq]
theorem xmsg_spec {s : D.Stmt} (hw : wf_Model e.M) (hs : SmallS' e.S) (hl : s.Args.length ≤ 1048576) :
    VSpec Tryz.prog 64 [] [.agg (enc_Env e), .agg (enc_Stmt s)] [] (.tup [intV (messageE e s).1, encL_Int true (messageE e s).2.1, intV (messageE e s).2.2]) :=
  (xmsg_specB hw hs hl).frz rfl fun j x y hx hy => by
    match j, hx, hy with
    | 0, hx, hy => obtain rfl := Option.some.inj hx; obtain rfl := Option.some.inj hy; exact frz_env
    | 1, hx, hy => obtain rfl := Option.some.inj hx; obtain rfl := Option.some.inj hy; exact leS_refl _
    | j + 2, hx, _ => simp at hx
end
end Go.Proofs.YtiaebjpcgjkhoaaGreatDoor
namespace Go.Proofs.YtiaebjpcgjkhoaaGreatDoor
open Go.RowKit
theorem leafL {c : Int} {l : List Int} {r : List Int × Int} (h : (l, c) = r) : leO [] [] ∧ VV.le (.tup [encL_Int true l, .sc (.int .i64 c)]) (.tup [encL_Int true r.1, .sc (.int .i64 r.2)]) := by
  subst h; exact ⟨trivial, VV.le_refl _⟩
theorem leafLn {c : Int} {r : List Int × Int} (h : ([], c) = r) : leO [] [] ∧ VV.le (.tup [.nl, .sc (.int .i64 c)]) (.tup [encL_Int true r.1, .sc (.int .i64 r.2)]) := by
  subst h; exact ⟨trivial, VV.le_tup ⟨VV.le_nil, VV.le_refl _, trivial⟩⟩
section
variable {e : D.Env}
theorem xwants_spec {s : D.Stmt} (hw : wf_Model e.M) (hs : SmallS' e.S) (hl : s.Args.length ≤ 1048576) (hm : s.Match.length = s.Args.length) :
    VSpec Tryz.prog 99 [] [.agg (enc_Env e), .agg (enc_Stmt s)] [] (.tup [encL_Int true (wantsQ e s).1, intV (wantsQ e s).2]) := by
  have hq : wantsQ e s = bif decide (wantsE (evalP e) s.Args s.Match s.Args.length ≠ 0) then ([], wantsE (evalP e) s.Args s.Match s.Args.length) else (wantsV (evalP e) s.Args s.Match, 0) := rfl
  generalize wantsQ e s = r at hq
  generalize hev : evalP e = ev at hq
  have hS : ∀ x, VSpec Tryz.prog 39 [] [.agg (enc_Env e), intV x] [] (vII (ev x)) := fun x => by rw [← hev]; exact eeval_spec hw hs x
  refine vspec_raw tb_ok mixed Tryz.func99 (by kernel_rfl) rfl (xwants_raw r e s) ⟨⟨by omega, by omega, by omega⟩, ?_⟩
  refine loop_raw tb_ok mixed (fun gg st => ∃ k : Nat, k ≤ s.Args.length ∧ gg = s.Args.length - k ∧ (∀ i, i < k → (wantV ev (s.Args.getD i 0) (s.Match.getD i 0)).2 = 0) ∧ st = stXwants e s (wantAt ev s.Args s.Match k) k) (by kernel_rfl) (by kernel_rfl)
    ⟨s.Args.length, Up.mk (l' := [(2, .bp 0 0), (3, .bp 1 0), (6, .ow 2 0 (wantAt ev s.Args s.Match 0).length), (16, encL_Int true s.Args), (17, intV s.Args.length), (18, intV ((0 : Nat) : Int))])
      (hs' := [.box (enc_Env e), .box (enc_Stmt s), .arr true 0 (wantAt ev s.Args s.Match 0).length 1 (rowsIn (wantAt ev s.Args s.Match 0))]) ?_ ?_ ⟨0, Nat.zero_le _, rfl, fun i hi => by omega, rfl⟩⟩ ?_
  · rw [wantAt_len]; exact leT_refl _
  · rw [wantAt_len]
    refine ⟨Ob.le_refl _, Ob.le_refl _, Ob.le_arr fun i hi => leL_eq ?_, trivial⟩
    have hz : rowsIn (wantAt ev s.Args s.Match 0) i = [intV 0] := by
      unfold rowsIn
      rw [wantAt_get (by omega), if_neg (Nat.not_lt_zero _)]
    refine Eq.trans ?_ hz.symm
    rfl
  · rintro gg st ⟨k, hk, rfl, hI, rfl⟩
    refine Asks.raw (xwants1_raw r e s _ k _) ⟨fun hlt => ?_, fun hge => leafL ?_⟩
    · have hlt' : k < s.Args.length := by have := lt_of hlt; omega
      have hto : (k : Int).toNat = k := by omega
      rw [hto]
      refine ⟨by omega, by omega, fun hy => ?_, fun hy => ⟨ev (s.Args.getD k 0), hS _, fun hz => leafLn ?_, fun hz => ⟨by rw [wantAt_len]; omega, ?_⟩⟩⟩
      · rw [ne_dec] at hy
        have h1 := of_decide_eq_true hy
        have hv : wantV ev (s.Args.getD k 0) (s.Match.getD k 0) = (0, 0) := by unfold wantV; rw [decide_eq_false h1]; rfl
        have e1 : wantAt ev s.Args s.Match k = wantAt ev s.Args s.Match (k + 1) := by
          unfold wantAt
          apply List.map_congr_left
          intro i _
          by_cases hik : i = k
          · subst hik; rw [if_neg (Nat.lt_irrefl _), if_pos (Nat.lt_succ_self _), hv]
          · by_cases hlt2 : i < k
            · rw [if_pos hlt2, if_pos (by omega)]
            · rw [if_neg hlt2, if_neg (by omega)]
        rw [e1, wrap_succ (by omega)]
        exact ⟨s.Args.length - (k + 1), by omega, Up.of ⟨k + 1, by omega, rfl, succ_of hI (by rw [hv]), rfl⟩⟩
      · have hm1 : decide (s.Match.getD k 0 = 1) = true := by rw [ne_dec] at hy; simpa using hy
        have hv : wantV ev (s.Args.getD k 0) (s.Match.getD k 0) = ev (s.Args.getD k 0) := by unfold wantV; rw [hm1]; rfl
        have hnz : (wantV ev (s.Args.getD k 0) (s.Match.getD k 0)).2 ≠ 0 := by rw [hv]; simpa using hz
        have he : wantsE ev s.Args s.Match s.Args.length = (ev (s.Args.getD k 0)).2 := by
          unfold wantsE
          rw [errI_hit (f := fun i => (wantV ev (s.Args.getD i 0) (s.Match.getD i 0)).2) hI hnz hlt', hv]
        rw [hq, he]
        exact ct (by simpa using hz) rfl
      · have hm1 : decide (s.Match.getD k 0 = 1) = true := by rw [ne_dec] at hy; simpa using hy
        have hv : wantV ev (s.Args.getD k 0) (s.Match.getD k 0) = ev (s.Args.getD k 0) := by unfold wantV; rw [hm1]; rfl
        have h2 : (ev (s.Args.getD k 0)).2 = 0 := by simpa using hz
        rw [wrap_succ (by omega)]
        refine ⟨s.Args.length - (k + 1), by omega, Up.mk (l' := [(2, .bp 0 0), (3, .bp 1 0), (6, .ow 2 0 (wantAt ev s.Args s.Match (k + 1)).length), (16, encL_Int true s.Args), (17, intV s.Args.length), (18, intV ((k + 1 : Nat) : Int))])
          (hs' := [.box (enc_Env e), .box (enc_Stmt s), .arr true 0 (wantAt ev s.Args s.Match (k + 1)).length 1 (rowsIn (wantAt ev s.Args s.Match (k + 1)))]) ?_ ?_ ⟨k + 1, by omega, rfl, succ_of hI (by rw [hv]; exact h2), rfl⟩⟩
        · rw [wantAt_len, wantAt_len]; exact leT_refl _
        · rw [wantAt_len, wantAt_len]
          refine ⟨Ob.le_refl _, Ob.le_refl _, Ob.le_arr fun i hi => leL_eq ?_, trivial⟩
          show (bif i.beq k then [intV (ev (s.Args.getD k 0)).1] else [intV ((wantAt ev s.Args s.Match k).getD i 0)]) = [intV ((wantAt ev s.Args s.Match (k + 1)).getD i 0)]
          rw [wantAt_get hi, wantAt_get hi]
          cases hq : i.beq k with
          | true =>
            have := Nat.eq_of_beq_eq_true hq; subst this
            rw [cond_true, if_pos (Nat.lt_succ_self _), hv]
          | false =>
            have : i ≠ k := Nat.ne_of_beq_eq_false hq
            rw [cond_false]
            by_cases hlt2 : i < k
            · rw [if_pos hlt2, if_pos (by omega)]
            · rw [if_neg hlt2, if_neg (by omega)]
    · obtain rfl : k = s.Args.length := by have := ge_of hge; omega
      have he : wantsE ev s.Args s.Match s.Args.length = 0 := errI_zero hI
      rw [hq, he, wantAt_all]; rfl
theorem find_frz {c : D.Chan} {l mt : List Int} {any : Bool} (hc : Len c.Queue.length) (hm : Len mt.length) : VSpec Tryz.prog 100 [] [.agg (enc_Chan c), encL_Int true l, encL_Int true mt, boolV any] [] (intV (findP c l mt any)) :=
  (find_spec hc hm).frz rfl fun j x y hx hy => by
    match j, hx, hy with
    | 0, hx, hy => obtain rfl := Option.some.inj hx; obtain rfl := Option.some.inj hy; exact leS_refl _
    | 1, hx, hy => obtain rfl := Option.some.inj hx; obtain rfl := Option.some.inj hy; exact leS_sl
    | 2, hx, hy => obtain rfl := Option.some.inj hx; obtain rfl := Option.some.inj hy; exact leS_refl _
    | 3, hx, hy => obtain rfl := Option.some.inj hx; obtain rfl := Option.some.inj hy; exact leS_refl _
    | j + 4, hx, _ => simp at hx
theorem xfound_spec {s : D.Stmt} (hw : wf_Model e.M) (hs : SmallS' e.S) (hl : s.Args.length ≤ 1048576) (hm : s.Match.length = s.Args.length) :
    VSpec Tryz.prog 67 [] [.agg (enc_Env e), .agg (enc_Stmt s)] [] (vIII (foundE e s)) := by
  have hq : foundE e s = bif decide ((echanP e s.A).2 ≠ 0) then (0, -1, (echanP e s.A).2)
    else bif decide ((fieldsE e (echanP e s.A).1).length ≠ s.Args.length) then (0, -1, 49)
    else bif decide ((wantsQ e s).2 ≠ 0) then (0, -1, (wantsQ e s).2)
    else ((echanP e s.A).1, findP (chAt e (echanP e s.A).1) (wantsQ e s).1 s.Match (decide (s.N.tmod 2 = 1)), 0) := rfl
  generalize foundE e s = r at hq
  refine vspec_raw tb_ok mixed Tryz.func67 (by kernel_rfl) rfl (xfound_raw r e s) ⟨echanP e s.A, echan_spec hw hs s.A, fun h => leafR ?_, fun h => ?_⟩
  · rw [hq, show decide ((echanP e s.A).2 ≠ 0) = true by simpa using h]; rfl
  have h0 : (echanP e s.A).2 = 0 := by simpa using h
  rw [h0] at hq
  have hc := echan_in hw h0
  generalize (echanP e s.A).1 = n at hc hq ⊢
  have h1 := hc.lo
  have h2 := hc.hi
  have h3 := hc.le
  have h4 := hc.q
  rw [wrap_id (by omega) (by omega)]
  refine ⟨by omega, hc.sh, fun hf => leafR ?_, fun hf => ⟨wantsQ e s, xwants_spec hw hs hl hm, fun ha => leafR ?_, fun ha => ⟨by omega, by decide, findP (chAt e n) (wantsQ e s).1 s.Match (s.N.tmod 2 == 1), find_frz (c := chAt e n) (by unfold Len; omega) (by unfold Len; omega), leafR ?_⟩⟩⟩
  · rw [ne_len] at hf
    rw [hq, show decide ((fieldsE e n).length ≠ s.Args.length) = true from hf]; rfl
  · rw [ne_len] at hf
    rw [hq, show decide ((fieldsE e n).length ≠ s.Args.length) = false from hf, show decide ((wantsQ e s).2 ≠ 0) = true by simpa using ha]; rfl
  · rw [ne_len] at hf
    rw [hq, show decide ((fieldsE e n).length ≠ s.Args.length) = false from hf, show decide ((wantsQ e s).2 ≠ 0) = false by simpa using ha, ieq]; rfl
theorem xtakes_spec {s : D.Stmt} {c : Int} {m : List Int} (hw : wf_Model e.M) (hs : SmallS' e.S) (hl : s.Args.length ≤ 1048576) (hm : s.Kind = 6 → s.Match.length = s.Args.length) :
    VSpec Tryz.prog 166 [] [.agg (enc_Env e), .agg (enc_Stmt s), intV c, encL_Int true m] [] (boolV (takesE e s c m)) := by
  have hq : takesE e s c m = bif decide (s.Kind ≠ 6) || (decide (1 < s.N) || decide (s.Args.length ≠ m.length)) then false
    else bif decide ((echanP e s.A).2 ≠ 0) || decide ((echanP e s.A).1 ≠ c) then false
    else bif decide ((wantsQ e s).2 ≠ 0) then false else decide (findP ⟨0, [m]⟩ (wantsQ e s).1 s.Match false = 0) := rfl
  generalize takesE e s c m = b at hq
  have e1 : (bif bif s.Kind != (6 : Int) then true else decide (s.N > (1 : Int)) then true else (s.Args.length : Int) != (m.length : Int)) = (decide (s.Kind ≠ 6) || (decide (1 < s.N) || decide (s.Args.length ≠ m.length))) := by
    rw [bif_or, bif_or, ne_dec, ne_len, Bool.or_assoc]
  refine vspec_raw tb_ok mixed Tryz.func166 (by kernel_rfl) rfl (xtakes_raw b e s c m) ⟨fun h => leafB ?_, fun h => ⟨echanP e s.A, echan_spec hw hs s.A, fun h2 => leafB ?_, fun h2 => ?_⟩⟩
  · rw [e1] at h; rw [hq, h]; rfl
  · rw [e1] at h
    rw [bif_or, ne_dec, ne_dec] at h2
    rw [hq, h, h2]; rfl
  · rw [e1] at h
    rw [bif_or, ne_dec, ne_dec] at h2
    have hk : s.Kind = 6 := by
      simp only [Bool.or_eq_false_iff, decide_eq_false_iff_not, Classical.not_not] at h
      exact h.1
    have hmm := hm hk
    refine ⟨wantsQ e s, xwants_spec hw hs hl hmm, findP ⟨0, [m]⟩ (wantsQ e s).1 s.Match false, fun _ => ?_, leafB ?_⟩
    · have hf := find_frz (c := ⟨0, [m]⟩) (l := (wantsQ e s).1) (mt := s.Match) (any := false) (by unfold Len; simp) (by unfold Len; omega)
      refine hf.le trivial ⟨VV.le_agg ⟨VV.le_refl _, VV.le_sl (.inl rfl) fun i hi => leL_eq ?_, trivial⟩, VV.le_refl _, VV.le_refl _, VV.le_refl _, trivial⟩ trivial (VV.le_refl _)
      obtain rfl : i = 0 := by omega
      rfl
    · rw [hq, h, h2, ieq, ieq]
      by_cases h3 : (wantsQ e s).2 = 0
      · simp [h3]
      · simp [h3]
theorem xprov_spec (h : PidE e) : VSpec Tryz.prog 29 [] [.agg (enc_Env e)] [] (.tup [boolV (providedE e).1, intV (providedE e).2]) := by
  have hq : providedE e = bif decide ((procE e).Provided < 0) then (true, 0) else (decide ((evalP e (procE e).Provided).1 ≠ 0), (evalP e (procE e).Provided).2) := rfl
  generalize providedE e = r at hq
  refine vspec_raw tb_ok mixed Tryz.func29 (by kernel_rfl) rfl (xprov_raw r e) ⟨procE e, xproc_spec h, fun h1 => ⟨trivial, ?_⟩, fun h1 => ⟨evalP e (procE e).Provided, eeval_spec h.ok.wf h.small _, trivial, ?_⟩⟩
  · rw [hq, h1]; exact VV.le_refl _
  · rw [hq, h1, ne_dec]; exact VV.le_refl _
end
end Go.Proofs.YtiaebjpcgjkhoaaGreatDoor
namespace Go.Proofs.YtiaebjpcgjkhoaaGreatDoor
open Go.RowKit
theorem waysOk_some {n : Nat} : ∀ {ws : List (List D.Trans)} {many k many' : Nat}, waysOk n many k ws = some many' → ∀ w ∈ ws, w.length ≤ 1024 ∧ ∀ t ∈ w, inP n t.To = true
  | [], _, _, _, _, w, hw => by cases hw
  | v :: r, many, k, many', h, w, hw => by
    unfold waysOk at h
    cases c1 : (decide (0 < k) && decide (v.length = 0)) with
    | true => rw [c1, cond_true] at h; cases h
    | false =>
    cases c2 : decide (1024 < many + v.length) with
    | true => rw [c1, c2, cond_false, cond_true] at h; cases h
    | false =>
    cases c3 : allI v.length (fun i => inP n (v.getD i default).To) with
    | false => rw [c1, c2, c3, cond_false, cond_false, cond_false] at h; cases h
    | true =>
      rw [c1, c2, c3, cond_false, cond_false, cond_true] at h
      rcases List.mem_cons.1 hw with rfl | hw
      · have := of_decide_eq_false c2
        exact ⟨by omega, (allL_iff (d := default) (f := fun t : D.Trans => inP n t.To)).1 c3⟩
      · exact waysOk_some h w hw
theorem locsOk_all {n : Nat} {final : Int} : ∀ {ls : List D.Loc} {many i : Nat}, locsOk n final many i ls = true → ∀ l ∈ ls, ∀ w ∈ waysP l, w.length ≤ 1024 ∧ ∀ t ∈ w, inP n t.To = true
  | [], _, _, _, l, hl, _, _ => by cases hl
  | v :: r, many, i, h, l, hl, w, hw => by
    unfold locsOk at h
    cases c1 : locBad final i v with
    | true => rw [c1, cond_true] at h; cases h
    | false =>
      rw [c1, cond_false] at h
      cases c2 : waysOk n many 0 (waysP v) with
      | none => rw [c2] at h; cases h
      | some many' =>
        rw [c2] at h
        rcases List.mem_cons.1 hl with rfl | hl
        · exact waysOk_some c2 w hw
        · exact locsOk_all h l hl w hw
theorem graph_ways {p : D.Proc} (h : graphP p = true) : ∀ l ∈ p.Locs, ∀ w ∈ waysP l, w.length ≤ 1024 ∧ ∀ t ∈ w, inP p.Locs.length t.To = true := by
  unfold graphP at h
  simp only [Bool.and_eq_true] at h
  exact locsOk_all h.2
theorem proc_all {m : D.Model} (h : mayP m = true) (i : Nat) (hi : i < m.Procs.length) : procAllP m i = true := by
  obtain ⟨_, _, h3⟩ := ok_tables h
  exact badI_neg (f := fun i : Nat => procAllP m i) (by unfold procsP at h3; omega) i hi
theorem way_stmt {m : D.Model} (h : mayP m = true) {i : Nat} (hi : i < m.Procs.length) {l : D.Loc} (hl : l ∈ (m.Procs.getD i default).Locs) {w : List D.Trans} (hw : w ∈ waysP l) {t : D.Trans} (ht : t ∈ w) : wayP m i t.S = true := by
  have h1 := proc_all h i hi
  unfold procAllP at h1
  simp only [Bool.and_eq_true] at h1
  have h2 := (allL_iff (d := default) (f := fun l : D.Loc => locP m i l)).1 h1.1 l hl
  unfold locP at h2
  have h3 := (allL_iff (d := []) (f := fun w => transP m i w)).1 h2 w hw
  unfold transP at h3
  exact (allL_iff (d := default) (f := fun t : D.Trans => wayP m i t.S)).1 h3 t ht
structure StOk (m : D.Model) (s : D.Stmt) : Prop where
  st : statementP m s = true
  wf : wf_Stmt s
theorem StOk.args {m : D.Model} {s : D.Stmt} (h : StOk m s) : s.Args.length ≤ 1048576 := h.wf.Args.1
theorem StOk.k1 {m : D.Model} {s : D.Stmt} (h : StOk m s) (hk : s.Kind = 1) : 0 ≤ s.A ∧ s.A < m.Exprs.length := by
  have := h.st
  unfold statementP at this
  rw [if_pos (.inl hk)] at this
  simp only [Bool.and_eq_true] at this
  exact inP_iff.1 this.1.1
theorem StOk.k2 {m : D.Model} {s : D.Stmt} (h : StOk m s) (hk : s.Kind = 2) : 0 ≤ s.B ∧ s.B < m.Exprs.length := by
  have := h.st
  unfold statementP at this
  rw [if_neg (by omega), if_pos hk] at this
  simp only [Bool.and_eq_true] at this
  exact inP_iff.1 this.1.2
theorem StOk.k6 {m : D.Model} {s : D.Stmt} (h : StOk m s) (hk : s.Kind = 6) : s.Match.length = s.Args.length := by
  have := h.st
  unfold statementP at this
  rw [if_neg (by omega), if_neg (by omega), if_neg (by omega), if_neg (by omega), if_pos hk] at this
  simp only [Bool.and_eq_true] at this
  have := this.1.1.1.2
  unfold takenP matchedP at this
  simp only [Bool.and_eq_true, decide_eq_true_eq] at this
  exact this.1.1.1.2
structure WsOk (m : D.Model) (n : Nat) (ws : List D.Trans) : Prop where
  len : ws.length ≤ 1024
  st : ∀ t ∈ ws, StOk m t.S
  to : ∀ t ∈ ws, inP n t.To = true
section
variable {e : D.Env}
theorem PidE.ws (h : PidE e) {ws : List D.Trans} (hw : ws ∈ waysP (locE e)) : WsOk e.M (procE e).Locs.length ws := by
  have hf := h.facts
  have hi : (psAt e e.Pid).Type_.toNat < e.M.Procs.length := by omega
  have hl : locE e ∈ (procE e).Locs := getD_mem (by omega)
  have hg := graph_ways (frame_all (ok_tables h.ok.may).2.1 _ hi).2 _ hl _ hw
  refine ⟨hg.1, fun t ht => ⟨?_, ?_⟩, hg.2⟩
  · have := way_stmt h.ok.may hi hl hw ht
    unfold wayP at this
    simp only [Bool.and_eq_true] at this
    exact this.1.1
  · have hwl := h.wloc
    rcases List.mem_cons.1 hw with rfl | hw
    · exact (hwl.Out.2 t ht).S
    · exact ((hwl.Esc.2 _ hw).2 t ht).S
theorem leafA {b : Bool} {er : Int} {l : List Pn} {r : Ab} (h : (⟨b, er, l⟩ : Ab) = r) : leO [] [] ∧ VV.le (.agg [.sc (.bool b), .sc (.int .i64 er), encL_Pn true l]) (.agg (enc_Ab r)) := by
  subst h; exact ⟨trivial, VV.le_refl _⟩
theorem leafAn {b : Bool} {er : Int} {r : Ab} (h : (⟨b, er, []⟩ : Ab) = r) : leO [] [] ∧ VV.le (.agg [.sc (.bool b), .sc (.int .i64 er), .nl]) (.agg (enc_Ab r)) := by
  subst h; exact ⟨trivial, VV.le_agg ⟨VV.le_refl _, VV.le_refl _, VV.le_nil, trivial⟩⟩
abbrev MtS (e : D.Env) (mt : Int → List Int → List Pn) : Prop := ∀ c m, VSpec Tryz.prog 115 [] [.agg (enc_Env e), intV c, encL_Int true m] [] (encL_Pn true (mt c m))
theorem xsends_spec {s : D.Stmt} {self : Bool} {mt : Int → List Int → List Pn} (h : PidE e) (hs : StOk e.M s) (hmt : self = false → MtS e mt) :
    VSpec Tryz.prog 78 [] [.agg (enc_Env e), .agg (enc_Stmt s), boolV self] [] (.agg (enc_Ab (sendsE e mt s self))) := by
  have hw := h.ok.wf
  have hsm := h.small
  have hq : sendsE e mt s self = bif decide ((echanP e s.A).2 ≠ 0) then ⟨true, (echanP e s.A).2, []⟩
    else bif decide ((fieldsE e (echanP e s.A).1).length ≠ s.Args.length) then ⟨true, 49, []⟩
    else bif decide (0 < (shAt e.M (chAt e (echanP e s.A).1).Shape).Room) then ⟨decide (((chAt e (echanP e s.A).1).Queue.length : Int) < (shAt e.M (chAt e (echanP e s.A).1).Shape).Room), 0, []⟩
    else bif self then ⟨false, 0, []⟩
    else bif decide ((messageE e s).2.2 ≠ 0) then ⟨true, (messageE e s).2.2, []⟩
    else ⟨decide (0 < (mt (echanP e s.A).1 (messageE e s).2.1).length), 0, mt (echanP e s.A).1 (messageE e s).2.1⟩ := rfl
  generalize sendsE e mt s self = r at hq
  refine vspec_raw tb_ok mixed Tryz.func78 (by kernel_rfl) rfl (xsends_raw r e s self) ⟨echanP e s.A, echan_spec hw hsm s.A, fun h1 => leafAn ?_, fun h1 => ?_⟩
  · rw [hq, show decide ((echanP e s.A).2 ≠ 0) = true by simpa using h1]; rfl
  have h0 : (echanP e s.A).2 = 0 := by simpa using h1
  rw [h0] at hq
  have hc := echan_in hw h0
  generalize (echanP e s.A).1 = n at hc hq ⊢
  have h2 := hc.lo
  have h3 := hc.hi
  have h4 := hc.le
  rw [wrap_id (by omega) (by omega)]
  refine ⟨by omega, hc.sh, fun hf => leafAn ?_, fun hf => ⟨fun hr => leafAn ?_, fun hr => ⟨fun hself => leafAn ?_, fun hself => ⟨messageE e s, xmsg_spec hw hsm hs.args, fun ha => leafAn ?_, fun ha => ⟨mt n (messageE e s).2.1, hmt hself _ _, leafA ?_⟩⟩⟩⟩⟩
  · rw [ne_len] at hf
    rw [hq, show decide ((fieldsE e n).length ≠ s.Args.length) = true from hf]; rfl
  · rw [ne_len] at hf
    rw [hq, show decide ((fieldsE e n).length ≠ s.Args.length) = false from hf, show decide (0 < (shAt e.M (chAt e n).Shape).Room) = true from hr]; rfl
  · rw [ne_len] at hf
    rw [hq, show decide ((fieldsE e n).length ≠ s.Args.length) = false from hf, show decide (0 < (shAt e.M (chAt e n).Shape).Room) = false from hr, hself]; rfl
  · rw [ne_len] at hf
    rw [hq, show decide ((fieldsE e n).length ≠ s.Args.length) = false from hf, show decide (0 < (shAt e.M (chAt e n).Shape).Room) = false from hr, hself, show decide ((messageE e s).2.2 ≠ 0) = true by simpa using ha]; rfl
  · rw [ne_len] at hf
    rw [hq, show decide ((fieldsE e n).length ≠ s.Args.length) = false from hf, show decide (0 < (shAt e.M (chAt e n).Shape).Room) = false from hr, hself, show decide ((messageE e s).2.2 ≠ 0) = false by simpa using ha]
    show _ = (⟨decide (0 < (mt n (messageE e s).2.1).length), 0, mt n (messageE e s).2.1⟩ : Ab)
    have : decide (((mt n (messageE e s).2.1).length : Int) > 0) = decide (0 < (mt n (messageE e s).2.1).length) := by rw [Bool.eq_iff_iff, decide_eq_true_eq, decide_eq_true_eq]; omega
    rw [this]
theorem xstmt_spec {s : D.Stmt} {self : Bool} {mt : Int → List Int → List Pn} (h : PidE e) (hs : StOk e.M s) (hmt : self = false → MtS e mt) :
    VSpec Tryz.prog 49 [] [.agg (enc_Env e), .agg (enc_Stmt s), boolV self] [] (.agg (enc_Ab (stmtE e mt s self))) := by
  have hw := h.ok.wf
  have hsm := h.small
  have hq : stmtE e mt s self = if s.Kind = 1 then (bif runsE e s.A then roomE e else ⟨decide ((evalP e s.A).1 ≠ 0) || decide ((evalP e s.A).2 ≠ 0), (evalP e s.A).2, []⟩)
    else if s.Kind = 2 then (bif runsE e s.B then roomE e else ⟨true, 0, []⟩)
    else if s.Kind = 9 then ⟨decide (e.S.Chans.length < 32), 0, []⟩
    else if s.Kind = 5 then sendsE e mt s self
    else if s.Kind = 6 then ⟨decide (0 ≤ (foundE e s).2.1) || decide ((foundE e s).2.2 ≠ 0), (foundE e s).2.2, []⟩
    else if s.Kind = 7 then ⟨false, 0, []⟩ else ⟨true, 0, []⟩ := rfl
  generalize stmtE e mt s self = r at hq
  have lf : ∀ {a : Ab}, a = r → leO [] [] ∧ VV.le (.agg (enc_Ab a)) (.agg (enc_Ab r)) := fun h => by subst h; exact ⟨trivial, VV.le_refl _⟩
  refine vspec_raw tb_ok mixed Tryz.func49 (by kernel_rfl) rfl (xstmt_raw r e s self) ⟨fun k1 => ⟨runsE e s.A, xruns_spec fun _ => (hs.k1 (by simpa using k1)).2, fun hr => ⟨roomE e, xroom_spec, lf ?_⟩, fun hr => ⟨evalP e s.A, eeval_spec hw hsm _, leafAn ?_⟩⟩,
    fun k1 => ⟨fun k2 => ⟨runsE e s.B, xruns_spec fun _ => (hs.k2 (by simpa using k2)).2, fun hr => ⟨roomE e, xroom_spec, lf ?_⟩, fun hr => leafAn ?_⟩,
    fun k2 => ⟨fun k9 => leafAn ?_, fun k9 => ⟨fun k5 => ⟨sendsE e mt s self, xsends_spec h hs hmt, lf ?_⟩, fun k5 => ⟨fun k6 => ⟨foundE e s, xfound_spec hw hsm hs.args (hs.k6 (by simpa using k6)), leafAn ?_⟩, fun k6 => ⟨fun k7 => leafAn ?_, fun k7 => leafAn ?_⟩⟩⟩⟩⟩⟩
  · rw [hq, if_pos (by simpa using k1), hr]; rfl
  · rw [hq, if_pos (by simpa using k1), hr, bif_or, ne_dec, ne_dec]; rfl
  · rw [hq, if_neg (by simpa using k1), if_pos (by simpa using k2), hr]; rfl
  · rw [hq, if_neg (by simpa using k1), if_pos (by simpa using k2), hr]; rfl
  · rw [hq, if_neg (by simpa using k1), if_neg (by simpa using k2), if_pos (by simpa using k9)]
    have : decide ((e.S.Chans.length : Int) < 32) = decide (e.S.Chans.length < 32) := by rw [Bool.eq_iff_iff, decide_eq_true_eq, decide_eq_true_eq]; omega
    rw [this]
  · rw [hq, if_neg (by simpa using k1), if_neg (by simpa using k2), if_neg (by simpa using k9), if_pos (by simpa using k5)]
  · rw [hq, if_neg (by simpa using k1), if_neg (by simpa using k2), if_neg (by simpa using k9), if_neg (by simpa using k5), if_pos (by simpa using k6), bif_or, ne_dec]
  · rw [hq, if_neg (by simpa using k1), if_neg (by simpa using k2), if_neg (by simpa using k9), if_neg (by simpa using k5), if_neg (by simpa using k6), if_pos (by simpa using k7)]
  · rw [hq, if_neg (by simpa using k1), if_neg (by simpa using k2), if_neg (by simpa using k9), if_neg (by simpa using k5), if_neg (by simpa using k6), if_neg (by simpa using k7)]
end
end Go.Proofs.YtiaebjpcgjkhoaaGreatDoor
namespace Go.Proofs.YtiaebjpcgjkhoaaGreatDoor
open Go.RowKit
section
variable {e : D.Env} {mt : Int → List Int → List Pn} {ws : List D.Trans} {self : Bool}
def canL (e : D.Env) (mt : Int → List Int → List Pn) (ws : List D.Trans) (self : Bool) (k : Nat) : List Ab := (List.range ws.length).map fun i => if i < k then stmtE e mt (ws.getD i default).S self else default
def canM (e : D.Env) (mt : Int → List Int → List Pn) (ws : List D.Trans) (self : Bool) (k : Nat) : List Ab := (List.range ws.length).map fun i => if i < k then canAt e mt ws self i else stmtE e mt (ws.getD i default).S self
theorem canL_len {k : Nat} : (canL e mt ws self k).length = ws.length := by simp [canL]
theorem canM_len {k : Nat} : (canM e mt ws self k).length = ws.length := by simp [canM]
theorem canL_get {k i : Nat} (hi : i < ws.length) : (canL e mt ws self k).getD i default = if i < k then stmtE e mt (ws.getD i default).S self else default := by simp [canL, List.getD, hi]
theorem canM_get {k i : Nat} (hi : i < ws.length) : (canM e mt ws self k).getD i default = if i < k then canAt e mt ws self i else stmtE e mt (ws.getD i default).S self := by simp [canM, List.getD, hi]
theorem canM_all : canM e mt ws self ws.length = canE e mt ws self := by
  unfold canM canE
  apply List.map_congr_left
  intro i hi
  rw [if_pos (List.mem_range.1 hi)]
theorem canL_all : canL e mt ws self ws.length = canM e mt ws self 0 := by
  unfold canM canL
  apply List.map_congr_left
  intro i hi
  rw [if_pos (List.mem_range.1 hi), if_neg (Nat.not_lt_zero _)]
theorem canE_len : (canE e mt ws self).length = ws.length := by simp [canE]
theorem beq_ne {i k : Nat} (h : i ≠ k) : Nat.beq i k = false := by
  cases hq : Nat.beq i k with
  | true => exact absurd (Nat.eq_of_beq_eq_true hq) h
  | false => rfl
set_option maxRecDepth 10000 in
theorem xcan_spec {n : Nat} (h : PidE e) (hw : WsOk e.M n ws) (hmt : self = false → MtS e mt) :
    VSpec Tryz.prog 32 [] [.agg (enc_Env e), encL_Trans true ws, boolV self] [] (encL_Ab true (canE e mt ws self)) := by
  have hwl := hw.len
  refine vspec_raw tb_ok mixed Tryz.func32 (by kernel_rfl) rfl (xcan_raw _ e ws self) ⟨⟨by omega, by omega, by omega⟩, ?_⟩
  refine loop_raw tb_ok mixed (fun g st => ∃ k : Nat, k ≤ ws.length ∧ g = ws.length - k ∧ st = stXcan1 e ws self ws.length (rowsAb (canL e mt ws self k)) (someG e mt ws self k) k) (by kernel_rfl) (by kernel_rfl)
    ⟨ws.length, Up.mk (l' := [(1, encL_Trans true ws), (2, boolV self), (3, .bp 0 0), (7, .ow 1 0 ws.length), (8, boolV false), (16, encL_Trans true ws), (17, intV ws.length), (18, intV ((0 : Nat) : Int))]) (hs' := [.box (enc_Env e), .arr true 0 ws.length 3 (rowsAb (canL e mt ws self 0))]) (leT_refl _) ⟨Ob.le_refl _, Ob.le_arr fun i hi => ?_, trivial⟩ ⟨0, Nat.zero_le _, rfl, rfl⟩⟩ ?_
  · have hz : rowsAb (canL e mt ws self 0) i = enc_Ab default := by
      unfold rowsAb
      rw [canL_get (by omega), if_neg (Nat.not_lt_zero _)]
    rw [hz]
    exact ⟨VV.le_refl _, VV.le_refl _, VV.le_nil, trivial⟩
  rintro g st ⟨k, hk, rfl, rfl⟩
  refine Asks.raw (xcan1_raw _ e ws self _ _ _ k _) ⟨fun hlt => ?_, fun hge => ?_⟩
  · have hlt' : k < ws.length := by have := lt_of hlt; omega
    have hto : (k : Int).toNat = k := by omega
    rw [hto]
    refine ⟨⟨by omega, by omega⟩, stmtE e mt (ws.getD k default).S self, xstmt_spec h (hw.st _ (getD_mem hlt')) hmt, ⟨by omega, by omega⟩, ?_⟩
    refine SatC.le (hs' := [.box (enc_Env e), .arr true 0 ws.length 3 (rowsAb (canL e mt ws self (k + 1)))]) (leT_refl _) ⟨Ob.le_refl _, Ob.le_arr fun i hi => leL_eq ?_, trivial⟩ ?_
    · unfold rowsAb
      rw [canL_get hi, canL_get hi]
      by_cases hik : i = k
      · subst hik
        rw [if_pos (Nat.lt_succ_self _), Nat.beq_refl, cond_true]; rfl
      · rw [beq_ne hik, cond_false]
        by_cases h1 : i < k
        · rw [if_pos h1, if_pos (by omega)]
        · rw [if_neg h1, if_neg (by omega)]
    · have e0 : mkSt [(1, encL_Trans true ws), (2, boolV self), (3, .bp 0 0), (7, .ow 1 0 ws.length), (8, boolV (someG e mt ws self k)), (9, intV k), (16, encL_Trans true ws), (17, intV ws.length), (18, intV k)] [.box (enc_Env e), .arr true 0 ws.length 3 (rowsAb (canL e mt ws self (k + 1)))] = stXcanC e ws self (canL e mt ws self (k + 1)) (someG e mt ws self k) k k := by
        unfold stXcanC; rw [canL_len]
      refine Eq.mpr (congrArg (SatC _ _) e0) ?_
      refine cut_raw tb_ok mixed (by kernel_rfl) (xcanc_raw _ e ws self _ _ k k _) ⟨fun _ => by rw [canL_len]; omega, ws.length - (k + 1), by omega, Up.of ⟨k + 1, hlt', rfl, ?_⟩⟩
      rw [wrap_succ (by omega), hto, canL_get hlt', if_pos (Nat.lt_succ_self _), canL_len]
      have : someG e mt ws self (k + 1) = bif someG e mt ws self k then true else (stmtE e mt (ws.getD k default).S self).is := by
        rw [bif_or]; rfl
      unfold stXcan1
      rw [this]; rfl
  · obtain rfl : k = ws.length := by have := ge_of hge; omega
    generalize hsome : someG e mt ws self ws.length = some
    refine loop_raw tb_ok mixed (fun g st => ∃ k : Nat, k ≤ ws.length ∧ g = ws.length - k ∧ st = stXcan2 ws (canM e mt ws self k) some k) (by kernel_rfl) (by kernel_rfl) ⟨ws.length, Up.of ⟨0, Nat.zero_le _, rfl, by unfold stXcan2; rw [canM_len, canL_all]; rfl⟩⟩ ?_
    rintro g st ⟨k, hk, rfl, rfl⟩
    refine Asks.raw (xcan2_raw _ ws _ some k _) ⟨fun hlt => ?_, fun hge => ⟨trivial, ?_⟩⟩
    · have hlt' : k < ws.length := by have := lt_of hlt; omega
      have hto : (k : Int).toNat = k := by omega
      rw [hto]
      have ek : (bif (ws.getD k default).S.Kind == (7 : Int) then !some else false) = (decide ((ws.getD k default).S.Kind = 7) && !(someG e mt ws self ws.length)) := by rw [bif_and, ieq, hsome]
      have ea : canAt e mt ws self k = bif decide ((ws.getD k default).S.Kind = 7) && !(someG e mt ws self ws.length) then { stmtE e mt (ws.getD k default).S self with is := true } else stmtE e mt (ws.getD k default).S self := rfl
      refine ⟨⟨by omega, by omega⟩, fun hy => ⟨by rw [canM_len]; omega, ws.length - (k + 1), by omega, Up.mk (hs' := [.arr true 0 (canM e mt ws self k).length 3 (rowsAb (canM e mt ws self (k + 1)))]) (leT_refl _) ⟨Ob.le_arr fun i hi => leL_eq ?_, trivial⟩ ⟨k + 1, hlt', rfl, ?_⟩⟩, fun hy => ⟨ws.length - (k + 1), by omega, Up.of ⟨k + 1, hlt', rfl, ?_⟩⟩⟩
      · rw [ek] at hy
        rw [canM_len] at hi
        rw [canM_get hlt', if_neg (Nat.lt_irrefl _)]
        unfold rowsAb
        rw [canM_get hi, canM_get hi]
        by_cases hik : i = k
        · subst hik
          rw [if_pos (Nat.lt_succ_self _), Nat.beq_refl, cond_true, ea, hy, cond_true]; rfl
        · rw [beq_ne hik, cond_false]
          by_cases h1 : i < k
          · rw [if_pos h1, if_pos (by omega)]; rfl
          · rw [if_neg h1, if_neg (by omega)]; rfl
      · rw [wrap_succ (by omega)]
        unfold stXcan2
        rw [canM_len, canM_len] <;> rfl
      · rw [ek] at hy
        have em : canM e mt ws self k = canM e mt ws self (k + 1) := by
          unfold canM
          apply List.map_congr_left
          intro i _
          by_cases hik : i = k
          · subst hik
            rw [if_neg (Nat.lt_irrefl _), if_pos (Nat.lt_succ_self _), ea, hy, cond_false]
          · by_cases h1 : i < k
            · rw [if_pos h1, if_pos (by omega)]
            · rw [if_neg h1, if_neg (by omega)]
        rw [wrap_succ (by omega), em]; rfl
    · obtain rfl : k = ws.length := by have := ge_of hge; omega
      rw [canM_all]; exact VV.le_refl _
end
end Go.Proofs.YtiaebjpcgjkhoaaGreatDoor
namespace Go.Proofs.YtiaebjpcgjkhoaaGreatDoor
open Go.RowKit
def idxA : Nat → List Ab → Int
  | _, [] => -1
  | k, x :: r => bif x.is then (k : Int) else idxA (k + 1) r
theorem idxA_cons {k : Nat} {x : Ab} {r : List Ab} : idxA k (x :: r) = bif x.is then (k : Int) else idxA (k + 1) r := rfl
theorem idxA_some : ∀ {l : List Ab} {k : Nat}, decide (idxA k l ≥ 0) = isSome l
  | [], k => by simp [idxA, isSome]
  | x :: r, k => by
    have ih := idxA_some (l := r) (k := k + 1)
    unfold isSome at *
    rw [List.any_cons, idxA_cons]
    cases x.is with
    | true => simp
    | false => rw [cond_false, ih, Bool.false_or]
abbrev isabV : VV := .fn (.func 168) []
theorem xisab_spec {x : Ab} : VSpec Tryz.prog 168 [] [.agg (enc_Ab x)] [] (boolV x.is) :=
  vspec_raw tb_ok mixed Tryz.func168 (by kernel_rfl) rfl (xisab_raw _ x) (leafB rfl)
theorem xidxf_spec {l : List Ab} (hl : l.length ≤ 1048576) : VSpec Tryz.prog 176 [] [encL_Ab true l, isabV] [] (intV (idxA 0 l)) := by
  refine vspec_raw tb_ok mixed Tryz.func176 (by kernel_rfl) rfl (xidxf_raw _ l) ?_
  refine loop_idx tb_ok mixed l.length (fun k => stXidxf l k) (fun k => idxA 0 l = idxA k (l.drop k)) (by kernel_rfl) (by kernel_rfl) rfl ?_
  intro k hk hI J next
  refine Asks.raw (xidxf1_raw _ l k J) ⟨fun hlt => ?_, fun hge => leafI ?_⟩
  · have hlt' : k < l.length := by have := lt_of hlt; omega
    have hto : (k : Int).toNat = k := by omega
    rw [hto]
    rw [drop_cons (d := default) hlt', idxA_cons] at hI
    refine ⟨by omega, (l.getD k default).is, xisab_spec, fun hy => leafI ?_, fun hy => next _ hlt' ?_ (Up.of ?_)⟩
    · rw [hy, cond_true] at hI; exact hI.symm
    · rw [hy, cond_false] at hI; exact hI
    · rw [wrap_succ (by omega)]; rfl
  · have hge' : l.length ≤ k := by have := ge_of hge; omega
    rw [hI, List.drop_of_length_le hge']; rfl
theorem xcontf_spec {l : List Ab} (hl : l.length ≤ 1048576) : VSpec Tryz.prog 167 [] [encL_Ab true l, isabV] [] (boolV (isSome l)) :=
  vspec_raw tb_ok mixed Tryz.func167 (by kernel_rfl) rfl (xcontf_raw _ l) ⟨_, xidxf_spec hl, leafB idxA_some⟩
section
variable {e : D.Env} {c : Int} {m : List Int}
theorem recvG_len {i : Int} : ∀ {ws : List D.Trans} {k : Nat}, (recvG e c m i k ws).length ≤ ws.length
  | [], _ => Nat.le_refl _
  | t :: r, k => by
    have := recvG_len (i := i) (ws := r) (k := k + 1)
    unfold recvG
    cases takesE e t.S c m <;> simp <;> omega
theorem recvG_cons {i : Int} {k : Nat} {t : D.Trans} {r : List D.Trans} : recvG e c m i k (t :: r) = (bif takesE e t.S c m then [⟨e.Pid, i, k⟩] else []) ++ recvG e c m i (k + 1) r := rfl
theorem row_pn {out : List Pn} {x : Pn} {G : Nat → List VV} (hG : G 0 = enc_Pn x) {i : Nat} (hi : i < out.length + 1) : (bif i.blt out.length then rowsPn out i else G (i - out.length)) = rowsPn (out ++ [x]) i :=
  rows_app (f := enc_Pn) (d := default) (l := out) (r := [x]) (F := rowsPn out) (fun _ _ => rfl) (fun j hj => by
    obtain rfl : j = 0 := by simpa using hj
    exact hG) (by simp; omega)
theorem xrcl_spec {n : Nat} {i : Int} {ws : List D.Trans} (h : PidE e) (hw : WsOk e.M n ws) :
    VSpec Tryz.prog 165 (hsR e c m []) [intV i, encL_Trans true ws, .bp 0 0, .bp 1 0, .bp 2 0, .bp 3 0] (hsR e c m (recvG e c m i 0 ws)) (boolV (decide (0 < (recvG e c m i 0 ws).length) || isSome (canE e noMt ws true))) := by
  have hwl := hw.len
  generalize hr : recvG e c m i 0 ws = r
  refine vspec_raw tb_ok mixed Tryz.func165 (by kernel_rfl) rfl (xrcl_raw r [] _ e c m i ws) ?_
  refine loop_raw tb_ok mixed (fun g st => ∃ (k : Nat) (out : List Pn), k ≤ ws.length ∧ g = ws.length - k ∧ out.length ≤ k ∧ out ++ recvG e c m i k (ws.drop k) = r ∧ st = stXrcl e c m out i ws k) (by kernel_rfl) (by kernel_rfl) ⟨ws.length, Up.of ⟨0, [], Nat.zero_le _, rfl, Nat.zero_le _, hr, rfl⟩⟩ ?_
  rintro g st ⟨k, out, hk, rfl, ho, hq, rfl⟩
  refine Asks.raw (xrcl1_raw r _ e c m out i ws k _) ⟨fun hlt => ?_, fun hge => ?_⟩
  · have hlt' : k < ws.length := by have := lt_of hlt; omega
    have hto : (k : Int).toNat = k := by omega
    rw [hto]
    rw [drop_cons (d := default) hlt', recvG_cons] at hq
    have hs := hw.st _ (getD_mem (d := default) hlt')
    refine ⟨⟨by omega, by omega⟩, takesE e (ws.getD k default).S c m, xtakes_spec h.ok.wf h.small hs.args hs.k6, fun hy => ⟨by omega, ws.length - (k + 1), by omega,
      Up.mk (hs' := [.box (enc_Env e), .box [intV c], .box [encL_Int true m], .box [.ow 4 0 (out.length + 1)], .arr true 0 (out.length + 1) 3 (rowsPn (out ++ [Pn.mk e.Pid i k]))]) (leT_refl _) ⟨Ob.le_refl _, Ob.le_refl _, Ob.le_refl _, Ob.le_refl _, Ob.le_arr fun j hj => leL_eq (row_pn (x := Pn.mk e.Pid i k) (G := fun j => List.take 3 (List.drop (j * 3) (enc_Pn (Pn.mk e.Pid i k)))) rfl hj), trivial⟩ ⟨k + 1, out ++ [Pn.mk e.Pid i k], hlt', rfl, by simp; omega, ?_, ?_⟩⟩, fun hy => ⟨ws.length - (k + 1), by omega, Up.of ⟨k + 1, out, hlt', rfl, by omega, ?_, ?_⟩⟩⟩
    · rw [hy, cond_true] at hq; rw [List.append_assoc]; exact hq
    · rw [wrap_succ (by omega)]
      unfold stXrcl hsR
      rw [List.length_append]; rfl
    · rw [hy, cond_false, List.nil_append] at hq; exact hq
    · rw [wrap_succ (by omega)]; rfl
  · have hge' : ws.length ≤ k := by have := ge_of hge; omega
    rw [List.drop_of_length_le hge'] at hq
    have hq : out = r := by simpa [recvG] using hq
    subst hq
    refine ⟨canE e noMt ws true, fun _ => xcan_spec h hw (fun h => by cases h), isSome (canE e noMt ws true), fun _ => xcontf_spec (by rw [canE_len]; omega), ⟨Ob.le_refl _, Ob.le_refl _, Ob.le_refl _, Ob.le_refl _, Ob.le_refl _, trivial⟩, VV.le_eq ?_⟩
    have : decide ((out.length : Int) > 0) = decide (0 < out.length) := by rw [Bool.eq_iff_iff, decide_eq_true_eq, decide_eq_true_eq]; omega
    rw [bif_or, this]
theorem recvL_cons {i : Int} {ws : List D.Trans} {r : List (Int × List D.Trans)} : recvL e c m ((i, ws) :: r) = bif decide (0 < (recvG e c m i 0 ws).length) || isSome (canE e noMt ws true) then recvG e c m i 0 ws else recvL e c m r := rfl
theorem xlistsR_spec {n : Nat} {l : D.Loc} (h : PidE e) (hl : l.Esc.length ≤ 1048576) (hw : ∀ ws ∈ waysP l, WsOk e.M n ws) :
    VSpec Tryz.prog 30 (hsR e c m []) [.agg (enc_Loc l), capR] (hsR e c m (recvL e c m (listsE l))) (.tup []) := by
  generalize hr : recvL e c m (listsE l) = r
  refine vspec_raw tb_ok mixed Tryz.func30 (by kernel_rfl) rfl (xlistsR_raw r [] e c m l) ?_
  refine loop_raw tb_ok mixed (fun g st => ∃ k : Nat, k ≤ l.Esc.length ∧ g = l.Esc.length - k ∧ recvL e c m (escL k (l.Esc.drop k) ++ [(-1, l.Out)]) = r ∧ st = stXlistsR e c m [] l k) (by kernel_rfl) (by kernel_rfl) ⟨l.Esc.length, Up.of ⟨0, Nat.zero_le _, rfl, hr, rfl⟩⟩ ?_
  rintro g st ⟨k, hk, rfl, hq, rfl⟩
  refine Asks.raw (xlistsR1_raw r e c m [] l k _) ⟨fun hlt => ?_, fun hge => ?_⟩
  · have hlt' : k < l.Esc.length := by have := lt_of hlt; omega
    have hto : (k : Int).toNat = k := by omega
    rw [hto]
    rw [drop_cons (d := []) hlt'] at hq
    unfold escL at hq
    rw [List.cons_append, recvL_cons] at hq
    refine ⟨⟨by omega, by omega⟩, (recvG e c m k 0 (l.Esc.getD k []), decide (0 < (recvG e c m k 0 (l.Esc.getD k [])).length) || isSome (canE e noMt (l.Esc.getD k []) true)), xrcl_spec h (hw _ (List.mem_cons_of_mem _ (getD_mem hlt'))), fun hy => ?_, fun hy => ⟨l.Esc.length - (k + 1), by omega, Up.of ⟨k + 1, hlt', rfl, ?_, ?_⟩⟩⟩
    · have hy : (decide (0 < (recvG e c m k 0 (l.Esc.getD k [])).length) || isSome (canE e noMt (l.Esc.getD k []) true)) = true := hy
      rw [hy, cond_true] at hq
      subst hq
      exact ⟨⟨Ob.le_refl _, Ob.le_refl _, Ob.le_refl _, Ob.le_refl _, Ob.le_refl _, trivial⟩, VV.le_refl _⟩
    · have hy : (decide (0 < (recvG e c m k 0 (l.Esc.getD k [])).length) || isSome (canE e noMt (l.Esc.getD k []) true)) = false := hy
      rw [hy, cond_false] at hq; exact hq
    · have hy : (decide (0 < (recvG e c m k 0 (l.Esc.getD k [])).length) || isSome (canE e noMt (l.Esc.getD k []) true)) = false := hy
      rw [Bool.or_eq_false_iff] at hy
      have h0 : recvG e c m k 0 (l.Esc.getD k []) = [] := List.eq_nil_of_length_eq_zero (by have := of_decide_eq_false hy.1; omega)
      rw [wrap_succ (by omega)]
      show mkSt _ [_, _, _, .box [.ow 4 0 (recvG e c m k 0 (l.Esc.getD k [])).length], .arr true 0 (recvG e c m k 0 (l.Esc.getD k [])).length 3 (rowsPn (recvG e c m k 0 (l.Esc.getD k []))), _] = _
      rw [h0]; rfl
  · have hge' : l.Esc.length ≤ k := by have := ge_of hge; omega
    rw [List.drop_of_length_le hge'] at hq
    refine ⟨(recvG e c m (-1) 0 l.Out, decide (0 < (recvG e c m (-1) 0 l.Out).length) || isSome (canE e noMt l.Out true)), xrcl_spec h (hw _ (List.mem_cons_self ..)), ?_, VV.le_refl _⟩
    have h0 : recvG e c m (-1) 0 l.Out = r := by
      rw [← hq]
      show _ = recvL e c m ([] ++ [(-1, l.Out)])
      rw [List.nil_append, recvL_cons]
      cases hy : (decide (0 < (recvG e c m (-1) 0 l.Out).length) || isSome (canE e noMt l.Out true)) with
      | true => rfl
      | false =>
        rw [Bool.or_eq_false_iff] at hy
        exact List.eq_nil_of_length_eq_zero (by have := of_decide_eq_false hy.1; omega)
    subst h0
    exact ⟨Ob.le_refl _, Ob.le_refl _, Ob.le_refl _, Ob.le_refl _, Ob.le_refl _, trivial⟩
theorem recvL_len {N : Nat} : ∀ {ls : List (Int × List D.Trans)}, (∀ p ∈ ls, p.2.length ≤ N) → (recvL e c m ls).length ≤ N
  | [], _ => Nat.zero_le _
  | (i, ws) :: r, h => by
    have h1 := h _ (List.mem_cons_self ..)
    have h2 := recvL_len (ls := r) fun p hp => h p (List.mem_cons_of_mem _ hp)
    have h3 := recvG_len (e := e) (c := c) (m := m) (i := i) (ws := ws) (k := 0)
    rw [recvL_cons]
    cases (decide (0 < (recvG e c m i 0 ws).length) || isSome (canE e noMt ws true)) with
    | true => rw [cond_true]; exact Nat.le_trans h3 h1
    | false => exact h2
theorem mem_escL' : ∀ {r : List (List D.Trans)} {k : Nat} {p : Int × List D.Trans}, p ∈ escL k r → p.2 ∈ r
  | [], _, _, h => by cases h
  | w :: r, k, p, h => by
    rcases List.mem_cons.1 h with rfl | h
    · exact List.mem_cons_self ..
    · exact List.mem_cons_of_mem _ (mem_escL' h)
theorem mem_listsE {l : D.Loc} {p : Int × List D.Trans} (h : p ∈ listsE l) : p.2 ∈ waysP l := by
  rcases List.mem_append.1 h with h | h
  · exact List.mem_cons_of_mem _ (mem_escL' h)
  · rw [List.mem_singleton.1 h]; exact List.mem_cons_self ..
theorem recvE_len (h : PidE e) : (recvE e c m).length ≤ 1024 := by
  unfold recvE
  cases (!(providedE e).1 || decide ((providedE e).2 ≠ 0)) with
  | true => exact Nat.zero_le _
  | false => exact recvL_len fun p hp => (h.ws (mem_listsE hp)).len
theorem xrecv_spec (h : PidE e) : VSpec Tryz.prog 145 [] [.agg (enc_Env e), intV c, encL_Int true m] [] (encL_Pn true (recvE e c m)) := by
  have hq : recvE e c m = bif !(providedE e).1 || decide ((providedE e).2 ≠ 0) then [] else recvL e c m (listsE (locE e)) := rfl
  generalize recvE e c m = r at hq
  refine vspec_raw tb_ok mixed Tryz.func145 (by kernel_rfl) rfl (xrecv_raw r e c m) ⟨providedE e, xprov_spec h, fun h1 => ?_, fun h1 => ⟨locE e, xloc_spec h, r, ?_, trivial, VV.le_refl _⟩⟩
  · rw [bif_or, ne_dec] at h1
    rw [h1, cond_true] at hq
    rw [hq]
    exact ⟨trivial, VV.le_nil⟩
  · rw [bif_or, ne_dec] at h1
    rw [h1, cond_false] at hq
    rw [hq]
    exact VSpec.ownB (i := 3) (j := 0) (cs := [.nl]) rfl rfl 3 (rowsPn []) (xlistsR_spec h h.wloc.Esc.1 fun ws hw => h.ws hw)
theorem PidE.at (h : PidE e) {k : Nat} (hk : k < e.S.Procs.length) : PidE (atPid e k) := ⟨⟨h.ok.fits, h.ok.may, h.ok.wf, by show -1 ≤ (k : Int); omega, by show (k : Int) < _; exact Int.ofNat_lt.2 hk⟩, by show 0 ≤ (k : Int); omega⟩
theorem meetsG_len (h : PidE e) : ∀ {n : Nat}, n ≤ e.S.Procs.length → (meetsG e c m n).length ≤ n * 1024
  | 0, _ => Nat.zero_le _
  | n + 1, hn => by
    have h1 := meetsG_len h (n := n) (by omega)
    have h2 := recvE_len (c := c) (m := m) (h.at (k := n) (by omega))
    unfold meetsG
    rw [List.length_append]
    cases decide ((n : Int) ≠ e.Pid) with
    | true => rw [cond_true]; omega
    | false => rw [cond_false, List.length_nil, Nat.add_zero]; exact Nat.le_trans h1 (Nat.mul_le_mul_right _ (Nat.le_succ n))
set_option maxRecDepth 10000 in
theorem xmeets_spec (h : PidE e) : MtS e (meetsE e) := by
  intro c m
  have hp := h.ok.fit.p
  refine vspec_raw tb_ok mixed Tryz.func115 (by kernel_rfl) rfl (xmeets_raw _ e c m) ?_
  refine SatC.own 3 7 3 (rowsPn []) rfl ?_
  refine loop_raw tb_ok mixed (fun g st => ∃ k : Nat, k ≤ e.S.Procs.length ∧ g = e.S.Procs.length - k ∧ st = stXmeets e c m (meetsG e c m k) k) (by kernel_rfl) (by kernel_rfl) ⟨e.S.Procs.length, Up.of ⟨0, Nat.zero_le _, rfl, rfl⟩⟩ ?_
  rintro g st ⟨k, hk, rfl, rfl⟩
  have hlen := meetsG_len (c := c) (m := m) h hk
  refine Asks.raw (xmeets1_raw _ e c m _ k _) ⟨fun hlt => ?_, fun hge => ⟨trivial, ?_⟩⟩
  · have hlt' : k < e.S.Procs.length := by have := lt_of hlt; omega
    have hr := recvE_len (c := c) (m := m) (h.at hlt')
    refine ⟨fun hy => ⟨recvE (atPid e k) c m, xrecv_spec (h.at hlt'), by omega, fun i _ => rfl, e.S.Procs.length - (k + 1), by omega,
      Up.mk (hs' := [.box (enc_Env e), .arr true 0 ((meetsG e c m k).length + (recvE (atPid e k) c m).length) 3 (rowsPn (meetsG e c m k ++ recvE (atPid e k) c m))]) (leT_refl _) ⟨Ob.le_refl _, Ob.le_arr fun i hi => leL_eq ?_, trivial⟩ ⟨k + 1, hlt', rfl, ?_⟩⟩, fun hy => ⟨e.S.Procs.length - (k + 1), by omega, Up.of ⟨k + 1, hlt', rfl, ?_⟩⟩⟩
    · exact rows_app (f := enc_Pn) (d := default) (l := meetsG e c m k) (r := recvE (atPid e k) c m) (F := rowsPn (meetsG e c m k)) (fun _ _ => rfl) (fun _ _ => rfl) (by simpa using hi)
    · rw [ne_dec] at hy
      have e1 : meetsG e c m (k + 1) = meetsG e c m k ++ recvE (atPid e k) c m := by
        show meetsG e c m k ++ (bif decide ((k : Int) ≠ e.Pid) then _ else _) = _
        rw [hy, cond_true]
      rw [wrap_succ (by omega), e1]
      unfold stXmeets
      rw [List.length_append] <;> rfl
    · rw [ne_dec] at hy
      have e1 : meetsG e c m (k + 1) = meetsG e c m k := by
        show meetsG e c m k ++ (bif decide ((k : Int) ≠ e.Pid) then _ else _) = _
        rw [hy, cond_false, List.append_nil]
      rw [wrap_succ (by omega), e1]; rfl
  · obtain rfl : k = e.S.Procs.length := by have := ge_of hge; omega
    exact VV.le_refl _
end
end Go.Proofs.YtiaebjpcgjkhoaaGreatDoor
namespace Go.Proofs.YtiaebjpcgjkhoaaGreatDoor
open Go.RowKit
section
variable {e : D.Env}
theorem meetsE_len (h : PidE e) {c : Int} {m : List Int} : (meetsE e c m).length ≤ 16384 := by
  have h1 := meetsG_len (c := c) (m := m) h (Nat.le_refl _)
  have h2 := h.ok.fit.p
  have h3 : e.S.Procs.length * 1024 ≤ 16 * 1024 := Nat.mul_le_mul_right _ h2
  exact Nat.le_trans h1 h3
theorem stmtE_wth (h : PidE e) {s : D.Stmt} {self : Bool} : (stmtE e (meetsE e) s self).wth.length ≤ 16384 := by
  have hz : ([] : List Pn).length ≤ 16384 := Nat.zero_le _
  unfold stmtE
  split
  · cases runsE e s.A <;> exact hz
  split
  · cases runsE e s.B <;> exact hz
  split
  · exact hz
  split
  · unfold sendsE
    cases decide ((echanP e s.A).2 ≠ 0)
    · cases decide ((fieldsE e (echanP e s.A).1).length ≠ s.Args.length)
      · cases decide (0 < (shAt e.M (chAt e (echanP e s.A).1).Shape).Room)
        · cases self
          · cases decide ((messageE e s).2.2 ≠ 0)
            · exact meetsE_len h
            · exact hz
          · exact hz
        · exact hz
      · exact hz
    · exact hz
  split
  · exact hz
  split <;> exact hz
theorem canAt_wth {mt : Int → List Int → List Pn} {ws : List D.Trans} {self : Bool} {i : Nat} : (canAt e mt ws self i).wth = (stmtE e mt (ws.getD i default).S self).wth := by
  unfold canAt
  cases (decide ((ws.getD i default).S.Kind = 7) && !(someG e mt ws self ws.length)) <;> rfl
theorem canE_wth (h : PidE e) {ws : List D.Trans} {self : Bool} : ∀ x ∈ canE e (meetsE e) ws self, x.wth.length ≤ 16384 := by
  intro x hx
  unfold canE at hx
  obtain ⟨i, _, rfl⟩ := List.mem_map.1 hx
  rw [canAt_wth]
  exact stmtE_wth h
theorem wayG_cons {i : Int} {k : Nat} {x : Ab} {r : List Ab} : wayG i k (x :: r) = wayOf i k x ++ wayG i (k + 1) r := rfl
theorem row_wy {out : List Wy} {x : Wy} {G : Nat → List VV} (hG : G 0 = enc_Wy x) {i : Nat} (hi : i < out.length + 1) : (bif i.blt out.length then rowsWy out i else G (i - out.length)) = rowsWy (out ++ [x]) i :=
  rows_app (f := enc_Wy) (d := default) (l := out) (r := [x]) (F := rowsWy out) (fun _ _ => rfl) (fun j hj => by
    obtain rfl : j = 0 := by simpa using hj
    exact hG) (by simp; omega)
theorem room_a {a k j w : Nat} (h : a ≤ k * 16385 + 1 + j) (h1 : j ≤ w) (h2 : w ≤ 16384) : a ≤ (k + 1) * 16385 := by
  rw [Nat.succ_mul]
  generalize k * 16385 = t at h ⊢
  omega
set_option maxRecDepth 10000 in
theorem xpcl_spec {n : Nat} {i : Int} {ws : List D.Trans} (h : PidE e) (hw : WsOk e.M n ws) :
    VSpec Tryz.prog 31 (hsW e []) [intV i, encL_Trans true ws, .bp 0 0, .bp 1 0] (hsW e (wayG i 0 (canE e (meetsE e) ws false))) (boolV (decide (0 < (wayG i 0 (canE e (meetsE e) ws false)).length))) := by
  have hL : (canE e (meetsE e) ws false).length ≤ 1024 := by rw [canE_len]; exact hw.len
  have hwth := canE_wth h (ws := ws) (self := false)
  have hcan := xcan_spec h hw (self := false) (fun _ => xmeets_spec h)
  generalize canE e (meetsE e) ws false = L at hL hwth hcan
  generalize hr : wayG i 0 L = r
  refine vspec_raw tb_ok mixed Tryz.func31 (by kernel_rfl) rfl (xpcl_raw r [] _ e i ws) ⟨L, hcan, ?_⟩
  refine loop_raw tb_ok mixed (fun g st => ∃ (k : Nat) (out : List Wy), k ≤ L.length ∧ g = L.length - k ∧ out.length ≤ k * 16385 ∧ out ++ wayG i k (L.drop k) = r ∧ st = stXpcl1 e out i L k) (by kernel_rfl) (by kernel_rfl) ⟨L.length, Up.of ⟨0, [], Nat.zero_le _, rfl, Nat.zero_le _, hr, rfl⟩⟩ ?_
  rintro g st ⟨k, out, hk, rfl, ho, hq, rfl⟩
  refine Asks.raw (xpcl1_raw r _ e out i L k _) ⟨fun hlt => ?_, fun hge => ?_⟩
  · have hlt' : k < L.length := by have := lt_of hlt; omega
    have hto : (k : Int).toNat = k := by omega
    rw [hto]
    rw [drop_cons (d := default) hlt', wayG_cons] at hq
    have hx := hwth _ (getD_mem (d := default) hlt')
    generalize L.getD k default = x at hq hx ⊢
    have hko : k * 16385 ≤ 1024 * 16385 := Nat.mul_le_mul_right _ (by omega)
    have key : ∀ (J : St → Prop) (out1 : List Wy), out1.length ≤ k * 16385 + 1 → out1 ++ (x.wth.map (withW i k x.err) ++ wayG i (k + 1) (L.drop (k + 1))) = r →
        (∀ st', Up (fun st => ∃ out2 : List Wy, out2.length ≤ (k + 1) * 16385 ∧ out2 ++ wayG i (k + 1) (L.drop (k + 1)) = r ∧ st = stXpcl1 e out2 i L ((k + 1 : Nat) : Int)) st' → J st') →
        SatC ((fnCtx Tryz.prog tb shEc ann_xpcl true Tryz.f31 (hsW e r) (boolV (decide (0 < r.length)))).loop [1, 0, 1, 0] J) [1, 1, 0, 0, 1, 1, 1, 1, 0] (stXpcl2 e out1 i L k ⟨i, k, -1, -1, -1, x.err⟩ x.wth 0) := by
      intro J out1 ho1 hq1 hJ
      refine loop_raw tb_ok mixed (fun g st => ∃ (j : Nat) (w : Wy) (o : List Wy), j ≤ x.wth.length ∧ g = x.wth.length - j ∧ o.length ≤ k * 16385 + 1 + j ∧ o ++ ((x.wth.drop j).map (withW i k x.err) ++ wayG i (k + 1) (L.drop (k + 1))) = r ∧ (w.Esc = i ∧ w.Way = k ∧ w.Err = x.err) ∧ st = stXpcl2 e o i L k w x.wth j) (by kernel_rfl) (by kernel_rfl)
        ⟨x.wth.length, Up.of ⟨0, _, out1, Nat.zero_le _, rfl, ho1, hq1, ⟨rfl, rfl, rfl⟩, rfl⟩⟩ ?_
      rintro g st ⟨j, w, o, hj, rfl, hol, hoq, ⟨w1, w2, w3⟩, rfl⟩
      refine Asks.raw (xpcl2_raw r _ e o i L k w x.wth j _ _) ⟨fun hlt2 => ?_, fun hge2 => ?_⟩
      · have hlt2' : j < x.wth.length := by have := lt_of hlt2; omega
        have hto2 : (j : Int).toNat = j := by omega
        rw [hto2]
        rw [drop_cons (d := default) hlt2', List.map_cons, List.cons_append] at hoq
        generalize x.wth.getD j default = p at hoq ⊢
        rw [w1, w2, w3]
        refine ⟨⟨by omega, by omega⟩, by omega, x.wth.length - (j + 1), by omega, Up.mk (hs' := [.box (enc_Env e), .box [.ow 2 0 (o.length + 1)], .arr true 0 (o.length + 1) 6 (rowsWy (o ++ [withW i k x.err p])), .box (enc_Wy (withW i k x.err p))]) (leT_refl _)
          ⟨Ob.le_refl _, Ob.le_refl _, Ob.le_arr fun t ht => leL_eq (row_wy (x := withW i k x.err p) (G := fun t => List.take 6 (List.drop (t * 6) (enc_Wy (withW i k x.err p)))) rfl ht), Ob.le_refl _, trivial⟩ ⟨j + 1, withW i k x.err p, o ++ [withW i k x.err p], hlt2', rfl, by simp; omega, by rw [List.append_assoc]; exact hoq, ⟨rfl, rfl, rfl⟩, ?_⟩⟩
        rw [wrap_succ (by omega)]
        unfold stXpcl2 hsW
        rw [List.length_append]; rfl
      · have hge2' : x.wth.length ≤ j := by have := ge_of hge2; omega
        rw [List.drop_of_length_le hge2', List.map_nil, List.nil_append] at hoq
        refine hJ _ (Up.of ⟨o, room_a hol hj hx, hoq, ?_⟩)
        rw [wrap_succ (by omega)]; rfl
    have next : ∀ st', Up (fun st => ∃ out2 : List Wy, out2.length ≤ (k + 1) * 16385 ∧ out2 ++ wayG i (k + 1) (L.drop (k + 1)) = r ∧ st = stXpcl1 e out2 i L ((k + 1 : Nat) : Int)) st' →
        ∃ g', g' < L.length - k ∧ Up (fun st => ∃ (k : Nat) (out : List Wy), k ≤ L.length ∧ g' = L.length - k ∧ out.length ≤ k * 16385 ∧ out ++ wayG i k (L.drop k) = r ∧ st = stXpcl1 e out i L k) st' := by
      rintro st' ⟨s', hc, out2, h1, h2, h3⟩
      exact ⟨L.length - (k + 1), by omega, s', hc, k + 1, out2, hlt', rfl, h1, h2, h3⟩
    have ez : ((x.wth.length : Int) == 0) = decide (x.wth.length = 0) := by rw [Bool.eq_iff_iff, beq_iff_eq, decide_eq_true_eq]; omega
    refine ⟨⟨by omega, by omega⟩, fun hy => ⟨by omega, ?_⟩, fun hy => ?_⟩
    · rw [bif_and, ez] at hy
      have hw0 : wayOf i k x = Wy.mk i k (-1) (-1) (-1) x.err :: x.wth.map (withW i k x.err) := by unfold wayOf; rw [hy]; rfl
      rw [hw0] at hq
      refine SatC.le (hs' := [.box (enc_Env e), .box [.ow 2 0 (out.length + 1)], .arr true 0 (out.length + 1) 6 (rowsWy (out ++ [Wy.mk i k (-1) (-1) (-1) x.err])), .box (enc_Wy (Wy.mk i k (-1) (-1) (-1) x.err))]) (leT_refl _)
          ⟨Ob.le_refl _, Ob.le_refl _, Ob.le_arr fun t ht => leL_eq (row_wy (x := Wy.mk i k (-1) (-1) (-1) x.err) (G := fun t => List.take 6 (List.drop (t * 6) (enc_Wy (Wy.mk i k (-1) (-1) (-1) x.err)))) rfl ht), Ob.le_refl _, trivial⟩ ?_
      have hk1 := key _ (out ++ [Wy.mk i k (-1) (-1) (-1) x.err]) (by simp; omega) (by rw [List.append_assoc]; exact hq) next
      unfold stXpcl2 hsW at hk1
      rw [List.length_append] at hk1
      exact hk1
    · rw [bif_and, ez] at hy
      have hw0 : wayOf i k x = x.wth.map (withW i k x.err) := by unfold wayOf; rw [hy]; rfl
      rw [hw0] at hq
      exact key _ out (Nat.le_succ_of_le ho) hq next
  · have hge' : L.length ≤ k := by have := ge_of hge; omega
    rw [List.drop_of_length_le hge'] at hq
    have hq : out = r := by simpa [wayG] using hq
    subst hq
    refine ⟨⟨Ob.le_refl _, Ob.le_refl _, Ob.le_refl _, trivial⟩, VV.le_eq ?_⟩
    have : decide ((out.length : Int) > 0) = decide (0 < out.length) := by rw [Bool.eq_iff_iff, decide_eq_true_eq, decide_eq_true_eq]; omega
    rw [this]
theorem pathL_cons {i : Int} {ws : List D.Trans} {r : List (Int × List D.Trans)} : pathL e ((i, ws) :: r) = bif decide (0 < (wayG i 0 (canE e (meetsE e) ws false)).length) then wayG i 0 (canE e (meetsE e) ws false) else pathL e r := rfl
theorem xlistsW_spec {n : Nat} {l : D.Loc} (h : PidE e) (hl : l.Esc.length ≤ 1048576) (hw : ∀ ws ∈ waysP l, WsOk e.M n ws) :
    VSpec Tryz.prog 30 (hsW e []) [.agg (enc_Loc l), capW] (hsW e (pathL e (listsE l))) (.tup []) := by
  generalize hr : pathL e (listsE l) = r
  refine vspec_raw tb_ok mixed Tryz.func30 (by kernel_rfl) rfl (xlistsW_raw r [] e l) ?_
  refine loop_raw tb_ok mixed (fun g st => ∃ k : Nat, k ≤ l.Esc.length ∧ g = l.Esc.length - k ∧ pathL e (escL k (l.Esc.drop k) ++ [(-1, l.Out)]) = r ∧ st = stXlistsW e [] l k) (by kernel_rfl) (by kernel_rfl) ⟨l.Esc.length, Up.of ⟨0, Nat.zero_le _, rfl, hr, rfl⟩⟩ ?_
  rintro g st ⟨k, hk, rfl, hq, rfl⟩
  refine Asks.raw (xlistsW1_raw r e [] l k _) ⟨fun hlt => ?_, fun hge => ?_⟩
  · have hlt' : k < l.Esc.length := by have := lt_of hlt; omega
    have hto : (k : Int).toNat = k := by omega
    rw [hto]
    rw [drop_cons (d := []) hlt'] at hq
    unfold escL at hq
    rw [List.cons_append, pathL_cons] at hq
    refine ⟨⟨by omega, by omega⟩, (wayG k 0 (canE e (meetsE e) (l.Esc.getD k []) false), decide (0 < (wayG k 0 (canE e (meetsE e) (l.Esc.getD k []) false)).length)), xpcl_spec h (hw _ (List.mem_cons_of_mem _ (getD_mem hlt'))), fun hy => ?_, fun hy => ⟨l.Esc.length - (k + 1), by omega, Up.of ⟨k + 1, hlt', rfl, ?_, ?_⟩⟩⟩
    · have hy : decide (0 < (wayG k 0 (canE e (meetsE e) (l.Esc.getD k []) false)).length) = true := hy
      rw [hy, cond_true] at hq
      subst hq
      exact ⟨⟨Ob.le_refl _, Ob.le_refl _, Ob.le_refl _, trivial⟩, VV.le_refl _⟩
    · have hy : decide (0 < (wayG k 0 (canE e (meetsE e) (l.Esc.getD k []) false)).length) = false := hy
      rw [hy, cond_false] at hq; exact hq
    · have hy : decide (0 < (wayG k 0 (canE e (meetsE e) (l.Esc.getD k []) false)).length) = false := hy
      have h0 : wayG k 0 (canE e (meetsE e) (l.Esc.getD k []) false) = [] := List.eq_nil_of_length_eq_zero (by have := of_decide_eq_false hy; omega)
      rw [wrap_succ (by omega)]
      show mkSt _ [_, .box [.ow 2 0 (wayG k 0 (canE e (meetsE e) (l.Esc.getD k []) false)).length], .arr true 0 (wayG k 0 (canE e (meetsE e) (l.Esc.getD k []) false)).length 6 (rowsWy (wayG k 0 (canE e (meetsE e) (l.Esc.getD k []) false))), _] = _
      rw [h0]; rfl
  · have hge' : l.Esc.length ≤ k := by have := ge_of hge; omega
    rw [List.drop_of_length_le hge'] at hq
    refine ⟨(wayG (-1) 0 (canE e (meetsE e) l.Out false), decide (0 < (wayG (-1) 0 (canE e (meetsE e) l.Out false)).length)), xpcl_spec h (hw _ (List.mem_cons_self ..)), ?_, VV.le_refl _⟩
    have h0 : wayG (-1) 0 (canE e (meetsE e) l.Out false) = r := by
      rw [← hq]
      show _ = pathL e ([] ++ [(-1, l.Out)])
      rw [List.nil_append, pathL_cons]
      cases hy : decide (0 < (wayG (-1) 0 (canE e (meetsE e) l.Out false)).length) with
      | true => rfl
      | false => exact List.eq_nil_of_length_eq_zero (by have := of_decide_eq_false hy; omega)
    subst h0
    exact ⟨Ob.le_refl _, Ob.le_refl _, Ob.le_refl _, trivial⟩
theorem leafW1 {w : Wy} {r : List Wy} (h : [w] = r) : leO [] [] ∧ VV.le (.sl true 1 6 fun i => List.take 6 (List.drop (i * 6) (enc_Wy w))) (encL_Wy true r) := by
  subst h
  refine ⟨trivial, VV.le_sl (.inl rfl) fun i hi => leL_eq ?_⟩
  obtain rfl : i = 0 := by omega
  rfl
theorem xpaths_spec (h : PidE e) : VSpec Tryz.prog 16 [] [.agg (enc_Env e)] [] (encL_Wy true (pathsE e)) := by
  have hp := h.ok.fit.p
  have hq : pathsE e = bif decide ((psAt e e.Pid).Loc = (procE e).Final) then (bif decide (e.Pid = (e.S.Procs.length : Int) - 1) then [noneW 0] else [])
    else bif decide ((providedE e).2 ≠ 0) then [noneW (providedE e).2]
    else bif !(providedE e).1 then [] else pathL e (listsE (locE e)) := rfl
  generalize pathsE e = r at hq
  refine vspec_raw tb_ok mixed Tryz.func16 (by kernel_rfl) rfl (xpaths_raw r e) ⟨⟨h.p0, h.ok.pid.2⟩, procE e, xproc_spec h, fun h1 => ⟨fun h2 => ⟨noneW 0, xnone_spec, leafW1 ?_⟩, fun h2 => ?_⟩,
    fun h1 => ⟨providedE e, xprov_spec h, fun h2 => ⟨noneW (providedE e).2, xnone_spec, leafW1 ?_⟩, fun h2 => ⟨fun h3 => ?_, fun h3 => ⟨locE e, xloc_spec h, pathL e (listsE (locE e)), ?_, ?_⟩⟩⟩⟩
  · rw [ieq] at h1
    rw [wrap_id (by omega) (by omega), ieq] at h2
    rw [hq, show decide ((psAt e e.Pid).Loc = (procE e).Final) = true from h1, h2]; rfl
  · rw [ieq] at h1
    rw [wrap_id (by omega) (by omega), ieq] at h2
    rw [hq, show decide ((psAt e e.Pid).Loc = (procE e).Final) = true from h1, h2]
    exact ⟨trivial, VV.le_nil⟩
  · rw [ieq] at h1
    rw [ne_dec] at h2
    rw [hq, show decide ((psAt e e.Pid).Loc = (procE e).Final) = false from h1, h2]; rfl
  · rw [ieq] at h1
    rw [ne_dec] at h2
    rw [hq, show decide ((psAt e e.Pid).Loc = (procE e).Final) = false from h1, h2, h3]
    exact ⟨trivial, VV.le_nil⟩
  · exact VSpec.ownB (i := 1) (j := 0) (cs := [.nl]) rfl rfl 6 (rowsWy []) (xlistsW_spec h h.wloc.Esc.1 fun ws hw => h.ws hw)
  · rw [ieq] at h1
    rw [ne_dec] at h2
    rw [hq, show decide ((psAt e e.Pid).Loc = (procE e).Final) = false from h1, h2, h3]
    exact ⟨trivial, VV.le_refl _⟩
theorem xWays_spec (hw : wf_Model e.M) (hs : SmallS' e.S) : VSpec Tryz.prog 8 [] [.agg (enc_Env e)] [] (.tup [encL_Wy true (waysE e).1, intV (waysE e).2]) := by
  have hq : waysE e = bif decide (exckP e ≠ 0) then ([], exckP e) else (pathsE e, 0) := rfl
  generalize waysE e = r at hq
  refine vspec_raw tb_ok mixed Tryz.func8 (by kernel_rfl) rfl (xWays_raw r e) ⟨exckP e, xck_spec hw hs, fun h1 => ?_, fun h1 => ⟨pathsE e, xpaths_spec (exck_zero hw (by simpa using h1)), ?_⟩⟩
  · rw [ne_dec] at h1
    rw [hq, h1]
    exact ⟨trivial, VV.le_tup ⟨VV.le_nil, VV.le_refl _, trivial⟩⟩
  · rw [ne_dec] at h1
    rw [hq, h1]
    exact ⟨trivial, VV.le_refl _⟩
def idxW (w : Wy) : Nat → List Wy → Int
  | _, [] => -1
  | k, x :: r => bif decide (w = x) then (k : Int) else idxW w (k + 1) r
theorem idxW_cons {w x : Wy} {k : Nat} {r : List Wy} : idxW w k (x :: r) = bif decide (w = x) then (k : Int) else idxW w (k + 1) r := rfl
theorem idxW_mem {w : Wy} : ∀ {l : List Wy} {k : Nat}, decide (idxW w k l ≥ 0) = decide (w ∈ l)
  | [], k => by simp [idxW]
  | x :: r, k => by
    have ih := idxW_mem (w := w) (l := r) (k := k + 1)
    rw [idxW_cons]
    by_cases h : w = x
    · simp [h]
    · simp only [h, decide_false, cond_false, ih]
      simp [h]
theorem wy_eq {w x : Wy} : (w.Esc == x.Esc && (w.Way == x.Way && (w.With == x.With && (w.WithEsc == x.WithEsc && (w.WithWay == x.WithWay && (w.Err == x.Err && true)))))) = decide (w = x) := by
  obtain ⟨a1, a2, a3, a4, a5, a6⟩ := w
  obtain ⟨b1, b2, b3, b4, b5, b6⟩ := x
  rw [Bool.eq_iff_iff]
  simp
theorem xidxw_spec {l : List Wy} {w : Wy} (hl : l.length ≤ 1099511627776) : VSpec Tryz.prog 33 [] [encL_Wy true l, .agg (enc_Wy w)] [] (intV (idxW w 0 l)) := by
  refine vspec_raw tb_ok mixed Tryz.func33 (by kernel_rfl) rfl (xidxw_raw _ l w) ?_
  refine loop_idx tb_ok mixed l.length (fun k => stXidxw l w k) (fun k => idxW w 0 l = idxW w k (l.drop k)) (by kernel_rfl) (by kernel_rfl) rfl ?_
  intro k hk hI J next
  refine Asks.raw (xidxw1_raw _ l w k J) ⟨fun hlt => ?_, fun hge => leafI ?_⟩
  · have hlt' : k < l.length := by have := lt_of hlt; omega
    have hto : (k : Int).toNat = k := by omega
    rw [hto, wy_eq]
    rw [drop_cons (d := default) hlt', idxW_cons] at hI
    refine ⟨by omega, fun hy => leafI ?_, fun hy => next _ hlt' ?_ (Up.of ?_)⟩
    · rw [hy, cond_true] at hI; exact hI.symm
    · rw [hy, cond_false] at hI; exact hI
    · rw [wrap_succ (by omega)]; rfl
  · have hge' : l.length ≤ k := by have := ge_of hge; omega
    rw [hI, List.drop_of_length_le hge']; rfl
theorem xcontw_spec {l : List Wy} {w : Wy} (hl : l.length ≤ 1099511627776) : VSpec Tryz.prog 17 [] [encL_Wy true l, .agg (enc_Wy w)] [] (boolV (decide (w ∈ l))) :=
  vspec_raw tb_ok mixed Tryz.func17 (by kernel_rfl) rfl (xcontw_raw _ l w) ⟨_, xidxw_spec hl, leafB idxW_mem⟩
end
end Go.Proofs.YtiaebjpcgjkhoaaGreatDoor
namespace Go.Proofs.YtiaebjpcgjkhoaaGreatDoor
open Go.RowKit
abbrev i64T : TypeId := 2
abbrev msgT : TypeId := 83
abbrev chanT : TypeId := 80
abbrev procT : TypeId := 50
abbrev RowI (w : World) (n0 : Nat) (v : Value) (xs : List Int) : Prop := w.ownsRow n0 i64T 1 v xs.length (xs.map (Value.int .i64))
structure OwnQ (w : World) (n0 : Nat) (v : Value) (vs : List Value) (q : List (List Int)) : Prop where
  row : w.ownsRow n0 msgT 1 v q.length vs
  len : vs.length = q.length
  each : ∀ (i : Nat) (u : Value) (m : List Int), vs[i]? = some u → q[i]? = some m → RowI w n0 u m
def cellsC : List D.Chan → List Value → List Value
  | c :: cs, q :: qs => .int .i64 c.Shape :: q :: cellsC cs qs
  | _, _ => []
def cellsP : List D.Process → List Value → List Value
  | p :: ps, f :: fs => .int .i64 p.Type_ :: .int .i64 p.Loc :: .int .i64 p.Prio :: f :: cellsP ps fs
  | _, _ => []
structure OwnC (w : World) (n0 : Nat) (v : Value) (qs : List Value) (cs : List D.Chan) : Prop where
  row : w.ownsRow n0 chanT 2 v cs.length (cellsC cs qs)
  len : qs.length = cs.length
  each : ∀ (i : Nat) (u : Value) (c : D.Chan), qs[i]? = some u → cs[i]? = some c → ∃ vs, OwnQ w n0 u vs c.Queue
structure OwnP (w : World) (n0 : Nat) (v : Value) (fs : List Value) (ps : List D.Process) : Prop where
  row : w.ownsRow n0 procT 4 v ps.length (cellsP ps fs)
  len : fs.length = ps.length
  each : ∀ (i : Nat) (u : Value) (p : D.Process), fs[i]? = some u → ps[i]? = some p → RowI w n0 u p.Frame
  apart : ∀ (i j : Nat) (u v : Value) (k : Nat), i < j → fs[i]? = some u → fs[j]? = some v → u.ownBlock = some k → v.ownBlock ≠ some k
section
variable {w w' : World} {n0 n1 : Nat}
theorem row_base {e : TypeId} {sz : Nat} {v : Value} {n : Nat} {xs : List Value} (h : w.ownsRow n0 e sz v n xs) (hb : n1 ≤ n0) : w.ownsRow n1 e sz v n xs :=
  ⟨h.1, h.2.imp id fun ⟨g, cap, cur, e, h1, h2⟩ => ⟨g, cap, cur, e, Nat.le_trans hb h1, h2⟩⟩
abbrev Kept (w w' : World) (n0 : Nat) (ts : List TypeId) : Prop := ∀ (k : Nat) (cur : Array Value) (t : TypeId), n0 ≤ k → k < w.heap.size → w.heap[k]? = some (.cells cur t (0, 0)) → t ∈ ts → w'.heap[k]? = w.heap[k]?
theorem row_kept {e : TypeId} {sz : Nat} {v : Value} {n : Nat} {xs : List Value} {ts : List TypeId} (h : w.ownsRow n0 e sz v n xs) (hk : Kept w w' n0 ts) (he : e ∈ ts) : w'.ownsRow n0 e sz v n xs :=
  ownsRow_same h fun k e1 => by
    obtain ⟨cur, hc⟩ := ownsRow_blk h e1
    exact hk k cur e (h.lt k e1).1 (h.lt k e1).2 hc he
theorem OwnQ.kept {v : Value} {vs : List Value} {q : List (List Int)} {ts : List TypeId} (h : OwnQ w n0 v vs q) (hk : Kept w w' n0 ts) (h1 : msgT ∈ ts) (h2 : i64T ∈ ts) : OwnQ w' n0 v vs q :=
  ⟨row_kept h.row hk h1, h.len, fun i u m hu hm => row_kept (h.each i u m hu hm) hk h2⟩
theorem OwnC.kept {v : Value} {qs : List Value} {cs : List D.Chan} {ts : List TypeId} (h : OwnC w n0 v qs cs) (hk : Kept w w' n0 ts) (h0 : chanT ∈ ts) (h1 : msgT ∈ ts) (h2 : i64T ∈ ts) : OwnC w' n0 v qs cs :=
  ⟨row_kept h.row hk h0, h.len, fun i u c hu hc => by obtain ⟨vs, hq⟩ := h.each i u c hu hc; exact ⟨vs, hq.kept hk h1 h2⟩⟩
theorem OwnP.kept {v : Value} {fs : List Value} {ps : List D.Process} {ts : List TypeId} (h : OwnP w n0 v fs ps) (hk : Kept w w' n0 ts) (h0 : procT ∈ ts) (h2 : i64T ∈ ts) : OwnP w' n0 v fs ps :=
  ⟨row_kept h.row hk h0, h.len, fun i u p hu hp => row_kept (h.each i u p hu hp) hk h2, h.apart⟩
theorem OwnQ.base {v : Value} {vs : List Value} {q : List (List Int)} (h : OwnQ w n0 v vs q) (hb : n1 ≤ n0) : OwnQ w n1 v vs q :=
  ⟨row_base h.row hb, h.len, fun i u m hu hm => row_base (h.each i u m hu hm) hb⟩
theorem Kept.of {ts : List TypeId} (h : ∀ k, n0 ≤ k → k < w.heap.size → w'.heap[k]? = w.heap[k]?) : Kept w w' n0 ts := fun k _ _ h0 h1 _ _ => h k h0 h1
theorem Kept.below {ts : List TypeId} (h : Below w.heap.size w w') : Kept w w' n0 ts := Kept.of fun k _ hk => h.block k hk
theorem Kept.alloc {ts : List TypeId} (o : Obj) : Kept w (w.alloc o) n0 ts := Kept.of fun _ _ hk => Below.heap_alloc _ _ _ hk
theorem Kept.grown {e : TypeId} {sz : Nat} {v : Value} {n : Nat} {xs : List Value} {ts : List TypeId} (hg : w.grownBy w' v.ownBlock) (hr : w.ownsRow n1 e sz v n xs) (he : e ∉ ts) : Kept w w' n0 ts := fun k cur t _ h1 hk ht =>
  hg.block k h1 fun e1 => by
    obtain ⟨c2, e2⟩ := ownsRow_blk hr e1.symm
    exact blk_ne hk e2 (by rintro rfl; exact he ht) rfl
theorem Kept.set {ts : List TypeId} {b i : Nat} {c : Array Value} {t : TypeId} {f : Nat × Nat} {u : Value} (hb : w.heap[b]? = some (.cells c t f)) (ht : t ∉ ts) : Kept w (w.setCell ⟨b, i, none⟩ u) n0 ts := fun k cur t' _ _ hk ht' =>
  Below.heap_setCell _ _ _ _ (by rintro rfl; exact blk_ne hk hb (by rintro rfl; exact ht ht') rfl)
theorem Kept.low {ts : List TypeId} {b i : Nat} {u : Value} (hb : b < n0) : Kept w (w.setCell ⟨b, i, none⟩ u) n0 ts := Kept.of fun k h0 _ => Below.heap_setCell _ _ _ _ (by rintro rfl; omega)
theorem Kept.trans {w'' : World} {ts : List TypeId} (h : Kept w w' n0 ts) (k : Kept w' w'' n0 ts) (hs : w.heap.size ≤ w'.heap.size) : Kept w w'' n0 ts := fun b cur t h0 h1 hb ht => by
  have e := h b cur t h0 h1 hb ht
  exact (k b cur t h0 (Nat.lt_of_lt_of_le h1 hs) (e.trans hb) ht).trans e
theorem OwnQ.nil (w : World) (n0 : Nat) : OwnQ w n0 (.slice none 0 0) [] [] := ⟨World.ownsRow_nil _ _ _ _, rfl, fun i x m h => by simp at h⟩
theorem OwnC.nil (w : World) (n0 : Nat) : OwnC w n0 (.slice none 0 0) [] [] := ⟨World.ownsRow_nil _ _ _ _, rfl, fun i x m h => by simp at h⟩
theorem OwnP.nil (w : World) (n0 : Nat) : OwnP w n0 (.slice none 0 0) [] [] := ⟨World.ownsRow_nil _ _ _ _, rfl, fun i x m h => by simp at h, fun i j u v k _ h => by simp at h⟩
theorem each_more {α : Type} {R : Value → α → Prop} {vs : List Value} {l : List α} {u : Value} {a : α} (hl : vs.length = l.length) (h : ∀ (i : Nat) x y, vs[i]? = some x → l[i]? = some y → R x y) (h2 : R u a) : ∀ (i : Nat) x y, (vs ++ [u])[i]? = some x → (l ++ [a])[i]? = some y → R x y := by
  intro i x y hx hy
  by_cases hi : i < l.length
  · rw [List.getElem?_append_left (by rw [hl]; exact hi)] at hx
    rw [List.getElem?_append_left hi] at hy
    exact h i x y hx hy
  · have hil : i < l.length + 1 := by have := (List.getElem?_eq_some_iff.1 hy).1; simpa using this
    obtain rfl : i = l.length := by omega
    rw [List.getElem?_append_right (Nat.le_refl _)] at hy
    rw [List.getElem?_append_right (by rw [hl]; exact Nat.le_refl _)] at hx
    simp [hl] at hx hy
    subst hx hy
    exact h2
theorem OwnQ.more {v v' u : Value} {vs : List Value} {q : List (List Int)} {m : List Int} (h : OwnQ w n0 v vs q) (hm : RowI w n0 u m)
    (hr : w'.ownsRow n0 msgT 1 v' (q.length + 1) (vs ++ [u])) (hg : w.grownBy w' v.ownBlock) : OwnQ w' n0 v' (vs ++ [u]) (q ++ [m]) := by
  have hk : Kept w w' n0 [i64T] := Kept.grown hg h.row (by decide)
  exact ⟨by simpa using hr, by simp [h.len], each_more (R := RowI w' n0) h.len (fun i x l hx hl => row_kept (h.each i x l hx hl) hk (by simp)) (row_kept hm hk (by simp))⟩
theorem cellsC_more : ∀ {cs : List D.Chan} {qs : List Value} {c : D.Chan} {q : Value}, qs.length = cs.length → cellsC (cs ++ [c]) (qs ++ [q]) = cellsC cs qs ++ [.int .i64 c.Shape, q]
  | [], [], c, q, _ => rfl
  | d :: cs, r :: qs, c, q, h => by
    have := cellsC_more (cs := cs) (qs := qs) (c := c) (q := q) (by simpa using h)
    simp only [List.cons_append, cellsC, this]
  | [], _ :: _, _, _, h => by simp at h
  | _ :: _, [], _, _, h => by simp at h
theorem cellsP_more : ∀ {ps : List D.Process} {fs : List Value} {p : D.Process} {f : Value}, fs.length = ps.length → cellsP (ps ++ [p]) (fs ++ [f]) = cellsP ps fs ++ [.int .i64 p.Type_, .int .i64 p.Loc, .int .i64 p.Prio, f]
  | [], [], _, _, _ => rfl
  | d :: ps, r :: fs, p, f, h => by
    have := cellsP_more (ps := ps) (fs := fs) (p := p) (f := f) (by simpa using h)
    simp only [List.cons_append, cellsP, this]
  | [], _ :: _, _, _, h => by simp at h
  | _ :: _, [], _, _, h => by simp at h
theorem OwnC.more {v v' u : Value} {qs vs : List Value} {cs : List D.Chan} {c : D.Chan} (h : OwnC w n0 v qs cs) (hq : OwnQ w n0 u vs c.Queue)
    (hr : w'.ownsRow n0 chanT 2 v' (cs.length + 1) (cellsC cs qs ++ [.int .i64 c.Shape, u])) (hg : w.grownBy w' v.ownBlock) : OwnC w' n0 v' (qs ++ [u]) (cs ++ [c]) := by
  have hk : Kept w w' n0 [msgT, i64T] := Kept.grown hg h.row (by decide)
  refine ⟨by rw [cellsC_more h.len]; simpa using hr, by simp [h.len], each_more (R := fun u c => ∃ vs, OwnQ w' n0 u vs c.Queue) h.len (fun i x l hx hl => ?_) ⟨vs, hq.kept hk (by simp) (by simp)⟩⟩
  obtain ⟨vs, hv⟩ := h.each i x l hx hl
  exact ⟨vs, hv.kept hk (by simp) (by simp)⟩
theorem OwnP.more {v v' u : Value} {fs : List Value} {ps : List D.Process} {p : D.Process} (h : OwnP w n0 v fs ps) (hf : RowI w n0 u p.Frame) (hnew : ∀ (i : Nat) (x : Value) (k : Nat), fs[i]? = some x → x.ownBlock = some k → u.ownBlock ≠ some k)
    (hr : w'.ownsRow n0 procT 4 v' (ps.length + 1) (cellsP ps fs ++ [.int .i64 p.Type_, .int .i64 p.Loc, .int .i64 p.Prio, u])) (hg : w.grownBy w' v.ownBlock) : OwnP w' n0 v' (fs ++ [u]) (ps ++ [p]) := by
  have hk : Kept w w' n0 [i64T] := Kept.grown hg h.row (by decide)
  refine ⟨by rw [cellsP_more h.len]; simpa using hr, by simp [h.len], each_more (R := fun u p => RowI w' n0 u p.Frame) h.len (fun i x l hx hl => row_kept (h.each i x l hx hl) hk (by simp)) (row_kept hf hk (by simp)), ?_⟩
  intro i j x y k hij hx hy ex
  have hj : j < fs.length + 1 := by have := (List.getElem?_eq_some_iff.1 hy).1; simpa using this
  rw [List.getElem?_append_left (by omega)] at hx
  by_cases hjl : j < fs.length
  · rw [List.getElem?_append_left hjl] at hy
    exact h.apart i j x y k hij hx hy ex
  · obtain rfl : j = fs.length := by omega
    rw [List.getElem?_append_right (Nat.le_refl _)] at hy
    simp at hy
    subst hy
    exact hnew i x k hx ex
variable {E : Prot} {m : Option Phi}
end
end Go.Proofs.YtiaebjpcgjkhoaaGreatDoor
namespace Go.Proofs.YtiaebjpcgjkhoaaGreatDoor
open Go.RowKit
def AtL (w : World) (n : Nat) (R : Nat → Nat → Nat → Prop) (v : Value) : Prop :=
  ∃ ao cap, v = .slice ao n cap ∧ n ≤ cap ∧ cap ≤ maxLen ∧ (0 < n → ∃ b off, ao = some ⟨b, off, none⟩ ∧ b < w.heap.size ∧ ∀ i, i < n → R b off i)
def AtI (w : World) (xs : List Int) (v : Value) : Prop := AtL w xs.length (fun b off i => w.cell? ⟨b, off + i, none⟩ = some (.int .i64 (xs.getD i 0))) v
theorem AtL.map {w w' : World} {n : Nat} {R S : Nat → Nat → Nat → Prop} {v : Value} (h : AtL w n R v) (hs : w.heap.size ≤ w'.heap.size) (hR : ∀ b off i, b < w.heap.size → i < n → R b off i → S b off i) : AtL w' n S v := by
  obtain ⟨ao, cap, rfl, h1, h2, h3⟩ := h
  refine ⟨ao, cap, rfl, h1, h2, fun hp => ?_⟩
  obtain ⟨b, off, rfl, hb, hc⟩ := h3 hp
  exact ⟨b, off, rfl, by omega, fun i hi => hR b off i hb hi (hc i hi)⟩
theorem AtI.below {w w' : World} {xs : List Int} {v : Value} (h : AtI w xs v) (hb : Below w.heap.size w w') : AtI w' xs v :=
  AtL.map h hb.size fun b off i hl _ hc => by rw [hb.cell (p := ⟨b, off + i, none⟩) hl]; exact hc
end Go.Proofs.YtiaebjpcgjkhoaaGreatDoor
namespace Go.Proofs.YtiaebjpcgjkhoaaGreatDoor
open Go.RowKit
end Go.Proofs.YtiaebjpcgjkhoaaGreatDoor
namespace Go.Proofs.YtiaebjpcgjkhoaaGreatDoor
open Go.RowKit
set_option maxHeartbeats 1000000 in
theorem clonem_calls {w : World} {ao : Option Addr} {cap : Nat} {xs : List Int} (h1 : xs.length ≤ cap) (h2 : cap ≤ maxLen) (hr : xs.length * 8 ≤ 140737488355328) (h3 : 0 < xs.length → ∃ a, ao = some a ∧ ∀ i, i < xs.length → w.cell? (a.add i) = some (.int .i64 (xs.getD i 0))) :
    Calls Tryz.prog 35 #[.slice ao xs.length cap] w fun e w' => ∃ v', e = .returned v' ∧ w'.ownsRow w.heap.size 2 1 v' xs.length (xs.map (Value.int .i64)) ∧ Below w.heap.size w w' := by
  have q22 : ∀ (w : World) (a : Option Addr) (n c n' c' : Nat), (binOp .eql 83 (.slice a n c) (.slice none n' c')).run Tryz.prog w = .ok (.bool a.isNone) w := fun w a n c n' c' => Lib.run_eql_slice_nil w _ _ a n c n' c' Tryz.underlying83
  obtain ⟨ki, khi, khz0, khz1, khz2⟩ := info_parts' info_i64
  cases ao with
  | none =>
    have h0 : xs = [] := by
      apply List.eq_nil_of_length_eq_zero
      apply Classical.byContradiction
      intro hp
      obtain ⟨_, e, _⟩ := h3 (by omega)
      cases e
    subst h0
    clear h3
    go_enter Tryz.func35, Tryz.ntmps35
    go_wp2
    go_ret
    exact ⟨_, rfl, World.ownsRow_nil _ _ _ _, Below.refl _ _⟩
  | some a =>
    have hn : ∀ (j : Nat) (u : Value), (xs.map (Value.int .i64))[j]? = some u → w.cell? (a.add j) = some u := by
      intro j u hj
      have hjl : j < xs.length := by have := (List.getElem?_eq_some_iff.1 hj).1; simpa using this
      obtain ⟨a', e, hc⟩ := h3 (by omega)
      simp only [Option.some.injEq] at e
      subst e
      rw [hc j hjl, ← hj]; simp [List.getD, hjl]
    have HN := Lib.hid hn
    clear h3 hn
    have hlen := h2
    unfold maxLen at hlen
    go_enter Tryz.func35, Tryz.ntmps35
    go_wp2_with (at_builtin; refine wpList_append_own _ rfl _ _ 83 rfl w.heap.size 2 ki (.int .i64 0) 1 8 Tryz.underlying83 khi khz0 khz1 khz2 rfl (by decide) _ _ _ rfl (World.ownsRow_made w #[] 0 (Nat.le_refl _) (Nat.zero_le _) (by simp)) a xs.length cap (xs.map (Value.int .i64)) rfl ?qc1 ?qc2 ?qc3 ?qc4 ?qc5 ?qc6 ?_)
    case qc1 => simp
    case qc2 => intro j u hj; have := HN.out j u hj; exact Lib.cell?_alloc_some _ this
    case qc3 => intro u hu; simp at hu; obtain ⟨x, _, rfl⟩ := hu; rfl
    case qc4 => unfold maxLen; omega
    case qc5 => omega
    case qc6 => simp
    intro v' w1 hown hgrow _
    go_wp2
    go_ret
    exact ⟨v', rfl, by simpa using hown, ((Below.refl _ w).alloc (Nat.le_refl _) _).grown hgrow (by simp) (by intro k hk; simp [Value.ownBlock] at hk; omega)⟩
theorem AtI.alloc {w : World} {xs : List Int} {v : Value} (h : AtI w xs v) (o : Obj) : AtI (w.alloc o) xs v :=
  AtL.map h (by simp) fun b off i hb _ hc => Lib.cell?_alloc_some _ hc
end Go.Proofs.YtiaebjpcgjkhoaaGreatDoor
namespace Go.Proofs.YtiaebjpcgjkhoaaGreatDoor
open Go.RowKit
def shpTs : Shp := { α := List D.Trans, enc := fun y => ([], encL_Trans true y) }
def shpProcR : Shp := { α := D.Proc, enc := fun y => ([], .agg (enc_Proc y)) }
def shRf (f : FuncId) : Shp :=
  bif Nat.beq f 143 || Nat.beq f 108 || Nat.beq f 137 || Nat.beq f 144 || Nat.beq f 14 || Nat.beq f 7 then shpI
  else bif Nat.beq f 111 then shpL
  else bif Nat.beq f 112 then shpW
  else bif Nat.beq f 74 then shpII
  else bif Nat.beq f 48 then shpIII
  else bif Nat.beq f 12 then shpTs
  else bif Nat.beq f 24 then shpProcR
  else shpB
end Go.Proofs.YtiaebjpcgjkhoaaGreatDoor
namespace Go.Proofs.YtiaebjpcgjkhoaaGreatDoor
open Go.RowKit
def ann_rfits : Ann := { keep := fun
  | [0, 1, 0, 1, 1, 1, 1, 1, 1] => [1, 2, 6, 7, 8]
  | _ => [] }
def ann_rreach : Ann := { keep := fun
  | [0, 1, 0, 1, 1, 1] => [1, 3, 4]
  | _ => [] }
def ann_rtyped : Ann := { keep := fun
  | [0, 1, 0, 1] => [0, 1, 5]
  | _ => [] }
def ann_rshape : Ann := { keep := fun
  | [0, 1, 0, 1, 1] => [1, 3]
  | _ => [] }
def ann_rbelow : Ann := { keep := fun
  | [0, 1, 0, 1] => [0, 1, 5]
  | _ => [] }
def ann_rheld : Ann := { cut := (fun | [1, 1, 1, 1] => true | [1, 1, 1, 1, 1] => true | [1, 1, 1, 1, 1, 1] => true | [1, 1, 1, 1, 1, 1, 1] => true | _ => false), keep := fun
  | [0, 1, 1, 0, 1, 0, 1, 1, 1, 1, 1, 1, 1] => [1, 3, 5]
  | [1, 1, 1, 1] => [1, 3, 4]
  | [1, 1, 1, 1, 1] => [1, 3, 4]
  | [1, 1, 1, 1, 1, 1] => [1, 3]
  | [1, 1, 1, 1, 1, 1, 1] => [1, 3]
  | _ => [] }
def ann_rvari : Ann := { keep := fun
  | [0, 1, 0, 1, 1, 1, 1, 1] => [1, 5, 9]
  | _ => [] }
def ann_rmatched : Ann := { keep := fun
  | [0, 1, 0, 1, 1, 1] => [2, 3, 4, 10]
  | _ => [] }
def ann_rexpr : Ann := { keep := fun
  | [0, 1, 0, 1, 1, 1, 1, 1] => [1, 2, 5, 6, 7, 8]
  | _ => [] }
def ann_rtable : Ann := { keep := fun
  | [0, 1, 0, 1, 1, 1, 1, 1, 1, 1] => [1, 2, 5, 7, 8]
  | [0, 1, 1, 1, 1, 0, 0, 1, 0, 0, 1, 0, 1, 1, 1, 1, 1, 1, 1] => [1, 2, 5, 7, 8, 10, 11]
  | [0, 1, 1, 1, 0, 0, 1, 0, 0, 1, 1, 1, 1, 0, 0, 1, 0, 0, 1, 0, 1, 1, 1, 1, 1, 1, 1] => [1, 2, 5, 7, 8, 10, 11, 12]
  | _ => [] }
def ann_rstmt : Ann := { keep := fun
  | [0, 1, 0, 1, 1, 0, 1, 1, 1, 1, 1, 1, 1, 1, 1, 0, 1, 0, 1, 1, 1, 1, 1, 1, 1] => [2, 3, 12]
  | _ => [] }
def ann_ruses : Ann := { keep := fun
  | [0, 1, 0, 1, 1, 1, 1, 1] => [1, 4, 10, 11]
  | _ => [] }
def ann_rway : Ann := { keep := fun
  | [0, 1, 0, 1, 1, 1, 1, 1] => [1, 3, 5, 8]
  | _ => [] }
def ann_rwaysall : Ann := { keep := fun
  | [0, 1, 0, 1, 1] => [1, 2, 5, 6]
  | [0, 1, 1, 0, 0, 1, 0, 0, 1, 0, 1, 1] => [1, 2, 5, 6, 7, 8]
  | [0, 1, 0, 0, 1, 0, 0, 1, 1, 0, 0, 1, 0, 0, 1, 0, 1, 1] => [1, 2, 5, 6, 7, 8, 9]
  | _ => [] }
def ann_rtables : Ann := { keep := fun
  | [0, 1, 0, 1, 1, 1, 1, 1] => [1, 5]
  | [0, 1, 0, 1, 1, 1, 1, 1, 1] => [1, 7]
  | [0, 1, 0, 1, 1, 1, 1, 1, 1, 1, 1, 1] => [1, 8, 9]
  | [0, 1, 1, 1, 1, 0, 0, 1, 0, 0, 1, 0, 1, 1, 1, 1, 1, 1, 1, 1, 1] => [1, 8, 9, 11, 12]
  | _ => [] }
def ann_rcheck : Ann := { keep := fun
  | [0, 1, 0, 1, 1, 1, 1] => [1, 7, 8]
  | [0, 1, 0, 1, 1, 1, 1, 1, 1] => [1, 10]
  | _ => [] }
def ann_rtypedb : Ann := { keep := fun
  | [0, 1, 0, 1, 1] => [0, 1, 5]
  | _ => [] }
def ann_rmay : Ann := { keep := fun
  | [0, 1, 0, 1, 1, 1, 1] => [2, 3, 6]
  | [0, 1, 1, 1, 0, 0, 1, 0, 0, 1, 0, 1, 1, 1, 1] => [2, 3, 6, 7, 8]
  | [0, 1, 0, 1, 1, 1, 1, 1] => [2, 3, 9]
  | _ => [] }
def stRfits (t : D.Type) (v most n i : Int) : St := mkSt [(1, intV v), (2, .bp 0 0), (6, intV most), (7, intV n), (8, intV i)] [.box (enc_Type t)]
def stRreach (v : D.Var) (n k : Int) : St := mkSt [(1, .bp 0 0), (3, intV n), (4, intV k)] [.box (enc_Var v)]
def stRtyped (t : List D.Type) (v : List Int) (k : Int) : St := mkSt [(0, encL_Type true t), (1, encL_Int true v), (5, intV k)] []
def stRshape (s : D.Shape) (k : Int) : St := mkSt [(1, .bp 0 0), (3, intV k)] [.box (enc_Shape s)]
def stRbelow (fz : Bool) (a : Int) (l : List Int) (k : Int) : St := mkSt [(0, intV a), (1, encL_Int fz l), (5, intV k)] []
def stRheld (x : D.Expr) (l : List Int) (k : Int) : St := mkSt [(1, .bp 0 0), (3, .ow 1 0 l.length), (5, intV k)] [.box (enc_Expr x), .arr true 0 l.length 1 (rowsIn l)]
def stRheldN (x : D.Expr) (l : List Int) (n : Int) : St := mkSt [(1, .bp 0 0), (3, .ow 1 0 l.length), (4, intV n)] [.box (enc_Expr x), .arr true 0 l.length 1 (rowsIn l)]
def stRheldL (x : D.Expr) (l : List Int) : St := mkSt [(1, .bp 0 0), (3, .ow 1 0 l.length)] [.box (enc_Expr x), .arr true 0 l.length 1 (rowsIn l)]
def stRvari (a : Int) (v : D.Var) (k : Int) : St := mkSt [(1, intV a), (5, .bp 0 0), (9, intV k)] [.box (enc_Var v)]
def stRmatched (m : D.Model) (args mt : List Int) (k : Int) : St := mkSt [(2, encL_Int true args), (3, encL_Int true mt), (4, .bp 0 0), (10, intV k)] [.box (enc_Model m)]
def stRexpr (m : D.Model) (a : Int) (x : D.Expr) (n k : Int) : St := mkSt [(1, intV a), (2, .bp 0 0), (5, .bp 1 0), (6, intV n), (7, .ow 2 0 3), (8, intV k)] [.box (enc_Model m), .box (enc_Expr x), .arr true 0 3 1 (rowsIn [x.A, x.B, x.C])]
def stRtable1 (m : D.Model) (a : Int) (p : D.Proc) (many k : Int) : St := mkSt [(1, intV a), (2, .bp 0 0), (5, .bp 1 0), (7, intV many), (8, intV k)] [.box (enc_Model m), .box (enc_Proc p)]
def stRtable2 (m : D.Model) (a : Int) (p : D.Proc) (many k : Int) (ws : List (List D.Trans)) (j : Int) : St := mkSt [(1, intV a), (2, .bp 0 0), (5, .bp 1 0), (7, intV many), (8, intV k), (10, encL_Transs true ws), (11, intV j)] [.box (enc_Model m), .box (enc_Proc p)]
def stRtable3 (m : D.Model) (a : Int) (p : D.Proc) (many k : Int) (ws : List (List D.Trans)) (j h : Int) : St := mkSt [(1, intV a), (2, .bp 0 0), (5, .bp 1 0), (7, intV many), (8, intV k), (10, encL_Transs true ws), (11, intV j), (12, intV h)] [.box (enc_Model m), .box (enc_Proc p)]
def stRstmt (m : D.Model) (s : D.Stmt) (k : Int) : St := mkSt [(2, .bp 0 0), (3, .bp 1 0), (12, intV k)] [.box (enc_Model m), .box (enc_Stmt s)]
def stRuses (m : D.Model) (a : Int) (l : List Int) (k : Int) : St := mkSt [(1, intV a), (4, .bp 0 0), (10, encL_Int true l), (11, intV k)] [.box (enc_Model m)]
def stRway (m : D.Model) (a : Int) (s : D.Stmt) (k : Int) : St := mkSt [(1, intV a), (3, .bp 0 0), (5, .bp 1 0), (8, intV k)] [.box (enc_Model m), .box (enc_Stmt s)]
def stRways1 (m : D.Model) (a : Int) (p : D.Proc) (k : Int) : St := mkSt [(1, intV a), (2, .bp 0 0), (5, .bp 1 0), (6, intV k)] [.box (enc_Model m), .box (enc_Proc p)]
def stRways2 (m : D.Model) (a : Int) (p : D.Proc) (k : Int) (ws : List (List D.Trans)) (j : Int) : St := mkSt [(1, intV a), (2, .bp 0 0), (5, .bp 1 0), (6, intV k), (7, encL_Transs true ws), (8, intV j)] [.box (enc_Model m), .box (enc_Proc p)]
def stRways3 (m : D.Model) (a : Int) (p : D.Proc) (k : Int) (ws : List (List D.Trans)) (j h : Int) : St := mkSt [(1, intV a), (2, .bp 0 0), (5, .bp 1 0), (6, intV k), (7, encL_Transs true ws), (8, intV j), (9, intV h)] [.box (enc_Model m), .box (enc_Proc p)]
def stRtab1 (m : D.Model) (k : Int) : St := mkSt [(1, .bp 0 0), (5, intV k)] [.box (enc_Model m)]
def stRtab2 (m : D.Model) (k : Int) : St := mkSt [(1, .bp 0 0), (7, intV k)] [.box (enc_Model m)]
def stRtab3 (m : D.Model) (had : List Bool) (k : Int) : St := mkSt [(1, .bp 0 0), (8, .ow 1 0 had.length), (9, intV k)] [.box (enc_Model m), .arr true 0 had.length 1 (rowsBo had)]
def stRtab4 (m : D.Model) (had : List Bool) (k : Int) (l : List Int) (j : Int) : St := mkSt [(1, .bp 0 0), (8, .ow 1 0 had.length), (9, intV k), (11, encL_Int true l), (12, intV j)] [.box (enc_Model m), .arr true 0 had.length 1 (rowsBo had)]
def stRcheck1 (m : D.Model) (many k : Int) : St := mkSt [(1, .bp 0 0), (7, intV many), (8, intV k)] [.box (enc_Model m)]
def stRcheck2 (m : D.Model) (k : Int) : St := mkSt [(1, .bp 0 0), (10, intV k)] [.box (enc_Model m)]
def stRtypedb (t : List D.Type) (l : List Int) (k : Int) : St := mkSt [(0, encL_Type true t), (1, encL_Int true l), (5, intV k)] []
def stRmay1 (m : D.Model) (s : D.State) (k : Int) : St := mkSt [(2, .bp 0 0), (3, .bp 1 0), (6, intV k)] [.box (enc_Model m), .box (enc_State s)]
def stRmay2 (m : D.Model) (s : D.State) (k : Int) (c : D.Chan) (j : Int) : St := mkSt [(2, .bp 0 0), (3, .bp 1 0), (6, intV k), (7, .bp 2 0), (8, intV j)] [.box (enc_Model m), .box (enc_State s), .box (enc_Chan c)]
def stRmay3 (m : D.Model) (s : D.State) (k : Int) : St := mkSt [(2, .bp 0 0), (3, .bp 1 0), (9, intV k)] [.box (enc_Model m), .box (enc_State s)]
end Go.Proofs.YtiaebjpcgjkhoaaGreatDoor
namespace Go.Proofs.YtiaebjpcgjkhoaaGreatDoor
open Go.RowKit
set_option maxRecDepth 100000
theorem rtyp_raw (b : Bool) (t : D.Type) : (fnCtx Tryz.prog tb shRf annNo true Tryz.f69 [] (boolV b)).goal (St.init [] [.agg (enc_Type t)]) =
    (leO [] [] ∧ (boolV (bif bif decide (t.Bits ≥ (1 : Int)) then decide (t.Bits ≤ (32 : Int)) else false then bif bif !t.Signed then true else t.Bits == 16 then true else t.Bits == 32 else false)).le (boolV b)) := by kernel_rfl
theorem rfits_raw (b : Bool) (t : D.Type) (v : Int) : (fnCtx Tryz.prog tb shRf ann_rfits true Tryz.f45 [] (boolV b)).goal (St.init [] [.agg (enc_Type t), intV v]) =
    (∃ (y : Bool), VSpec Tryz.prog 69 [] [VV.agg (enc_Type t)] [] (boolV y) ∧ ((!y) = true → leO [] [] ∧ (boolV false).le (boolV b)) ∧ ((!y) = false → (t.Signed = true → SatC (fnCtx Tryz.prog tb shRf ann_rfits true Tryz.f45 [] (boolV b)) [1, 1, 1, 1, 1, 1, 0, 1, 0] (mkSt [(1, intV v), (2, VV.bp 0 0), (6, intV (1 : Int)), (7, intV (IntKind.i64.wrap (t.Bits - (1 : Int)))), (8, intV (0 : Int))] [Ob.box (enc_Type t)])) ∧ (t.Signed = false → SatC (fnCtx Tryz.prog tb shRf ann_rfits true Tryz.f45 [] (boolV b)) [1, 1, 1, 1, 1, 1, 0, 1, 0] (mkSt [(1, intV v), (2, VV.bp 0 0), (6, intV (1 : Int)), (7, intV t.Bits), (8, intV (0 : Int))] [Ob.box (enc_Type t)])))) := by kernel_rfl
theorem rreach_raw (r : Int) (v : D.Var) : (fnCtx Tryz.prog tb shRf ann_rreach true Tryz.f143 [] (intV r)).goal (St.init [] [.agg (enc_Var v)]) =
    (((bif bif decide (v.Slot < (0 : Int)) then true else decide (v.Slot > (1073741824 : Int)) then true else decide ((↑v.Dims.length : Int) > (4 : Int))) = true → leO [] [] ∧ (intV (0 : Int)).le (intV r)) ∧ ((bif bif decide (v.Slot < (0 : Int)) then true else decide (v.Slot > (1073741824 : Int)) then true else decide ((↑v.Dims.length : Int) > (4 : Int))) = false → SatC (fnCtx Tryz.prog tb shRf ann_rreach true Tryz.f143 [] (intV r)) [1, 1, 1, 0, 1, 0] (mkSt [(1, VV.bp 0 0), (3, intV (IntKind.i64.wrap (v.Slot + (1 : Int)))), (4, intV (0 : Int))] [Ob.box (enc_Var v)]))) := by kernel_rfl
theorem rtyped_raw (r : Int) (t : List D.Type) (v : List Int) : (fnCtx Tryz.prog tb shRf ann_rtyped true Tryz.f108 [] (intV r)).goal (St.init [] [encL_Type true t, encL_Int true v]) =
    (SatC (fnCtx Tryz.prog tb shRf ann_rtyped true Tryz.f108 [] (intV r)) [1, 0, 1, 0] (mkSt [(0, encL_Type true t), (1, encL_Int true v), (5, intV (0 : Int))] [])) := by kernel_rfl
theorem rshape_raw (b : Bool) (s : D.Shape) : (fnCtx Tryz.prog tb shRf ann_rshape true Tryz.f109 [] (boolV b)).goal (St.init [] [.agg (enc_Shape s)]) =
    (((bif bif bif decide (s.Room < (0 : Int)) then true else decide (s.Room > (16 : Int)) then true else decide ((↑s.Fields.length : Int) < (1 : Int)) then true else decide ((↑s.Fields.length : Int) > (8 : Int))) = true → leO [] [] ∧ (boolV false).le (boolV b)) ∧ ((bif bif bif decide (s.Room < (0 : Int)) then true else decide (s.Room > (16 : Int)) then true else decide ((↑s.Fields.length : Int) < (1 : Int)) then true else decide ((↑s.Fields.length : Int) > (8 : Int))) = false → SatC (fnCtx Tryz.prog tb shRf ann_rshape true Tryz.f109 [] (boolV b)) [1, 1, 0, 1, 0] (mkSt [(1, VV.bp 0 0), (3, intV (0 : Int))] [Ob.box (enc_Shape s)]))) := by kernel_rfl
theorem rprocty_raw (b : Bool) (m : D.Model) (n : Int) : (fnCtx Tryz.prog tb shRf annNo true Tryz.f139 [] (boolV b)).goal (St.init [] [.agg (enc_Model m), intV n]) =
    (leO [] [] ∧ (boolV (bif bif decide (n ≥ (0 : Int)) then decide (n < (↑m.Procs.length : Int)) else false then n != m.Claim else false)).le (boolV b)) := by kernel_rfl
theorem rbelow_raw (b : Bool) (a : Int) (l : List Int) : (fnCtx Tryz.prog tb shRf ann_rbelow true Tryz.f138 [] (boolV b)).goal (St.init [] [intV a, encL_Int false l]) =
    (SatC (fnCtx Tryz.prog tb shRf ann_rbelow true Tryz.f138 [] (boolV b)) [1, 0, 1, 0] (mkSt [(0, intV a), (1, encL_Int false l), (5, intV (0 : Int))] [])) := by kernel_rfl
theorem rparts_raw (r : Int) (op : Int) : (fnCtx Tryz.prog tb shRf annNo true Tryz.f137 [] (intV r)).goal (St.init [] [intV op]) =
    (((op == 1) = true → ((op == 1) = true → leO [] [] ∧ (intV (0 : Int)).le (intV r)) ∧ ((op == 1) = false → ((op == 24) = true → leO [] [] ∧ (intV (3 : Int)).le (intV r)) ∧ ((op == 24) = false → ((bif decide (op ≥ (6 : Int)) then decide (op ≤ (23 : Int)) else false) = true → leO [] [] ∧ (intV (2 : Int)).le (intV r)) ∧ ((bif decide (op ≥ (6 : Int)) then decide (op ≤ (23 : Int)) else false) = false → leO [] [] ∧ (intV (1 : Int)).le (intV r))))) ∧ ((op == 1) = false → ((op == 2) = true → ((op == 2) = true → leO [] [] ∧ (intV (0 : Int)).le (intV r)) ∧ ((op == 2) = false → ((op == 24) = true → leO [] [] ∧ (intV (3 : Int)).le (intV r)) ∧ ((op == 24) = false → ((bif decide (op ≥ (6 : Int)) then decide (op ≤ (23 : Int)) else false) = true → leO [] [] ∧ (intV (2 : Int)).le (intV r)) ∧ ((bif decide (op ≥ (6 : Int)) then decide (op ≤ (23 : Int)) else false) = false → leO [] [] ∧ (intV (1 : Int)).le (intV r))))) ∧ ((op == 2) = false → ((op == 31) = true → ((op == 31) = true → leO [] [] ∧ (intV (0 : Int)).le (intV r)) ∧ ((op == 31) = false → ((op == 24) = true → leO [] [] ∧ (intV (3 : Int)).le (intV r)) ∧ ((op == 24) = false → ((bif decide (op ≥ (6 : Int)) then decide (op ≤ (23 : Int)) else false) = true → leO [] [] ∧ (intV (2 : Int)).le (intV r)) ∧ ((bif decide (op ≥ (6 : Int)) then decide (op ≤ (23 : Int)) else false) = false → leO [] [] ∧ (intV (1 : Int)).le (intV r))))) ∧ ((op == 31) = false → ((op == 32) = true → ((op == 32) = true → leO [] [] ∧ (intV (0 : Int)).le (intV r)) ∧ ((op == 32) = false → ((op == 24) = true → leO [] [] ∧ (intV (3 : Int)).le (intV r)) ∧ ((op == 24) = false → ((bif decide (op ≥ (6 : Int)) then decide (op ≤ (23 : Int)) else false) = true → leO [] [] ∧ (intV (2 : Int)).le (intV r)) ∧ ((bif decide (op ≥ (6 : Int)) then decide (op ≤ (23 : Int)) else false) = false → leO [] [] ∧ (intV (1 : Int)).le (intV r))))) ∧ ((op == 32) = false → ((op == 33) = true → ((op == 33) = true → leO [] [] ∧ (intV (0 : Int)).le (intV r)) ∧ ((op == 33) = false → ((op == 24) = true → leO [] [] ∧ (intV (3 : Int)).le (intV r)) ∧ ((op == 24) = false → ((bif decide (op ≥ (6 : Int)) then decide (op ≤ (23 : Int)) else false) = true → leO [] [] ∧ (intV (2 : Int)).le (intV r)) ∧ ((bif decide (op ≥ (6 : Int)) then decide (op ≤ (23 : Int)) else false) = false → leO [] [] ∧ (intV (1 : Int)).le (intV r))))) ∧ ((op == 33) = false → ((op == 34) = true → ((op == 34) = true → leO [] [] ∧ (intV (0 : Int)).le (intV r)) ∧ ((op == 34) = false → ((op == 24) = true → leO [] [] ∧ (intV (3 : Int)).le (intV r)) ∧ ((op == 24) = false → ((bif decide (op ≥ (6 : Int)) then decide (op ≤ (23 : Int)) else false) = true → leO [] [] ∧ (intV (2 : Int)).le (intV r)) ∧ ((bif decide (op ≥ (6 : Int)) then decide (op ≤ (23 : Int)) else false) = false → leO [] [] ∧ (intV (1 : Int)).le (intV r))))) ∧ ((op == 34) = false → ((op == 35) = true → ((op == 35) = true → leO [] [] ∧ (intV (0 : Int)).le (intV r)) ∧ ((op == 35) = false → ((op == 24) = true → leO [] [] ∧ (intV (3 : Int)).le (intV r)) ∧ ((op == 24) = false → ((bif decide (op ≥ (6 : Int)) then decide (op ≤ (23 : Int)) else false) = true → leO [] [] ∧ (intV (2 : Int)).le (intV r)) ∧ ((bif decide (op ≥ (6 : Int)) then decide (op ≤ (23 : Int)) else false) = false → leO [] [] ∧ (intV (1 : Int)).le (intV r))))) ∧ ((op == 35) = false → ((op == 39) = true → leO [] [] ∧ (intV (0 : Int)).le (intV r)) ∧ ((op == 39) = false → ((op == 24) = true → leO [] [] ∧ (intV (3 : Int)).le (intV r)) ∧ ((op == 24) = false → ((bif decide (op ≥ (6 : Int)) then decide (op ≤ (23 : Int)) else false) = true → leO [] [] ∧ (intV (2 : Int)).le (intV r)) ∧ ((bif decide (op ≥ (6 : Int)) then decide (op ≤ (23 : Int)) else false) = false → leO [] [] ∧ (intV (1 : Int)).le (intV r)))))))))))) := by kernel_rfl
theorem rheld_raw (r : List Int) (x : D.Expr) : (fnCtx Tryz.prog tb shRf ann_rheld true Tryz.f111 [] (encL_Int true r)).goal (St.init [] [.agg (enc_Expr x)]) =
    (∃ (y : Int), VSpec Tryz.prog 137 [] [intV x.Op] [] (intV y) ∧ (decide (y ≥ (1 : Int)) = true → 1 * 8 ≤ 140737488355328 ∧ SatC (fnCtx Tryz.prog tb shRf ann_rheld true Tryz.f111 [] (encL_Int true r)) [1, 1, 1, 1] (mkSt [(1, VV.bp 0 0), (3, VV.ow 1 0 1), (4, intV y)] [Ob.box (enc_Expr x), Ob.arr true 0 1 1 fun (i : Nat) => List.take 1 (List.drop (i * 1) [intV x.A])])) ∧ (decide (y ≥ (1 : Int)) = false → SatC (fnCtx Tryz.prog tb shRf ann_rheld true Tryz.f111 [] (encL_Int true r)) [1, 1, 1, 1] (mkSt [(1, VV.bp 0 0), (3, VV.nl), (4, intV y)] [Ob.box (enc_Expr x)]))) := by kernel_rfl
theorem rvari_raw (b : Bool) (m : D.Model) (a : Int) (v : D.Var) : (fnCtx Tryz.prog tb shRf ann_rvari true Tryz.f140 [] (boolV b)).goal (St.init [] [.agg (enc_Model m), intV a, .agg (enc_Var v)]) =
    (((bif bif bif bif decide (v.Scope < (0 : Int)) then true else decide (v.Scope > (2 : Int)) then true else decide (v.Slot < (0 : Int)) then true else decide (v.Slot > (128 : Int)) then true else decide ((↑v.Dims.length : Int) > (4 : Int))) = true → leO [] [] ∧ (boolV false).le (boolV b)) ∧ ((bif bif bif bif decide (v.Scope < (0 : Int)) then true else decide (v.Scope > (2 : Int)) then true else decide (v.Slot < (0 : Int)) then true else decide (v.Slot > (128 : Int)) then true else decide ((↑v.Dims.length : Int) > (4 : Int))) = false → ∃ (y : Bool), VSpec Tryz.prog 138 [] [intV a, VV.sl false 1 1 fun (i : Nat) => List.take 1 (List.drop (i * 1) [intV v.Who])] [] (boolV y) ∧ ∃ (y_1 : Bool), VSpec Tryz.prog 139 [] [VV.agg (enc_Model m), intV v.Type_] [] (boolV y_1) ∧ ((bif bif v.Scope == 2 then bif !y then true else !y_1 else false then true else bif v.Scope != (2 : Int) then bif v.Who != (-1 : Int) then true else v.Type_ != (-1 : Int) else false) = true → leO [] [] ∧ (boolV false).le (boolV b)) ∧ ((bif bif v.Scope == 2 then bif !y then true else !y_1 else false then true else bif v.Scope != (2 : Int) then bif v.Who != (-1 : Int) then true else v.Type_ != (-1 : Int) else false) = false → SatC (fnCtx Tryz.prog tb shRf ann_rvari true Tryz.f140 [] (boolV b)) [1, 1, 1, 1, 1, 0, 1, 0] (mkSt [(1, intV a), (5, VV.bp 0 0), (9, intV (0 : Int))] [Ob.box (enc_Var v)])))) := by kernel_rfl
theorem rmatched_raw (b : Bool) (m : D.Model) (a : Int) (args mt : List Int) : (fnCtx Tryz.prog tb shRf ann_rmatched true Tryz.f141 [] (boolV b)).goal (St.init [] [.agg (enc_Model m), intV a, encL_Int true args, encL_Int true mt]) =
    (∃ (y : Bool), VSpec Tryz.prog 138 [] [intV a, encL_Int true args] [] (boolV y) ∧ ((bif bif bif !y then true else decide ((↑args.length : Int) < (1 : Int)) then true else decide ((↑args.length : Int) > (8 : Int)) then true else (↑mt.length : Int) != (↑args.length : Int)) = true → leO [] [] ∧ (boolV false).le (boolV b)) ∧ ((bif bif bif !y then true else decide ((↑args.length : Int) < (1 : Int)) then true else decide ((↑args.length : Int) > (8 : Int)) then true else (↑mt.length : Int) != (↑args.length : Int)) = false → SatC (fnCtx Tryz.prog tb shRf ann_rmatched true Tryz.f141 [] (boolV b)) [1, 1, 1, 0, 1, 0] (mkSt [(2, encL_Int true args), (3, encL_Int true mt), (4, VV.bp 0 0), (10, intV (0 : Int))] [Ob.box (enc_Model m)]))) := by kernel_rfl
theorem rexpr_raw (b : Bool) (m : D.Model) (a : Int) : (fnCtx Tryz.prog tb shRf ann_rexpr true Tryz.f110 [] (boolV b)).goal (St.init [] [.agg (enc_Model m), intV a]) =
    (((0 : Int) ≤ a ∧ a < (↑m.Exprs.length : Int)) ∧ ((bif decide ((m.Exprs.getD a.toNat default).Op < (1 : Int)) then true else decide ((m.Exprs.getD a.toNat default).Op > (39 : Int))) = true → leO [] [] ∧ (boolV false).le (boolV b)) ∧ ((bif decide ((m.Exprs.getD a.toNat default).Op < (1 : Int)) then true else decide ((m.Exprs.getD a.toNat default).Op > (39 : Int))) = false → ∃ (y : Int), VSpec Tryz.prog 137 [] [intV (m.Exprs.getD a.toNat default).Op] [] (intV y) ∧ SatC (fnCtx Tryz.prog tb shRf ann_rexpr true Tryz.f110 [] (boolV b)) [1, 1, 1, 1, 1, 0, 1, 0] (mkSt [(1, intV a), (2, VV.bp 0 0), (5, VV.bp 1 0), (6, intV y), (7, VV.ow 2 0 3), (8, intV (0 : Int))] [Ob.box (enc_Model m), Ob.box (enc_Expr (m.Exprs.getD a.toNat default)), Ob.arr true 0 3 1 fun (i : Nat) => List.take 1 (List.drop (i * 1) [intV (m.Exprs.getD a.toNat default).A, intV (m.Exprs.getD a.toNat default).B, intV (m.Exprs.getD a.toNat default).C])]))) := by kernel_rfl
theorem rways_raw (r : List (List D.Trans)) (l : D.Loc) : (fnCtx Tryz.prog tb shRf annNo true Tryz.f112 [] (encL_Transs true r)).goal (St.init [] [.agg (enc_Loc l)]) =
    (1 * 24 ≤ 140737488355328 ∧ (1 + l.Esc.length) * 24 ≤ 140737488355328 ∧ (∀ (i : Nat), i < l.Esc.length → ((fun (i : Nat) => [encL_Trans true (l.Esc.getD i [])]) i).all VV.mem1 = true) ∧ leO [] [] ∧ (VV.sl true (1 + l.Esc.length) 1 fun (i : Nat) => bif i.blt 1 then (fun (i : Nat) => List.take 1 (List.drop (i * 1) [encL_Trans true l.Out])) i else [encL_Trans true (l.Esc.getD (i - 1) [])]).le (encL_Transs true r)) := by kernel_rfl
theorem rtable_raw (b : Bool) (m : D.Model) (a : Int) : (fnCtx Tryz.prog tb shRf ann_rtable true Tryz.f75 [] (boolV b)).goal (St.init [] [.agg (enc_Model m), intV a]) =
    (((0 : Int) ≤ a ∧ a < (↑m.Procs.length : Int)) ∧ ((bif bif bif bif bif decide ((↑(m.Procs.getD a.toNat default).Frame.length : Int) > (128 : Int)) then true else (↑(m.Procs.getD a.toNat default).Init.length : Int) != (↑(m.Procs.getD a.toNat default).Frame.length : Int) then true else decide ((m.Procs.getD a.toNat default).Params < (0 : Int)) then true else decide ((m.Procs.getD a.toNat default).Params > (↑(m.Procs.getD a.toNat default).Frame.length : Int)) then true else decide ((↑(m.Procs.getD a.toNat default).Locs.length : Int) < (1 : Int)) then true else decide ((↑(m.Procs.getD a.toNat default).Locs.length : Int) > (256 : Int))) = true → leO [] [] ∧ (boolV false).le (boolV b)) ∧ ((bif bif bif bif bif decide ((↑(m.Procs.getD a.toNat default).Frame.length : Int) > (128 : Int)) then true else (↑(m.Procs.getD a.toNat default).Init.length : Int) != (↑(m.Procs.getD a.toNat default).Frame.length : Int) then true else decide ((m.Procs.getD a.toNat default).Params < (0 : Int)) then true else decide ((m.Procs.getD a.toNat default).Params > (↑(m.Procs.getD a.toNat default).Frame.length : Int)) then true else decide ((↑(m.Procs.getD a.toNat default).Locs.length : Int) < (1 : Int)) then true else decide ((↑(m.Procs.getD a.toNat default).Locs.length : Int) > (256 : Int))) = false → ∃ (y : Int), VSpec Tryz.prog 108 [] [encL_Type true (m.Procs.getD a.toNat default).Frame, encL_Int true (m.Procs.getD a.toNat default).Init] [] (intV y) ∧ ((bif bif bif bif bif bif bif bif bif bif decide (y ≥ (0 : Int)) then true else decide ((m.Procs.getD a.toNat default).Start < (0 : Int)) then true else decide ((m.Procs.getD a.toNat default).Start ≥ (↑(m.Procs.getD a.toNat default).Locs.length : Int)) then true else decide ((m.Procs.getD a.toNat default).Final < (0 : Int)) then true else decide ((m.Procs.getD a.toNat default).Final ≥ (↑(m.Procs.getD a.toNat default).Locs.length : Int)) then true else decide ((m.Procs.getD a.toNat default).Active < (0 : Int)) then true else decide ((m.Procs.getD a.toNat default).Active > (16 : Int)) then true else decide ((m.Procs.getD a.toNat default).Prio < (1 : Int)) then true else decide ((m.Procs.getD a.toNat default).Prio > (255 : Int)) then true else decide ((m.Procs.getD a.toNat default).Provided < (-1 : Int)) then true else decide ((m.Procs.getD a.toNat default).Provided ≥ (↑m.Exprs.length : Int))) = true → leO [] [] ∧ (boolV false).le (boolV b)) ∧ ((bif bif bif bif bif bif bif bif bif bif decide (y ≥ (0 : Int)) then true else decide ((m.Procs.getD a.toNat default).Start < (0 : Int)) then true else decide ((m.Procs.getD a.toNat default).Start ≥ (↑(m.Procs.getD a.toNat default).Locs.length : Int)) then true else decide ((m.Procs.getD a.toNat default).Final < (0 : Int)) then true else decide ((m.Procs.getD a.toNat default).Final ≥ (↑(m.Procs.getD a.toNat default).Locs.length : Int)) then true else decide ((m.Procs.getD a.toNat default).Active < (0 : Int)) then true else decide ((m.Procs.getD a.toNat default).Active > (16 : Int)) then true else decide ((m.Procs.getD a.toNat default).Prio < (1 : Int)) then true else decide ((m.Procs.getD a.toNat default).Prio > (255 : Int)) then true else decide ((m.Procs.getD a.toNat default).Provided < (-1 : Int)) then true else decide ((m.Procs.getD a.toNat default).Provided ≥ (↑m.Exprs.length : Int))) = false → ((bif a == m.Claim then bif bif decide ((↑(m.Procs.getD a.toNat default).Frame.length : Int) > (0 : Int)) then true else decide ((m.Procs.getD a.toNat default).Active > (0 : Int)) then true else decide ((m.Procs.getD a.toNat default).Provided ≥ (0 : Int)) else false) = true → leO [] [] ∧ (boolV false).le (boolV b)) ∧ ((bif a == m.Claim then bif bif decide ((↑(m.Procs.getD a.toNat default).Frame.length : Int) > (0 : Int)) then true else decide ((m.Procs.getD a.toNat default).Active > (0 : Int)) then true else decide ((m.Procs.getD a.toNat default).Provided ≥ (0 : Int)) else false) = false → SatC (fnCtx Tryz.prog tb shRf ann_rtable true Tryz.f75 [] (boolV b)) [1, 1, 1, 1, 1, 1, 1, 0, 1, 0] (mkSt [(1, intV a), (2, VV.bp 0 0), (5, VV.bp 1 0), (7, intV (0 : Int)), (8, intV (0 : Int))] [Ob.box (enc_Model m), Ob.box (enc_Proc (m.Procs.getD a.toNat default))]))))) := by kernel_rfl
theorem rtarget_raw (b : Bool) (m : D.Model) (a : Int) : (fnCtx Tryz.prog tb shRf annNo true Tryz.f164 [] (boolV b)).goal (St.init [] [.agg (enc_Model m), intV a]) =
    (((true && (bif decide (a ≥ (0 : Int)) then decide (a < (↑m.Exprs.length : Int)) else false) == true) = true → (0 : Int) ≤ a ∧ a < (↑m.Exprs.length : Int)) ∧ ((true && (bif bif decide (a ≥ (0 : Int)) then decide (a < (↑m.Exprs.length : Int)) else false then (m.Exprs.getD a.toNat default).Op == 2 else false) == true) = true → (0 : Int) ≤ a ∧ a < (↑m.Exprs.length : Int)) ∧ leO [] [] ∧ (boolV (bif bif bif decide (a ≥ (0 : Int)) then decide (a < (↑m.Exprs.length : Int)) else false then (m.Exprs.getD a.toNat default).Op == 2 else false then (m.Exprs.getD a.toNat default).V.Scope != (2 : Int) else false)).le (boolV b)) := by kernel_rfl
theorem rstmt_raw (b : Bool) (m : D.Model) (s : D.Stmt) : (fnCtx Tryz.prog tb shRf ann_rstmt true Tryz.f142 [] (boolV b)).goal (St.init [] [.agg (enc_Model m), .agg (enc_Stmt s)]) =
    (∃ (y : Bool), VSpec Tryz.prog 164 [] [VV.agg (enc_Model m), intV s.A] [] (boolV y) ∧ ∃ (y_1 : Bool), VSpec Tryz.prog 138 [] [intV (↑m.Exprs.length : Int), encL_Int true s.Args] [] (boolV y_1) ∧ ((s.Kind == 1) = true → ((s.Kind == 1) = true → leO [] [] ∧ (boolV (bif bif bif bif bif decide (s.A ≥ (0 : Int)) then decide (s.A < (↑m.Exprs.length : Int)) else false then s.B == (-1 : Int) else false then bif (↑s.Args.length : Int) == 0 then (↑s.Match.length : Int) == 0 else false else false then s.N == 0 else false then s.Text.toList == (⟨#[]⟩ : ByteArray).toList else false)).le (boolV b)) ∧ ((s.Kind == 1) = false → ((s.Kind == 2) = true → leO [] [] ∧ (boolV (bif bif bif bif y then bif decide (s.B ≥ (0 : Int)) then decide (s.B < (↑m.Exprs.length : Int)) else false else false then bif (↑s.Args.length : Int) == 0 then (↑s.Match.length : Int) == 0 else false else false then s.N == 0 else false then s.Text.toList == (⟨#[]⟩ : ByteArray).toList else false)).le (boolV b)) ∧ ((s.Kind == 2) = false → ((s.Kind == 4) = true → leO [] [] ∧ (boolV (bif bif bif bif bif s.A == (-1 : Int) then s.B == (-1 : Int) else false then y_1 else false then (↑s.Match.length : Int) == 0 else false then s.N == 0 else false then decide ((↑s.Text.size : Int) ≤ (256 : Int)) else false)).le (boolV b)) ∧ ((s.Kind == 4) = false → ((s.Kind == 5) = true → leO [] [] ∧ (boolV (bif bif bif bif bif bif bif bif decide (s.A ≥ (0 : Int)) then decide (s.A < (↑m.Exprs.length : Int)) else false then s.B == (-1 : Int) else false then y_1 else false then decide ((↑s.Args.length : Int) ≥ (1 : Int)) else false then decide ((↑s.Args.length : Int) ≤ (8 : Int)) else false then (↑s.Match.length : Int) == 0 else false then bif s.N == 0 then true else s.N == 1 else false then s.Text.toList == (⟨#[]⟩ : ByteArray).toList else false)).le (boolV b)) ∧ ((s.Kind == 5) = false → ((s.Kind == 6) = true → ∃ (y : Bool), VSpec Tryz.prog 141 [] [VV.agg (enc_Model m), intV (↑m.Exprs.length : Int), encL_Int true s.Args, encL_Int true s.Match] [] (boolV y) ∧ ((bif bif bif bif bif !bif decide (s.A ≥ (0 : Int)) then decide (s.A < (↑m.Exprs.length : Int)) else false then true else s.B != (-1 : Int) then true else !y then true else decide (s.N < (0 : Int)) then true else decide (s.N > (3 : Int)) then true else !s.Text.toList == (⟨#[]⟩ : ByteArray).toList) = true → leO [] [] ∧ (boolV false).le (boolV b)) ∧ ((bif bif bif bif bif !bif decide (s.A ≥ (0 : Int)) then decide (s.A < (↑m.Exprs.length : Int)) else false then true else s.B != (-1 : Int) then true else !y then true else decide (s.N < (0 : Int)) then true else decide (s.N > (3 : Int)) then true else !s.Text.toList == (⟨#[]⟩ : ByteArray).toList) = false → SatC (fnCtx Tryz.prog tb shRf ann_rstmt true Tryz.f142 [] (boolV b)) [1, 1, 1, 1, 1, 1, 1, 0, 1, 0, 1, 1, 1, 1, 1, 1, 1, 1, 1, 0, 1, 1, 0, 1, 0] (mkSt [(2, VV.bp 0 0), (3, VV.bp 1 0), (12, intV (0 : Int))] [Ob.box (enc_Model m), Ob.box (enc_Stmt s)]))) ∧ ((s.Kind == 6) = false → ((s.Kind == 7) = true → ((s.Kind == 7) = true → leO [] [] ∧ (boolV (bif bif bif bif s.A == (-1 : Int) then s.B == (-1 : Int) else false then bif (↑s.Args.length : Int) == 0 then (↑s.Match.length : Int) == 0 else false else false then s.N == 0 else false then s.Text.toList == (⟨#[]⟩ : ByteArray).toList else false)).le (boolV b)) ∧ ((s.Kind == 7) = false → ((s.Kind == 9) = true → leO [] [] ∧ (boolV (bif bif bif bif bif y then s.B == (-1 : Int) else false then bif (↑s.Args.length : Int) == 0 then (↑s.Match.length : Int) == 0 else false else false then decide (s.N ≥ (0 : Int)) else false then decide (s.N < (↑m.Shapes.length : Int)) else false then s.Text.toList == (⟨#[]⟩ : ByteArray).toList else false)).le (boolV b)) ∧ ((s.Kind == 9) = false → leO [] [] ∧ (boolV false).le (boolV b)))) ∧ ((s.Kind == 7) = false → ((s.Kind == 8) = true → leO [] [] ∧ (boolV (bif bif bif bif s.A == (-1 : Int) then s.B == (-1 : Int) else false then bif (↑s.Args.length : Int) == 0 then (↑s.Match.length : Int) == 0 else false else false then s.N == 0 else false then s.Text.toList == (⟨#[]⟩ : ByteArray).toList else false)).le (boolV b)) ∧ ((s.Kind == 8) = false → ((s.Kind == 9) = true → leO [] [] ∧ (boolV (bif bif bif bif bif y then s.B == (-1 : Int) else false then bif (↑s.Args.length : Int) == 0 then (↑s.Match.length : Int) == 0 else false else false then decide (s.N ≥ (0 : Int)) else false then decide (s.N < (↑m.Shapes.length : Int)) else false then s.Text.toList == (⟨#[]⟩ : ByteArray).toList else false)).le (boolV b)) ∧ ((s.Kind == 9) = false → leO [] [] ∧ (boolV false).le (boolV b)))))))))) ∧ ((s.Kind == 1) = false → ((s.Kind == 3) = true → leO [] [] ∧ (boolV (bif bif bif bif bif decide (s.A ≥ (0 : Int)) then decide (s.A < (↑m.Exprs.length : Int)) else false then s.B == (-1 : Int) else false then bif (↑s.Args.length : Int) == 0 then (↑s.Match.length : Int) == 0 else false else false then s.N == 0 else false then s.Text.toList == (⟨#[]⟩ : ByteArray).toList else false)).le (boolV b)) ∧ ((s.Kind == 3) = false → ((s.Kind == 2) = true → leO [] [] ∧ (boolV (bif bif bif bif y then bif decide (s.B ≥ (0 : Int)) then decide (s.B < (↑m.Exprs.length : Int)) else false else false then bif (↑s.Args.length : Int) == 0 then (↑s.Match.length : Int) == 0 else false else false then s.N == 0 else false then s.Text.toList == (⟨#[]⟩ : ByteArray).toList else false)).le (boolV b)) ∧ ((s.Kind == 2) = false → ((s.Kind == 4) = true → leO [] [] ∧ (boolV (bif bif bif bif bif s.A == (-1 : Int) then s.B == (-1 : Int) else false then y_1 else false then (↑s.Match.length : Int) == 0 else false then s.N == 0 else false then decide ((↑s.Text.size : Int) ≤ (256 : Int)) else false)).le (boolV b)) ∧ ((s.Kind == 4) = false → ((s.Kind == 5) = true → leO [] [] ∧ (boolV (bif bif bif bif bif bif bif bif decide (s.A ≥ (0 : Int)) then decide (s.A < (↑m.Exprs.length : Int)) else false then s.B == (-1 : Int) else false then y_1 else false then decide ((↑s.Args.length : Int) ≥ (1 : Int)) else false then decide ((↑s.Args.length : Int) ≤ (8 : Int)) else false then (↑s.Match.length : Int) == 0 else false then bif s.N == 0 then true else s.N == 1 else false then s.Text.toList == (⟨#[]⟩ : ByteArray).toList else false)).le (boolV b)) ∧ ((s.Kind == 5) = false → ((s.Kind == 6) = true → ∃ (y : Bool), VSpec Tryz.prog 141 [] [VV.agg (enc_Model m), intV (↑m.Exprs.length : Int), encL_Int true s.Args, encL_Int true s.Match] [] (boolV y) ∧ ((bif bif bif bif bif !bif decide (s.A ≥ (0 : Int)) then decide (s.A < (↑m.Exprs.length : Int)) else false then true else s.B != (-1 : Int) then true else !y then true else decide (s.N < (0 : Int)) then true else decide (s.N > (3 : Int)) then true else !s.Text.toList == (⟨#[]⟩ : ByteArray).toList) = true → leO [] [] ∧ (boolV false).le (boolV b)) ∧ ((bif bif bif bif bif !bif decide (s.A ≥ (0 : Int)) then decide (s.A < (↑m.Exprs.length : Int)) else false then true else s.B != (-1 : Int) then true else !y then true else decide (s.N < (0 : Int)) then true else decide (s.N > (3 : Int)) then true else !s.Text.toList == (⟨#[]⟩ : ByteArray).toList) = false → SatC (fnCtx Tryz.prog tb shRf ann_rstmt true Tryz.f142 [] (boolV b)) [1, 1, 1, 1, 1, 1, 1, 0, 1, 0, 1, 1, 1, 1, 1, 1, 1, 1, 1, 0, 1, 1, 0, 1, 0] (mkSt [(2, VV.bp 0 0), (3, VV.bp 1 0), (12, intV (0 : Int))] [Ob.box (enc_Model m), Ob.box (enc_Stmt s)]))) ∧ ((s.Kind == 6) = false → ((s.Kind == 7) = true → ((s.Kind == 7) = true → leO [] [] ∧ (boolV (bif bif bif bif s.A == (-1 : Int) then s.B == (-1 : Int) else false then bif (↑s.Args.length : Int) == 0 then (↑s.Match.length : Int) == 0 else false else false then s.N == 0 else false then s.Text.toList == (⟨#[]⟩ : ByteArray).toList else false)).le (boolV b)) ∧ ((s.Kind == 7) = false → ((s.Kind == 9) = true → leO [] [] ∧ (boolV (bif bif bif bif bif y then s.B == (-1 : Int) else false then bif (↑s.Args.length : Int) == 0 then (↑s.Match.length : Int) == 0 else false else false then decide (s.N ≥ (0 : Int)) else false then decide (s.N < (↑m.Shapes.length : Int)) else false then s.Text.toList == (⟨#[]⟩ : ByteArray).toList else false)).le (boolV b)) ∧ ((s.Kind == 9) = false → leO [] [] ∧ (boolV false).le (boolV b)))) ∧ ((s.Kind == 7) = false → ((s.Kind == 8) = true → leO [] [] ∧ (boolV (bif bif bif bif s.A == (-1 : Int) then s.B == (-1 : Int) else false then bif (↑s.Args.length : Int) == 0 then (↑s.Match.length : Int) == 0 else false else false then s.N == 0 else false then s.Text.toList == (⟨#[]⟩ : ByteArray).toList else false)).le (boolV b)) ∧ ((s.Kind == 8) = false → ((s.Kind == 9) = true → leO [] [] ∧ (boolV (bif bif bif bif bif y then s.B == (-1 : Int) else false then bif (↑s.Args.length : Int) == 0 then (↑s.Match.length : Int) == 0 else false else false then decide (s.N ≥ (0 : Int)) else false then decide (s.N < (↑m.Shapes.length : Int)) else false then s.Text.toList == (⟨#[]⟩ : ByteArray).toList else false)).le (boolV b)) ∧ ((s.Kind == 9) = false → leO [] [] ∧ (boolV false).le (boolV b))))))))))) := by kernel_rfl
theorem rroom_raw (r : Int) (m : D.Model) (a : Int) (v : D.Var) : (fnCtx Tryz.prog tb shRf annNo true Tryz.f144 [] (intV r)).goal (St.init [] [.agg (enc_Model m), intV a, .agg (enc_Var v)]) =
    (((v.Scope == 0) = true → leO [] [] ∧ (intV (↑m.Globals.length : Int)).le (intV r)) ∧ ((v.Scope == 0) = false → ((v.Scope == 1) = true → ((0 : Int) ≤ a ∧ a < (↑m.Procs.length : Int)) ∧ leO [] [] ∧ (intV (↑(m.Procs.getD a.toNat default).Frame.length : Int)).le (intV r)) ∧ ((v.Scope == 1) = false → ((0 : Int) ≤ v.Type_ ∧ v.Type_ < (↑m.Procs.length : Int)) ∧ leO [] [] ∧ (intV (↑(m.Procs.getD v.Type_.toNat default).Frame.length : Int)).le (intV r)))) := by kernel_rfl
theorem ruses_raw (b : Bool) (m : D.Model) (a k : Int) (run : Bool) : (fnCtx Tryz.prog tb shRf ann_ruses true Tryz.f114 [] (boolV b)).goal (St.init [] [.agg (enc_Model m), intV a, intV k, boolV run]) =
    (((0 : Int) ≤ k ∧ k < (↑m.Exprs.length : Int)) ∧ ((bif bif (m.Exprs.getD k.toNat default).Op == 39 then !run else false then true else bif a == m.Claim then bif bif (m.Exprs.getD k.toNat default).Op == 31 then true else (m.Exprs.getD k.toNat default).Op == 39 then true else bif (m.Exprs.getD k.toNat default).Op == 2 then (m.Exprs.getD k.toNat default).V.Scope == 1 else false else false) = true → leO [] [] ∧ (boolV false).le (boolV b)) ∧ ((bif bif (m.Exprs.getD k.toNat default).Op == 39 then !run else false then true else bif a == m.Claim then bif bif (m.Exprs.getD k.toNat default).Op == 31 then true else (m.Exprs.getD k.toNat default).Op == 39 then true else bif (m.Exprs.getD k.toNat default).Op == 2 then (m.Exprs.getD k.toNat default).V.Scope == 1 else false else false) = false → ∃ (y : Int), ((true && ((m.Exprs.getD k.toNat default).Op == 2) == true) = true → VSpec Tryz.prog 143 [] [VV.agg (enc_Var (m.Exprs.getD k.toNat default).V)] [] (intV y)) ∧ ∃ (y_1 : Int), ((true && ((m.Exprs.getD k.toNat default).Op == 2) == true) = true → VSpec Tryz.prog 144 [] [VV.agg (enc_Model m), intV a, VV.agg (enc_Var (m.Exprs.getD k.toNat default).V)] [] (intV y_1)) ∧ ((bif (m.Exprs.getD k.toNat default).Op == 2 then decide (y > y_1) else false) = true → leO [] [] ∧ (boolV false).le (boolV b)) ∧ ((bif (m.Exprs.getD k.toNat default).Op == 2 then decide (y > y_1) else false) = false → ∃ (y : List Int), VSpec Tryz.prog 111 [] [VV.agg (enc_Expr (m.Exprs.getD k.toNat default))] [] (encL_Int true y) ∧ SatC (fnCtx Tryz.prog tb shRf ann_ruses true Tryz.f114 [] (boolV b)) [1, 1, 1, 1, 1, 0, 1, 0] (mkSt [(1, intV a), (4, VV.bp 0 0), (10, encL_Int true y), (11, intV (0 : Int))] [Ob.box (enc_Model m)])))) := by kernel_rfl
theorem rway_raw (b : Bool) (m : D.Model) (a : Int) (s : D.Stmt) : (fnCtx Tryz.prog tb shRf ann_rway true Tryz.f113 [] (boolV b)).goal (St.init [] [.agg (enc_Model m), intV a, .agg (enc_Stmt s)]) =
    (∃ (y : Bool), VSpec Tryz.prog 142 [] [VV.agg (enc_Model m), VV.agg (enc_Stmt s)] [] (boolV y) ∧ ((bif !y then true else bif bif bif bif a == m.Claim then s.Kind != (1 : Int) else false then s.Kind != (3 : Int) else false then s.Kind != (7 : Int) else false then s.Kind != (8 : Int) else false) = true → leO [] [] ∧ (boolV false).le (boolV b)) ∧ ((bif !y then true else bif bif bif bif a == m.Claim then s.Kind != (1 : Int) else false then s.Kind != (3 : Int) else false then s.Kind != (7 : Int) else false then s.Kind != (8 : Int) else false) = false → (decide (s.A ≥ (0 : Int)) = true → ∃ (y : Bool), VSpec Tryz.prog 114 [] [VV.agg (enc_Model m), intV a, intV s.A, boolV (s.Kind == 1)] [] (boolV y) ∧ ((!y) = true → leO [] [] ∧ (boolV false).le (boolV b)) ∧ ((!y) = false → (decide (s.B ≥ (0 : Int)) = true → ∃ (y : Bool), VSpec Tryz.prog 114 [] [VV.agg (enc_Model m), intV a, intV s.B, boolV (s.Kind == 2)] [] (boolV y) ∧ ((!y) = true → leO [] [] ∧ (boolV false).le (boolV b)) ∧ ((!y) = false → SatC (fnCtx Tryz.prog tb shRf ann_rway true Tryz.f113 [] (boolV b)) [1, 1, 1, 1, 1, 0, 1, 0] (mkSt [(1, intV a), (3, VV.bp 0 0), (5, VV.bp 1 0), (8, intV (0 : Int))] [Ob.box (enc_Model m), Ob.box (enc_Stmt s)]))) ∧ (decide (s.B ≥ (0 : Int)) = false → SatC (fnCtx Tryz.prog tb shRf ann_rway true Tryz.f113 [] (boolV b)) [1, 1, 1, 1, 1, 0, 1, 0] (mkSt [(1, intV a), (3, VV.bp 0 0), (5, VV.bp 1 0), (8, intV (0 : Int))] [Ob.box (enc_Model m), Ob.box (enc_Stmt s)])))) ∧ (decide (s.A ≥ (0 : Int)) = false → (decide (s.B ≥ (0 : Int)) = true → ∃ (y : Bool), VSpec Tryz.prog 114 [] [VV.agg (enc_Model m), intV a, intV s.B, boolV (s.Kind == 2)] [] (boolV y) ∧ ((!y) = true → leO [] [] ∧ (boolV false).le (boolV b)) ∧ ((!y) = false → SatC (fnCtx Tryz.prog tb shRf ann_rway true Tryz.f113 [] (boolV b)) [1, 1, 1, 1, 1, 0, 1, 0] (mkSt [(1, intV a), (3, VV.bp 0 0), (5, VV.bp 1 0), (8, intV (0 : Int))] [Ob.box (enc_Model m), Ob.box (enc_Stmt s)]))) ∧ (decide (s.B ≥ (0 : Int)) = false → SatC (fnCtx Tryz.prog tb shRf ann_rway true Tryz.f113 [] (boolV b)) [1, 1, 1, 1, 1, 0, 1, 0] (mkSt [(1, intV a), (3, VV.bp 0 0), (5, VV.bp 1 0), (8, intV (0 : Int))] [Ob.box (enc_Model m), Ob.box (enc_Stmt s)]))))) := by kernel_rfl
theorem rwaysall_raw (b : Bool) (m : D.Model) (a : Int) : (fnCtx Tryz.prog tb shRf ann_rwaysall true Tryz.f76 [] (boolV b)).goal (St.init [] [.agg (enc_Model m), intV a]) =
    (((0 : Int) ≤ a ∧ a < (↑m.Procs.length : Int)) ∧ SatC (fnCtx Tryz.prog tb shRf ann_rwaysall true Tryz.f76 [] (boolV b)) [1, 1, 0, 1, 0] (mkSt [(1, intV a), (2, VV.bp 0 0), (5, VV.bp 1 0), (6, intV (0 : Int))] [Ob.box (enc_Model m), Ob.box (enc_Proc (m.Procs.getD a.toNat default))])) := by kernel_rfl
theorem rtables_raw (r e : Int) (m : D.Model) : (fnCtx Tryz.prog tb shRf ann_rtables true Tryz.f74 [] (.tup [intV r, intV e])).goal (St.init [] [.agg (enc_Model m)]) =
    (((bif decide ((↑m.Globals.length : Int) > (128 : Int)) then true else (↑m.Init.length : Int) != (↑m.Globals.length : Int)) = true → leO [] [] ∧ (VV.tup [intV (1 : Int), intV (-1 : Int)]).le (VV.tup [intV r, intV e])) ∧ ((bif decide ((↑m.Globals.length : Int) > (128 : Int)) then true else (↑m.Init.length : Int) != (↑m.Globals.length : Int)) = false → ∃ (y : Int), VSpec Tryz.prog 108 [] [encL_Type true m.Globals, encL_Int true m.Init] [] (intV y) ∧ (decide (y ≥ (0 : Int)) = true → leO [] [] ∧ (VV.tup [intV (1 : Int), intV y]).le (VV.tup [intV r, intV e])) ∧ (decide (y ≥ (0 : Int)) = false → ((bif decide ((↑m.Shapes.length : Int) > (32 : Int)) then true else decide ((↑m.Chans.length : Int) > (32 : Int))) = true → leO [] [] ∧ (VV.tup [intV (2 : Int), intV (-1 : Int)]).le (VV.tup [intV r, intV e])) ∧ ((bif decide ((↑m.Shapes.length : Int) > (32 : Int)) then true else decide ((↑m.Chans.length : Int) > (32 : Int))) = false → SatC (fnCtx Tryz.prog tb shRf ann_rtables true Tryz.f74 [] (VV.tup [intV r, intV e])) [1, 1, 1, 1, 1, 0, 1, 0] (mkSt [(1, VV.bp 0 0), (5, intV (0 : Int))] [Ob.box (enc_Model m)]))))) := by kernel_rfl
theorem rcheck_raw (r e f : Int) (m : D.Model) : (fnCtx Tryz.prog tb shRf ann_rcheck true Tryz.f48 [] (.tup [intV r, intV e, intV f])).goal (St.init [] [.agg (enc_Model m)]) =
    (∃ (y : Int × Int), VSpec Tryz.prog 74 [] [VV.agg (enc_Model m)] [] (VV.tup [intV y.fst, intV y.snd]) ∧ (decide (y.fst > (0 : Int)) = true → leO [] [] ∧ (VV.tup [intV (40 : Int), intV y.fst, intV y.snd]).le (VV.tup [intV r, intV e, intV f])) ∧ (decide (y.fst > (0 : Int)) = false → SatC (fnCtx Tryz.prog tb shRf ann_rcheck true Tryz.f48 [] (VV.tup [intV r, intV e, intV f])) [1, 1, 1, 1, 0, 1, 0] (mkSt [(1, VV.bp 0 0), (7, intV (0 : Int)), (8, intV (0 : Int))] [Ob.box (enc_Model m)]))) := by kernel_rfl
theorem rmay11_raw (b : Bool) (m : D.Model) : (fnCtx Tryz.prog tb shRf annNo true Tryz.f26 [] (boolV b)).goal (St.init [] [.agg (enc_Model m)]) =
    (∃ (y : Int × Int × Int), VSpec Tryz.prog 48 [] [VV.agg (enc_Model m)] [] (VV.tup [intV y.fst, intV y.snd.fst, intV y.snd.snd]) ∧ leO [] [] ∧ (boolV (y.fst == 0)).le (boolV b)) := by kernel_rfl
theorem rtypedb_raw (b : Bool) (t : List D.Type) (l : List Int) : (fnCtx Tryz.prog tb shRf ann_rtypedb true Tryz.f23 [] (boolV b)).goal (St.init [] [encL_Type true t, encL_Int true l]) =
    ((((↑t.length : Int) != (↑l.length : Int)) = true → leO [] [] ∧ (boolV false).le (boolV b)) ∧ (((↑t.length : Int) != (↑l.length : Int)) = false → SatC (fnCtx Tryz.prog tb shRf ann_rtypedb true Tryz.f23 [] (boolV b)) [1, 1, 0, 1, 0] (mkSt [(0, encL_Type true t), (1, encL_Int true l), (5, intV (0 : Int))] []))) := by kernel_rfl
theorem rmay_raw (b : Bool) (m : D.Model) (s : D.State) : (fnCtx Tryz.prog tb shRf ann_rmay true Tryz.f10 [] (boolV b)).goal (St.init [] [.agg (enc_Model m), .agg (enc_State s)]) =
    (∃ (y : Bool), VSpec Tryz.prog 23 [] [encL_Type true m.Globals, encL_Int true s.Globals] [] (boolV y) ∧ ((bif bif bif bif bif bif bif !y then true else decide ((↑s.Chans.length : Int) > (32 : Int)) then true else decide ((↑s.Procs.length : Int) > (16 : Int)) then true else decide (s.Last < (0 : Int)) then true else decide (s.Last > (15 : Int)) then true else decide (s.Alone < (-1 : Int)) then true else decide (s.Alone ≥ (↑s.Procs.length : Int)) then true else bif decide (m.Claim < (0 : Int)) then s.Claim != (-1 : Int) else false) = true → leO [] [] ∧ (boolV false).le (boolV b)) ∧ ((bif bif bif bif bif bif bif !y then true else decide ((↑s.Chans.length : Int) > (32 : Int)) then true else decide ((↑s.Procs.length : Int) > (16 : Int)) then true else decide (s.Last < (0 : Int)) then true else decide (s.Last > (15 : Int)) then true else decide (s.Alone < (-1 : Int)) then true else decide (s.Alone ≥ (↑s.Procs.length : Int)) then true else bif decide (m.Claim < (0 : Int)) then s.Claim != (-1 : Int) else false) = false → ((true && decide (m.Claim ≥ (0 : Int)) == true && decide (s.Claim < (0 : Int)) == false) = true → (0 : Int) ≤ m.Claim ∧ m.Claim < (↑m.Procs.length : Int)) ∧ ((bif decide (m.Claim ≥ (0 : Int)) then bif decide (s.Claim < (0 : Int)) then true else decide (s.Claim ≥ (↑(m.Procs.getD m.Claim.toNat default).Locs.length : Int)) else false) = true → leO [] [] ∧ (boolV false).le (boolV b)) ∧ ((bif decide (m.Claim ≥ (0 : Int)) then bif decide (s.Claim < (0 : Int)) then true else decide (s.Claim ≥ (↑(m.Procs.getD m.Claim.toNat default).Locs.length : Int)) else false) = false → SatC (fnCtx Tryz.prog tb shRf ann_rmay true Tryz.f10 [] (boolV b)) [1, 1, 1, 1, 0, 1, 0] (mkSt [(2, VV.bp 0 0), (3, VV.bp 1 0), (6, intV (0 : Int))] [Ob.box (enc_Model m), Ob.box (enc_State s)])))) := by kernel_rfl
theorem rscheck_raw (r : Int) (m : D.Model) (s : D.State) : (fnCtx Tryz.prog tb shRf annNo true Tryz.f14 [] (intV r)).goal (St.init [] [.agg (enc_Model m), .agg (enc_State s)]) =
    (∃ (y : Bool), VSpec Tryz.prog 26 [] [VV.agg (enc_Model m)] [] (boolV y) ∧ ((!y) = true → leO [] [] ∧ (intV (40 : Int)).le (intV r)) ∧ ((!y) = false → ∃ (y : Bool), VSpec Tryz.prog 10 [] [VV.agg (enc_Model m), VV.agg (enc_State s)] [] (boolV y) ∧ ((!y) = true → leO [] [] ∧ (intV (41 : Int)).le (intV r)) ∧ ((!y) = false → leO [] [] ∧ (intV (0 : Int)).le (intV r)))) := by kernel_rfl
theorem recheck_raw (r : Int) (e : D.Env) : (fnCtx Tryz.prog tb shRf annNo true Tryz.f7 [] (intV r)).goal (St.init [] [.agg (enc_Env e)]) =
    (∃ (y : Int), VSpec Tryz.prog 14 [] [VV.agg (enc_Model e.M), VV.agg (enc_State e.S)] [] (intV y) ∧ ((y != (0 : Int)) = true → leO [] [] ∧ (intV y).le (intV r)) ∧ ((y != (0 : Int)) = false → ((bif decide (e.Pid < (0 : Int)) then true else decide (e.Pid ≥ (↑e.S.Procs.length : Int))) = true → leO [] [] ∧ (intV (42 : Int)).le (intV r)) ∧ ((bif decide (e.Pid < (0 : Int)) then true else decide (e.Pid ≥ (↑e.S.Procs.length : Int))) = false → leO [] [] ∧ (intV (0 : Int)).le (intV r)))) := by kernel_rfl
theorem rlist_raw (r : List D.Trans) (e : D.Env) (esc : Int) : (fnCtx Tryz.prog tb shRf annNo true Tryz.f12 [] (encL_Trans true r)).goal (St.init [] [.agg (enc_Env e), intV esc]) =
    (∃ (y : D.Proc), VSpec Tryz.prog 24 [] [VV.agg (enc_Env e)] [] (VV.agg (enc_Proc y)) ∧ ((0 : Int) ≤ e.Pid ∧ e.Pid < (↑e.S.Procs.length : Int)) ∧ ((0 : Int) ≤ (e.S.Procs.getD e.Pid.toNat default).Loc ∧ (e.S.Procs.getD e.Pid.toNat default).Loc < (↑y.Locs.length : Int)) ∧ (decide (esc < (0 : Int)) = true → leO [] [] ∧ (encL_Trans true (y.Locs.getD (e.S.Procs.getD e.Pid.toNat default).Loc.toNat default).Out).le (encL_Trans true r)) ∧ (decide (esc < (0 : Int)) = false → ((0 : Int) ≤ esc ∧ esc < (↑(y.Locs.getD (e.S.Procs.getD e.Pid.toNat default).Loc.toNat default).Esc.length : Int)) ∧ leO [] [] ∧ (encL_Trans true ((y.Locs.getD (e.S.Procs.getD e.Pid.toNat default).Loc.toNat default).Esc.getD esc.toNat [])).le (encL_Trans true r))) := by kernel_rfl
theorem rtyp15_raw (p : D.Proc) (e : D.Env) : (fnCtx Tryz.prog tb shRf annNo true Tryz.f24 [] (.agg (enc_Proc p))).goal (St.init [] [.agg (enc_Env e)]) =
    (((0 : Int) ≤ e.Pid ∧ e.Pid < (↑e.S.Procs.length : Int)) ∧ ((0 : Int) ≤ (e.S.Procs.getD e.Pid.toNat default).Type_ ∧ (e.S.Procs.getD e.Pid.toNat default).Type_ < (↑e.M.Procs.length : Int)) ∧ leO [] [] ∧ (VV.agg (enc_Proc (e.M.Procs.getD (e.S.Procs.getD e.Pid.toNat default).Type_.toNat default))).le (VV.agg (enc_Proc p))) := by kernel_rfl
theorem rfits1_raw (b : Bool) (t : D.Type) (v most n i : Int) (J : St → Prop) : ((fnCtx Tryz.prog tb shRf ann_rfits true Tryz.f45 [] (boolV b)).loop [1, 1, 1, 1, 1, 1, 0, 1, 0] J).goal (stRfits t v most n i) =
    ((decide (i < n) = true → J (mkSt [(1, intV v), (2, VV.bp 0 0), (6, intV (IntKind.i64.wrap ((2 : Int) * most))), (7, intV n), (8, intV (IntKind.i64.wrap (i + (1 : Int))))] [Ob.box (enc_Type t)])) ∧ (decide (i < n) = false → (t.Signed = true → leO [] [] ∧ (boolV (bif decide (v ≥ IntKind.i64.wrap ((0 : Int) - most)) then decide (v < most) else false)).le (boolV b)) ∧ (t.Signed = false → leO [] [] ∧ (boolV (bif decide (v ≥ (0 : Int)) then decide (v < most) else false)).le (boolV b)))) := by kernel_rfl
theorem rreach1_raw (r : Int) (v : D.Var) (n k : Int) (J : St → Prop) : ((fnCtx Tryz.prog tb shRf ann_rreach true Tryz.f143 [] (intV r)).loop [1, 1, 1, 0, 1, 0] J).goal (stRreach v n k) =
    ((decide (k < (↑v.Dims.length : Int)) = true → ((0 : Int) ≤ k ∧ k < (↑v.Dims.length : Int)) ∧ ((bif bif bif decide ((v.Dims.getD k.toNat default).Len < (1 : Int)) then true else decide (IntKind.i64.wrap ((v.Dims.getD k.toNat default).Len - (1 : Int)) > (1073741824 : Int)) then true else decide ((v.Dims.getD k.toNat default).Stride < (0 : Int)) then true else decide ((v.Dims.getD k.toNat default).Stride > (1073741824 : Int))) = true → leO [] [] ∧ (intV (0 : Int)).le (intV r)) ∧ ((bif bif bif decide ((v.Dims.getD k.toNat default).Len < (1 : Int)) then true else decide (IntKind.i64.wrap ((v.Dims.getD k.toNat default).Len - (1 : Int)) > (1073741824 : Int)) then true else decide ((v.Dims.getD k.toNat default).Stride < (0 : Int)) then true else decide ((v.Dims.getD k.toNat default).Stride > (1073741824 : Int))) = false → J (mkSt [(1, VV.bp 0 0), (3, intV (IntKind.i64.wrap (n + IntKind.i64.wrap (IntKind.i64.wrap ((v.Dims.getD k.toNat default).Len - (1 : Int)) * (v.Dims.getD k.toNat default).Stride)))), (4, intV (IntKind.i64.wrap (k + (1 : Int))))] [Ob.box (enc_Var v)]))) ∧ (decide (k < (↑v.Dims.length : Int)) = false → leO [] [] ∧ (intV n).le (intV r))) := by kernel_rfl
theorem rtyped1_raw (r : Int) (t : List D.Type) (v : List Int) (k : Int) (J : St → Prop) : ((fnCtx Tryz.prog tb shRf ann_rtyped true Tryz.f108 [] (intV r)).loop [1, 0, 1, 0] J).goal (stRtyped t v k) =
    ((decide (k < (↑t.length : Int)) = true → ((0 : Int) ≤ k ∧ k < (↑t.length : Int)) ∧ ((0 : Int) ≤ k ∧ k < (↑v.length : Int)) ∧ ∃ (y : Bool), VSpec Tryz.prog 45 [] [VV.agg (enc_Type (t.getD k.toNat default)), intV (v.getD k.toNat (0 : Int))] [] (boolV y) ∧ ((!y) = true → leO [] [] ∧ (intV k).le (intV r)) ∧ ((!y) = false → J (mkSt [(0, encL_Type true t), (1, encL_Int true v), (5, intV (IntKind.i64.wrap (k + (1 : Int))))] []))) ∧ (decide (k < (↑t.length : Int)) = false → leO [] [] ∧ (intV (-1 : Int)).le (intV r))) := by kernel_rfl
theorem rshape1_raw (b : Bool) (s : D.Shape) (k : Int) (J : St → Prop) : ((fnCtx Tryz.prog tb shRf ann_rshape true Tryz.f109 [] (boolV b)).loop [1, 1, 0, 1, 0] J).goal (stRshape s k) =
    ((decide (k < (↑s.Fields.length : Int)) = true → ((0 : Int) ≤ k ∧ k < (↑s.Fields.length : Int)) ∧ ∃ (y : Bool), VSpec Tryz.prog 69 [] [VV.agg (enc_Type (s.Fields.getD k.toNat default))] [] (boolV y) ∧ ((!y) = true → leO [] [] ∧ (boolV false).le (boolV b)) ∧ ((!y) = false → J (mkSt [(1, VV.bp 0 0), (3, intV (IntKind.i64.wrap (k + (1 : Int))))] [Ob.box (enc_Shape s)]))) ∧ (decide (k < (↑s.Fields.length : Int)) = false → leO [] [] ∧ (boolV true).le (boolV b))) := by kernel_rfl
theorem rbelow1_raw (b : Bool) (a : Int) (l : List Int) (k : Int) (J : St → Prop) : ((fnCtx Tryz.prog tb shRf ann_rbelow true Tryz.f138 [] (boolV b)).loop [1, 0, 1, 0] J).goal (stRbelow false a l k) =
    ((decide (k < (↑l.length : Int)) = true → ((0 : Int) ≤ k ∧ k < (↑l.length : Int)) ∧ ((true && decide (l.getD k.toNat (0 : Int) < (0 : Int)) == false) = true → (0 : Int) ≤ k ∧ k < (↑l.length : Int)) ∧ ((bif decide (l.getD k.toNat (0 : Int) < (0 : Int)) then true else decide (l.getD k.toNat (0 : Int) ≥ a)) = true → leO [] [] ∧ (boolV false).le (boolV b)) ∧ ((bif decide (l.getD k.toNat (0 : Int) < (0 : Int)) then true else decide (l.getD k.toNat (0 : Int) ≥ a)) = false → J (mkSt [(0, intV a), (1, encL_Int false l), (5, intV (IntKind.i64.wrap (k + (1 : Int))))] []))) ∧ (decide (k < (↑l.length : Int)) = false → leO [] [] ∧ (boolV true).le (boolV b))) := by kernel_rfl
theorem rheldA_raw (r : List Int) (x : D.Expr) (l : List Int) (n : Int) : ((fnCtx Tryz.prog tb shRf ann_rheld true Tryz.f111 [] (encL_Int true r)).cut [1, 1, 1, 1]).goal (stRheldN x l n) =
    ((decide (n ≥ (2 : Int)) = true → (l.length + 1) * 8 ≤ 140737488355328 ∧ SatC ((fnCtx Tryz.prog tb shRf ann_rheld true Tryz.f111 [] (encL_Int true r)).cut [1, 1, 1, 1]) [1] (mkSt [(1, VV.bp 0 0), (3, VV.ow 1 0 (l.length + 1)), (4, intV n)] [Ob.box (enc_Expr x), Ob.arr true 0 (l.length + 1) 1 fun (i : Nat) => bif i.blt l.length then [intV (l.getD i (0 : Int))] else (fun (i : Nat) => List.take 1 (List.drop (i * 1) [intV x.B])) (i - l.length)])) ∧ (decide (n ≥ (2 : Int)) = false → SatC ((fnCtx Tryz.prog tb shRf ann_rheld true Tryz.f111 [] (encL_Int true r)).cut [1, 1, 1, 1]) [1] (mkSt [(1, VV.bp 0 0), (3, VV.ow 1 0 l.length), (4, intV n)] [Ob.box (enc_Expr x), Ob.arr true 0 l.length 1 fun (i : Nat) => [intV (l.getD i (0 : Int))]]))) := by kernel_rfl
theorem rheldB_raw (r : List Int) (x : D.Expr) (l : List Int) (n : Int) : ((fnCtx Tryz.prog tb shRf ann_rheld true Tryz.f111 [] (encL_Int true r)).cut [1, 1, 1, 1, 1]).goal (stRheldN x l n) =
    ((decide (n ≥ (3 : Int)) = true → (l.length + 1) * 8 ≤ 140737488355328 ∧ SatC ((fnCtx Tryz.prog tb shRf ann_rheld true Tryz.f111 [] (encL_Int true r)).cut [1, 1, 1, 1, 1]) [1] (mkSt [(1, VV.bp 0 0), (3, VV.ow 1 0 (l.length + 1))] [Ob.box (enc_Expr x), Ob.arr true 0 (l.length + 1) 1 fun (i : Nat) => bif i.blt l.length then [intV (l.getD i (0 : Int))] else (fun (i : Nat) => List.take 1 (List.drop (i * 1) [intV x.C])) (i - l.length)])) ∧ (decide (n ≥ (3 : Int)) = false → SatC ((fnCtx Tryz.prog tb shRf ann_rheld true Tryz.f111 [] (encL_Int true r)).cut [1, 1, 1, 1, 1]) [1] (mkSt [(1, VV.bp 0 0), (3, VV.ow 1 0 l.length)] [Ob.box (enc_Expr x), Ob.arr true 0 l.length 1 fun (i : Nat) => [intV (l.getD i (0 : Int))]]))) := by kernel_rfl
theorem rheldC_raw (r : List Int) (x : D.Expr) (l : List Int) : ((fnCtx Tryz.prog tb shRf ann_rheld true Tryz.f111 [] (encL_Int true r)).cut [1, 1, 1, 1, 1, 1]).goal (stRheldL x l) =
    (((bif x.Op == 30 then true else x.Op == 39) = true → (l.length + x.Args.length) * 8 ≤ 140737488355328 ∧ (∀ (i : Nat), i < x.Args.length → ((fun (i : Nat) => [intV (x.Args.getD i (0 : Int))]) i).all VV.mem1 = true) ∧ SatC ((fnCtx Tryz.prog tb shRf ann_rheld true Tryz.f111 [] (encL_Int true r)).cut [1, 1, 1, 1, 1, 1]) [1] (mkSt [(1, VV.bp 0 0), (3, VV.ow 1 0 (l.length + x.Args.length))] [Ob.box (enc_Expr x), Ob.arr true 0 (l.length + x.Args.length) 1 fun (i : Nat) => bif i.blt l.length then rowsIn l i else (fun (i : Nat) => [intV (x.Args.getD i (0 : Int))]) (i - l.length)])) ∧ ((bif x.Op == 30 then true else x.Op == 39) = false → SatC ((fnCtx Tryz.prog tb shRf ann_rheld true Tryz.f111 [] (encL_Int true r)).cut [1, 1, 1, 1, 1, 1]) [1] (mkSt [(1, VV.bp 0 0), (3, VV.ow 1 0 l.length)] [Ob.box (enc_Expr x), Ob.arr true 0 l.length 1 fun (i : Nat) => [intV (l.getD i (0 : Int))]]))) := by kernel_rfl
theorem rheldD_raw (r : List Int) (x : D.Expr) (l : List Int) : ((fnCtx Tryz.prog tb shRf ann_rheld true Tryz.f111 [] (encL_Int true r)).cut [1, 1, 1, 1, 1, 1, 1]).goal (stRheldL x l) =
    (((x.Op == 2) = true → ((x.V.Scope == 2) = true → (l.length + 1) * 8 ≤ 140737488355328 ∧ SatC ((fnCtx Tryz.prog tb shRf ann_rheld true Tryz.f111 [] (encL_Int true r)).cut [1, 1, 1, 1, 1, 1, 1]) [0, 1, 0, 1, 1, 0] (mkSt [(1, VV.bp 0 0), (3, VV.ow 1 0 (l.length + 1)), (5, intV (0 : Int))] [Ob.box (enc_Expr x), Ob.arr true 0 (l.length + 1) 1 fun (i : Nat) => bif i.blt l.length then [intV (l.getD i (0 : Int))] else (fun (i : Nat) => List.take 1 (List.drop (i * 1) [intV x.V.Who])) (i - l.length)])) ∧ ((x.V.Scope == 2) = false → SatC ((fnCtx Tryz.prog tb shRf ann_rheld true Tryz.f111 [] (encL_Int true r)).cut [1, 1, 1, 1, 1, 1, 1]) [0, 1, 0, 1, 1, 0] (mkSt [(1, VV.bp 0 0), (3, VV.ow 1 0 l.length), (5, intV (0 : Int))] [Ob.box (enc_Expr x), Ob.arr true 0 l.length 1 fun (i : Nat) => [intV (l.getD i (0 : Int))]]))) ∧ ((x.Op == 2) = false → leO [] [] ∧ (encL_Int true l).le (encL_Int true r))) := by kernel_rfl
theorem rheld1_raw (r : List Int) (x : D.Expr) (l : List Int) (k : Int) (J : St → Prop) : ((fnCtx Tryz.prog tb shRf ann_rheld true Tryz.f111 [] (encL_Int true r)).loop [1, 1, 1, 1, 1, 1, 1, 0, 1, 0, 1, 1, 0] J).goal (stRheld x l k) =
    ((decide (k < (↑x.V.Dims.length : Int)) = true → ((0 : Int) ≤ k ∧ k < (↑x.V.Dims.length : Int)) ∧ (l.length + 1) * 8 ≤ 140737488355328 ∧ J (mkSt [(1, VV.bp 0 0), (3, VV.ow 1 0 (l.length + 1)), (5, intV (IntKind.i64.wrap (k + (1 : Int))))] [Ob.box (enc_Expr x), Ob.arr true 0 (l.length + 1) 1 fun (i : Nat) => bif i.blt l.length then [intV (l.getD i (0 : Int))] else (fun (i : Nat) => List.take 1 (List.drop (i * 1) [intV (x.V.Dims.getD k.toNat default).I])) (i - l.length)])) ∧ (decide (k < (↑x.V.Dims.length : Int)) = false → leO [] [] ∧ (encL_Int true l).le (encL_Int true r))) := by kernel_rfl
theorem rvari1_raw (b : Bool) (_ : D.Model) (a : Int) (v : D.Var) (k : Int) (J : St → Prop) : ((fnCtx Tryz.prog tb shRf ann_rvari true Tryz.f140 [] (boolV b)).loop [1, 1, 1, 1, 1, 0, 1, 0] J).goal (stRvari a v k) =
    ((decide (k < (↑v.Dims.length : Int)) = true → ((0 : Int) ≤ k ∧ k < (↑v.Dims.length : Int)) ∧ ∃ (y : Bool), VSpec Tryz.prog 138 [] [intV a, VV.sl false 1 1 fun (i : Nat) => List.take 1 (List.drop (i * 1) [intV (v.Dims.getD k.toNat default).I])] [] (boolV y) ∧ ((bif bif bif bif !y then true else decide ((v.Dims.getD k.toNat default).Len < (1 : Int)) then true else decide ((v.Dims.getD k.toNat default).Len > (128 : Int)) then true else decide ((v.Dims.getD k.toNat default).Stride < (0 : Int)) then true else decide ((v.Dims.getD k.toNat default).Stride > (128 : Int))) = true → leO [] [] ∧ (boolV false).le (boolV b)) ∧ ((bif bif bif bif !y then true else decide ((v.Dims.getD k.toNat default).Len < (1 : Int)) then true else decide ((v.Dims.getD k.toNat default).Len > (128 : Int)) then true else decide ((v.Dims.getD k.toNat default).Stride < (0 : Int)) then true else decide ((v.Dims.getD k.toNat default).Stride > (128 : Int))) = false → J (mkSt [(1, intV a), (5, VV.bp 0 0), (9, intV (IntKind.i64.wrap (k + (1 : Int))))] [Ob.box (enc_Var v)]))) ∧ (decide (k < (↑v.Dims.length : Int)) = false → leO [] [] ∧ (boolV true).le (boolV b))) := by kernel_rfl
theorem rmatched1_raw (b : Bool) (m : D.Model) (args mt : List Int) (k : Int) (J : St → Prop) : ((fnCtx Tryz.prog tb shRf ann_rmatched true Tryz.f141 [] (boolV b)).loop [1, 1, 1, 0, 1, 0] J).goal (stRmatched m args mt k) =
    ((decide (k < (↑mt.length : Int)) = true → ((0 : Int) ≤ k ∧ k < (↑mt.length : Int)) ∧ ((true && decide (mt.getD k.toNat (0 : Int) < (-1 : Int)) == false) = true → (0 : Int) ≤ k ∧ k < (↑mt.length : Int)) ∧ ((true && (bif decide (mt.getD k.toNat (0 : Int) < (-1 : Int)) then true else decide (mt.getD k.toNat (0 : Int) > (1 : Int))) == false) = true → (0 : Int) ≤ k ∧ k < (↑mt.length : Int)) ∧ ((true && (bif decide (mt.getD k.toNat (0 : Int) < (-1 : Int)) then true else decide (mt.getD k.toNat (0 : Int) > (1 : Int))) == false && (mt.getD k.toNat (0 : Int) == 0) == true) = true → (0 : Int) ≤ k ∧ k < (↑args.length : Int)) ∧ ((true && (bif decide (mt.getD k.toNat (0 : Int) < (-1 : Int)) then true else decide (mt.getD k.toNat (0 : Int) > (1 : Int))) == false && (mt.getD k.toNat (0 : Int) == 0) == true) = true → (0 : Int) ≤ args.getD k.toNat (0 : Int) ∧ args.getD k.toNat (0 : Int) < (↑m.Exprs.length : Int)) ∧ ((bif bif decide (mt.getD k.toNat (0 : Int) < (-1 : Int)) then true else decide (mt.getD k.toNat (0 : Int) > (1 : Int)) then true else bif mt.getD k.toNat (0 : Int) == 0 then (m.Exprs.getD (args.getD k.toNat (0 : Int)).toNat default).Op != (2 : Int) else false) = true → leO [] [] ∧ (boolV false).le (boolV b)) ∧ ((bif bif decide (mt.getD k.toNat (0 : Int) < (-1 : Int)) then true else decide (mt.getD k.toNat (0 : Int) > (1 : Int)) then true else bif mt.getD k.toNat (0 : Int) == 0 then (m.Exprs.getD (args.getD k.toNat (0 : Int)).toNat default).Op != (2 : Int) else false) = false → J (mkSt [(2, encL_Int true args), (3, encL_Int true mt), (4, VV.bp 0 0), (10, intV (IntKind.i64.wrap (k + (1 : Int))))] [Ob.box (enc_Model m)]))) ∧ (decide (k < (↑mt.length : Int)) = false → leO [] [] ∧ (boolV true).le (boolV b))) := by kernel_rfl
theorem rexpr1_raw (b : Bool) (m : D.Model) (a : Int) (x : D.Expr) (n k : Int) (J : St → Prop) : ((fnCtx Tryz.prog tb shRf ann_rexpr true Tryz.f110 [] (boolV b)).loop [1, 1, 1, 1, 1, 0, 1, 0] J).goal (stRexpr m a x n k) =
    ((decide (k < (3 : Int)) = true → ((0 : Int) ≤ k ∧ k < (↑3 : Int)) ∧ ∃ (y : Bool), VSpec Tryz.prog 138 [] [intV a, VV.sl false 1 1 fun (i : Nat) => List.take 1 (List.drop (i * 1) [intV ([x.A, x.B, x.C].getD k.toNat (0 : Int))])] [] (boolV y) ∧ ((true && (bif decide (k < n) then !y else false) == false && decide (k ≥ n) == true) = true → (0 : Int) ≤ k ∧ k < (↑3 : Int)) ∧ ((bif bif decide (k < n) then !y else false then true else bif decide (k ≥ n) then [x.A, x.B, x.C].getD k.toNat (0 : Int) != (-1 : Int) else false) = true → leO [] [] ∧ (boolV false).le (boolV b)) ∧ ((bif bif decide (k < n) then !y else false then true else bif decide (k ≥ n) then [x.A, x.B, x.C].getD k.toNat (0 : Int) != (-1 : Int) else false) = false → J (mkSt [(1, intV a), (2, VV.bp 0 0), (5, VV.bp 1 0), (6, intV n), (7, VV.ow 2 0 3), (8, intV (IntKind.i64.wrap (k + (1 : Int))))] [Ob.box (enc_Model m), Ob.box (enc_Expr x), Ob.arr true 0 3 1 fun (i : Nat) => [intV ([x.A, x.B, x.C].getD i (0 : Int))]]))) ∧ (decide (k < (3 : Int)) = false → ∃ (y : Bool), VSpec Tryz.prog 139 [] [VV.agg (enc_Model m), intV x.N] [] (boolV y) ∧ ∃ (y_1 : Bool), VSpec Tryz.prog 138 [] [intV a, encL_Int true x.Args] [] (boolV y_1) ∧ ((x.Op == 1) = true → leO [] [] ∧ (boolV (bif decide (x.N ≥ (-2147483648 : Int)) then decide (x.N ≤ (2147483647 : Int)) else false)).le (boolV b)) ∧ ((x.Op == 1) = false → ((x.Op == 2) = true → ∃ (y : Bool), VSpec Tryz.prog 140 [] [VV.agg (enc_Model m), intV a, VV.agg (enc_Var x.V)] [] (boolV y) ∧ leO [] [] ∧ (boolV y).le (boolV b)) ∧ ((x.Op == 2) = false → ((x.Op == 30) = true → ∃ (y : Bool), VSpec Tryz.prog 141 [] [VV.agg (enc_Model m), intV a, encL_Int true x.Args, encL_Int true x.Match] [] (boolV y) ∧ leO [] [] ∧ (boolV (bif y then bif x.N == 0 then true else x.N == 1 else false)).le (boolV b)) ∧ ((x.Op == 30) = false → ((x.Op == 38) = true → ((bif !y then true else decide ((↑x.Args.length : Int) < (1 : Int))) = true → leO [] [] ∧ (boolV false).le (boolV b)) ∧ ((bif !y then true else decide ((↑x.Args.length : Int) < (1 : Int))) = false → ((0 : Int) ≤ x.N ∧ x.N < (↑m.Procs.length : Int)) ∧ ∃ (y : Bool), VSpec Tryz.prog 138 [] [intV (↑(m.Procs.getD x.N.toNat default).Locs.length : Int), encL_Int true x.Args] [] (boolV y) ∧ leO [] [] ∧ (boolV y).le (boolV b))) ∧ ((x.Op == 38) = false → ((x.Op == 39) = true → ((true && (bif y then y_1 else false) == true) = true → (0 : Int) ≤ x.N ∧ x.N < (↑m.Procs.length : Int)) ∧ leO [] [] ∧ (boolV (bif bif y then y_1 else false then (↑x.Args.length : Int) == (m.Procs.getD x.N.toNat default).Params else false)).le (boolV b)) ∧ ((x.Op == 39) = false → leO [] [] ∧ (boolV true).le (boolV b)))))))) := by kernel_rfl
theorem rtable1_raw (b : Bool) (m : D.Model) (a : Int) (p : D.Proc) (many k : Int) (J : St → Prop) : ((fnCtx Tryz.prog tb shRf ann_rtable true Tryz.f75 [] (boolV b)).loop [1, 1, 1, 1, 1, 1, 1, 0, 1, 0] J).goal (stRtable1 m a p many k) =
    ((decide (k < (↑p.Locs.length : Int)) = true → ((0 : Int) ≤ k ∧ k < (↑p.Locs.length : Int)) ∧ ((bif bif bif decide ((↑(p.Locs.getD k.toNat default).Esc.length : Int) > (8 : Int)) then true else bif (p.Locs.getD k.toNat default).Dstep then (p.Locs.getD k.toNat default).Atomic else false then true else bif k == p.Final then bif decide ((↑(p.Locs.getD k.toNat default).Out.length : Int) > (0 : Int)) then true else decide ((↑(p.Locs.getD k.toNat default).Esc.length : Int) > (0 : Int)) else false then true else bif a == m.Claim then bif bif decide ((↑(p.Locs.getD k.toNat default).Esc.length : Int) > (0 : Int)) then true else (p.Locs.getD k.toNat default).Atomic then true else (p.Locs.getD k.toNat default).Dstep else false) = true → leO [] [] ∧ (boolV false).le (boolV b)) ∧ ((bif bif bif decide ((↑(p.Locs.getD k.toNat default).Esc.length : Int) > (8 : Int)) then true else bif (p.Locs.getD k.toNat default).Dstep then (p.Locs.getD k.toNat default).Atomic else false then true else bif k == p.Final then bif decide ((↑(p.Locs.getD k.toNat default).Out.length : Int) > (0 : Int)) then true else decide ((↑(p.Locs.getD k.toNat default).Esc.length : Int) > (0 : Int)) else false then true else bif a == m.Claim then bif bif decide ((↑(p.Locs.getD k.toNat default).Esc.length : Int) > (0 : Int)) then true else (p.Locs.getD k.toNat default).Atomic then true else (p.Locs.getD k.toNat default).Dstep else false) = false → ∃ (y : List (List D.Trans)), VSpec Tryz.prog 112 [] [VV.agg (enc_Loc (p.Locs.getD k.toNat default))] [] (encL_Transs true y) ∧ SatC ((fnCtx Tryz.prog tb shRf ann_rtable true Tryz.f75 [] (boolV b)).loop [1, 1, 1, 1, 1, 1, 1, 0, 1, 0] J) [1, 0, 0, 1, 1, 1, 1, 0] (mkSt [(1, intV a), (2, VV.bp 0 0), (5, VV.bp 1 0), (7, intV many), (8, intV k), (10, encL_Transs true y), (11, intV (0 : Int))] [Ob.box (enc_Model m), Ob.box (enc_Proc p)]))) ∧ (decide (k < (↑p.Locs.length : Int)) = false → leO [] [] ∧ (boolV (decide (many ≤ (1024 : Int)))).le (boolV b))) := by kernel_rfl
theorem rtable2_raw (b : Bool) (m : D.Model) (a : Int) (p : D.Proc) (many k : Int) (ws : List (List D.Trans)) (j : Int) (J J2 : St → Prop) : (((fnCtx Tryz.prog tb shRf ann_rtable true Tryz.f75 [] (boolV b)).loop [1, 1, 1, 1, 1, 1, 1, 0, 1, 0] J).loop [1, 0, 0, 1, 1, 1, 1, 0] J2).goal (stRtable2 m a p many k ws j) =
    ((decide (j < (↑ws.length : Int)) = true → ((true && decide (j > (0 : Int)) == true) = true → (0 : Int) ≤ j ∧ j < (↑ws.length : Int)) ∧ ((bif decide (j > (0 : Int)) then (↑(ws.getD j.toNat []).length : Int) == 0 else false) = true → leO [] [] ∧ (boolV false).le (boolV b)) ∧ ((bif decide (j > (0 : Int)) then (↑(ws.getD j.toNat []).length : Int) == 0 else false) = false → ((0 : Int) ≤ j ∧ j < (↑ws.length : Int)) ∧ SatC (((fnCtx Tryz.prog tb shRf ann_rtable true Tryz.f75 [] (boolV b)).loop [1, 1, 1, 1, 1, 1, 1, 0, 1, 0] J).loop [1, 0, 0, 1, 1, 1, 1, 0] J2) [1, 0, 0, 1, 1, 1, 0] (mkSt [(1, intV a), (2, VV.bp 0 0), (5, VV.bp 1 0), (7, intV (IntKind.i64.wrap (many + (↑(ws.getD j.toNat []).length : Int)))), (8, intV k), (10, encL_Transs true ws), (11, intV j), (12, intV (0 : Int))] [Ob.box (enc_Model m), Ob.box (enc_Proc p)]))) ∧ (decide (j < (↑ws.length : Int)) = false → J (mkSt [(1, intV a), (2, VV.bp 0 0), (5, VV.bp 1 0), (7, intV many), (8, intV (IntKind.i64.wrap (k + (1 : Int))))] [Ob.box (enc_Model m), Ob.box (enc_Proc p)]))) := by kernel_rfl
theorem rtable3_raw (b : Bool) (m : D.Model) (a : Int) (p : D.Proc) (many k : Int) (ws : List (List D.Trans)) (j h : Int) (J J2 J3 : St → Prop) : ((((fnCtx Tryz.prog tb shRf ann_rtable true Tryz.f75 [] (boolV b)).loop [1, 1, 1, 1, 1, 1, 1, 0, 1, 0] J).loop [1, 0, 0, 1, 1, 1, 1, 0] J2).loop [1, 0, 0, 1, 1, 1, 0] J3).goal (stRtable3 m a p many k ws j h) =
    (((0 : Int) ≤ j ∧ j < (↑ws.length : Int)) ∧ (decide (h < (↑(ws.getD j.toNat []).length : Int)) = true → ((0 : Int) ≤ j ∧ j < (↑ws.length : Int)) ∧ ((0 : Int) ≤ h ∧ h < (↑(ws.getD j.toNat []).length : Int)) ∧ ((true && decide (((ws.getD j.toNat []).getD h.toNat default).To < (0 : Int)) == false) = true → (0 : Int) ≤ j ∧ j < (↑ws.length : Int)) ∧ ((true && decide (((ws.getD j.toNat []).getD h.toNat default).To < (0 : Int)) == false) = true → (0 : Int) ≤ h ∧ h < (↑(ws.getD j.toNat []).length : Int)) ∧ ((bif decide (((ws.getD j.toNat []).getD h.toNat default).To < (0 : Int)) then true else decide (((ws.getD j.toNat []).getD h.toNat default).To ≥ (↑p.Locs.length : Int))) = true → leO [] [] ∧ (boolV false).le (boolV b)) ∧ ((bif decide (((ws.getD j.toNat []).getD h.toNat default).To < (0 : Int)) then true else decide (((ws.getD j.toNat []).getD h.toNat default).To ≥ (↑p.Locs.length : Int))) = false → J3 (mkSt [(1, intV a), (2, VV.bp 0 0), (5, VV.bp 1 0), (7, intV many), (8, intV k), (10, encL_Transs true ws), (11, intV j), (12, intV (IntKind.i64.wrap (h + (1 : Int))))] [Ob.box (enc_Model m), Ob.box (enc_Proc p)]))) ∧ (decide (h < (↑(ws.getD j.toNat []).length : Int)) = false → J2 (mkSt [(1, intV a), (2, VV.bp 0 0), (5, VV.bp 1 0), (7, intV many), (8, intV k), (10, encL_Transs true ws), (11, intV (IntKind.i64.wrap (j + (1 : Int))))] [Ob.box (enc_Model m), Ob.box (enc_Proc p)]))) := by kernel_rfl
theorem rstmt1_raw (b : Bool) (m : D.Model) (s : D.Stmt) (k : Int) (J : St → Prop) : ((fnCtx Tryz.prog tb shRf ann_rstmt true Tryz.f142 [] (boolV b)).loop [1, 1, 1, 1, 1, 1, 1, 0, 1, 0, 1, 1, 1, 1, 1, 1, 1, 1, 1, 0, 1, 1, 0, 1, 0] J).goal (stRstmt m s k) =
    ((decide (k < (↑s.Args.length : Int)) = true → ((0 : Int) ≤ k ∧ k < (↑s.Args.length : Int)) ∧ ∃ (y : Bool), VSpec Tryz.prog 164 [] [VV.agg (enc_Model m), intV (s.Args.getD k.toNat (0 : Int))] [] (boolV y) ∧ ((0 : Int) ≤ k ∧ k < (↑s.Match.length : Int)) ∧ ((bif s.Match.getD k.toNat (0 : Int) == 0 then !y else false) = true → leO [] [] ∧ (boolV false).le (boolV b)) ∧ ((bif s.Match.getD k.toNat (0 : Int) == 0 then !y else false) = false → J (mkSt [(2, VV.bp 0 0), (3, VV.bp 1 0), (12, intV (IntKind.i64.wrap (k + (1 : Int))))] [Ob.box (enc_Model m), Ob.box (enc_Stmt s)]))) ∧ (decide (k < (↑s.Args.length : Int)) = false → leO [] [] ∧ (boolV true).le (boolV b))) := by kernel_rfl
theorem ruses1_raw (b : Bool) (m : D.Model) (a : Int) (l : List Int) (k : Int) (J : St → Prop) : ((fnCtx Tryz.prog tb shRf ann_ruses true Tryz.f114 [] (boolV b)).loop [1, 1, 1, 1, 1, 0, 1, 0] J).goal (stRuses m a l k) =
    ((decide (k < (↑l.length : Int)) = true → ((0 : Int) ≤ k ∧ k < (↑l.length : Int)) ∧ ∃ (y : Bool), VSpec Tryz.prog 114 [] [VV.agg (enc_Model m), intV a, intV (l.getD k.toNat (0 : Int)), boolV false] [] (boolV y) ∧ ((!y) = true → leO [] [] ∧ (boolV false).le (boolV b)) ∧ ((!y) = false → J (mkSt [(1, intV a), (4, VV.bp 0 0), (10, encL_Int true l), (11, intV (IntKind.i64.wrap (k + (1 : Int))))] [Ob.box (enc_Model m)]))) ∧ (decide (k < (↑l.length : Int)) = false → leO [] [] ∧ (boolV true).le (boolV b))) := by kernel_rfl
theorem rway1_raw (b : Bool) (m : D.Model) (a : Int) (s : D.Stmt) (k : Int) (J : St → Prop) : ((fnCtx Tryz.prog tb shRf ann_rway true Tryz.f113 [] (boolV b)).loop [1, 1, 1, 1, 1, 0, 1, 0] J).goal (stRway m a s k) =
    ((decide (k < (↑s.Args.length : Int)) = true → ((0 : Int) ≤ k ∧ k < (↑s.Args.length : Int)) ∧ ∃ (y : Bool), VSpec Tryz.prog 114 [] [VV.agg (enc_Model m), intV a, intV (s.Args.getD k.toNat (0 : Int)), boolV false] [] (boolV y) ∧ ((!y) = true → leO [] [] ∧ (boolV false).le (boolV b)) ∧ ((!y) = false → J (mkSt [(1, intV a), (3, VV.bp 0 0), (5, VV.bp 1 0), (8, intV (IntKind.i64.wrap (k + (1 : Int))))] [Ob.box (enc_Model m), Ob.box (enc_Stmt s)]))) ∧ (decide (k < (↑s.Args.length : Int)) = false → leO [] [] ∧ (boolV true).le (boolV b))) := by kernel_rfl
theorem rways1_raw (b : Bool) (m : D.Model) (a : Int) (p : D.Proc) (k : Int) (J : St → Prop) : ((fnCtx Tryz.prog tb shRf ann_rwaysall true Tryz.f76 [] (boolV b)).loop [1, 1, 0, 1, 0] J).goal (stRways1 m a p k) =
    ((decide (k < (↑p.Locs.length : Int)) = true → ((0 : Int) ≤ k ∧ k < (↑p.Locs.length : Int)) ∧ ∃ (y : List (List D.Trans)), VSpec Tryz.prog 112 [] [VV.agg (enc_Loc (p.Locs.getD k.toNat default))] [] (encL_Transs true y) ∧ SatC ((fnCtx Tryz.prog tb shRf ann_rwaysall true Tryz.f76 [] (boolV b)).loop [1, 1, 0, 1, 0] J) [1, 0, 0, 1, 1, 0] (mkSt [(1, intV a), (2, VV.bp 0 0), (5, VV.bp 1 0), (6, intV k), (7, encL_Transs true y), (8, intV (0 : Int))] [Ob.box (enc_Model m), Ob.box (enc_Proc p)])) ∧ (decide (k < (↑p.Locs.length : Int)) = false → (decide (p.Provided < (0 : Int)) = true → leO [] [] ∧ (boolV true).le (boolV b)) ∧ (decide (p.Provided < (0 : Int)) = false → ∃ (y : Bool), VSpec Tryz.prog 114 [] [VV.agg (enc_Model m), intV a, intV p.Provided, boolV false] [] (boolV y) ∧ leO [] [] ∧ (boolV y).le (boolV b)))) := by kernel_rfl
theorem rways2_raw (b : Bool) (m : D.Model) (a : Int) (p : D.Proc) (k : Int) (ws : List (List D.Trans)) (j : Int) (J J2 : St → Prop) : (((fnCtx Tryz.prog tb shRf ann_rwaysall true Tryz.f76 [] (boolV b)).loop [1, 1, 0, 1, 0] J).loop [1, 0, 0, 1, 1, 0] J2).goal (stRways2 m a p k ws j) =
    ((decide (j < (↑ws.length : Int)) = true → SatC (((fnCtx Tryz.prog tb shRf ann_rwaysall true Tryz.f76 [] (boolV b)).loop [1, 1, 0, 1, 0] J).loop [1, 0, 0, 1, 1, 0] J2) [1, 0, 0, 1, 0] (mkSt [(1, intV a), (2, VV.bp 0 0), (5, VV.bp 1 0), (6, intV k), (7, encL_Transs true ws), (8, intV j), (9, intV (0 : Int))] [Ob.box (enc_Model m), Ob.box (enc_Proc p)])) ∧ (decide (j < (↑ws.length : Int)) = false → J (mkSt [(1, intV a), (2, VV.bp 0 0), (5, VV.bp 1 0), (6, intV (IntKind.i64.wrap (k + (1 : Int))))] [Ob.box (enc_Model m), Ob.box (enc_Proc p)]))) := by kernel_rfl
theorem rways3_raw (b : Bool) (m : D.Model) (a : Int) (p : D.Proc) (k : Int) (ws : List (List D.Trans)) (j h : Int) (J J2 J3 : St → Prop) : ((((fnCtx Tryz.prog tb shRf ann_rwaysall true Tryz.f76 [] (boolV b)).loop [1, 1, 0, 1, 0] J).loop [1, 0, 0, 1, 1, 0] J2).loop [1, 0, 0, 1, 0] J3).goal (stRways3 m a p k ws j h) =
    (((0 : Int) ≤ j ∧ j < (↑ws.length : Int)) ∧ (decide (h < (↑(ws.getD j.toNat []).length : Int)) = true → ((0 : Int) ≤ j ∧ j < (↑ws.length : Int)) ∧ ((0 : Int) ≤ h ∧ h < (↑(ws.getD j.toNat []).length : Int)) ∧ ∃ (y : Bool), VSpec Tryz.prog 113 [] [VV.agg (enc_Model m), intV a, VV.agg (enc_Stmt ((ws.getD j.toNat []).getD h.toNat default).S)] [] (boolV y) ∧ ((!y) = true → leO [] [] ∧ (boolV false).le (boolV b)) ∧ ((!y) = false → J3 (mkSt [(1, intV a), (2, VV.bp 0 0), (5, VV.bp 1 0), (6, intV k), (7, encL_Transs true ws), (8, intV j), (9, intV (IntKind.i64.wrap (h + (1 : Int))))] [Ob.box (enc_Model m), Ob.box (enc_Proc p)]))) ∧ (decide (h < (↑(ws.getD j.toNat []).length : Int)) = false → J2 (mkSt [(1, intV a), (2, VV.bp 0 0), (5, VV.bp 1 0), (6, intV k), (7, encL_Transs true ws), (8, intV (IntKind.i64.wrap (j + (1 : Int))))] [Ob.box (enc_Model m), Ob.box (enc_Proc p)]))) := by kernel_rfl
theorem rtab1_raw (r e : Int) (m : D.Model) (k : Int) (J : St → Prop) : ((fnCtx Tryz.prog tb shRf ann_rtables true Tryz.f74 [] (.tup [intV r, intV e])).loop [1, 1, 1, 1, 1, 0, 1, 0] J).goal (stRtab1 m k) =
    ((decide (k < (↑m.Shapes.length : Int)) = true → ((0 : Int) ≤ k ∧ k < (↑m.Shapes.length : Int)) ∧ ∃ (y : Bool), VSpec Tryz.prog 109 [] [VV.agg (enc_Shape (m.Shapes.getD k.toNat default))] [] (boolV y) ∧ ((!y) = true → leO [] [] ∧ (VV.tup [intV (2 : Int), intV k]).le (VV.tup [intV r, intV e])) ∧ ((!y) = false → J (mkSt [(1, VV.bp 0 0), (5, intV (IntKind.i64.wrap (k + (1 : Int))))] [Ob.box (enc_Model m)]))) ∧ (decide (k < (↑m.Shapes.length : Int)) = false → SatC (fnCtx Tryz.prog tb shRf ann_rtables true Tryz.f74 [] (VV.tup [intV r, intV e])) [1, 1, 1, 1, 1, 1, 0, 1, 0] (mkSt [(1, VV.bp 0 0), (7, intV (0 : Int))] [Ob.box (enc_Model m)]))) := by kernel_rfl
theorem rtab2_raw (r e : Int) (m : D.Model) (k : Int) (J : St → Prop) : ((fnCtx Tryz.prog tb shRf ann_rtables true Tryz.f74 [] (.tup [intV r, intV e])).loop [1, 1, 1, 1, 1, 1, 0, 1, 0] J).goal (stRtab2 m k) =
    ((decide (k < (↑m.Chans.length : Int)) = true → ((0 : Int) ≤ k ∧ k < (↑m.Chans.length : Int)) ∧ ((true && decide (m.Chans.getD k.toNat (0 : Int) < (0 : Int)) == false) = true → (0 : Int) ≤ k ∧ k < (↑m.Chans.length : Int)) ∧ ((bif decide (m.Chans.getD k.toNat (0 : Int) < (0 : Int)) then true else decide (m.Chans.getD k.toNat (0 : Int) ≥ (↑m.Shapes.length : Int))) = true → leO [] [] ∧ (VV.tup [intV (2 : Int), intV k]).le (VV.tup [intV r, intV e])) ∧ ((bif decide (m.Chans.getD k.toNat (0 : Int) < (0 : Int)) then true else decide (m.Chans.getD k.toNat (0 : Int) ≥ (↑m.Shapes.length : Int))) = false → J (mkSt [(1, VV.bp 0 0), (7, intV (IntKind.i64.wrap (k + (1 : Int))))] [Ob.box (enc_Model m)]))) ∧ (decide (k < (↑m.Chans.length : Int)) = false → ((bif bif bif bif decide ((↑m.Procs.length : Int) < (1 : Int)) then true else decide ((↑m.Procs.length : Int) > (16 : Int)) then true else decide (m.Claim < (-1 : Int)) then true else decide (m.Claim ≥ (↑m.Procs.length : Int)) then true else decide ((↑m.Exprs.length : Int) > (4096 : Int))) = true → leO [] [] ∧ (VV.tup [intV (3 : Int), intV (-1 : Int)]).le (VV.tup [intV r, intV e])) ∧ ((bif bif bif bif decide ((↑m.Procs.length : Int) < (1 : Int)) then true else decide ((↑m.Procs.length : Int) > (16 : Int)) then true else decide (m.Claim < (-1 : Int)) then true else decide (m.Claim ≥ (↑m.Procs.length : Int)) then true else decide ((↑m.Exprs.length : Int) > (4096 : Int))) = false → ((0 : Int) ≤ (↑m.Exprs.length : Int) ∧ (↑m.Exprs.length : Int) ≤ (↑m.Exprs.length : Int) ∧ (↑m.Exprs.length : Int) * (↑1 : Int) ≤ (140737488355328 : Int)) ∧ SatC (fnCtx Tryz.prog tb shRf ann_rtables true Tryz.f74 [] (VV.tup [intV r, intV e])) [1, 1, 1, 1, 1, 1, 1, 1, 1, 0, 1, 0] (mkSt [(1, VV.bp 0 0), (8, VV.ow 1 0 (↑m.Exprs.length : Int).toNat), (9, intV (0 : Int))] [Ob.box (enc_Model m), Ob.arr true 0 (↑m.Exprs.length : Int).toNat 1 fun (_ : Nat) => ((fnCtx Tryz.prog tb shRf ann_rtables true Tryz.f74 [] (VV.tup [intV r, intV e])).T (4 : TypeId)).zero])))) := by kernel_rfl
theorem rtab3_raw (r e : Int) (m : D.Model) (had : List Bool) (k : Int) (J : St → Prop) : ((fnCtx Tryz.prog tb shRf ann_rtables true Tryz.f74 [] (.tup [intV r, intV e])).loop [1, 1, 1, 1, 1, 1, 1, 1, 1, 0, 1, 0] J).goal (stRtab3 m had k) =
    ((decide (k < (↑m.Exprs.length : Int)) = true → ∃ (y : Bool), VSpec Tryz.prog 110 [] [VV.agg (enc_Model m), intV k] [] (boolV y) ∧ ((!y) = true → leO [] [] ∧ (VV.tup [intV (3 : Int), intV k]).le (VV.tup [intV r, intV e])) ∧ ((!y) = false → ((0 : Int) ≤ k ∧ k < (↑m.Exprs.length : Int)) ∧ ∃ (y : List Int), VSpec Tryz.prog 111 [] [VV.agg (enc_Expr (m.Exprs.getD k.toNat default))] [] (encL_Int true y) ∧ SatC ((fnCtx Tryz.prog tb shRf ann_rtables true Tryz.f74 [] (VV.tup [intV r, intV e])).loop [1, 1, 1, 1, 1, 1, 1, 1, 1, 0, 1, 0] J) [1, 0, 0, 1, 1, 1, 1, 0] (mkSt [(1, VV.bp 0 0), (8, VV.ow 1 0 had.length), (9, intV k), (11, encL_Int true y), (12, intV (0 : Int))] [Ob.box (enc_Model m), Ob.arr true 0 had.length 1 fun (i : Nat) => [boolV (had.getD i false)]]))) ∧ (decide (k < (↑m.Exprs.length : Int)) = false → leO [] [] ∧ (VV.tup [intV (0 : Int), intV (0 : Int)]).le (VV.tup [intV r, intV e]))) := by kernel_rfl
theorem rtab4_raw (r e : Int) (m : D.Model) (had : List Bool) (k : Int) (l : List Int) (j : Int) (J J2 : St → Prop) : (((fnCtx Tryz.prog tb shRf ann_rtables true Tryz.f74 [] (.tup [intV r, intV e])).loop [1, 1, 1, 1, 1, 1, 1, 1, 1, 0, 1, 0] J).loop [1, 0, 0, 1, 1, 1, 1, 0] J2).goal (stRtab4 m had k l j) =
    ((decide (j < (↑l.length : Int)) = true → ((0 : Int) ≤ j ∧ j < (↑l.length : Int)) ∧ ((0 : Int) ≤ l.getD j.toNat (0 : Int) ∧ l.getD j.toNat (0 : Int) < (↑had.length : Int)) ∧ (had.getD (l.getD j.toNat (0 : Int)).toNat false = true → leO [] [] ∧ (VV.tup [intV (3 : Int), intV k]).le (VV.tup [intV r, intV e])) ∧ (had.getD (l.getD j.toNat (0 : Int)).toNat false = false → ((0 : Int) ≤ j ∧ j < (↑l.length : Int)) ∧ ((0 : Int) ≤ l.getD j.toNat (0 : Int) ∧ l.getD j.toNat (0 : Int) < (↑had.length : Int)) ∧ J2 (mkSt [(1, VV.bp 0 0), (8, VV.ow 1 0 had.length), (9, intV k), (11, encL_Int true l), (12, intV (IntKind.i64.wrap (j + (1 : Int))))] [Ob.box (enc_Model m), Ob.arr true 0 had.length 1 fun (j_1 : Nat) => bif j_1.beq (l.getD j.toNat (0 : Int)).toNat then [boolV true] else [boolV (had.getD j_1 false)]]))) ∧ (decide (j < (↑l.length : Int)) = false → J (mkSt [(1, VV.bp 0 0), (8, VV.ow 1 0 had.length), (9, intV (IntKind.i64.wrap (k + (1 : Int))))] [Ob.box (enc_Model m), Ob.arr true 0 had.length 1 fun (i : Nat) => [boolV (had.getD i false)]]))) := by kernel_rfl
theorem rcheck1_raw (r e f : Int) (m : D.Model) (many k : Int) (J : St → Prop) : ((fnCtx Tryz.prog tb shRf ann_rcheck true Tryz.f48 [] (.tup [intV r, intV e, intV f])).loop [1, 1, 1, 1, 0, 1, 0] J).goal (stRcheck1 m many k) =
    ((decide (k < (↑m.Procs.length : Int)) = true → ∃ (y : Bool), VSpec Tryz.prog 75 [] [VV.agg (enc_Model m), intV k] [] (boolV y) ∧ ((!y) = true → leO [] [] ∧ (VV.tup [intV (40 : Int), intV (4 : Int), intV k]).le (VV.tup [intV r, intV e, intV f])) ∧ ((!y) = false → ((0 : Int) ≤ k ∧ k < (↑m.Procs.length : Int)) ∧ J (mkSt [(1, VV.bp 0 0), (7, intV (IntKind.i64.wrap (many + (m.Procs.getD k.toNat default).Active))), (8, intV (IntKind.i64.wrap (k + (1 : Int))))] [Ob.box (enc_Model m)]))) ∧ (decide (k < (↑m.Procs.length : Int)) = false → (decide (many > (16 : Int)) = true → leO [] [] ∧ (VV.tup [intV (40 : Int), intV (5 : Int), intV (-1 : Int)]).le (VV.tup [intV r, intV e, intV f])) ∧ (decide (many > (16 : Int)) = false → SatC (fnCtx Tryz.prog tb shRf ann_rcheck true Tryz.f48 [] (VV.tup [intV r, intV e, intV f])) [1, 1, 1, 1, 1, 1, 0, 1, 0] (mkSt [(1, VV.bp 0 0), (10, intV (0 : Int))] [Ob.box (enc_Model m)])))) := by kernel_rfl
theorem rcheck2_raw (r e f : Int) (m : D.Model) (k : Int) (J : St → Prop) : ((fnCtx Tryz.prog tb shRf ann_rcheck true Tryz.f48 [] (.tup [intV r, intV e, intV f])).loop [1, 1, 1, 1, 1, 1, 0, 1, 0] J).goal (stRcheck2 m k) =
    ((decide (k < (↑m.Procs.length : Int)) = true → ∃ (y : Bool), VSpec Tryz.prog 76 [] [VV.agg (enc_Model m), intV k] [] (boolV y) ∧ ((!y) = true → leO [] [] ∧ (VV.tup [intV (40 : Int), intV (6 : Int), intV k]).le (VV.tup [intV r, intV e, intV f])) ∧ ((!y) = false → J (mkSt [(1, VV.bp 0 0), (10, intV (IntKind.i64.wrap (k + (1 : Int))))] [Ob.box (enc_Model m)]))) ∧ (decide (k < (↑m.Procs.length : Int)) = false → leO [] [] ∧ (VV.tup [intV (0 : Int), intV (0 : Int), intV (0 : Int)]).le (VV.tup [intV r, intV e, intV f]))) := by kernel_rfl
theorem rtypedb1_raw (b : Bool) (t : List D.Type) (l : List Int) (k : Int) (J : St → Prop) : ((fnCtx Tryz.prog tb shRf ann_rtypedb true Tryz.f23 [] (boolV b)).loop [1, 1, 0, 1, 0] J).goal (stRtypedb t l k) =
    ((decide (k < (↑t.length : Int)) = true → ((0 : Int) ≤ k ∧ k < (↑t.length : Int)) ∧ ((0 : Int) ≤ k ∧ k < (↑l.length : Int)) ∧ ∃ (y : Bool), VSpec Tryz.prog 45 [] [VV.agg (enc_Type (t.getD k.toNat default)), intV (l.getD k.toNat (0 : Int))] [] (boolV y) ∧ ((!y) = true → leO [] [] ∧ (boolV false).le (boolV b)) ∧ ((!y) = false → J (mkSt [(0, encL_Type true t), (1, encL_Int true l), (5, intV (IntKind.i64.wrap (k + (1 : Int))))] []))) ∧ (decide (k < (↑t.length : Int)) = false → leO [] [] ∧ (boolV true).le (boolV b))) := by kernel_rfl
theorem rmay1_raw (b : Bool) (m : D.Model) (s : D.State) (k : Int) (J : St → Prop) : ((fnCtx Tryz.prog tb shRf ann_rmay true Tryz.f10 [] (boolV b)).loop [1, 1, 1, 1, 0, 1, 0] J).goal (stRmay1 m s k) =
    ((decide (k < (↑s.Chans.length : Int)) = true → ((0 : Int) ≤ k ∧ k < (↑s.Chans.length : Int)) ∧ ((true && (bif decide ((s.Chans.getD k.toNat default).Shape < (0 : Int)) then true else decide ((s.Chans.getD k.toNat default).Shape ≥ (↑m.Shapes.length : Int))) == false) = true → (0 : Int) ≤ (s.Chans.getD k.toNat default).Shape ∧ (s.Chans.getD k.toNat default).Shape < (↑m.Shapes.length : Int)) ∧ ((bif bif decide ((s.Chans.getD k.toNat default).Shape < (0 : Int)) then true else decide ((s.Chans.getD k.toNat default).Shape ≥ (↑m.Shapes.length : Int)) then true else decide ((↑(s.Chans.getD k.toNat default).Queue.length : Int) > (m.Shapes.getD (s.Chans.getD k.toNat default).Shape.toNat default).Room)) = true → leO [] [] ∧ (boolV false).le (boolV b)) ∧ ((bif bif decide ((s.Chans.getD k.toNat default).Shape < (0 : Int)) then true else decide ((s.Chans.getD k.toNat default).Shape ≥ (↑m.Shapes.length : Int)) then true else decide ((↑(s.Chans.getD k.toNat default).Queue.length : Int) > (m.Shapes.getD (s.Chans.getD k.toNat default).Shape.toNat default).Room)) = false → SatC ((fnCtx Tryz.prog tb shRf ann_rmay true Tryz.f10 [] (boolV b)).loop [1, 1, 1, 1, 0, 1, 0] J) [1, 0, 0, 1, 1, 1, 0] (mkSt [(2, VV.bp 0 0), (3, VV.bp 1 0), (6, intV k), (7, VV.bp 2 0), (8, intV (0 : Int))] [Ob.box (enc_Model m), Ob.box (enc_State s), Ob.box (enc_Chan (s.Chans.getD k.toNat default))]))) ∧ (decide (k < (↑s.Chans.length : Int)) = false → SatC (fnCtx Tryz.prog tb shRf ann_rmay true Tryz.f10 [] (boolV b)) [1, 1, 1, 1, 1, 0, 1, 0] (mkSt [(2, VV.bp 0 0), (3, VV.bp 1 0), (9, intV (0 : Int))] [Ob.box (enc_Model m), Ob.box (enc_State s)]))) := by kernel_rfl
theorem rmay2_raw (b : Bool) (m : D.Model) (s : D.State) (k : Int) (c : D.Chan) (j : Int) (J J2 : St → Prop) : (((fnCtx Tryz.prog tb shRf ann_rmay true Tryz.f10 [] (boolV b)).loop [1, 1, 1, 1, 0, 1, 0] J).loop [1, 0, 0, 1, 1, 1, 0] J2).goal (stRmay2 m s k c j) =
    ((decide (j < (↑c.Queue.length : Int)) = true → ((0 : Int) ≤ c.Shape ∧ c.Shape < (↑m.Shapes.length : Int)) ∧ ((0 : Int) ≤ j ∧ j < (↑c.Queue.length : Int)) ∧ ∃ (y : Bool), VSpec Tryz.prog 23 [] [encL_Type true (m.Shapes.getD c.Shape.toNat default).Fields, encL_Int true (c.Queue.getD j.toNat [])] [] (boolV y) ∧ ((!y) = true → leO [] [] ∧ (boolV false).le (boolV b)) ∧ ((!y) = false → J2 (mkSt [(2, VV.bp 0 0), (3, VV.bp 1 0), (6, intV k), (7, VV.bp 2 0), (8, intV (IntKind.i64.wrap (j + (1 : Int))))] [Ob.box (enc_Model m), Ob.box (enc_State s), Ob.box (enc_Chan c)]))) ∧ (decide (j < (↑c.Queue.length : Int)) = false → J (mkSt [(2, VV.bp 0 0), (3, VV.bp 1 0), (6, intV (IntKind.i64.wrap (k + (1 : Int))))] [Ob.box (enc_Model m), Ob.box (enc_State s)]))) := by kernel_rfl
theorem rmay3_raw (b : Bool) (m : D.Model) (s : D.State) (k : Int) (J : St → Prop) : ((fnCtx Tryz.prog tb shRf ann_rmay true Tryz.f10 [] (boolV b)).loop [1, 1, 1, 1, 1, 0, 1, 0] J).goal (stRmay3 m s k) =
    ((decide (k < (↑s.Procs.length : Int)) = true → ((0 : Int) ≤ k ∧ k < (↑s.Procs.length : Int)) ∧ ((bif bif decide ((s.Procs.getD k.toNat default).Type_ < (0 : Int)) then true else decide ((s.Procs.getD k.toNat default).Type_ ≥ (↑m.Procs.length : Int)) then true else (s.Procs.getD k.toNat default).Type_ == m.Claim) = true → leO [] [] ∧ (boolV false).le (boolV b)) ∧ ((bif bif decide ((s.Procs.getD k.toNat default).Type_ < (0 : Int)) then true else decide ((s.Procs.getD k.toNat default).Type_ ≥ (↑m.Procs.length : Int)) then true else (s.Procs.getD k.toNat default).Type_ == m.Claim) = false → ((0 : Int) ≤ (s.Procs.getD k.toNat default).Type_ ∧ (s.Procs.getD k.toNat default).Type_ < (↑m.Procs.length : Int)) ∧ ∃ (y : Bool), VSpec Tryz.prog 23 [] [encL_Type true (m.Procs.getD (s.Procs.getD k.toNat default).Type_.toNat default).Frame, encL_Int true (s.Procs.getD k.toNat default).Frame] [] (boolV y) ∧ ((bif bif bif !y then true else decide ((s.Procs.getD k.toNat default).Loc < (0 : Int)) then true else decide ((s.Procs.getD k.toNat default).Loc ≥ (↑(m.Procs.getD (s.Procs.getD k.toNat default).Type_.toNat default).Locs.length : Int)) then true else (s.Procs.getD k.toNat default).Prio != (m.Procs.getD (s.Procs.getD k.toNat default).Type_.toNat default).Prio) = true → leO [] [] ∧ (boolV false).le (boolV b)) ∧ ((bif bif bif !y then true else decide ((s.Procs.getD k.toNat default).Loc < (0 : Int)) then true else decide ((s.Procs.getD k.toNat default).Loc ≥ (↑(m.Procs.getD (s.Procs.getD k.toNat default).Type_.toNat default).Locs.length : Int)) then true else (s.Procs.getD k.toNat default).Prio != (m.Procs.getD (s.Procs.getD k.toNat default).Type_.toNat default).Prio) = false → J (mkSt [(2, VV.bp 0 0), (3, VV.bp 1 0), (9, intV (IntKind.i64.wrap (k + (1 : Int))))] [Ob.box (enc_Model m), Ob.box (enc_State s)])))) ∧ (decide (k < (↑s.Procs.length : Int)) = false → leO [] [] ∧ (boolV true).le (boolV b))) := by kernel_rfl
end Go.Proofs.YtiaebjpcgjkhoaaGreatDoor
namespace Go.Proofs.YtiaebjpcgjkhoaaGreatDoor
open Go.RowKit
theorem rtyp_spec (t : D.Type) : VSpec Tryz.prog 69 [] [.agg (enc_Type t)] [] (boolV (typP t)) := by
  refine vspec_raw tb_ok mixed Tryz.func69 (by kernel_rfl) rfl (rtyp_raw _ t) (leafB ?_)
  unfold typP
  simp only [bif_and, bif_or, ieq, ge_iff_le, Bool.or_assoc, Bool.and_assoc]
theorem rfits_spec (t : D.Type) (v : Int) : VSpec Tryz.prog 45 [] [.agg (enc_Type t), intV v] [] (boolV (fitsP t v)) := by
  refine vspec_raw tb_ok mixed Tryz.func45 (by kernel_rfl) rfl (rfits_raw _ t v) ⟨typP t, rtyp_spec t, fun h => leafB ?_, fun h => ?_⟩
  · have h' : typP t = false := by simpa using h
    simp [fitsP, h']
  have h' : typP t = true := by simpa using h
  obtain ⟨h1, h2, h3⟩ := typ_in h'
  have key : ∀ n : Nat, (n : Int) = (bif t.Signed then t.Bits - 1 else t.Bits) → SatC (fnCtx Tryz.prog tb shRf ann_rfits true Tryz.f45 [] (boolV (fitsP t v))) [1, 1, 1, 1, 1, 1, 0, 1, 0] (stRfits t v 1 n 0) := by
    intro n hn
    have hn32 : n ≤ 32 := by cases hs : t.Signed <;> rw [hs] at hn <;> simp at hn <;> omega
    refine loop_raw tb_ok mixed (fun g st => ∃ k : Nat, k ≤ n ∧ g = n - k ∧ st = stRfits t v (2 ^ k) n k) (by kernel_rfl) (by kernel_rfl) ⟨n, Up.of ⟨0, Nat.zero_le _, rfl, rfl⟩⟩ ?_
    rintro g st ⟨k, hk, rfl, rfl⟩
    have hp := pow_in (n := k) (by omega)
    refine Asks.raw (rfits1_raw _ t v (2 ^ k) n k _) ⟨fun hlt => ?_, fun hge => ?_⟩
    · have hlt' : k < n := by have := lt_of hlt; omega
      refine ⟨n - (k + 1), by omega, Up.of ⟨k + 1, hlt', rfl, ?_⟩⟩
      rw [wrap_succ (by omega), wrap_id (by omega) (by omega), show (2 : Int) * 2 ^ k = 2 ^ (k + 1) by rw [Int.pow_succ]; omega]
      rfl
    · obtain rfl : k = n := by have := ge_of hge; omega
      refine ⟨fun hs => leafB ?_, fun hs => leafB ?_⟩
      · rw [hs, cond_true] at hn
        rw [wrap_id (by omega) (by omega)]
        simp only [fitsP, h', hs, cond_true, Bool.true_and, ge_iff_le]
        rw [← hn, show ((k : Nat) : Int).toNat = k by omega, show (0 : Int) - 2 ^ k = -(2 ^ k) by omega, bif_and]
      · rw [hs, cond_false] at hn
        simp only [fitsP, h', hs, cond_false, Bool.true_and, ge_iff_le]
        rw [← hn, show ((k : Nat) : Int).toNat = k by omega, bif_and]
  refine ⟨fun hs => ?_, fun hs => ?_⟩
  · have hw : IntKind.i64.wrap (t.Bits - 1) = t.Bits - 1 := wrap_id (by omega) (by omega)
    have := key (t.Bits - 1).toNat (by rw [hs, cond_true]; omega)
    rw [hw]
    rwa [show (((t.Bits - 1).toNat : Nat) : Int) = t.Bits - 1 by omega] at this
  · have := key t.Bits.toNat (by rw [hs, cond_false]; omega)
    rwa [show ((t.Bits.toNat : Nat) : Int) = t.Bits by omega] at this
theorem rreach_spec {v : D.Var} (hv : wf_Var v) : VSpec Tryz.prog 143 [] [.agg (enc_Var v)] [] (intV (reachP v)) := by
  have hd := hv.Dims
  refine vspec_raw tb_ok mixed Tryz.func143 (by kernel_rfl) rfl (rreach_raw _ v) ⟨fun h => leafI ?_, fun h => ?_⟩
  · unfold reachP
    have : (decide (v.Slot < 0) || (decide (1073741824 < v.Slot) || decide (4 < v.Dims.length))) = true := by simp at h ⊢; omega
    rw [this, cond_true]
  · have hb : 0 ≤ v.Slot ∧ v.Slot ≤ 1073741824 ∧ v.Dims.length ≤ 4 := by simp at h; omega
    have e : reachP v = reachL (v.Slot + 1) v.Dims := by
      unfold reachP
      have : (decide (v.Slot < 0) || (decide (1073741824 < v.Slot) || decide (4 < v.Dims.length))) = false := by simp; omega
      rw [this, cond_false]
    rw [e, wrap_id (by omega) (by omega)]
    refine loop_raw tb_ok mixed (fun g st => ∃ (k : Nat) (n : Int), k ≤ v.Dims.length ∧ g = v.Dims.length - k ∧ 0 ≤ n ∧ n ≤ 1073741825 + k * 1152921504606846976 ∧ reachL n (v.Dims.drop k) = reachL (v.Slot + 1) v.Dims ∧ st = stRreach v n k) (by kernel_rfl) (by kernel_rfl)
      ⟨_, Up.of ⟨0, v.Slot + 1, Nat.zero_le _, rfl, by omega, by omega, rfl, rfl⟩⟩ ?_
    rintro g st ⟨k, n, hk, rfl, hn0, hn1, hr, rfl⟩
    refine Asks.raw (rreach1_raw _ v n k _) ⟨fun hlt => ?_, fun hge => leafI ?_⟩
    · have hlt' : k < v.Dims.length := by have := lt_of hlt; omega
      have hto : (k : Int).toNat = k := by omega
      rw [hto]
      rw [drop_cons (d := default) hlt'] at hr
      have hw := hd.2 _ (getD_mem (d := default) hlt')
      generalize v.Dims.getD k default = d at hr hw ⊢
      have hwl := wf_in hw.Len
      refine ⟨⟨by omega, by omega⟩, fun hy => leafI ?_, fun hy => ?_⟩
      · rw [← hr]
        have : dimBad d = true := by
          unfold dimBad
          by_cases hl : d.Len < 1
          · simp [hl]
          · rw [wrap_id (by omega) (by omega)] at hy
            simp at hy ⊢; omega
        show _ = reachL n (d :: _)
        unfold reachL; rw [this]; rfl
      · have hl : 1 ≤ d.Len := by
          by_cases hl : d.Len < 1
          · simp [hl] at hy
          · omega
        have hwr : IntKind.i64.wrap (d.Len - 1) = d.Len - 1 := wrap_id (by omega) (by omega)
        rw [hwr] at hy ⊢
        have hb2 : d.Len - 1 ≤ 1073741824 ∧ 0 ≤ d.Stride ∧ d.Stride ≤ 1073741824 := by simp at hy; omega
        have hbad : dimBad d = false := by unfold dimBad; simp; omega
        have hm1 : 0 ≤ (d.Len - 1) * d.Stride := Int.mul_nonneg (by omega) hb2.2.1
        have hm2 : (d.Len - 1) * d.Stride ≤ 1073741824 * 1073741824 := Int.mul_le_mul hb2.1 hb2.2.2 hb2.2.1 (by omega)
        rw [wrap_id (n := (d.Len - 1) * d.Stride) (by omega) (by omega), wrap_id (n := n + _) (by omega) (by omega), wrap_succ (by omega)]
        refine ⟨v.Dims.length - (k + 1), by omega, Up.of ⟨k + 1, n + (d.Len - 1) * d.Stride, by omega, rfl, by omega, by omega, ?_, rfl⟩⟩
        rw [← hr]
        show _ = reachL n (d :: _)
        conv => rhs; unfold reachL
        rw [hbad]; rfl
    · have hge' : v.Dims.length ≤ k := by have := ge_of hge; omega
      rw [List.drop_eq_nil_of_le hge'] at hr
      rw [← hr]; rfl
theorem rtyped_spec {t : List D.Type} {init : List Int} (hl : t.length ≤ init.length) (hs : t.length ≤ 1048576) : VSpec Tryz.prog 108 [] [encL_Type true t, encL_Int true init] [] (intV (typesP t init)) := by
  refine vspec_raw tb_ok mixed Tryz.func108 (by kernel_rfl) rfl (rtyped_raw _ t init) ?_
  refine loop_idx tb_ok mixed t.length (fun k => stRtyped t init k) (fun k => ∀ i, i < k → fitsP (t.getD i default) (init.getD i 0) = true) (by kernel_rfl) (by kernel_rfl) (fun i hi => by omega) ?_
  intro k hk hI J next
  refine Asks.raw (rtyped1_raw _ t init k J) ⟨fun hlt => ?_, fun hge => leafI ?_⟩
  · have hlt' : k < t.length := by have := lt_of hlt; omega
    refine ⟨⟨by omega, by omega⟩, ⟨by omega, by omega⟩, fitsP (t.getD k default) (init.getD k 0), rfits_spec _ _, fun hy => leafI ?_, fun hy => next _ hlt' (succ_of hI (by simpa using hy)) (Up.of ?_)⟩
    · exact (badI_some (f := fun i => fitsP (t.getD i default) (init.getD i 0)) hI hlt' (by simpa using hy)).symm
    · rw [wrap_succ (by omega)]; rfl
  · have hge' : t.length ≤ k := by have := ge_of hge; omega
    exact (badI_none (f := fun i => fitsP (t.getD i default) (init.getD i 0)) fun i hi => hI i (by omega)).symm
theorem rshape_spec {s : D.Shape} (hs : wf_Shape s) : VSpec Tryz.prog 109 [] [.agg (enc_Shape s)] [] (boolV (shapeP s)) := by
  have hl := hs.Fields.1
  refine vspec_raw tb_ok mixed Tryz.func109 (by kernel_rfl) rfl (rshape_raw _ s) ⟨fun h => leafB ?_, fun h => ?_⟩
  · symm; rw [Bool.eq_false_iff]; intro hc; simp [shapeP] at hc h; omega
  · have e : shapeP s = allI s.Fields.length fun i => typP (s.Fields.getD i default) := by
      unfold shapeP
      have : (decide (0 ≤ s.Room) && decide (s.Room ≤ 16) && decide (1 ≤ s.Fields.length) && decide (s.Fields.length ≤ 8)) = true := by simp at h ⊢; omega
      rw [this, Bool.true_and]
    rw [e]
    refine loop_idx tb_ok mixed s.Fields.length (fun k => stRshape s k) (fun k => ∀ i, i < k → typP (s.Fields.getD i default) = true) (by kernel_rfl) (by kernel_rfl) (fun i hi => by omega) ?_
    intro k hk hI J next
    refine Asks.raw (rshape1_raw _ s k J) ⟨fun hlt => ?_, fun hge => leafB ?_⟩
    · have hlt' : k < s.Fields.length := by have := lt_of hlt; omega
      refine ⟨⟨by omega, by omega⟩, typP (s.Fields.getD k default), rtyp_spec _, fun hy => leafB ?_, fun hy => next _ hlt' (succ_of hI (by simpa using hy)) (Up.of ?_)⟩
      · exact (allI_no (f := fun i => typP (s.Fields.getD i default)) hlt' (by simpa using hy)).symm
      · rw [wrap_succ (by omega)]; rfl
    · have hge' : s.Fields.length ≤ k := by have := ge_of hge; omega
      exact (allI_iff.2 fun i hi => hI i (by omega)).symm
theorem rprocty_spec (m : D.Model) (n : Int) : VSpec Tryz.prog 139 [] [.agg (enc_Model m), intV n] [] (boolV (procP m n)) := by
  refine vspec_raw tb_ok mixed Tryz.func139 (by kernel_rfl) rfl (rprocty_raw _ m n) (leafB ?_)
  rw [Bool.eq_iff_iff]; simp [procP]
theorem rbelow_spec' {a : Int} {l : List Int} (hl : l.length ≤ 1099511627776) : VSpec Tryz.prog 138 [] [intV a, encL_Int false l] [] (boolV (belowP a l)) := by
  refine vspec_raw tb_ok mixed Tryz.func138 (by kernel_rfl) rfl (rbelow_raw _ a l) ?_
  refine loop_idx tb_ok mixed l.length (fun k => stRbelow false a l k) (fun k => ∀ i, i < k → inP a (l.getD i 0) = true) (by kernel_rfl) (by kernel_rfl) (fun i hi => by omega) ?_
  intro k hk hI J next
  refine Asks.raw (rbelow1_raw _ a l k J) ⟨fun hlt => ?_, fun hge => leafB ?_⟩
  · have hlt' : k < l.length := by have := lt_of hlt; omega
    have hto : (k : Int).toNat = k := by omega
    rw [hto]
    refine ⟨⟨by omega, by omega⟩, fun _ => ⟨by omega, by omega⟩, fun hy => leafB ?_, fun hy => next _ hlt' (succ_of hI ?_) (Up.of ?_)⟩
    · exact (allI_no (f := fun i => inP a (l.getD i 0)) hlt' (by rw [Bool.eq_false_iff]; intro hc; simp [inP] at hc hy; omega)).symm
    · simp [inP] at hy ⊢; omega
    · rw [wrap_succ (by omega)]; rfl
  · have hge' : l.length ≤ k := by have := ge_of hge; omega
    exact (allI_iff.2 fun i hi => hI i (by omega)).symm
theorem rbelow_spec {a : Int} {l : List Int} (hl : l.length ≤ 1099511627776) : VSpec Tryz.prog 138 [] [intV a, encL_Int true l] [] (boolV (belowP a l)) :=
  (rbelow_spec' hl).frz rfl fun j x y hx hy => by
    match j, hx, hy with
    | 0, hx, hy => obtain rfl := Option.some.inj hx; obtain rfl := Option.some.inj hy; exact leS_refl _
    | 1, hx, hy => obtain rfl := Option.some.inj hx; obtain rfl := Option.some.inj hy; exact leS_sl
    | j + 2, hx, _ => simp at hx
theorem rbelow_one {a x : Int} : VSpec Tryz.prog 138 [] [intV a, .sl false 1 1 fun i => List.take 1 (List.drop (i * 1) [.sc (.int .i64 x)])] [] (boolV (inP a x)) := by
  have h := rbelow_spec' (a := a) (l := [x]) (by simp)
  have e : belowP a [x] = inP a x := by simp [belowP, allI, List.getD]
  rw [e] at h
  refine h.le trivial ⟨VV.le_refl _, VV.le_sl (.inl rfl) fun i hi => leL_eq ?_, trivial⟩ trivial (VV.le_refl _)
  obtain rfl : i = 0 := by omega
  rfl
theorem rparts_spec (op : Int) : VSpec Tryz.prog 137 [] [intV op] [] (intV (partsP op)) := by
  refine vspec_raw tb_ok mixed Tryz.func137 (by kernel_rfl) rfl (rparts_raw _ op) ?_
  have k0 : ∀ {p : Prop}, (op = 1 ∨ op = 2 ∨ op = 31 ∨ op = 32 ∨ op = 33 ∨ op = 34 ∨ op = 35 ∨ op = 39) → leO [] [] ∧ VV.le (.sc (.int .i64 0)) (.sc (.int .i64 (partsP op : Nat))) := fun h => leafI (by unfold partsP; rw [if_pos h]; rfl)
  have kx : ¬(op = 1 ∨ op = 2 ∨ op = 31 ∨ op = 32 ∨ op = 33 ∨ op = 34 ∨ op = 35 ∨ op = 39) → ((op == (24 : Int)) = true → leO [] [] ∧ (VV.sc (.int .i64 3)).le (.sc (.int .i64 (partsP op : Nat)))) ∧ ((op == (24 : Int)) = false →
      ((bif decide (op ≥ (6 : Int)) then decide (op ≤ (23 : Int)) else false) = true → leO [] [] ∧ (VV.sc (.int .i64 2)).le (.sc (.int .i64 (partsP op : Nat)))) ∧ ((bif decide (op ≥ (6 : Int)) then decide (op ≤ (23 : Int)) else false) = false → leO [] [] ∧ (VV.sc (.int .i64 1)).le (.sc (.int .i64 (partsP op : Nat))))) := by
    intro hn
    refine ⟨fun h => leafI ?_, fun h => ⟨fun h2 => leafI ?_, fun h2 => leafI ?_⟩⟩
    · unfold partsP; rw [if_neg hn, if_pos (by simpa using h)]; rfl
    · unfold partsP; rw [if_neg hn, if_neg (by simpa using h), if_pos (by simp at h2; omega)]; rfl
    · unfold partsP; rw [if_neg hn, if_neg (by simpa using h), if_neg (by simp at h2; omega)]; rfl
  refine ⟨fun h1 => ⟨fun _ => k0 (p := True) (by simp at h1; omega), fun h => bt h1 h⟩, fun h1 => ⟨fun h2 => ⟨fun _ => k0 (p := True) (by simp at h2; omega), fun h => bt h2 h⟩, fun h2 => ⟨fun h3 => ⟨fun _ => k0 (p := True) (by simp at h3; omega), fun h => bt h3 h⟩, fun h3 => ⟨fun h4 => ⟨fun _ => k0 (p := True) (by simp at h4; omega), fun h => bt h4 h⟩, fun h4 => ⟨fun h5 => ⟨fun _ => k0 (p := True) (by simp at h5; omega), fun h => bt h5 h⟩, fun h5 =>
    ⟨fun h6 => ⟨fun _ => k0 (p := True) (by simp at h6; omega), fun h => bt h6 h⟩, fun h6 => ⟨fun h7 => ⟨fun _ => k0 (p := True) (by simp at h7; omega), fun h => bt h7 h⟩, fun h7 => ⟨fun h8 => k0 (p := True) (by simp at h8; omega), fun h8 => kx (by simp at h1 h2 h3 h4 h5 h6 h7 h8; omega)⟩⟩⟩⟩⟩⟩⟩⟩
theorem rvari_spec {m : D.Model} {a : Int} {v : D.Var} (hv : wf_Var v) : VSpec Tryz.prog 140 [] [.agg (enc_Model m), intV a, .agg (enc_Var v)] [] (boolV (variableP m a v)) := by
  have hl := hv.Dims.1
  refine vspec_raw tb_ok mixed Tryz.func140 (by kernel_rfl) rfl (rvari_raw _ m a v) ⟨fun h => leafB ?_, fun h => ⟨inP a v.Who, rbelow_one, procP m v.Type_, rprocty_spec _ _, fun hy => leafB ?_, fun hy => ?_⟩⟩
  · unfold variableP
    symm; rw [Bool.eq_false_iff]; intro hc; simp at h hc; omega
  · unfold variableP
    symm; rw [Bool.eq_false_iff]; intro hc
    simp only [Bool.and_eq_true] at hc
    have hc := hc.1.2
    by_cases h2 : v.Scope = 2
    · rw [decide_eq_true h2, cond_true, Bool.and_eq_true] at hc
      simp [h2, hc.1, hc.2] at hy
    · rw [decide_eq_false h2, cond_false] at hc
      simp [h2] at hy hc
      omega
  · have e : variableP m a v = allI v.Dims.length fun i => dimP a (v.Dims.getD i default) := by
      unfold variableP
      have e1 : (decide (0 ≤ v.Scope) && decide (v.Scope ≤ 2) && decide (0 ≤ v.Slot) && decide (v.Slot ≤ 128) && decide (v.Dims.length ≤ 4)) = true := by simp at h ⊢; omega
      have e2 : (bif decide (v.Scope = 2) then inP a v.Who && procP m v.Type_ else decide (v.Who = -1) && decide (v.Type_ = -1)) = true := by
        by_cases h2 : v.Scope = 2
        · rw [decide_eq_true h2, cond_true]
          cases h3 : inP a v.Who <;> cases h4 : procP m v.Type_ <;> simp [h2, h3, h4] at hy ⊢
        · rw [decide_eq_false h2, cond_false]
          simp [h2] at hy ⊢
          omega
      rw [e1, e2, Bool.true_and, Bool.true_and]
    rw [e]
    refine loop_idx tb_ok mixed v.Dims.length (fun k => stRvari a v k) (fun k => ∀ i, i < k → dimP a (v.Dims.getD i default) = true) (by kernel_rfl) (by kernel_rfl) (fun i hi => by omega) ?_
    intro k hk hI J next
    refine Asks.raw (rvari1_raw _ m a v k J) ⟨fun hlt => ?_, fun hge => leafB ?_⟩
    · have hlt' : k < v.Dims.length := by have := lt_of hlt; omega
      have hto : (k : Int).toNat = k := by omega
      rw [hto]
      have hdim : ∀ d : D.Dim, dimP a d = !(bif bif bif bif !(inP a d.I) then true else decide (d.Len < 1) then true else decide (d.Len > 128) then true else decide (d.Stride < 0) then true else decide (d.Stride > 128)) := by
        intro d
        unfold dimP
        cases inP a d.I
        · rfl
        · rw [Bool.eq_iff_iff]; simp <;> omega
      refine ⟨⟨by omega, by omega⟩, inP a (v.Dims.getD k default).I, rbelow_one, fun hy => leafB ?_, fun hy => next _ hlt' (succ_of hI ?_) (Up.of ?_)⟩
      · exact (allI_no (f := fun i => dimP a (v.Dims.getD i default)) hlt' (by show dimP a _ = false; rw [hdim, hy]; rfl)).symm
      · rw [hdim, hy]; rfl
      · rw [wrap_succ (by omega)]; rfl
    · have hge' : v.Dims.length ≤ k := by have := ge_of hge; omega
      exact (allI_iff.2 fun i hi => hI i (by omega)).symm
theorem rmatched_spec {m : D.Model} {a : Int} {args mt : List Int} (ha : a ≤ m.Exprs.length) (h1 : args.length ≤ 1048576) (h2 : mt.length ≤ 1048576) :
    VSpec Tryz.prog 141 [] [.agg (enc_Model m), intV a, encL_Int true args, encL_Int true mt] [] (boolV (matchedP m a args mt)) := by
  refine vspec_raw tb_ok mixed Tryz.func141 (by kernel_rfl) rfl (rmatched_raw _ m a args mt) ⟨belowP a args, rbelow_spec (by omega), fun h => leafB ?_, fun h => ?_⟩
  · unfold matchedP
    symm; rw [Bool.eq_false_iff]; intro hc
    simp at hc h
    obtain ⟨⟨⟨⟨c1, c2⟩, c3⟩, c4⟩, _⟩ := hc
    rw [c4] at h
    simp at h
    omega
  · have hb : belowP a args = true := by
      cases hq : belowP a args with
      | true => rfl
      | false => rw [hq] at h; simp at h
    have hlen : 1 ≤ args.length ∧ args.length ≤ 8 ∧ mt.length = args.length := by rw [hb] at h; simp at h; omega
    have e : matchedP m a args mt = allI mt.length fun i => matchP m (args.getD i 0) (mt.getD i 0) := by
      unfold matchedP
      rw [hb]; simp [hlen]
    rw [e]
    have hin := belowP_iff.1 hb
    refine loop_idx tb_ok mixed mt.length (fun k => stRmatched m args mt k) (fun k => ∀ i, i < k → matchP m (args.getD i 0) (mt.getD i 0) = true) (by kernel_rfl) (by kernel_rfl) (fun i hi => by omega) ?_
    intro k hk hI J next
    refine Asks.raw (rmatched1_raw _ m args mt k J) ⟨fun hlt => ?_, fun hge => leafB ?_⟩
    · have hlt' : k < mt.length := by have := lt_of hlt; omega
      have hto : (k : Int).toNat = k := by omega
      rw [hto]
      have hx := hin _ (getD_mem (d := (0 : Int)) (show k < args.length by omega))
      have hm : matchP m (args.getD k 0) (mt.getD k 0) = !(bif bif decide (mt.getD k 0 < -1) then true else decide (mt.getD k 0 > 1) then true else bif mt.getD k 0 == 0 then (m.Exprs.getD (args.getD k 0).toNat default).Op != 2 else false) := by
        unfold matchP exAt
        rw [Bool.eq_iff_iff]; simp <;> omega
      refine ⟨⟨by omega, by omega⟩, fun _ => ⟨by omega, by omega⟩, fun _ => ⟨by omega, by omega⟩, fun _ => ⟨by omega, by omega⟩, fun _ => ⟨by omega, by omega⟩, fun hy => leafB ?_, fun hy => next _ hlt' (succ_of hI ?_) (Up.of ?_)⟩
      · exact (allI_no (f := fun i => matchP m (args.getD i 0) (mt.getD i 0)) hlt' (by show matchP m _ _ = false; rw [hm, hy]; rfl)).symm
      · rw [hm, hy]; rfl
      · rw [wrap_succ (by omega)]; rfl
    · have hge' : mt.length ≤ k := by have := ge_of hge; omega
      exact (allI_iff.2 fun i hi => hI i (by omega)).symm
end Go.Proofs.YtiaebjpcgjkhoaaGreatDoor
namespace Go.Proofs.YtiaebjpcgjkhoaaGreatDoor
open Go.RowKit
theorem rheld_spec {x : D.Expr} (h1 : x.Args.length ≤ 1048576) (h2 : x.V.Dims.length ≤ 1048576) : VSpec Tryz.prog 111 [] [.agg (enc_Expr x)] [] (encL_Int true (heldP x)) := by
  have hp3 := parts_le x.Op
  have loop : ∀ (L : List Int), L.length ≤ 2097152 → L ++ x.V.Dims.map D.Dim.I = heldP x → SatC (fnCtx Tryz.prog tb shRf ann_rheld true Tryz.f111 [] (encL_Int true (heldP x))) [1, 1, 1, 1, 1, 1, 1, 0, 1, 0, 1, 1, 0] (stRheld x L 0) := by
    intro L hL hR
    generalize heldP x = R at hR ⊢
    refine loop_idx tb_ok mixed x.V.Dims.length (fun k => stRheld x (L ++ (x.V.Dims.take k).map D.Dim.I) k) (fun _ => True) (by kernel_rfl) (by kernel_rfl) trivial ?_ |> fun h => by simpa using h
    intro k hk _ J next
    have hlen : (L ++ (x.V.Dims.take k).map D.Dim.I).length = L.length + k := by simp; omega
    refine Asks.raw (rheld1_raw _ x _ k J) ⟨fun hlt => ?_, fun hge => ⟨trivial, ?_⟩⟩
    · have hlt' : k < x.V.Dims.length := by have := lt_of hlt; omega
      have hto : (k : Int).toNat = k := by omega
      rw [hto]
      refine ⟨⟨by omega, by omega⟩, by rw [hlen]; omega, next _ hlt' trivial ?_⟩
      have hpush : (x.V.Dims.take (k + 1)).map D.Dim.I = (x.V.Dims.take k).map D.Dim.I ++ [(x.V.Dims.getD k default).I] := by rw [take_push (d := default) hlt']; simp
      have e : L ++ (x.V.Dims.take (k + 1)).map D.Dim.I = (L ++ (x.V.Dims.take k).map D.Dim.I) ++ [(x.V.Dims.getD k default).I] := by rw [hpush, List.append_assoc]
      rw [e, wrap_succ (by omega)]
      generalize L ++ (x.V.Dims.take k).map D.Dim.I = M
      generalize (x.V.Dims.getD k default).I = z
      refine Up.mk (l' := [(1, .bp 0 0), (3, .ow 1 0 (M ++ [z]).length), (5, intV ((k + 1 : Nat) : Int))]) (hs' := [.box (enc_Expr x), .arr true 0 (M ++ [z]).length 1 (rowsIn (M ++ [z]))]) ?_ ?_ rfl
      · rw [show M.length + 1 = (M ++ [z]).length by simp]; exact leT_refl _
      · rw [show M.length + 1 = (M ++ [z]).length by simp]
        exact ⟨Ob.le_refl _, Ob.le_arr fun i hi => leL_eq (rows_app (f := fun n => [intV n]) (d := 0) (l := M) (r := [z]) (F := fun i => [.sc (.int .i64 (M.getD i 0))]) (fun i hi => rfl) row_one hi), trivial⟩
    · have hge' : x.V.Dims.length ≤ k := by have := ge_of hge; omega
      rw [List.take_of_length_le hge', hR]
      exact VV.le_refl _
  have dD : ∀ st, SatC ((fnCtx Tryz.prog tb shRf ann_rheld true Tryz.f111 [] (encL_Int true (heldP x))).cut [1, 1, 1, 1, 1, 1, 1]) [0, 1, 0, 1, 1, 0] st = SatC (fnCtx Tryz.prog tb shRf ann_rheld true Tryz.f111 [] (encL_Int true (heldP x))) [1, 1, 1, 1, 1, 1, 1, 0, 1, 0, 1, 1, 0] st := fun st => by kernel_rfl
  have dC : ∀ st, SatC ((fnCtx Tryz.prog tb shRf ann_rheld true Tryz.f111 [] (encL_Int true (heldP x))).cut [1, 1, 1, 1, 1, 1]) [1] st = SatC (fnCtx Tryz.prog tb shRf ann_rheld true Tryz.f111 [] (encL_Int true (heldP x))) [1, 1, 1, 1, 1, 1, 1] st := fun st => by kernel_rfl
  have dB : ∀ st, SatC ((fnCtx Tryz.prog tb shRf ann_rheld true Tryz.f111 [] (encL_Int true (heldP x))).cut [1, 1, 1, 1, 1]) [1] st = SatC (fnCtx Tryz.prog tb shRf ann_rheld true Tryz.f111 [] (encL_Int true (heldP x))) [1, 1, 1, 1, 1, 1] st := fun st => by kernel_rfl
  have dA : ∀ st, SatC ((fnCtx Tryz.prog tb shRf ann_rheld true Tryz.f111 [] (encL_Int true (heldP x))).cut [1, 1, 1, 1]) [1] st = SatC (fnCtx Tryz.prog tb shRf ann_rheld true Tryz.f111 [] (encL_Int true (heldP x))) [1, 1, 1, 1, 1] st := fun st => by kernel_rfl
  have hheld : heldP x = [x.A, x.B, x.C].take (partsP x.Op) ++ ((if x.Op = 30 ∨ x.Op = 39 then x.Args else []) ++ (if x.Op = 2 then (if x.V.Scope = 2 then [x.V.Who] else []) ++ x.V.Dims.map D.Dim.I else [])) := rfl
  generalize heldP x = R at hheld loop dA dB dC dD ⊢
  have push : ∀ {c : Ctx} {rel : List Nat} (l : List (Nat × VV)) (M : List Int) (z : Int) (F : Nat → List VV), (∀ i, F i = [VV.sc (.int .i64 (M.getD i 0))]) → SatC c rel (mkSt ((1, .bp 0 0) :: (3, .ow 1 0 (M ++ [z]).length) :: l) [.box (enc_Expr x), .arr true 0 (M ++ [z]).length 1 (rowsIn (M ++ [z]))]) →
      SatC c rel (mkSt ((1, .bp 0 0) :: (3, .ow 1 0 (M.length + 1)) :: l) [.box (enc_Expr x), .arr true 0 (M.length + 1) 1 (fun i => bif i.blt M.length then F i else (fun i => List.take 1 (List.drop (i * 1) [.sc (.int .i64 z)])) (i - M.length))]) := by
    intro c rel l M z F hF h
    rw [show M.length + 1 = (M ++ [z]).length by simp]
    exact SatC.le (hs' := [.box (enc_Expr x), .arr true 0 (M ++ [z]).length 1 (rowsIn (M ++ [z]))]) (leT_refl _) ⟨Ob.le_refl _, Ob.le_arr fun i hi => leL_eq (rows_app (f := fun n => [intV n]) (d := 0) (l := M) (r := [z]) (F := F) (fun i _ => hF i) row_one hi), trivial⟩ h
  have hD : ∀ (L : List Int), L.length ≤ 2097151 → L ++ (if x.Op = 2 then (if x.V.Scope = 2 then [x.V.Who] else []) ++ x.V.Dims.map D.Dim.I else []) = R → SatC (fnCtx Tryz.prog tb shRf ann_rheld true Tryz.f111 [] (encL_Int true R)) [1, 1, 1, 1, 1, 1, 1] (stRheldL x L) := by
    intro L hL hR
    refine cut_raw tb_ok mixed (by kernel_rfl) (rheldD_raw _ x L) ⟨fun k => ⟨fun q => ⟨by omega, ?_⟩, fun q => ?_⟩, fun k => ⟨trivial, ?_⟩⟩
    · refine push _ L _ _ (fun _ => rfl) (Eq.mpr (dD _) (loop _ (by simp; omega) ?_))
      rw [if_pos (by simpa using k), if_pos (by simpa using q)] at hR
      rw [← hR, List.append_assoc]
    · refine Eq.mpr (dD _) (loop _ (by omega) ?_)
      rw [if_pos (by simpa using k), if_neg (by simpa using q)] at hR
      exact hR
    · rw [if_neg (by simpa using k), List.append_nil] at hR
      rw [hR]; exact VV.le_refl _
  have hC : ∀ (L : List Int), L.length ≤ 3 → L ++ ((if x.Op = 30 ∨ x.Op = 39 then x.Args else []) ++ (if x.Op = 2 then (if x.V.Scope = 2 then [x.V.Who] else []) ++ x.V.Dims.map D.Dim.I else [])) = R → SatC (fnCtx Tryz.prog tb shRf ann_rheld true Tryz.f111 [] (encL_Int true R)) [1, 1, 1, 1, 1, 1] (stRheldL x L) := by
    intro L hL hR
    refine cut_raw tb_ok mixed (by kernel_rfl) (rheldC_raw _ x L) ⟨fun k => ⟨by omega, fun _ _ => rfl, ?_⟩, fun k => Eq.mpr (dC _) (hD L (by omega) ?_)⟩
    · have e : L.length + x.Args.length = (L ++ x.Args).length := by simp
      rw [e]
      refine SatC.le (hs' := [.box (enc_Expr x), .arr true 0 (L ++ x.Args).length 1 (rowsIn (L ++ x.Args))]) (leT_refl _) ⟨Ob.le_refl _, Ob.le_arr fun i hi => leL_eq (app_row (fun i _ => rfl) hi), trivial⟩ (Eq.mpr (dC _) (hD (L ++ x.Args) (by simp; omega) ?_))
      rw [if_pos (by simpa using k)] at hR
      rw [← hR, List.append_assoc]
    · rw [if_neg (by simpa using k), List.nil_append] at hR
      exact hR
  refine vspec_raw tb_ok mixed Tryz.func111 (by kernel_rfl) rfl (rheld_raw _ x) ⟨(partsP x.Op : Nat), rparts_spec _, fun g1 => ⟨by omega, ?_⟩, fun g1 => ?_⟩
  · have c1 : 1 ≤ partsP x.Op := by simp at g1; omega
    refine SatC.le (l' := [(1, .bp 0 0), (3, .ow 1 0 [x.A].length), (4, intV (partsP x.Op : Nat))]) (hs' := [.box (enc_Expr x), .arr true 0 [x.A].length 1 (rowsIn [x.A])]) (leT_refl _) ⟨Ob.le_refl _, Ob.le_arr fun i hi => leL_eq (row_one i hi), trivial⟩ ?_
    change SatC _ _ (stRheldN x [x.A] (partsP x.Op : Nat))
    refine cut_raw tb_ok mixed (by kernel_rfl) (rheldA_raw _ x [x.A] _) ⟨fun g2 => ⟨by simp, push _ [x.A] _ _ (fun _ => rfl) (Eq.mpr (dA _) ?_)⟩, fun g2 => Eq.mpr (dA _) ?_⟩
    · have c2 : 2 ≤ partsP x.Op := by simp at g2; omega
      change SatC _ _ (stRheldN x [x.A, x.B] (partsP x.Op : Nat))
      refine cut_raw tb_ok mixed (by kernel_rfl) (rheldB_raw _ x [x.A, x.B] _) ⟨fun g3 => ⟨by simp, push _ [x.A, x.B] _ _ (fun _ => rfl) (Eq.mpr (dB _) (hC [x.A, x.B, x.C] (by simp) ?_))⟩, fun g3 => Eq.mpr (dB _) (hC [x.A, x.B] (by simp) ?_)⟩
      · have c3 : partsP x.Op = 3 := by simp at g3; omega
        rw [hheld, c3]; rfl
      · have c3 : partsP x.Op = 2 := by simp at g3; omega
        rw [hheld, c3]; rfl
    · have c2 : partsP x.Op = 1 := by simp at g2; omega
      change SatC _ _ (stRheldN x [x.A] (partsP x.Op : Nat))
      refine cut_raw tb_ok mixed (by kernel_rfl) (rheldB_raw _ x [x.A] _) ⟨fun g3 => absurd g3 (by rw [c2]; decide), fun g3 => Eq.mpr (dB _) (hC [x.A] (by simp) ?_)⟩
      rw [hheld, c2]; rfl
  · have c1 : partsP x.Op = 0 := by simp at g1; omega
    refine SatC.own 1 3 1 (rowsIn []) rfl ?_
    change SatC _ _ (stRheldN x [] (partsP x.Op : Nat))
    refine cut_raw tb_ok mixed (by kernel_rfl) (rheldA_raw _ x [] _) ⟨fun g2 => absurd g2 (by rw [c1]; decide), fun g2 => Eq.mpr (dA _) ?_⟩
    change SatC _ _ (stRheldN x [] (partsP x.Op : Nat))
    refine cut_raw tb_ok mixed (by kernel_rfl) (rheldB_raw _ x [] _) ⟨fun g3 => absurd g3 (by rw [c1]; decide), fun g3 => Eq.mpr (dB _) (hC [] (by simp) ?_)⟩
    rw [hheld, c1]; rfl
theorem rways_spec {l : D.Loc} (h1 : l.Esc.length ≤ 1048576) : VSpec Tryz.prog 112 [] [.agg (enc_Loc l)] [] (encL_Transs true (waysP l)) := by
  refine vspec_raw tb_ok mixed Tryz.func112 (by kernel_rfl) rfl (rways_raw _ l) ⟨by omega, by omega, fun i hi => rfl, trivial, ?_⟩
  have e : 1 + l.Esc.length = (waysP l).length := by simp [waysP]; omega
  rw [e]
  refine VV.le_sl (.inl rfl) fun i hi => leL_eq ?_
  refine rows_app (l := [l.Out]) (r := l.Esc) (f := fun w => [encL_Trans true w]) (d := []) (F := fun i => List.take 1 (List.drop (i * 1) [encL_Trans true l.Out])) (G := fun i => [encL_Trans true (l.Esc.getD i [])]) (fun i hi => ?_) (fun i hi => rfl) hi
  obtain rfl : i = 0 := by simpa using hi
  rfl
theorem rexpr_spec {m : D.Model} {a : Int} (h0 : 0 ≤ a) (ha : a < m.Exprs.length) (hw : wf_Expr (exAt m a)) (hP : m.Procs.length ≤ 1048576) : VSpec Tryz.prog 110 [] [.agg (enc_Model m), intV a] [] (boolV (exprP m a)) := by
  refine vspec_raw tb_ok mixed Tryz.func110 (by kernel_rfl) rfl (rexpr_raw _ m a) ⟨⟨h0, ha⟩, fun h => leafB ?_, fun h => ?_⟩
  · symm; rw [Bool.eq_false_iff]; intro hc
    unfold exprP at hc
    simp only [Bool.and_eq_true, decide_eq_true_eq] at hc
    have h' : (bif decide ((exAt m a).Op < 1) then true else decide ((exAt m a).Op > 39)) = true := h
    simp at h'
    omega
  · have hop : 1 ≤ (exAt m a).Op ∧ (exAt m a).Op ≤ 39 := by
      have h' : (bif decide ((exAt m a).Op < 1) then true else decide ((exAt m a).Op > 39)) = false := h
      simp at h'; omega
    have hargs := hw.Args.1
    have hmt := hw.Match.1
    have hwv := hw.V
    have hwn := hw.N
    generalize hb : exprP m a = b
    unfold exprP at hb
    simp only at hb
    refine ⟨(partsP (exAt m a).Op : Nat), rparts_spec _, ?_⟩
    show SatC _ _ (mkSt [(1, intV a), (2, .bp 0 0), (5, .bp 1 0), (6, intV (partsP (exAt m a).Op : Nat)), (7, .ow 2 0 3), (8, intV 0)] [.box (enc_Model m), .box (enc_Expr (exAt m a)), .arr true 0 3 1 (fun i => List.take 1 (List.drop (i * 1) [VV.sc (.int .i64 (exAt m a).A), .sc (.int .i64 (exAt m a).B), .sc (.int .i64 (exAt m a).C)]))])
    generalize exAt m a = x at hop hargs hmt hwv hwn hb ⊢
    have e : (decide (1 ≤ x.Op) && decide (x.Op ≤ 39)) = true := by simp; omega
    rw [e, Bool.true_and] at hb
    have st0 : SatC (fnCtx Tryz.prog tb shRf ann_rexpr true Tryz.f110 [] (boolV b)) [1, 1, 1, 1, 1, 0, 1, 0] (stRexpr m a x (partsP x.Op : Nat) 0) := by
      refine loop_idx tb_ok mixed 3 (fun k => stRexpr m a x (partsP x.Op : Nat) k) (fun k => ∀ i, i < k → partP a x.Op i ([x.A, x.B, x.C].getD i 0) = true) (by kernel_rfl) (by kernel_rfl) (fun i hi => by omega) ?_
      intro k hk hI J next
      refine Asks.raw (rexpr1_raw _ m a x _ k J) ⟨fun hlt => ?_, fun hge => ?_⟩
      · have hlt' : k < 3 := by have := lt_of (b := 3) hlt; omega
        have hto : (k : Int).toNat = k := by omega
        rw [hto]
        refine ⟨⟨by omega, by omega⟩, inP a ([x.A, x.B, x.C].getD k 0), rbelow_one, fun _ => ⟨by omega, by omega⟩, fun hy => leafB ?_, fun hy => next _ hlt' (succ_of hI ?_) (Up.of ?_)⟩
        · have hp : partP a x.Op k ([x.A, x.B, x.C].getD k 0) = false := by rw [partP_eq]; exact congrArg (!·) hy
          rw [← hb]
          rcases (show k = 0 ∨ k = 1 ∨ k = 2 by omega) with rfl | rfl | rfl
          · have hp' : partP a x.Op 0 x.A = false := hp
            rw [hp']; rfl
          · have hp' : partP a x.Op 1 x.B = false := hp
            rw [hp']; simp
          · have hp' : partP a x.Op 2 x.C = false := hp
            rw [hp']; simp
        · rw [partP_eq]; exact congrArg (!·) hy
        · rw [wrap_succ (by omega)]; rfl
      · have hge' : 3 ≤ k := by simp at hge; omega
        have p0 : partP a x.Op 0 x.A = true := hI 0 (by omega)
        have p1 : partP a x.Op 1 x.B = true := hI 1 (by omega)
        have p2 : partP a x.Op 2 x.C = true := hI 2 (by omega)
        rw [p0, p1, p2] at hb
        simp only [Bool.and_self, Bool.true_and] at hb
        subst hb
        refine ⟨procP m x.N, rprocty_spec _ _, belowP a x.Args, rbelow_spec (by omega), fun h1 => leafB ?_, fun h1 => ⟨fun h2 => ⟨_, rvari_spec hwv, leafB ?_⟩, fun h2 => ⟨fun h3 => ⟨_, rmatched_spec (by omega) hargs hmt, leafB ?_⟩, fun h3 => ⟨fun h4 => ⟨fun h5 => leafB ?_, fun h5 => ⟨?_, belowP (locsOf m x.N).length x.Args, rbelow_spec (by omega), leafB ?_⟩⟩, fun h4 =>
          ⟨fun h5 => ⟨fun hy => ?_, leafB ?_⟩, fun h5 => leafB ?_⟩⟩⟩⟩⟩
        · rw [if_pos (by simpa using h1)]
          rw [Bool.eq_iff_iff]; simp [fitsP, typP]; omega
        · rw [if_neg (by simpa using h1), if_pos (by simpa using h2)]
        · rw [if_neg (by simpa using h1), if_neg (by simpa using h2), if_pos (by simpa using h3)]
          cases matchedP m a x.Args x.Match
          · rfl
          · rw [Bool.eq_iff_iff]; simp
        · rw [if_neg (by simpa using h1), if_neg (by simpa using h2), if_neg (by simpa using h3), if_pos (by simpa using h4)]
          symm; rw [Bool.eq_false_iff]; intro hc
          simp [placesP] at hc h5; simp [hc] at h5; omega
        · have : procP m x.N = true := by
            cases hq : procP m x.N with
            | true => rfl
            | false => rw [hq] at h5; simp at h5
          simp [procP] at this; omega
        · have hq : procP m x.N = true := by
            cases hq : procP m x.N with
            | true => rfl
            | false => rw [hq] at h5; simp at h5
          rw [if_neg (by simpa using h1), if_neg (by simpa using h2), if_neg (by simpa using h3), if_pos (by simpa using h4)]
          have hn : 0 ≤ x.N ∧ x.N < 1073741824 := by simp [procP] at hq; omega
          have hl : 1 ≤ x.Args.length := by rw [hq] at h5; simp at h5; omega
          unfold placesP
          rw [hq]; simp [hn, hl]
        · have : procP m x.N = true := by
            cases hq : procP m x.N with
            | true => rfl
            | false => rw [hq] at hy; simp at hy
          simp [procP] at this; omega
        · rw [if_neg (by simpa using h1), if_neg (by simpa using h2), if_neg (by simpa using h3), if_neg (by simpa using h4), if_pos (by simpa using h5)]
          cases hq : procP m x.N
          · rw [Bool.eq_iff_iff]; simp
          · have hn : 0 ≤ x.N ∧ x.N < 1073741824 := by simp [procP] at hq; omega
            cases belowP a x.Args <;> rw [Bool.eq_iff_iff] <;> simp [hn]
        · rw [if_neg (by simpa using h1), if_neg (by simpa using h2), if_neg (by simpa using h3), if_neg (by simpa using h4), if_neg (by simpa using h5)]
    exact SatC.le (hs' := [.box (enc_Model m), .box (enc_Expr x), .arr true 0 3 1 (rowsIn [x.A, x.B, x.C])]) (leT_refl _) ⟨Ob.le_refl _, Ob.le_refl _, Ob.le_arr fun i hi => leL_eq (by rcases (show i = 0 ∨ i = 1 ∨ i = 2 by omega) with rfl | rfl | rfl <;> rfl), trivial⟩ st0
end Go.Proofs.YtiaebjpcgjkhoaaGreatDoor
namespace Go.Proofs.YtiaebjpcgjkhoaaGreatDoor
open Go.RowKit
theorem rtarget_spec (m : D.Model) (a : Int) : VSpec Tryz.prog 164 [] [.agg (enc_Model m), intV a] [] (boolV (targetP m a)) := by
  have hin : (bif decide (a ≥ 0) then decide (a < (m.Exprs.length : Int)) else false) = true → 0 ≤ a ∧ a < m.Exprs.length := fun h => by simpa using h
  refine vspec_raw tb_ok mixed Tryz.func164 (by kernel_rfl) rfl (rtarget_raw _ m a) ⟨fun h => hin (by simpa using h), fun h => hin ?_, leafB ?_⟩
  · simp only [bif_and, Bool.true_and, beq_true, Bool.and_eq_true] at h ⊢
    exact h.1
  · show _ = targetP m a
    unfold targetP exAt placeP inP
    simp only [bif_and, ieq, ge_iff_le, bne, decide_not, Bool.and_assoc]
theorem rstmt_spec {m : D.Model} {s : D.Stmt} (hs : SmallS s) : VSpec Tryz.prog 142 [] [.agg (enc_Model m), .agg (enc_Stmt s)] [] (boolV (statementP m s)) := by
  have ha := hs.a
  have hb := hs.m
  have hkn : ∀ {k : Int}, (s.Kind == k) = true → s.Kind = k := fun h => by simpa using h
  have hkf : ∀ {k : Int}, (s.Kind == k) = false → s.Kind ≠ k := fun h => by simpa using h
  have len0 : ((bif (s.Args.length : Int) == 0 then (s.Match.length : Int) == 0 else false)) = decide (s.Args.length + s.Match.length = 0) := by
    simp only [ieq, bif_and]
    rw [Bool.eq_iff_iff]; simp only [Bool.and_eq_true, decide_eq_true_eq]; omega
  have pl : (bif decide (s.A ≥ 0) then decide (s.A < (m.Exprs.length : Int)) else false) = placeP m s.A := by rw [bif_and]; rfl
  have plB : (bif decide (s.B ≥ 0) then decide (s.B < (m.Exprs.length : Int)) else false) = placeP m s.B := by rw [bif_and]; rfl
  have em : emptyP s true true true = (decide (s.Args.length + s.Match.length = 0) && decide (s.N = 0) && decide (s.Text.size = 0)) := by simp only [emptyP, Bool.not_true, Bool.false_or]
  have emn : emptyP s true false true = (decide (s.Args.length + s.Match.length = 0) && decide (s.Text.size = 0)) := by simp only [emptyP, Bool.not_true, Bool.not_false, Bool.true_or, Bool.and_true, Bool.false_or]
  refine vspec_raw tb_ok mixed Tryz.func142 (by kernel_rfl) rfl (rstmt_raw _ m s) ⟨targetP m s.A, rtarget_spec m s.A, belowP m.Exprs.length s.Args, rbelow_spec (by omega), ?_⟩
  have t13 : s.Kind = 1 ∨ s.Kind = 3 → statementP m s = (placeP m s.A && decide (s.B = -1) && emptyP s true true true) := fun h => by unfold statementP; rw [if_pos h]
  have t2 : s.Kind = 2 → statementP m s = (targetP m s.A && placeP m s.B && emptyP s true true true) := fun h => by unfold statementP; rw [if_neg (by omega), if_pos h]
  have t4 : s.Kind = 4 → statementP m s = (decide (s.A = -1) && decide (s.B = -1) && belowP m.Exprs.length s.Args && decide (s.Match.length = 0) && decide (s.Text.size ≤ 256) && decide (s.N = 0)) := fun h => by unfold statementP; rw [if_neg (by omega), if_neg (by omega), if_pos h]
  have t5 : s.Kind = 5 → statementP m s = (placeP m s.A && decide (s.B = -1) && decide (1 ≤ s.Args.length) && decide (s.Args.length ≤ 8) && belowP m.Exprs.length s.Args && decide (s.Match.length = 0) && (decide (s.N = 0) || decide (s.N = 1)) && decide (s.Text.size = 0)) := fun h => by unfold statementP; rw [if_neg (by omega), if_neg (by omega), if_neg (by omega), if_pos h]
  have t6 : s.Kind = 6 → statementP m s = (placeP m s.A && decide (s.B = -1) && takenP m s && decide (0 ≤ s.N) && decide (s.N ≤ 3) && decide (s.Text.size = 0)) := fun h => by unfold statementP; rw [if_neg (by omega), if_neg (by omega), if_neg (by omega), if_neg (by omega), if_pos h]
  have t7 : s.Kind = 7 ∨ s.Kind = 8 → statementP m s = (decide (s.A = -1) && decide (s.B = -1) && emptyP s true true true) := fun h => by unfold statementP; rw [if_neg (by omega), if_neg (by omega), if_neg (by omega), if_neg (by omega), if_neg (by omega), if_pos h]
  have t9 : s.Kind = 9 → statementP m s = (targetP m s.A && decide (s.B = -1) && decide (0 ≤ s.N) && decide (s.N < m.Shapes.length) && emptyP s true false true) := fun h => by unfold statementP; rw [if_neg (by omega), if_neg (by omega), if_neg (by omega), if_neg (by omega), if_neg (by omega), if_neg (by omega), if_pos h]
  have tx : ¬(s.Kind = 1 ∨ s.Kind = 3) → s.Kind ≠ 2 → s.Kind ≠ 4 → s.Kind ≠ 5 → s.Kind ≠ 6 → ¬(s.Kind = 7 ∨ s.Kind = 8) → s.Kind ≠ 9 → statementP m s = false := fun h1 h2 h3 h4 h5 h6 h7 => by unfold statementP; rw [if_neg h1, if_neg h2, if_neg h3, if_neg h4, if_neg h5, if_neg h6, if_neg h7]
  generalize statementP m s = b at t13 t2 t4 t5 t6 t7 t9 tx ⊢
  rw [len0, pl, plB, text_nil]
  rw [em] at t13 t2 t7
  rw [emn] at t9
  generalize decide (s.Args.length + s.Match.length = 0) = eLen at t13 t2 t7 t9 ⊢
  generalize decide (s.Text.size = 0) = eText at t13 t2 t5 t6 t7 t9 ⊢
  refine ⟨fun h1 => ⟨fun _ => leafB ?_, fun h => bt h1 h⟩, fun h1 => ⟨fun h3 => leafB ?_, fun h3 => ⟨fun h2 => leafB ?_, fun h2 => ⟨fun h4 => leafB ?_, fun h4 => ⟨fun h5 => leafB ?_, fun h5 => ⟨fun h6 => ⟨matchedP m m.Exprs.length s.Args s.Match, rmatched_spec (Int.le_refl _) ha hb, fun hy => leafB ?_, fun hy => ?_⟩, fun h6 => ⟨fun h7 => ⟨fun _ => leafB ?_, fun h => bt h7 h⟩, fun h7 => ⟨fun h8 => leafB ?_, fun h8 => ⟨fun h9 => leafB ?_, fun h9 => leafB ?_⟩⟩⟩⟩⟩⟩⟩⟩⟩
  · rw [t13 (.inl (hkn h1))]; simp only [ieq, bif_and, Bool.and_assoc]
  · rw [t13 (.inr (hkn h3))]; simp only [ieq, bif_and, Bool.and_assoc]
  · rw [t2 (hkn h2)]; simp only [ieq, bif_and, Bool.and_assoc]
  · rw [t4 (hkn h4)]; simp only [ieq, bif_and, Bool.and_assoc, neq0, le256]
    rw [Bool.and_comm (decide (s.Text.size ≤ 256))]
  · rw [t5 (hkn h5)]; simp only [ieq, bif_and, bif_or, neq0, le8, ge1]
    cases placeP m s.A <;> cases belowP (m.Exprs.length : Int) s.Args <;> rw [Bool.eq_iff_iff] <;> simp [-List.length_eq_zero_iff, and_assoc, and_left_comm, and_comm]
  · rw [t6 (hkn h6)]
    symm; rw [Bool.eq_false_iff]; intro hc
    simp only [takenP, Bool.and_eq_true, decide_eq_true_eq] at hc
    obtain ⟨⟨⟨⟨⟨c1, c2⟩, ⟨c3, _⟩⟩, c4⟩, c5⟩, c6⟩ := hc
    rw [c1, c3, c6] at hy
    simp at hy; omega
  · have hall : placeP m s.A = true ∧ s.B = -1 ∧ matchedP m m.Exprs.length s.Args s.Match = true ∧ 0 ≤ s.N ∧ s.N ≤ 3 ∧ eText = true := by
      generalize placeP m s.A = q1 at hy ⊢
      generalize matchedP m m.Exprs.length s.Args s.Match = q2 at hy ⊢
      cases q1 <;> cases q2 <;> cases eText <;> simp at hy ⊢
      omega
    obtain ⟨c1, c2, c3, c4, c5, c6⟩ := hall
    have hlen : s.Match.length = s.Args.length := by
      unfold matchedP at c3
      simp only [Bool.and_eq_true, decide_eq_true_eq] at c3
      exact c3.1.1.2
    have e : b = allI s.Match.length fun i => !decide (s.Match.getD i 0 = 0) || targetP m (s.Args.getD i 0) := by
      rw [t6 (hkn h6), c1, c6]
      unfold takenP
      rw [c3]; simp [c2, c4, c5]
    rw [e]
    refine loop_idx tb_ok mixed s.Args.length (fun k => stRstmt m s k) (fun k => ∀ i, i < k → (!decide (s.Match.getD i 0 = 0) || targetP m (s.Args.getD i 0)) = true) (by kernel_rfl) (by kernel_rfl) (fun i hi => by omega) ?_
    intro k hk hI J next
    refine Asks.raw (rstmt1_raw _ m s k J) ⟨fun hlt => ?_, fun hge => leafB ?_⟩
    · have hlt' : k < s.Args.length := by have := lt_of hlt; omega
      have hto : (k : Int).toNat = k := by omega
      rw [hto]
      have hm : (!decide (s.Match.getD k 0 = 0) || targetP m (s.Args.getD k 0)) = !(bif s.Match.getD k 0 == 0 then !(targetP m (s.Args.getD k 0)) else false) := by
        generalize s.Match.getD k 0 = z
        cases targetP m (s.Args.getD k 0)
        · rw [Bool.eq_iff_iff]; simp
        · simp
      refine ⟨⟨by omega, by omega⟩, targetP m (s.Args.getD k 0), rtarget_spec _ _, ⟨by omega, by omega⟩, fun hy => leafB ?_, fun hy => next _ hlt' (fun i hi => ?_) (Up.of ?_)⟩
      · exact (allI_no (n := s.Match.length) (k := k) (f := fun i => !decide (s.Match.getD i 0 = 0) || targetP m (s.Args.getD i 0)) (by omega) (by show (!decide (s.Match.getD k 0 = 0) || targetP m (s.Args.getD k 0)) = false; rw [hm, hy]; rfl)).symm
      · rcases Nat.lt_succ_iff_lt_or_eq.1 hi with h | rfl
        · exact hI i h
        · rw [hm, hy]; rfl
      · rw [wrap_succ (by omega)]; rfl
    · have hge' : s.Args.length ≤ k := by have := ge_of hge; omega
      exact (allI_iff.2 fun i hi => hI i (by omega)).symm
  · rw [t7 (.inl (hkn h7))]; simp only [ieq, bif_and, Bool.and_assoc]
  · rw [t7 (.inr (hkn h8))]; simp only [ieq, bif_and, Bool.and_assoc]
  · rw [t9 (hkn h9)]; simp only [ieq, bif_and, Bool.and_assoc, ge_iff_le]
    cases targetP m s.A <;> cases eLen <;> cases eText <;> simp
  · exact (tx (fun h => h.elim (hkf h1) (hkf h3)) (hkf h2) (hkf h4) (hkf h5) (hkf h6) (fun h => h.elim (hkf h7) (hkf h8)) (hkf h9)).symm
theorem rroom_spec {m : D.Model} {i : Int} {v : D.Var} (h1 : v.Scope = 1 → 0 ≤ i ∧ i < m.Procs.length) (h2 : v.Scope ≠ 0 → v.Scope ≠ 1 → 0 ≤ v.Type_ ∧ v.Type_ < m.Procs.length) : VSpec Tryz.prog 144 [] [.agg (enc_Model m), intV i, .agg (enc_Var v)] [] (intV (slotsP m i v)) := by
  refine vspec_raw tb_ok mixed Tryz.func144 (by kernel_rfl) rfl (rroom_raw _ m i v) ⟨fun h => leafI ?_, fun h => ⟨fun k => ⟨h1 (by simpa using k), leafI ?_⟩, fun k => ⟨h2 (by simpa using h) (by simpa using k), leafI ?_⟩⟩⟩
  · unfold slotsP; rw [if_pos (by simpa using h)]
  · unfold slotsP; rw [if_neg (by simpa using h), if_pos (by simpa using k)]
  · unfold slotsP; rw [if_neg (by simpa using h), if_neg (by simpa using k)]
def useBadT (m : D.Model) (a k : Int) (run : Bool) : Bool :=
  bif bif (exAt m k).Op == 39 then !run else false then true else bif a == m.Claim then bif bif (exAt m k).Op == 31 then true else (exAt m k).Op == 39 then true else bif (exAt m k).Op == 2 then (exAt m k).V.Scope == 1 else false else false
def usesF (m : D.Model) (a : Int) : Nat → Int → Bool → Bool
  | 0, _, _ => true
  | g + 1, k, run => !useBadT m a k run && (!(bif (exAt m k).Op == 2 then decide (reachP (exAt m k).V > slotsP m a (exAt m k).V) else false) &&
      allI (heldP (exAt m k)).length fun i => usesF m a g ((heldP (exAt m k)).getD i 0) false)
def usesT (m : D.Model) (a k : Int) (run : Bool) : Bool := usesF m a (k.toNat + 1) k run
theorem ruses_gen {m : D.Model} (hr : Ready m) {a : Int} (ha0 : 0 ≤ a) (ha : a < m.Procs.length) : ∀ (g : Nat) (k : Int) (run : Bool), 0 ≤ k → k < m.Exprs.length → k.toNat < g → VSpec Tryz.prog 114 [] [.agg (enc_Model m), intV a, intV k, boolV run] [] (boolV (usesF m a g k run))
  | 0, _, _, _, _, h => absurd h (Nat.not_lt_zero _)
  | g + 1, k, run, h0, hk, hg => by
    have ih := ruses_gen hr ha0 ha g
    have hx := hr.at h0 hk
    have hsm := hr.small _ (exAt_mem h0 hk)
    have hwv := (hr.wf.Exprs.2 _ (exAt_mem h0 hk)).V
    have hslots := hr.slots h0 hk
    have hheld := held_in hx
    have hhl := held_len hsm.1 hsm.2
    refine vspec_raw tb_ok mixed Tryz.func114 (by kernel_rfl) rfl (ruses_raw _ m a k run) ⟨⟨h0, hk⟩, ?_⟩
    show ((useBadT m a k run) = true → _) ∧ ((useBadT m a k run) = false → _)
    change (_ → _) ∧ (_ → ∃ y, (_ → VSpec _ _ _ [.agg (enc_Var (exAt m k).V)] _ _) ∧ ∃ y_1, (_ → VSpec _ _ _ [_, _, .agg (enc_Var (exAt m k).V)] _ _) ∧ _)
    refine ⟨fun h => leafB ?_, fun h => ⟨reachP (exAt m k).V, fun _ => rreach_spec hwv, slotsP m a (exAt m k).V, fun h2 => rroom_spec (fun _ => ⟨ha0, ha⟩) (hslots (by simpa [exAt] using h2)), fun h2 => leafB ?_, fun h2 => ⟨heldP (exAt m k), rheld_spec hsm.1 hsm.2, ?_⟩⟩⟩
    · unfold usesF; rw [h]; rfl
    · unfold usesF
      have h2' : (bif (exAt m k).Op == 2 then decide (reachP (exAt m k).V > slotsP m a (exAt m k).V) else false) = true := h2
      rw [h2', h]; rfl
    · have h2' : (bif (exAt m k).Op == 2 then decide (reachP (exAt m k).V > slotsP m a (exAt m k).V) else false) = false := h2
      unfold usesF
      rw [h2', h]
      simp only [Bool.not_false, Bool.true_and]
      generalize heldP (exAt m k) = l at hheld hhl
      refine loop_idx tb_ok mixed l.length (fun j => stRuses m a l j) (fun j => ∀ i, i < j → usesF m a g (l.getD i 0) false = true) (by kernel_rfl) (by kernel_rfl) (fun i hi => by omega) ?_
      intro j hj hI J next
      refine Asks.raw (ruses1_raw _ m a l j J) ⟨fun hlt => ?_, fun hge => leafB ?_⟩
      · have hlt' : j < l.length := by have := lt_of hlt; omega
        have hto : (j : Int).toNat = j := by omega
        rw [hto]
        have hin := hheld _ (getD_mem (d := (0 : Int)) hlt')
        refine ⟨⟨by omega, by omega⟩, usesF m a g (l.getD j 0) false, ih _ _ (by omega) (by omega) (by omega), fun hy => leafB ?_, fun hy => next _ hlt' (succ_of hI (by simpa using hy)) (Up.of ?_)⟩
        · exact (allI_no (f := fun i => usesF m a g (l.getD i 0) false) hlt' (by simpa using hy)).symm
        · rw [wrap_succ (by omega)]; rfl
      · have hge' : l.length ≤ j := by have := ge_of hge; omega
        exact (allI_iff.2 fun i hi => hI i (by omega)).symm
theorem ruses_spec {m : D.Model} (hr : Ready m) {a : Int} (ha0 : 0 ≤ a) (ha : a < m.Procs.length) {k : Int} {run : Bool} (h0 : 0 ≤ k) (hk : k < m.Exprs.length) : VSpec Tryz.prog 114 [] [.agg (enc_Model m), intV a, intV k, boolV run] [] (boolV (usesT m a k run)) :=
  ruses_gen hr ha0 ha _ k run h0 hk (Nat.lt_succ_self _)
end Go.Proofs.YtiaebjpcgjkhoaaGreatDoor
namespace Go.Proofs.YtiaebjpcgjkhoaaGreatDoor
open Go.RowKit
def clBad (m : D.Model) (a : Int) (s : D.Stmt) : Bool := bif bif bif bif a == m.Claim then s.Kind != 1 else false then s.Kind != 3 else false then s.Kind != 7 else false then s.Kind != 8 else false
def wayR (m : D.Model) (a : Int) (s : D.Stmt) : Bool :=
  statementP m s && (!clBad m a s && ((!decide (s.A ≥ 0) || usesT m a s.A (s.Kind == 1)) && ((!decide (s.B ≥ 0) || usesT m a s.B (s.Kind == 2)) && allI s.Args.length fun i => usesT m a (s.Args.getD i 0) false)))
theorem rway_spec {m : D.Model} {a : Int} {s : D.Stmt} (hr : Ready m) (ha0 : 0 ≤ a) (ha : a < m.Procs.length) (hs : SmallS s) : VSpec Tryz.prog 113 [] [.agg (enc_Model m), intV a, .agg (enc_Stmt s)] [] (boolV (wayR m a s)) := by
  have hlen := hs.a
  refine vspec_raw tb_ok mixed Tryz.func113 (by kernel_rfl) rfl (rway_raw _ m a s) ⟨statementP m s, rstmt_spec hs, ?_⟩
  change ((bif !(statementP m s) then true else clBad m a s) = true → _) ∧ ((bif !(statementP m s) then true else clBad m a s) = false → _)
  have e0 : wayR m a s = (statementP m s && (!clBad m a s && ((!decide (s.A ≥ 0) || usesT m a s.A (s.Kind == 1)) && ((!decide (s.B ≥ 0) || usesT m a s.B (s.Kind == 2)) && allI s.Args.length fun i => usesT m a (s.Args.getD i 0) false)))) := rfl
  generalize wayR m a s = b at e0 ⊢
  refine ⟨fun h => leafB ?_, fun h => ?_⟩
  · rw [e0]
    cases hq : statementP m s
    · rfl
    · rw [hq] at h
      rw [show clBad m a s = true by simpa using h]; rfl
  have hq : statementP m s = true := by
    cases hq : statementP m s with
    | true => rfl
    | false => rw [hq] at h; simp at h
  have hcl : clBad m a s = false := by rw [hq] at h; simpa using h
  rw [hq, hcl] at e0
  simp only [Bool.not_false, Bool.true_and] at e0
  obtain ⟨hin, hA, hB⟩ := stmt_in hq
  have loop : b = (allI s.Args.length fun i => usesT m a (s.Args.getD i 0) false) → SatC (fnCtx Tryz.prog tb shRf ann_rway true Tryz.f113 [] (boolV b)) [1, 1, 1, 1, 1, 0, 1, 0] (stRway m a s 0) := by
    intro e
    rw [e]
    refine loop_idx tb_ok mixed s.Args.length (fun j => stRway m a s j) (fun j => ∀ i, i < j → usesT m a (s.Args.getD i 0) false = true) (by kernel_rfl) (by kernel_rfl) (fun i hi => by omega) ?_
    intro j hj hI J next
    refine Asks.raw (rway1_raw _ m a s j J) ⟨fun hlt => ?_, fun hge => leafB ?_⟩
    · have hlt' : j < s.Args.length := by have := lt_of hlt; omega
      have hto : (j : Int).toNat = j := by omega
      rw [hto]
      have hx := hin _ (getD_mem (d := (0 : Int)) hlt')
      refine ⟨⟨by omega, by omega⟩, usesT m a (s.Args.getD j 0) false, ruses_spec hr ha0 ha hx.1 hx.2, fun hy => leafB ?_, fun hy => next _ hlt' (succ_of hI (by simpa using hy)) (Up.of ?_)⟩
      · exact (allI_no (f := fun i => usesT m a (s.Args.getD i 0) false) hlt' (by simpa using hy)).symm
      · rw [wrap_succ (by omega)]; rfl
    · have hge' : s.Args.length ≤ j := by have := ge_of hge; omega
      exact (allI_iff.2 fun i hi => hI i (by omega)).symm
  refine ⟨fun h1 => ⟨usesT m a s.A (s.Kind == 1), ruses_spec hr ha0 ha (by simpa using h1) (hA (by simpa using h1)), fun hy => leafB ?_, fun hy => ⟨fun h2 => ⟨usesT m a s.B (s.Kind == 2), ruses_spec hr ha0 ha (by simpa using h2) (hB (by simpa using h2)), fun hy2 => leafB ?_, fun hy2 => loop ?_⟩, fun h2 => loop ?_⟩⟩, fun h1 => ⟨fun h2 => ⟨usesT m a s.B (s.Kind == 2), ruses_spec hr ha0 ha (by simpa using h2) (hB (by simpa using h2)), fun hy2 => leafB ?_, fun hy2 => loop ?_⟩, fun h2 => loop ?_⟩⟩
  all_goals (try simp only [Bool.not_eq_true', Bool.not_eq_false'] at *)
  all_goals simp only [*, Bool.not_true, Bool.not_false, Bool.false_or, Bool.true_or, Bool.true_and, Bool.false_and, Bool.and_false]
def transR (m : D.Model) (a : Int) (w : List D.Trans) : Bool := allI w.length fun h => wayR m a (w.getD h default).S
def locR (m : D.Model) (a : Int) (l : D.Loc) : Bool := allI (waysP l).length fun j => transR m a ((waysP l).getD j [])
def waysR (m : D.Model) (a : Int) : Bool := (allI (prAt m a).Locs.length fun k => locR m a ((prAt m a).Locs.getD k default)) && (decide ((prAt m a).Provided < 0) || usesT m a (prAt m a).Provided false)
theorem smallS_of {s : D.Stmt} (h : wf_Stmt s) : SmallS s := ⟨h.Args.1, h.Match.1⟩
theorem rwaysall_spec {m : D.Model} {a : Int} (hr : Ready m) (ha0 : 0 ≤ a) (ha : a < m.Procs.length) (hpv : (prAt m a).Provided < m.Exprs.length) : VSpec Tryz.prog 76 [] [.agg (enc_Model m), intV a] [] (boolV (waysR m a)) := by
  have hwp : wf_Proc (prAt m a) := hr.wf.Procs.2 _ (getD_mem (by omega))
  refine vspec_raw tb_ok mixed Tryz.func76 (by kernel_rfl) rfl (rwaysall_raw _ m a) ⟨⟨ha0, ha⟩, ?_⟩
  have e0 : waysR m a = ((allI (prAt m a).Locs.length fun k => locR m a ((prAt m a).Locs.getD k default)) && (decide ((prAt m a).Provided < 0) || usesT m a (prAt m a).Provided false)) := rfl
  change SatC _ _ (stRways1 m a (prAt m a) 0)
  generalize waysR m a = b at e0 ⊢
  generalize prAt m a = p at e0 hwp hpv ⊢
  have hL := hwp.Locs.1
  refine loop_idx tb_ok mixed p.Locs.length (fun k => stRways1 m a p k) (fun k => ∀ i, i < k → locR m a (p.Locs.getD i default) = true) (by kernel_rfl) (by kernel_rfl) (fun i hi => by omega) ?_
  intro k hk hI J next
  refine Asks.raw (rways1_raw _ m a p k J) ⟨fun hlt => ?_, fun hge => ?_⟩
  · have hlt' : k < p.Locs.length := by have := lt_of hlt; omega
    have hto : (k : Int).toNat = k := by omega
    rw [hto]
    have hwl := hwp.Locs.2 _ (getD_mem (d := default) hlt')
    have no : locR m a (p.Locs.getD k default) = false → false = b := fun h => by
      rw [e0, allI_no (f := fun k => locR m a (p.Locs.getD k default)) hlt' h]; rfl
    have yes : locR m a (p.Locs.getD k default) = true → J (stRways1 m a p ((k : Int) + 1)) := fun h => next _ hlt' (succ_of hI h) (Up.of rfl)
    generalize p.Locs.getD k default = l at hwl no yes ⊢
    have ho := hwl.Out.1
    have hes := hwl.Esc.1
    refine ⟨⟨by omega, by omega⟩, waysP l, rways_spec hes, ?_⟩
    have hwsl : (waysP l).length ≤ 1048577 := by simp [waysP]; omega
    have hwse : ∀ w ∈ waysP l, w.length ≤ 1048576 ∧ ∀ t ∈ w, wf_Trans t := by
      intro w hw
      rcases List.mem_cons.1 hw with rfl | hw
      · exact hwl.Out
      · exact hwl.Esc.2 w hw
    unfold locR at no yes
    generalize waysP l = ws at no yes hwsl hwse ⊢
    refine loop_idx tb_ok mixed ws.length (fun j => stRways2 m a p k ws j) (fun j => ∀ i, i < j → transR m a (ws.getD i []) = true) (by kernel_rfl) (by kernel_rfl) (fun i hi => by omega) ?_
    intro j hj hI2 J2 next2
    refine Asks.raw (rways2_raw _ m a p k ws j J J2) ⟨fun hlt2 => ?_, fun hge2 => ?_⟩
    · have hlt2' : j < ws.length := by have := lt_of hlt2; omega
      have hto2 : (j : Int).toNat = j := by omega
      have hwle := hwse _ (getD_mem (d := []) hlt2')
      have no2 : transR m a (ws.getD j []) = false → false = b := fun h => no (allI_no (f := fun j => transR m a (ws.getD j [])) hlt2' h)
      have yes2 : transR m a (ws.getD j []) = true → J2 (stRways2 m a p k ws ((j : Int) + 1)) := fun h => next2 _ hlt2' (succ_of hI2 h) (Up.of rfl)
      refine loop_idx tb_ok mixed (ws.getD j []).length (fun h => stRways3 m a p k ws j h) (fun h => ∀ i, i < h → wayR m a ((ws.getD j []).getD i default).S = true) (by kernel_rfl) (by kernel_rfl) (fun i hi => by omega) ?_
      intro h3 hh3 hI3 J3 next3
      refine Asks.raw (rways3_raw _ m a p k ws j h3 J J2 J3) ?_
      rw [hto2]
      have hwl3 := hwle.1
      refine ⟨⟨by omega, by omega⟩, fun hlt3 => ?_, fun hge3 => ?_⟩
      · have hlt3' : h3 < (ws.getD j []).length := by have := lt_of hlt3; omega
        have hto3 : (h3 : Int).toNat = h3 := by omega
        rw [hto3]
        have hws := (hwle.2 _ (getD_mem (d := default) hlt3')).S
        refine ⟨⟨by omega, by omega⟩, ⟨by omega, by omega⟩, wayR m a ((ws.getD j []).getD h3 default).S, rway_spec hr ha0 ha (smallS_of hws), fun hy => leafB (no2 ?_), fun hy => next3 _ hlt3' (succ_of hI3 (by simpa using hy)) (Up.of ?_)⟩
        · exact allI_no (f := fun h => wayR m a ((ws.getD j []).getD h default).S) hlt3' (by simpa using hy)
        · rw [wrap_succ (by omega)]; rfl
      · have hge3' : (ws.getD j []).length ≤ h3 := by have := ge_of hge3; omega
        rw [wrap_succ (by omega)]
        exact yes2 (allI_iff.2 fun i hi => hI3 i (by omega))
    · have hge2' : ws.length ≤ j := by have := ge_of hge2; omega
      rw [wrap_succ (by omega)]
      exact yes (allI_iff.2 fun i hi => hI2 i (by omega))
  · have hge' : p.Locs.length ≤ k := by have := ge_of hge; omega
    rw [(allI_iff (n := p.Locs.length) (f := fun k => locR m a (p.Locs.getD k default))).2 fun i hi => hI i (by omega), Bool.true_and] at e0
    refine ⟨fun h2 => leafB ?_, fun h2 => ⟨usesT m a p.Provided false, ruses_spec hr ha0 ha ?_ hpv, leafB ?_⟩⟩
    · rw [e0, h2]; rfl
    · have := of_decide_eq_false h2; omega
    · rw [e0, h2]; rfl
def tabA (p : D.Proc) : Bool :=
  bif bif bif bif bif decide ((p.Frame.length : Int) > 128) then true else (p.Init.length : Int) != (p.Frame.length : Int) then true else decide (p.Params < 0) then true else decide (p.Params > (p.Frame.length : Int)) then true else decide ((p.Locs.length : Int) < 1) then true else decide ((p.Locs.length : Int) > 256)
def tabB (m : D.Model) (p : D.Proc) (y : Int) : Bool :=
  bif bif bif bif bif bif bif bif bif bif decide (y ≥ 0) then true else decide (p.Start < 0) then true else decide (p.Start ≥ (p.Locs.length : Int)) then true else decide (p.Final < 0) then true else decide (p.Final ≥ (p.Locs.length : Int)) then true else decide (p.Active < 0) then true else decide (p.Active > 16) then true else decide (p.Prio < 1) then true else decide (p.Prio > 255) then true else decide (p.Provided < (-1 : Int)) then true else decide (p.Provided ≥ (m.Exprs.length : Int))
def tabC (m : D.Model) (a : Int) (p : D.Proc) : Bool :=
  bif a == m.Claim then bif bif decide ((p.Frame.length : Int) > 0) then true else decide (p.Active > 0) then true else decide (p.Provided ≥ 0) else false
def tabL (m : D.Model) (a : Int) (p : D.Proc) (k : Int) (l : D.Loc) : Bool :=
  bif bif bif decide ((l.Esc.length : Int) > 8) then true else bif l.Dstep then l.Atomic else false then true else bif k == p.Final then bif decide ((l.Out.length : Int) > 0) then true else decide ((l.Esc.length : Int) > 0) else false then true else bif a == m.Claim then bif bif decide ((l.Esc.length : Int) > 0) then true else l.Atomic then true else l.Dstep else false
def toBad (p : D.Proc) (t : D.Trans) : Bool := bif decide (t.To < 0) then true else decide (t.To ≥ (p.Locs.length : Int))
def wayBad (j : Int) (w : List D.Trans) : Bool := bif decide (j > 0) then (w.length : Int) == 0 else false
def tabW (p : D.Proc) (ws : List (List D.Trans)) : Bool := allI ws.length fun j => !wayBad j (ws.getD j []) && allI (ws.getD j []).length fun h => !toBad p ((ws.getD j []).getD h default)
def lenW (ws : List (List D.Trans)) : Nat := (ws.map List.length).sum
def lenL (ls : List D.Loc) : Nat := (ls.map fun l => lenW (waysP l)).sum
def tableR (m : D.Model) (a : Int) : Bool :=
  !tabA (prAt m a) && (!tabB m (prAt m a) (typesP (prAt m a).Frame (prAt m a).Init) && (!tabC m a (prAt m a) &&
    ((allI (prAt m a).Locs.length fun k => !tabL m a (prAt m a) k ((prAt m a).Locs.getD k default) && tabW (prAt m a) (waysP ((prAt m a).Locs.getD k default))) && decide ((lenL (prAt m a).Locs : Int) ≤ 1024))))
theorem lenW_take {ws : List (List D.Trans)} {j : Nat} (hj : j < ws.length) : lenW (ws.take (j + 1)) = lenW (ws.take j) + (ws.getD j []).length := by
  unfold lenW; rw [take_push (d := []) hj, List.map_append, List.sum_append]; simp
theorem lenL_take {ls : List D.Loc} {j : Nat} (hj : j < ls.length) : lenL (ls.take (j + 1)) = lenL (ls.take j) + lenW (waysP (ls.getD j default)) := by
  unfold lenL; rw [take_push (d := default) hj, List.map_append, List.sum_append]; simp
theorem rtable_spec {m : D.Model} {a : Int} (hw : wf_Model m) (ha0 : 0 ≤ a) (ha : a < m.Procs.length) : VSpec Tryz.prog 75 [] [.agg (enc_Model m), intV a] [] (boolV (tableR m a)) := by
  have hwp : wf_Proc (prAt m a) := hw.Procs.2 _ (getD_mem (by omega))
  refine vspec_raw tb_ok mixed Tryz.func75 (by kernel_rfl) rfl (rtable_raw _ m a) ⟨⟨ha0, ha⟩, ?_⟩
  have e0 : tableR m a = (!tabA (prAt m a) && (!tabB m (prAt m a) (typesP (prAt m a).Frame (prAt m a).Init) && (!tabC m a (prAt m a) &&
    ((allI (prAt m a).Locs.length fun k => !tabL m a (prAt m a) k ((prAt m a).Locs.getD k default) && tabW (prAt m a) (waysP ((prAt m a).Locs.getD k default))) && decide ((lenL (prAt m a).Locs : Int) ≤ 1024))))) := rfl
  change (tabA (prAt m a) = true → _) ∧ (tabA (prAt m a) = false → ∃ y, VSpec _ _ _ [encL_Type true (prAt m a).Frame, encL_Int true (prAt m a).Init] _ _ ∧ (tabB m (prAt m a) y = true → _) ∧ (tabB m (prAt m a) y = false → (tabC m a (prAt m a) = true → _) ∧ (tabC m a (prAt m a) = false → SatC _ _ (stRtable1 m a (prAt m a) 0 0))))
  generalize tableR m a = b at e0 ⊢
  generalize prAt m a = p at e0 hwp ⊢
  have hfr := hwp.Frame.1
  refine ⟨fun h => leafB (by rw [e0, h]; rfl), fun h => ?_⟩
  have hA : p.Init.length = p.Frame.length ∧ p.Locs.length ≤ 256 := by
    unfold tabA at h; simp at h; omega
  rw [h] at e0
  refine ⟨typesP p.Frame p.Init, rtyped_spec (by omega) hfr, fun h2 => leafB (by rw [e0, h2]; rfl), fun h2 => ?_⟩
  rw [h2] at e0
  refine ⟨fun h3 => leafB (by rw [e0, h3]; rfl), fun h3 => ?_⟩
  rw [h3] at e0
  simp only [Bool.not_false, Bool.true_and] at e0
  refine loop_idx tb_ok mixed p.Locs.length (fun k => stRtable1 m a p (lenL (p.Locs.take k)) k) (fun k => (∀ i, i < k → (!tabL m a p i (p.Locs.getD i default) && tabW p (waysP (p.Locs.getD i default))) = true) ∧ lenL (p.Locs.take k) ≤ k * 9437184) (by kernel_rfl) (by kernel_rfl) ⟨fun i hi => by omega, by simp [lenL]⟩ ?_
  intro k hk ⟨hI, hmk⟩ J next
  refine Asks.raw (rtable1_raw _ m a p _ k J) ⟨fun hlt => ?_, fun hge => ?_⟩
  · have hlt' : k < p.Locs.length := by have := lt_of hlt; omega
    have hto : (k : Int).toNat = k := by omega
    rw [hto]
    have hwl := hwp.Locs.2 _ (getD_mem (d := default) hlt')
    have no : (!tabL m a p k (p.Locs.getD k default) && tabW p (waysP (p.Locs.getD k default))) = false → false = b := fun h => by
      rw [e0, allI_no (f := fun k : Nat => !tabL m a p k (p.Locs.getD k default) && tabW p (waysP (p.Locs.getD k default))) hlt' h]; rfl
    have hlt1 := lenL_take hlt'
    have yes : (!tabL m a p k (p.Locs.getD k default) && tabW p (waysP (p.Locs.getD k default))) = true → lenW (waysP (p.Locs.getD k default)) ≤ 9437184 → J (stRtable1 m a p ((lenL (p.Locs.take k) : Int) + lenW (waysP (p.Locs.getD k default))) ((k : Int) + 1)) := fun h h' => next _ hlt' ⟨fun i hi => by
        rcases Nat.lt_succ_iff_lt_or_eq.1 hi with h2 | rfl
        · exact hI i h2
        · exact h, by omega⟩ (Up.of (by rw [hlt1]; rfl))
    clear next
    generalize lenL (p.Locs.take k) = many at hmk yes ⊢
    generalize p.Locs.getD k default = l at hwl no yes ⊢
    have ho := hwl.Out.1
    have hes := hwl.Esc.1
    refine ⟨⟨by omega, by omega⟩, fun hy => leafB (no ?_), fun hy => ⟨waysP l, rways_spec hes, ?_⟩⟩
    · rw [show tabL m a p k l = true from hy]; rfl
    have hesc8 : l.Esc.length ≤ 8 := by
      have hy' : tabL m a p k l = false := hy
      unfold tabL at hy'
      simp only [bif_or, Bool.or_eq_false_iff, decide_eq_false_iff_not] at hy'
      omega
    rw [show tabL m a p k l = false from hy] at no yes
    simp only [Bool.not_false, Bool.true_and] at no yes
    have hwsl : (waysP l).length ≤ 9 := by simp [waysP]; omega
    have hwse : ∀ w ∈ waysP l, w.length ≤ 1048576 := by
      intro w hw
      rcases List.mem_cons.1 hw with rfl | hw
      · exact ho
      · exact (hwl.Esc.2 w hw).1
    generalize waysP l = ws at no yes hwsl hwse ⊢
    unfold tabW at no yes
    refine loop_idx tb_ok mixed ws.length (fun j => stRtable2 m a p ((many : Int) + lenW (ws.take j)) k ws j) (fun j => (∀ i : Nat, i < j → (!wayBad i (ws.getD i []) && allI (ws.getD i []).length fun h => !toBad p ((ws.getD i []).getD h default)) = true) ∧ lenW (ws.take j) ≤ j * 1048576) (by kernel_rfl) (by kernel_rfl) ⟨fun i hi => by omega, by simp [lenW]⟩ ?_ |> fun h => by rw [show (many : Int) + (lenW (ws.take 0) : Nat) = many by simp [lenW]] at h; exact h
    intro j hj ⟨hI2, hmj⟩ J2 next2
    refine Asks.raw (rtable2_raw _ m a p _ k ws j J J2) ⟨fun hlt2 => ?_, fun hge2 => ?_⟩
    · have hlt2' : j < ws.length := by have := lt_of hlt2; omega
      have hto2 : (j : Int).toNat = j := by omega
      rw [hto2]
      have hwle := hwse _ (getD_mem (d := []) hlt2')
      have hls := lenW_take hlt2'
      have no2 : (!wayBad j (ws.getD j []) && allI (ws.getD j []).length fun h => !toBad p ((ws.getD j []).getD h default)) = false → false = b := fun h => no (allI_no (f := fun j : Nat => !wayBad j (ws.getD j []) && allI (ws.getD j []).length fun h => !toBad p ((ws.getD j []).getD h default)) hlt2' h)
      have yes2 : (!wayBad j (ws.getD j []) && allI (ws.getD j []).length fun h => !toBad p ((ws.getD j []).getD h default)) = true → J2 (stRtable2 m a p ((many : Int) + (lenW (ws.take j) + (ws.getD j []).length : Nat)) k ws ((j : Int) + 1)) := fun h => next2 _ hlt2' ⟨fun i hi => by
        rcases Nat.lt_succ_iff_lt_or_eq.1 hi with h2 | rfl
        · exact hI2 i h2
        · exact h, by omega⟩ (Up.of (by rw [hls]; rfl))
      refine ⟨fun _ => ⟨by omega, by omega⟩, fun hy2 => leafB (no2 ?_), fun hy2 => ⟨⟨by omega, by omega⟩, ?_⟩⟩
      · rw [show wayBad j (ws.getD j []) = true from hy2]; rfl
      rw [show wayBad j (ws.getD j []) = false from hy2] at no2 yes2
      simp only [Bool.not_false, Bool.true_and] at no2 yes2
      have hN : IntKind.i64.wrap ((many : Int) + lenW (ws.take j) + ((ws.getD j []).length : Int)) = (many : Int) + (lenW (ws.take j) + (ws.getD j []).length : Nat) := by
        rw [wrap_id (by omega) (by omega)]; omega
      rw [hN]
      generalize (many : Int) + (lenW (ws.take j) + (ws.getD j []).length : Nat) = M at yes2 ⊢
      refine loop_idx tb_ok mixed (ws.getD j []).length (fun h => stRtable3 m a p M k ws j h) (fun h => ∀ i, i < h → (!toBad p ((ws.getD j []).getD i default)) = true) (by kernel_rfl) (by kernel_rfl) (fun i hi => by omega) ?_
      intro h3 hh3 hI3 J3 next3
      refine Asks.raw (rtable3_raw _ m a p M k ws j h3 J J2 J3) ?_
      rw [hto2]
      refine ⟨⟨by omega, by omega⟩, fun hlt3 => ?_, fun hge3 => ?_⟩
      · have hlt3' : h3 < (ws.getD j []).length := by have := lt_of hlt3; omega
        have hto3 : (h3 : Int).toNat = h3 := by omega
        rw [hto3]
        refine ⟨⟨by omega, by omega⟩, ⟨by omega, by omega⟩, fun _ => ⟨by omega, by omega⟩, fun _ => ⟨by omega, by omega⟩, fun hy => leafB (no2 ?_), fun hy => next3 _ hlt3' (succ_of hI3 ?_) (Up.of ?_)⟩
        · exact allI_no (f := fun h => !toBad p ((ws.getD j []).getD h default)) hlt3' (by show (!toBad p _) = false; rw [show toBad p ((ws.getD j []).getD h3 default) = true from hy]; rfl)
        · rw [show toBad p ((ws.getD j []).getD h3 default) = false from hy]; rfl
        · rw [wrap_succ (by omega)]; rfl
      · have hge3' : (ws.getD j []).length ≤ h3 := by have := ge_of hge3; omega
        rw [wrap_succ (by omega)]
        exact yes2 (allI_iff.2 fun i hi => hI3 i (by omega))
    · have hge2' : ws.length ≤ j := by have := ge_of hge2; omega
      rw [wrap_succ (by omega), List.take_of_length_le hge2']
      rw [List.take_of_length_le hge2'] at hmj
      exact yes (allI_iff.2 fun i hi => hI2 i (by omega)) (by have : j ≤ 9 := by omega
                                                              have := Nat.mul_le_mul_right 1048576 this; omega)
  · have hge' : p.Locs.length ≤ k := by have := ge_of hge; omega
    rw [(allI_iff (n := p.Locs.length) (f := fun k : Nat => !tabL m a p k (p.Locs.getD k default) && tabW p (waysP (p.Locs.getD k default)))).2 fun i hi => hI i (by omega), Bool.true_and] at e0
    rw [List.take_of_length_le hge']
    exact leafB e0.symm
theorem tableR_in {m : D.Model} {a : Int} (h : tableR m a = true) : (prAt m a).Provided < m.Exprs.length ∧ 0 ≤ (prAt m a).Active ∧ (prAt m a).Active ≤ 16 := by
  unfold tableR at h
  simp only [Bool.and_eq_true, Bool.not_eq_true'] at h
  have hb := h.2.1
  unfold tabB at hb
  simp only [bif_or, Bool.or_eq_false_iff, decide_eq_false_iff_not] at hb
  omega
end Go.Proofs.YtiaebjpcgjkhoaaGreatDoor
namespace Go.Proofs.YtiaebjpcgjkhoaaGreatDoor
open Go.RowKit
theorem rtables_spec {m : D.Model} (hw : wf_Model m) : VSpec Tryz.prog 74 [] [.agg (enc_Model m)] [] (.tup [intV (tablesP m).1, intV (tablesP m).2]) := by
  have hG := hw.Globals.1
  have hS := hw.Shapes.1
  have hC := hw.Chans.1
  have hE := hw.Exprs.1
  have hPr := hw.Procs.1
  refine vspec_raw tb_ok mixed Tryz.func74 (by kernel_rfl) rfl (rtables_raw _ _ m) ?_
  have t1 : (bif decide ((m.Globals.length : Int) > 128) then true else (m.Init.length : Int) != (m.Globals.length : Int)) = (decide (128 < m.Globals.length) || !decide (m.Init.length = m.Globals.length)) := by rw [Bool.eq_iff_iff]; simp; omega
  have t2 : (bif decide ((m.Shapes.length : Int) > 32) then true else decide ((m.Chans.length : Int) > 32)) = (decide (32 < m.Shapes.length) || decide (32 < m.Chans.length)) := by rw [Bool.eq_iff_iff]; simp; omega
  have t3 : (bif bif bif bif decide ((m.Procs.length : Int) < 1) then true else decide ((m.Procs.length : Int) > 16) then true else decide (m.Claim < (-1 : Int)) then true else decide (m.Claim ≥ (m.Procs.length : Int)) then true else decide ((m.Exprs.length : Int) > 4096)) =
      (decide (m.Procs.length < 1) || (decide (16 < m.Procs.length) || (decide (m.Claim < -1) || (decide ((m.Procs.length : Int) ≤ m.Claim) || decide (4096 < m.Exprs.length))))) := by
    have u1 : decide ((m.Procs.length : Int) < 1) = decide (m.Procs.length < 1) := by rw [Bool.eq_iff_iff, decide_eq_true_eq, decide_eq_true_eq]; omega
    have u2 : decide ((m.Procs.length : Int) > 16) = decide (16 < m.Procs.length) := ngt _ 16
    have u3 : decide ((m.Exprs.length : Int) > 4096) = decide (4096 < m.Exprs.length) := ngt _ 4096
    rw [u1, u2, u3]; simp only [bif_or, Bool.or_assoc]
  rw [t1, t2]
  generalize hR : tablesP m = R
  unfold tablesP at hR
  refine ⟨fun h => leaf2 (by rw [h, cond_true] at hR; exact hR), fun h => ⟨typesP m.Globals m.Init, rtyped_spec (by simp at h; omega) hG, fun h2 => leaf2 (by rw [h, cond_false, h2, cond_true] at hR; exact hR), fun h2 => ⟨fun h3 => leaf2 ?_, fun h3 => ?_⟩⟩⟩
  · rw [h, cond_false, h2, cond_false, h3, cond_true] at hR; exact hR
  rw [h, cond_false, h2, cond_false, h3, cond_false] at hR
  refine loop_idx tb_ok mixed m.Shapes.length (fun k => stRtab1 m k) (fun k => ∀ i, i < k → shapeP (m.Shapes.getD i default) = true) (by kernel_rfl) (by kernel_rfl) (fun i hi => by omega) ?_
  intro k hk hI J next
  refine Asks.raw (rtab1_raw _ _ m k J) ⟨fun hlt => ?_, fun hge => ?_⟩
  · have hlt' : k < m.Shapes.length := by have := lt_of hlt; omega
    refine ⟨⟨by omega, by omega⟩, shapeP (m.Shapes.getD k default), rshape_spec (hw.Shapes.2 _ (getD_mem hlt')), fun hy => leaf2 ?_, fun hy => next _ hlt' (succ_of hI (by simpa using hy)) (Up.of ?_)⟩
    · have e : shapesP m = k := badI_some (f := fun i => shapeP (m.Shapes.getD i default)) hI hlt' (by simpa using hy)
      rw [e, show decide ((0 : Int) ≤ (k : Int)) = true by simp, cond_true] at hR
      exact hR
    · rw [wrap_succ (by omega)]; rfl
  have hge' : m.Shapes.length ≤ k := by have := ge_of hge; omega
  have es : shapesP m = -1 := badI_none (f := fun i => shapeP (m.Shapes.getD i default)) fun i hi => hI i (by omega)
  rw [es, show decide ((0 : Int) ≤ -1) = false from rfl, cond_false] at hR
  clear hI next
  refine loop_idx tb_ok mixed m.Chans.length (fun k => stRtab2 m k) (fun k => ∀ i, i < k → inP m.Shapes.length (m.Chans.getD i 0) = true) (by kernel_rfl) (by kernel_rfl) (fun i hi => by omega) ?_
  intro k hk hI J next
  refine Asks.raw (rtab2_raw _ _ m k J) ⟨fun hlt => ?_, fun hge => ?_⟩
  · have hlt' : k < m.Chans.length := by have := lt_of hlt; omega
    have hto : (k : Int).toNat = k := by omega
    rw [hto]
    have hin : inP m.Shapes.length (m.Chans.getD k 0) = !(bif decide (m.Chans.getD k 0 < 0) then true else decide (m.Chans.getD k 0 ≥ (m.Shapes.length : Int))) := by unfold inP; rw [Bool.eq_iff_iff]; simp
    refine ⟨⟨by omega, by omega⟩, fun _ => ⟨by omega, by omega⟩, fun hy => leaf2 ?_, fun hy => next _ hlt' (succ_of hI (by rw [hin, hy]; rfl)) (Up.of ?_)⟩
    · have e : chansP m = k := badI_some (f := fun i => inP m.Shapes.length (m.Chans.getD i 0)) hI hlt' (by show inP _ _ = false; rw [hin, hy]; rfl)
      rw [e, show decide ((0 : Int) ≤ (k : Int)) = true by simp, cond_true] at hR
      exact hR
    · rw [wrap_succ (by omega)]; rfl
  have hge' : m.Chans.length ≤ k := by have := ge_of hge; omega
  have ec : chansP m = -1 := badI_none (f := fun i => inP m.Shapes.length (m.Chans.getD i 0)) fun i hi => hI i (by omega)
  rw [ec, show decide ((0 : Int) ≤ -1) = false from rfl, cond_false] at hR
  rw [t3]
  refine ⟨fun h4 => leaf2 (by rw [h4, cond_true] at hR; exact hR), fun h4 => ⟨⟨by omega, by omega, by omega⟩, ?_⟩⟩
  rw [h4, cond_false] at hR
  clear hI next
  have hnn : ((m.Exprs.length : Int).toNat) = (noneSeen m).length := by simp [noneSeen]
  have hnl : (noneSeen m).length = m.Exprs.length := by simp [noneSeen]
  refine SatC.le (l' := [(1, .bp 0 0), (8, .ow 1 0 (noneSeen m).length), (9, intV 0)]) (hs' := [.box (enc_Model m), .arr true 0 (noneSeen m).length 1 (rowsBo (noneSeen m))]) ?_ ?_ ?_
  · rw [hnn]; exact leT_refl _
  · rw [hnn]
    refine ⟨Ob.le_refl _, Ob.le_arr fun i hi => leL_eq ?_, trivial⟩
    have : (noneSeen m).getD i false = false := by
      have hi' : i < m.Exprs.length := by rw [← hnl]; exact hi
      simp [noneSeen, List.getD, hi']
    show _ = [boolV ((noneSeen m).getD i false)]
    rw [this]; rfl
  generalize hX : exprsP m = X at hR
  have fin : ∀ {y : Int × Int}, (bif decide (0 ≤ X) then ((3 : Int), X) else (0, 0)) = y → y = R := fun h => by rw [← h]; exact hR
  refine loop_raw tb_ok mixed (fun g st => ∃ (k : Nat) (had : List Bool), k ≤ m.Exprs.length ∧ g = m.Exprs.length - k ∧ had.length = m.Exprs.length ∧ exprsL m (m.Exprs.length - k) k had = X ∧ st = stRtab3 m had k) (by kernel_rfl) (by kernel_rfl) ⟨_, Up.of ⟨0, noneSeen m, Nat.zero_le _, rfl, hnl, hX, rfl⟩⟩ ?_
  rintro g st ⟨k, had, hk, rfl, hhl, hr, rfl⟩
  refine Asks.raw (rtab3_raw _ _ m had k _) ⟨fun hlt => ?_, fun hge => leaf2 (fin ?_)⟩
  · have hlt' : k < m.Exprs.length := by have := lt_of hlt; omega
    have hto : (k : Int).toNat = k := by omega
    rw [hto]
    have hwx : wf_Expr (m.Exprs.getD k default) := hw.Exprs.2 _ (getD_mem hlt')
    rw [show m.Exprs.length - k = (m.Exprs.length - (k + 1)) + 1 by omega] at hr
    unfold exprsL at hr
    refine ⟨exprP m k, rexpr_spec (by omega) (by omega) (by unfold exAt; rw [hto]; exact hwx) hPr, fun hy => leaf2 (fin ?_), fun hy => ⟨⟨by omega, by omega⟩, heldP (m.Exprs.getD k default), rheld_spec hwx.Args.1 hwx.V.Dims.1, ?_⟩⟩
    · rw [show exprP m k = false by simpa using hy, cond_false] at hr
      rw [← hr, show decide ((0 : Int) ≤ (k : Int)) = true by simp, cond_true]
    · have hye : exprP m k = true := by simpa using hy
      rw [hye, cond_true] at hr
      have hin := held_in hye
      have hhlen := held_len hwx.Args.1 hwx.V.Dims.1
      unfold exAt at hin
      rw [hto] at hin
      generalize heldP (m.Exprs.getD k default) = l at hin hhlen hr ⊢
      generalize ho : hadL had l = o at hr
      refine loop_raw tb_ok mixed (fun g st => ∃ (j : Nat) (had' : List Bool), j ≤ l.length ∧ g = l.length - j ∧ had'.length = m.Exprs.length ∧ hadL had' (l.drop j) = o ∧ st = stRtab4 m had' k l j) (by kernel_rfl) (by kernel_rfl) ⟨_, Up.of ⟨0, had, Nat.zero_le _, rfl, hhl, ho, rfl⟩⟩ ?_
      rintro g st ⟨j, had', hj, rfl, hhl', hq, rfl⟩
      refine Asks.raw (rtab4_raw _ _ m had' k l j _ _) ⟨fun hlt2 => ?_, fun hge2 => ?_⟩
      · have hlt2' : j < l.length := by have := lt_of hlt2; omega
        have hto2 : (j : Int).toNat = j := by omega
        rw [hto2]
        have hpi := hin _ (getD_mem (d := 0) hlt2')
        rw [drop_cons (d := 0) hlt2'] at hq
        generalize l.getD j 0 = p at hpi hq ⊢
        unfold hadL at hq
        refine ⟨⟨by omega, by omega⟩, ⟨by omega, by omega⟩, fun hy => leaf2 (fin ?_), fun hy => ⟨⟨by omega, by omega⟩, ⟨by omega, by omega⟩, l.length - (j + 1), by omega, ?_⟩⟩
        · rw [hy, cond_true] at hq
          rw [← hq] at hr
          rw [← hr, show decide ((0 : Int) ≤ (k : Int)) = true by simp, cond_true]
        · rw [hy, cond_false] at hq
          have hsl : (had'.set p.toNat true).length = had'.length := by simp
          rw [wrap_succ (by omega)]
          refine Up.mk (l' := [(1, .bp 0 0), (8, .ow 1 0 (had'.set p.toNat true).length), (9, intV k), (11, encL_Int true l), (12, intV ((j + 1 : Nat) : Int))])
            (hs' := [.box (enc_Model m), .arr true 0 (had'.set p.toNat true).length 1 (rowsBo (had'.set p.toNat true))]) ?_ ?_ ⟨j + 1, had'.set p.toNat true, by omega, rfl, by rw [hsl]; exact hhl', hq, rfl⟩
          · rw [hsl]; exact leT_refl _
          · rw [hsl]
            exact ⟨Ob.le_refl _, Ob.le_arr fun i hi => leL_eq (set_row hi), trivial⟩
      · have hge2' : l.length ≤ j := by have := ge_of hge2; omega
        rw [List.drop_eq_nil_of_le hge2'] at hq
        unfold hadL at hq
        rw [← hq] at hr
        rw [wrap_succ (by omega)]
        exact ⟨m.Exprs.length - (k + 1), by omega, Up.of ⟨k + 1, had', by omega, rfl, hhl', hr, rfl⟩⟩
  · have hge' : m.Exprs.length ≤ k := by have := ge_of hge; omega
    rw [show m.Exprs.length - k = 0 by omega] at hr
    unfold exprsL at hr
    rw [← hr]; rfl
def tabsR (m : D.Model) : Int := badI m.Procs.length fun i : Nat => tableR m i
def allR (m : D.Model) : Int := badI m.Procs.length fun i : Nat => waysR m i
def checkR (m : D.Model) : Int × Int × Int :=
  bif decide (0 < (tablesP m).1) then (40, tablesP m) else bif decide (0 ≤ tabsR m) then (40, 4, tabsR m) else bif decide (16 < manyP m m.Procs.length) then (40, 5, -1)
  else bif decide (0 ≤ allR m) then (40, 6, allR m) else (0, 0, 0)
def mayR (m : D.Model) : Bool := (checkR m).1 == 0
theorem rcheck_spec {m : D.Model} (hw : wf_Model m) : VSpec Tryz.prog 48 [] [.agg (enc_Model m)] [] (.tup [intV (checkR m).1, intV (checkR m).2.1, intV (checkR m).2.2]) := by
  have hP := hw.Procs.1
  refine vspec_raw tb_ok mixed Tryz.func48 (by kernel_rfl) rfl (rcheck_raw _ _ _ m) ⟨tablesP m, rtables_spec hw, ?_⟩
  generalize hR : checkR m = R
  unfold checkR at hR
  refine ⟨fun h => leaf3 (by rw [show decide (0 < (tablesP m).1) = true from h, cond_true] at hR; exact hR), fun h => ?_⟩
  have hready := tables_ready hw (of_decide_eq_false h)
  rw [show decide (0 < (tablesP m).1) = false from h, cond_false] at hR
  refine loop_idx tb_ok mixed m.Procs.length (fun k => stRcheck1 m (manyP m k) k) (fun k => (∀ i : Nat, i < k → tableR m i = true) ∧ 0 ≤ manyP m k ∧ manyP m k ≤ 16 * k) (by kernel_rfl) (by kernel_rfl) ⟨fun i hi => by omega, by simp [manyP], by simp [manyP]⟩ ?_
  intro k hk ⟨hI, hm0, hm1⟩ J next
  refine Asks.raw (rcheck1_raw _ _ _ m (manyP m k) k J) ⟨fun hlt => ?_, fun hge => ?_⟩
  · have hlt' : k < m.Procs.length := by have := lt_of hlt; omega
    have hto : (k : Int).toNat = k := by omega
    rw [hto]
    refine ⟨tableR m k, rtable_spec hw (by omega) (by omega), fun hy => leaf3 ?_, fun hy => ⟨⟨by omega, by omega⟩, ?_⟩⟩
    · have e : tabsR m = k := badI_some (f := fun i : Nat => tableR m i) hI hlt' (by simpa using hy)
      rw [e, show decide ((0 : Int) ≤ (k : Int)) = true by simp, cond_true] at hR
      exact hR
    · have hy' : tableR m k = true := by simpa using hy
      have hac := (tableR_in hy').2
      unfold prAt at hac
      rw [hto] at hac
      have hms := many_succ hlt'
      refine next _ hlt' ⟨succ_of hI hy', by omega, by omega⟩ (Up.of ?_)
      rw [hms, wrap_succ (by omega), wrap_id (n := manyP m k + _) (by omega) (by omega)]; rfl
  · have hge' : k = m.Procs.length := by have := ge_of hge; omega
    subst hge'
    have e : tabsR m = -1 := badI_none (f := fun i : Nat => tableR m i) fun i hi => hI i (by omega)
    rw [e, show decide ((0 : Int) ≤ -1) = false from rfl, cond_false] at hR
    refine ⟨fun h2 => leaf3 (by rw [show decide (16 < manyP m m.Procs.length) = true from h2, cond_true] at hR; exact hR), fun h2 => ?_⟩
    rw [show decide (16 < manyP m m.Procs.length) = false from h2, cond_false] at hR
    have hpv : ∀ i : Nat, i < m.Procs.length → (prAt m i).Provided < m.Exprs.length := fun i hi => (tableR_in (hI i hi)).1
    clear hI next
    refine loop_idx tb_ok mixed m.Procs.length (fun k => stRcheck2 m k) (fun k => ∀ i : Nat, i < k → waysR m i = true) (by kernel_rfl) (by kernel_rfl) (fun i hi => by omega) ?_
    intro k hk hI J next
    refine Asks.raw (rcheck2_raw _ _ _ m k J) ⟨fun hlt => ?_, fun hge => leaf3 ?_⟩
    · have hlt' : k < m.Procs.length := by have := lt_of hlt; omega
      refine ⟨waysR m k, rwaysall_spec hready (by omega) (by omega) (hpv _ (by omega)), fun hy => leaf3 ?_, fun hy => next _ hlt' (succ_of hI (by simpa using hy)) (Up.of ?_)⟩
      · have e : allR m = k := badI_some (f := fun i : Nat => waysR m i) hI hlt' (by simpa using hy)
        rw [e, show decide ((0 : Int) ≤ (k : Int)) = true by simp, cond_true] at hR
        exact hR
      · rw [wrap_succ (by omega)]; rfl
    · have hge' : m.Procs.length ≤ k := by have := ge_of hge; omega
      have e : allR m = -1 := badI_none (f := fun i : Nat => waysR m i) fun i hi => hI i (by omega)
      rw [e, show decide ((0 : Int) ≤ -1) = false from rfl, cond_false] at hR
      exact hR
theorem rmay11_spec {m : D.Model} (hw : wf_Model m) : VSpec Tryz.prog 26 [] [.agg (enc_Model m)] [] (boolV (mayR m)) :=
  vspec_raw tb_ok mixed Tryz.func26 (by kernel_rfl) rfl (rmay11_raw _ m) ⟨checkR m, rcheck_spec hw, leafB rfl⟩
theorem mayR_tab {m : D.Model} (h : mayR m = true) : tablesP m = (0, 0) := by
  unfold mayR checkR at h
  have hx : ¬ 0 < (tablesP m).1 := by
    intro hc
    rw [show decide (0 < (tablesP m).1) = true by simpa using hc, cond_true] at h
    simp at h
  have cases2 : (tablesP m) = (0, 0) ∨ 0 < (tablesP m).1 := by
    unfold tablesP
    generalize (decide (128 < m.Globals.length) || !decide (m.Init.length = m.Globals.length)) = b1
    generalize decide (0 ≤ typesP m.Globals m.Init) = b2
    generalize (decide (32 < m.Shapes.length) || decide (32 < m.Chans.length)) = b3
    generalize decide (0 ≤ shapesP m) = b4
    generalize decide (0 ≤ chansP m) = b5
    generalize (decide (m.Procs.length < 1) || (decide (16 < m.Procs.length) || (decide (m.Claim < -1) || (decide ((m.Procs.length : Int) ≤ m.Claim) || decide (4096 < m.Exprs.length))))) = b6
    generalize decide (0 ≤ exprsP m) = b7
    cases b1 <;> cases b2 <;> cases b3 <;> cases b4 <;> cases b5 <;> cases b6 <;> cases b7 <;> simp
  exact cases2.resolve_right hx
theorem rtypedb_spec {t : List D.Type} {l : List Int} (hl : Len l.length) : VSpec Tryz.prog 23 [] [encL_Type true t, encL_Int true l] [] (boolV (typedP t l)) := by
  unfold Len at hl
  refine vspec_raw tb_ok mixed Tryz.func23 (by kernel_rfl) rfl (rtypedb_raw _ t l) ⟨fun h => leafB ?_, fun h => ?_⟩
  · unfold typedP
    have : decide (t.length = l.length) = false := by simp at h; simp; omega
    rw [this, Bool.false_and]
  · have hlen : t.length = l.length := by simp at h; omega
    have e : typedP t l = allI l.length fun i => fitsP (t.getD i default) (l.getD i 0) := by unfold typedP; rw [show decide (t.length = l.length) = true by simpa using hlen, Bool.true_and]
    rw [e]
    refine loop_idx tb_ok mixed t.length (fun k => stRtypedb t l k) (fun k => ∀ i, i < k → fitsP (t.getD i default) (l.getD i 0) = true) (by kernel_rfl) (by kernel_rfl) (fun i hi => by omega) ?_
    intro k hk hI J next
    refine Asks.raw (rtypedb1_raw _ t l k J) ⟨fun hlt => ?_, fun hge => leafB ?_⟩
    · have hlt' : k < t.length := by have := lt_of hlt; omega
      refine ⟨⟨by omega, by omega⟩, ⟨by omega, by omega⟩, fitsP (t.getD k default) (l.getD k 0), rfits_spec _ _, fun hy => leafB ?_, fun hy => next _ hlt' (succ_of hI (by simpa using hy)) (Up.of ?_)⟩
      · exact (allI_no (n := l.length) (k := k) (f := fun i => fitsP (t.getD i default) (l.getD i 0)) (by omega) (by simpa using hy)).symm
      · rw [wrap_succ (by omega)]; rfl
    · have hge' : t.length ≤ k := by have := ge_of hge; omega
      exact (allI_iff.2 fun i hi => hI i (by omega)).symm
theorem rmay_spec {m : D.Model} {s : D.State} (hs : SmallS' s) (hcl : m.Claim < m.Procs.length) : VSpec Tryz.prog 10 [] [.agg (enc_Model m), .agg (enc_State s)] [] (boolV (stFits m s)) := by
  have hc := hs.c
  have hp := hs.p
  unfold Len at hc hp
  have ht : (bif bif bif bif bif bif bif !(typedP m.Globals s.Globals) then true else decide ((s.Chans.length : Int) > 32) then true else decide ((s.Procs.length : Int) > 16) then true else decide (s.Last < 0) then true else decide (s.Last > 15) then true else decide (s.Alone < (-1 : Int)) then true else decide (s.Alone ≥ (s.Procs.length : Int)) then true else bif decide (m.Claim < 0) then s.Claim != (-1 : Int) else false) =
      !(headP m s && (bif decide (m.Claim < 0) then decide (s.Claim = -1) else true)) := by
    unfold headP
    cases typedP m.Globals s.Globals
    · rfl
    · cases decide (m.Claim < 0)
      · rw [Bool.eq_iff_iff]; simp; omega
      · rw [Bool.eq_iff_iff]; simp; omega
  refine vspec_raw tb_ok mixed Tryz.func10 (by kernel_rfl) rfl (rmay_raw _ m s) ⟨typedP m.Globals s.Globals, rtypedb_spec hs.g, ?_⟩
  rw [ht]
  have e0 : stFits m s = (headP m s && (allI s.Chans.length fun i => chanP m (s.Chans.getD i default)) && (allI s.Procs.length fun i => processP m (s.Procs.getD i default)) && claimAt m s) := rfl
  generalize stFits m s = b at e0 ⊢
  refine ⟨fun h => leafB ?_, fun h => ⟨fun h2 => ?_, fun h2 => leafB ?_, fun h2 => ?_⟩⟩
  · rw [e0]; unfold claimAt
    cases hq : headP m s
    · rfl
    · rw [hq] at h
      cases hq2 : decide (m.Claim < 0)
      · rw [hq2] at h; simp at h
      · rw [hq2] at h
        simp only [cond_true, Bool.true_and, Bool.not_eq_true'] at h
        simp only [cond_true, h, Bool.and_false]
  · simp only [Bool.true_and, beq_true, Bool.and_eq_true, decide_eq_true_eq] at h2
    omega
  · rw [e0]; unfold claimAt
    cases hq2 : decide (m.Claim < 0)
    · rw [show decide (m.Claim ≥ 0) = true by simp at hq2 ⊢; omega, cond_true] at h2
      rw [cond_false, show inP (prAt m m.Claim).Locs.length s.Claim = false from ?_, Bool.and_false]
      have h2' : (bif decide (s.Claim < 0) then true else decide (s.Claim ≥ ((prAt m m.Claim).Locs.length : Int))) = true := h2
      rw [Bool.eq_false_iff]; intro hc; unfold inP at hc; simp at hc h2'; omega
    · rw [show decide (m.Claim ≥ 0) = false by simp at hq2 ⊢; omega, cond_false] at h2
      cases h2
  have hh : headP m s = true ∧ claimAt m s = true := by
    simp only [Bool.not_eq_false', Bool.and_eq_true] at h
    refine ⟨h.1, ?_⟩
    unfold claimAt
    have h3 := h.2
    cases hq2 : decide (m.Claim < 0)
    · rw [show decide (m.Claim ≥ 0) = true by simp at hq2 ⊢; omega, cond_true] at h2
      rw [cond_false]
      have h2' : (bif decide (s.Claim < 0) then true else decide (s.Claim ≥ ((prAt m m.Claim).Locs.length : Int))) = false := h2
      unfold inP; simp at h2' ⊢; omega
    · rw [hq2, cond_true] at h3; exact h3
  rw [hh.1, hh.2, Bool.true_and, Bool.and_true] at e0
  refine loop_idx tb_ok mixed s.Chans.length (fun k => stRmay1 m s k) (fun k => ∀ i, i < k → chanP m (s.Chans.getD i default) = true) (by kernel_rfl) (by kernel_rfl) (fun i hi => by omega) ?_
  intro k hk hI J next
  refine Asks.raw (rmay1_raw _ m s k J) ⟨fun hlt => ?_, fun hge => ?_⟩
  · have hlt' : k < s.Chans.length := by have := lt_of hlt; omega
    have hto : (k : Int).toNat = k := by omega
    rw [hto]
    have hsm := hs.cs _ (getD_mem (d := default) hlt')
    have no : chanP m (s.Chans.getD k default) = false → false = b := fun h => by
      rw [e0, allI_no (f := fun i => chanP m (s.Chans.getD i default)) hlt' h]; rfl
    have yes : chanP m (s.Chans.getD k default) = true → J (stRmay1 m s ((k : Int) + 1)) := fun h => next _ hlt' (succ_of hI h) (Up.of rfl)
    clear next
    generalize s.Chans.getD k default = c at hsm no yes ⊢
    have hq := hsm.q
    unfold Len at hq
    have hsh : (m.Shapes.getD c.Shape.toNat default) = shAt m c.Shape := rfl
    rw [hsh]
    have ecp : chanP m c = (inP m.Shapes.length c.Shape && decide ((c.Queue.length : Int) ≤ (shAt m c.Shape).Room) && allI c.Queue.length fun i => typedP (shAt m c.Shape).Fields (c.Queue.getD i [])) := rfl
    refine ⟨⟨by omega, by omega⟩, fun hy => ?_, fun hy => leafB (no ?_), fun hy => ?_⟩
    · simp at hy; omega
    · rw [ecp]
      cases hin : inP m.Shapes.length c.Shape
      · rfl
      · have := inP_iff.1 hin
        rw [show decide ((c.Queue.length : Int) ≤ (shAt m c.Shape).Room) = false from ?_]
        · rfl
        · generalize (shAt m c.Shape).Room = rm at hy ⊢
          simp at hy ⊢; omega
    have hin : 0 ≤ c.Shape ∧ c.Shape < m.Shapes.length ∧ (c.Queue.length : Int) ≤ (shAt m c.Shape).Room := by
      generalize (shAt m c.Shape).Room = rm at hy ⊢
      simp at hy; omega
    rw [inP_iff.2 ⟨hin.1, hin.2.1⟩, show decide ((c.Queue.length : Int) ≤ (shAt m c.Shape).Room) = true by simpa using hin.2.2, Bool.true_and, Bool.true_and] at ecp
    rw [ecp] at no yes
    refine loop_idx tb_ok mixed c.Queue.length (fun j => stRmay2 m s k c j) (fun j => ∀ i, i < j → typedP (shAt m c.Shape).Fields (c.Queue.getD i []) = true) (by kernel_rfl) (by kernel_rfl) (fun i hi => by omega) ?_
    intro j hj hI2 J2 next2
    refine Asks.raw (rmay2_raw _ m s k c j J J2) ⟨fun hlt2 => ?_, fun hge2 => ?_⟩
    · have hlt2' : j < c.Queue.length := by have := lt_of hlt2; omega
      have hto2 : (j : Int).toNat = j := by omega
      rw [hto2]
      refine ⟨⟨hin.1, hin.2.1⟩, ⟨by omega, by omega⟩, typedP (shAt m c.Shape).Fields (c.Queue.getD j []), rtypedb_spec (hsm.m _ (getD_mem hlt2')), fun hy => leafB (no ?_), fun hy => next2 _ hlt2' (succ_of hI2 (by simpa using hy)) (Up.of ?_)⟩
      · exact allI_no (f := fun i => typedP (shAt m c.Shape).Fields (c.Queue.getD i [])) hlt2' (by simpa using hy)
      · rw [wrap_succ (by omega)]; rfl
    · have hge2' : c.Queue.length ≤ j := by have := ge_of hge2; omega
      rw [wrap_succ (by omega)]
      exact yes (allI_iff.2 fun i hi => hI2 i (by omega))
  have hge' : s.Chans.length ≤ k := by have := ge_of hge; omega
  rw [(allI_iff (n := s.Chans.length) (f := fun i => chanP m (s.Chans.getD i default))).2 fun i hi => hI i (by omega), Bool.true_and] at e0
  clear hI next
  refine loop_idx tb_ok mixed s.Procs.length (fun k => stRmay3 m s k) (fun k => ∀ i, i < k → processP m (s.Procs.getD i default) = true) (by kernel_rfl) (by kernel_rfl) (fun i hi => by omega) ?_
  intro k hk hI J next
  refine Asks.raw (rmay3_raw _ m s k J) ⟨fun hlt => ?_, fun hge => leafB ?_⟩
  · have hlt' : k < s.Procs.length := by have := lt_of hlt; omega
    have hto : (k : Int).toNat = k := by omega
    rw [hto]
    have hsm := hs.ps _ (getD_mem (d := default) hlt')
    have no : processP m (s.Procs.getD k default) = false → false = b := fun h => by
      rw [e0, allI_no (f := fun i => processP m (s.Procs.getD i default)) hlt' h]
    have yes : processP m (s.Procs.getD k default) = true → J (stRmay3 m s ((k : Int) + 1)) := fun h => next _ hlt' (succ_of hI h) (Up.of rfl)
    clear next
    generalize s.Procs.getD k default = p at hsm no yes ⊢
    have hpr : m.Procs.getD p.Type_.toNat default = prAt m p.Type_ := rfl
    rw [hpr]
    have ep : processP m p = (procP m p.Type_ && inP (prAt m p.Type_).Locs.length p.Loc && decide (p.Prio = (prAt m p.Type_).Prio) && typedP (prAt m p.Type_).Frame p.Frame) := rfl
    refine ⟨⟨by omega, by omega⟩, fun hy => leafB (no ?_), fun hy => ?_⟩
    · rw [ep, show procP m p.Type_ = false from ?_]
      · rfl
      · unfold procP; rw [Bool.eq_false_iff]; intro hc; simp at hc hy; omega
    have hpp : 0 ≤ p.Type_ ∧ p.Type_ < m.Procs.length ∧ p.Type_ ≠ m.Claim := by simp at hy; omega
    rw [show procP m p.Type_ = true by unfold procP; simp; omega, Bool.true_and] at ep
    refine ⟨⟨hpp.1, hpp.2.1⟩, typedP (prAt m p.Type_).Frame p.Frame, rtypedb_spec hsm, ?_⟩
    have ht2 : (bif bif bif !(typedP (prAt m p.Type_).Frame p.Frame) then true else decide (p.Loc < 0) then true else decide (p.Loc ≥ ((prAt m p.Type_).Locs.length : Int)) then true else p.Prio != (prAt m p.Type_).Prio) = !(processP m p) := by
      rw [ep]; unfold inP
      cases typedP (prAt m p.Type_).Frame p.Frame
      · simp
      · rw [Bool.eq_iff_iff]; simp <;> omega
    rw [ht2]
    refine ⟨fun hy2 => leafB (no (by simpa using hy2)), fun hy2 => ?_⟩
    rw [wrap_succ (by omega)]
    exact yes (by simpa using hy2)
  have hge' : s.Procs.length ≤ k := by have := ge_of hge; omega
  rw [(allI_iff (n := s.Procs.length) (f := fun i => processP m (s.Procs.getD i default))).2 fun i hi => hI i (by omega)] at e0
  exact e0.symm
def stCheckR (m : D.Model) (s : D.State) : Int := bif mayR m then (bif stFits m s then 0 else 41) else 40
theorem rscheck_spec {m : D.Model} {s : D.State} (hw : wf_Model m) (hs : SmallS' s) : VSpec Tryz.prog 14 [] [.agg (enc_Model m), .agg (enc_State s)] [] (intV (stCheckR m s)) := by
  refine vspec_raw tb_ok mixed Tryz.func14 (by kernel_rfl) rfl (rscheck_raw _ m s) ⟨mayR m, rmay11_spec hw, fun h => leafI ?_, fun h => ⟨stFits m s, rmay_spec hs (tab_ok (mayR_tab (by simpa using h))).claim.2, fun h2 => leafI ?_, fun h2 => leafI ?_⟩⟩
  · unfold stCheckR; rw [show mayR m = false by simpa using h]; rfl
  · unfold stCheckR; rw [show mayR m = true by simpa using h, show stFits m s = false by simpa using h2]; rfl
  · unfold stCheckR; rw [show mayR m = true by simpa using h, show stFits m s = true by simpa using h2]; rfl
def echeckR (e : D.Env) : Int := bif stCheckR e.M e.S != 0 then stCheckR e.M e.S else bif (bif decide (e.Pid < 0) then true else decide (e.Pid ≥ (e.S.Procs.length : Int))) then 42 else 0
theorem recheck_spec {e : D.Env} (hw : wf_Env e) : VSpec Tryz.prog 7 [] [.agg (enc_Env e)] [] (intV (echeckR e)) := by
  refine vspec_raw tb_ok mixed Tryz.func7 (by kernel_rfl) rfl (recheck_raw _ e) ⟨stCheckR e.M e.S, rscheck_spec hw.M (small_of hw.S), fun h => leafI ?_, fun h => ⟨fun h2 => leafI ?_, fun h2 => leafI ?_⟩⟩
  · unfold echeckR; rw [h]; rfl
  · unfold echeckR; rw [h, h2]; rfl
  · unfold echeckR; rw [h, h2]; rfl
def typR (e : D.Env) : D.Proc := prAt e.M (e.S.Procs.getD e.Pid.toNat default).Type_
def listR (e : D.Env) (esc : Int) : List D.Trans :=
  bif decide (esc < 0) then ((typR e).Locs.getD (e.S.Procs.getD e.Pid.toNat default).Loc.toNat default).Out else ((typR e).Locs.getD (e.S.Procs.getD e.Pid.toNat default).Loc.toNat default).Esc.getD esc.toNat []
theorem rtyp15_spec {e : D.Env} (h1 : 0 ≤ e.Pid ∧ e.Pid < e.S.Procs.length) (h2 : 0 ≤ (e.S.Procs.getD e.Pid.toNat default).Type_ ∧ (e.S.Procs.getD e.Pid.toNat default).Type_ < e.M.Procs.length) : VSpec Tryz.prog 24 [] [.agg (enc_Env e)] [] (.agg (enc_Proc (typR e))) :=
  vspec_raw tb_ok mixed Tryz.func24 (by kernel_rfl) rfl (rtyp15_raw _ e) ⟨h1, h2, trivial, VV.le_refl _⟩
theorem rlist_spec {e : D.Env} {esc : Int} (h1 : 0 ≤ e.Pid ∧ e.Pid < e.S.Procs.length) (h2 : 0 ≤ (e.S.Procs.getD e.Pid.toNat default).Type_ ∧ (e.S.Procs.getD e.Pid.toNat default).Type_ < e.M.Procs.length)
    (h3 : 0 ≤ (e.S.Procs.getD e.Pid.toNat default).Loc ∧ (e.S.Procs.getD e.Pid.toNat default).Loc < (typR e).Locs.length) (h4 : 0 ≤ esc → esc < ((typR e).Locs.getD (e.S.Procs.getD e.Pid.toNat default).Loc.toNat default).Esc.length) :
    VSpec Tryz.prog 12 [] [.agg (enc_Env e), intV esc] [] (encL_Trans true (listR e esc)) := by
  refine vspec_raw tb_ok mixed Tryz.func12 (by kernel_rfl) rfl (rlist_raw _ e esc) ⟨typR e, rtyp15_spec h1 h2, h1, h3, fun h => ⟨trivial, ?_⟩, fun h => ?_⟩
  · unfold listR; rw [h, cond_true]; exact VV.le_refl _
  · have h0 : 0 ≤ esc := by have := of_decide_eq_false h; omega
    refine ⟨⟨h0, h4 h0⟩, trivial, ?_⟩
    unfold listR; rw [h, cond_false]; exact VV.le_refl _
end Go.Proofs.YtiaebjpcgjkhoaaGreatDoor
namespace Go.Proofs.YtiaebjpcgjkhoaaGreatDoor
open Go.RowKit
theorem clonem_spec {xs : List Int} (hr : xs.length * 8 ≤ 140737488355328) : VSpec Tryz.prog 35 [] [encL_Int true xs] [] (encL_Int true xs) := by
  refine VSpec.hand ⟨_, Tryz.func35, rfl, by kernel_rfl⟩ fun w E vs hA hL _ _ hs => ?_
  obtain ⟨u1, us1, rfl, v1, hs⟩ := hs.cons_inv
  obtain rfl := hs.nil_inv
  obtain ⟨ao, cap, rfl, h1, h2, h3⟩ := V.sl_inv v1
  refine (clonem_calls h1 h2 hr fun hp => ?_).mono ?_
  · obtain ⟨b, off, rfl, _, _, _, u, hc, hv⟩ := h3 hp
    refine ⟨_, rfl, fun i hi => ?_⟩
    have c1 := hc i 0 _ hi rfl
    have c2 := (hv i 0 _ hi rfl).sc_inv
    rw [Addr.add_lit]
    rw [c2] at c1
    simpa using c1
  · rintro e w' ⟨v', rfl, ho, hb⟩
    exact ⟨v', rfl, v_of_row ho hA, hb⟩
def rowsCh (l : List D.Chan) : Nat → List VV := fun i => enc_Chan (l.getD i default)
def rowsPs (l : List D.Process) : Nat → List VV := fun i => enc_Process (l.getD i default)
def rowsMs (l : List (List Int)) : Nat → List VV := fun i => [encL_Int true (l.getD i [])]
def enc_StateO (x : D.State) (c p : VV) : List VV := [encL_Int true x.Globals, c, p, intV x.Last, intV x.Alone, intV x.Claim]
def enc_EnvO (x : D.Env) (c p : VV) : List VV := [encL_Type true x.M.Globals, encL_Int true x.M.Init, encL_Shape true x.M.Shapes, encL_Int true x.M.Chans, encL_Proc true x.M.Procs, intV x.M.Claim, encL_Expr true x.M.Exprs, encL_Int true x.S.Globals, c, p, intV x.S.Last, intV x.S.Alone, intV x.S.Claim, intV x.Pid, boolV x.Timeout, encL_Bool true x.Able]
def obC (s : D.State) : Ob := .arr true 0 s.Chans.length 2 (rowsCh s.Chans)
def obP (s : D.State) : Ob := .arr true 0 s.Procs.length 4 (rowsPs s.Procs)
def hsE (e : D.Env) : List Ob := [.box (enc_EnvO e (.ow 1 0 e.S.Chans.length) (.ow 2 0 e.S.Procs.length)), obC e.S, obP e.S]
def shpCopy : Shp := { α := D.State, enc := fun y => ([obC y, obP y], .agg (enc_StateO y (.ow 0 0 y.Chans.length) (.ow 1 0 y.Procs.length))) }
def shpEI : Shp := { α := D.Env × Int, enc := fun y => (hsE y.1, intV y.2), lend := true }
def shpEII : Shp := { α := D.Env × Int × Int, enc := fun y => (hsE y.1, .tup [intV y.2.1, intV y.2.2]), lend := true }
def shpETI : Shp := { α := D.Env × ByteArray × Int, enc := fun y => (hsE y.1, .tup [strV y.2.1, intV y.2.2]), lend := true }
def shpGo : Shp := { α := D.State × ByteArray × Int, enc := fun y => ([], .tup [.agg (enc_State y.1), strV y.2.1, intV y.2.2]) }
def shpBIx : Shp := { α := List Bool × Int, enc := fun y => ([], .tup [encL_Bool true y.1, intV y.2]) }
def shpSx : Shp := { α := D.State, enc := fun y => ([], .agg (enc_State y)) }
def shEg (f : FuncId) : Shp :=
  bif Nat.beq f 19 then shpCopy
  else bif Nat.beq f 22 then shpETI
  else bif Nat.beq f 37 then shpEII
  else bif Nat.beq f 38 || Nat.beq f 42 || Nat.beq f 43 || Nat.beq f 44 || Nat.beq f 65 then shpEI
  else bif Nat.beq f 18 then shpSx
  else bif Nat.beq f 9 then shpGo
  else bif Nat.beq f 13 then shpBIx
  else bif Nat.beq f 25 || Nat.beq f 7 then shpI
  else bif Nat.beq f 12 then shpTs
  else bif Nat.beq f 6 then shpB
  else bif Nat.beq f 34 || Nat.beq f 35 then shpL
  else shEc f
end Go.Proofs.YtiaebjpcgjkhoaaGreatDoor
namespace Go.Proofs.YtiaebjpcgjkhoaaGreatDoor
open Go.RowKit
def ann_xcopy : Ann := { keep := fun
  | [0, 1, 0, 1, 1, 1, 1] => [1, 2, 3, 19, 20, 21]
  | [0, 1, 0, 1, 1, 0, 0, 1, 1, 0, 0, 1, 0, 1, 1, 1, 1] => [1, 2, 3, 5, 6, 19, 20, 21, 26, 27, 28]
  | [0, 1, 0, 1, 1, 1, 1, 1] => [2, 3, 49, 50, 51]
  | _ => [] }
def ann_xable : Ann := { keep := fun
  | [0, 1, 0, 1, 1, 1] => [2, 3, 7, 21, 22]
  | _ => [] }
def ann_lelse : Ann := { keep := fun
  | [0, 1, 0, 1, 1, 1, 1, 1] => [1, 3, 5, 7]
  | [0, 1, 1, 1, 1, 0, 0, 1, 0, 0, 1, 0, 1, 1, 1, 1, 1] => [1, 3, 5, 7, 8, 9]
  | _ => [] }
def annD : Ann := { base := 3, keep := fun _ => [] }
def ann_lshown : Ann := { cut := (fun | [1, 1, 1, 1] => true | _ => false), keep := fun
  | [1, 1, 1, 1] => [1, 2, 3]
  | _ => [] }
def stShown (m : D.Model) (s : D.State) (e : D.Env) : St := mkSt [(1, .bp 0 0), (2, .bp 4 0), (3, .bp 6 0)] [.box (enc_Model m), .gone 1, .gone 1, .gone 1, .box (enc_State s), .gone 1, .box (enc_Env e)]
def stXable (m : D.Model) (s : D.State) (l : List Bool) (k : Int) : St := mkSt [(2, .bp 0 0), (3, .bp 1 0), (7, .ow 2 0 l.length), (21, intV s.Procs.length), (22, intV k)] [.box (enc_Model m), .box (enc_State s), .arr true 0 l.length 1 (rowsBo l)]
def zeroS : List VV := [.nl, .nl, .nl, intV 0, intV 0, intV 0]
def stCopy1 (s : D.State) (cs : List D.Chan) (k : Int) : St := mkSt [(1, .bp 0 0), (2, .bp 1 0), (3, .bp 2 0), (19, encL_Chan true s.Chans), (20, intV s.Chans.length), (21, intV k)] [.box (enc_State s), .box zeroS, .box (enc_StateO s (.ow 3 0 cs.length) .nl), .arr true 0 cs.length 2 (rowsCh cs)]
def stCopy3 (s : D.State) (cs : List D.Chan) (ps : List D.Process) (k : Int) : St := mkSt [(2, .bp 0 0), (3, .bp 1 0), (49, encL_Process true s.Procs), (50, intV s.Procs.length), (51, intV k)] [.box zeroS, .box (enc_StateO s (.ow 2 0 cs.length) (.ow 3 0 ps.length)), .arr true 0 cs.length 2 (rowsCh cs), .arr true 0 ps.length 4 (rowsPs ps)]
def stElse1 (e : D.Env) (up : Bool) (l : List Wy) (i : Int) : St := mkSt [(1, .bp 0 0), (3, boolV up), (5, encL_Wy true l), (7, intV i)] [.box (enc_Env e)]
def stElse2 (e : D.Env) (up : Bool) (l : List Wy) (i : Int) (t : List D.Trans) (k : Int) : St := mkSt [(1, .bp 0 0), (3, boolV up), (5, encL_Wy true l), (7, intV i), (8, encL_Trans true t), (9, intV k)] [.box (enc_Env e)]
def stCopy2 (s : D.State) (cs : List D.Chan) (k : Int) (c : D.Chan) (q : List (List Int)) (j : Int) : St := mkSt [(1, .bp 0 0), (2, .bp 1 0), (3, .bp 2 0), (5, .bp 4 0), (6, .ow 5 0 q.length), (19, encL_Chan true s.Chans), (20, intV s.Chans.length), (21, intV k), (26, encL_Ints true c.Queue), (27, intV c.Queue.length), (28, intV j)] [.box (enc_State s), .box zeroS, .box (enc_StateO s (.ow 3 0 cs.length) .nl), .arr true 0 cs.length 2 (rowsCh cs), .box (enc_Chan c), .arr true 0 q.length 1 (rowsMs q)]
end Go.Proofs.YtiaebjpcgjkhoaaGreatDoor
