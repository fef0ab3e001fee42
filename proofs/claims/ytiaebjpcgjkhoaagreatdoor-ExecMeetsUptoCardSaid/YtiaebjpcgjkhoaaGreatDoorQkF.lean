/-
  Texts, joined: EgW1, EcQ, EgW2, EgW3, VjPick, EmA, EmH, EmP, EmW1, EmW2, LawKit, EmLaid.
-/
import Derived.Test.YtiaebjpcgjkhoaaGreatDoorQkE
import Derived.KernelRfl
import Derived.Test.YtiaebjpcgjkhoaaGreatDoorRows
import Derived.WalkKit
import Derived.ProofKit
import Derived.OpenShut
import Derived.Test.YtiaebjpcgjkhoaaGreatDoorCards
import Derived.Test.YtiaebjpcgjkhoaaGreatDoorTie
import Derived.Deep.DeepHandedRow
import Derived.Lib.LaidTab
import Derived.Stop.LaidErr
namespace Go.Proofs.YtiaebjpcgjkhoaaGreatDoor
open Go.RowKit
theorem NO {s : D.State} (hf : Fit s) : Ae Tryz.prog 19 [] [.agg (Ax s)] [obC s, obP s] (.agg (Ce s (.ow 0 0 s.Chans.length) (.ow 1 0 s.Procs.length))) := by
  have hg := hf.g
  have hc := hf.c
  have hp := hf.p
  refine Ah Am An Tryz.func19 (by kernel_rfl) rfl (Vl [obC s, obP s] (.agg (Ce s (.ow 0 0 s.Chans.length) (.ow 1 0 s.Procs.length))) s) ⟨s.Globals, Mg (by omega), ?_⟩
  refine Bh Am An (fun g st => ∃ k : Nat, k ≤ s.Chans.length ∧ g = s.Chans.length - k ∧ st = Us s (s.Chans.take k) k) (by kernel_rfl) (by kernel_rfl) ⟨_, Up.cv (Cv.ownBox 2 1 2 (FK []) rfl rfl) (Up.of ⟨0, Nat.zero_le _, rfl, rfl⟩)⟩ ?_
  rintro g st ⟨k, hk, rfl, rfl⟩
  have hlk : (s.Chans.take k).length = k := by simp; omega
  refine A9.raw (RM _ _ s (s.Chans.take k) k _) ⟨fun hlt => ?_, fun hge => ?_⟩
  · have hlt' : k < s.Chans.length := by have := AQ hlt; omega
    have hto : (k : Int).toNat = k := by omega
    rw [hto]
    have hpush : s.Chans.take (k + 1) = s.Chans.take k ++ [s.Chans.getD k default] := DH hlt'
    have hq := hf.q _ (AF (d := default) hlt')
    generalize s.Chans.getD k default = c at hpush hq ⊢
    refine ⟨⟨by omega, by omega⟩, ?_⟩
    refine AH.own 4 6 1 (SE []) rfl ?_
    refine Bh Am An (fun g st => ∃ j : Nat, j ≤ c.Queue.length ∧ g = c.Queue.length - j ∧ st = Ur s (s.Chans.take k) k c (c.Queue.take j) j) (by kernel_rfl) (by kernel_rfl) ⟨_, Up.of ⟨0, Nat.zero_le _, rfl, rfl⟩⟩ ?_
    rintro g st ⟨j, hj, rfl, rfl⟩
    have hlj : (c.Queue.take j).length = j := by simp; omega
    refine A9.raw (RL _ _ s (s.Chans.take k) k c (c.Queue.take j) j _ _) ⟨fun hlt2 => ?_, fun hge2 => ?_⟩
    · have hlt2' : j < c.Queue.length := by have := AQ hlt2; omega
      have hto2 : (j : Int).toNat = j := by omega
      rw [hto2]
      have hpush2 : c.Queue.take (j + 1) = c.Queue.take j ++ [c.Queue.getD j []] := DH hlt2'
      have hm := hq.2 _ (AF (d := []) hlt2')
      refine ⟨⟨by omega, by omega⟩, c.Queue.getD j [], Ri (by omega), by rw [hlj]; omega, c.Queue.length - (j + 1), by omega, ?_⟩
      rw [Ap (by omega)]
      refine Up.mk (l' := [(1, .bp 0 0), (2, .bp 1 0), (3, .bp 2 0), (5, .bp 4 0), (6, .ow 5 0 (c.Queue.take (j + 1)).length), (19, Br true s.Chans), (20, Ad s.Chans.length), (21, Ad k), (26, BA true c.Queue), (27, Ad c.Queue.length), (28, Ad ((j + 1 : Nat) : Int))])
        (hs' := [.box (Ax s), .box MP, .box (Ce s (.ow 3 0 (s.Chans.take k).length) .nl), .arr true 0 (s.Chans.take k).length 2 (FK (s.Chans.take k)), .box (Ar c), .arr true 0 (c.Queue.take (j + 1)).length 1 (SE (c.Queue.take (j + 1)))]) ?_ ?_ ⟨j + 1, by omega, rfl, rfl⟩
      · rw [hpush2, List.length_append]; exact AZ _
      · rw [hpush2, List.length_append]
        refine ⟨Ob.le_refl _, Ob.le_refl _, Ob.le_refl _, Ob.le_refl _, Ob.le_refl _, Ob.le_arr fun i hi => A8 ?_, trivial⟩
        refine B8 (l := c.Queue.take j) (r := [c.Queue.getD j []]) (f := fun w => [Aa true w]) (d := []) (F := fun i => [Aa true ((c.Queue.take j).getD i [])]) (G := fun i => List.take 1 (List.drop (i * 1) [Aa true (c.Queue.getD j [])])) (fun i hi => rfl) (fun i hi => ?_) (by simpa using hi)
        obtain rfl : i = 0 := by simpa using hi
        rfl
    · have hge2' : c.Queue.length ≤ j := by have := AV hge2; omega
      rw [List.take_of_length_le hge2']
      refine ⟨by rw [hlk]; omega, s.Chans.length - (k + 1), by omega, ?_⟩
      rw [Ap (by omega)]
      refine Up.mk (l' := [(1, .bp 0 0), (2, .bp 1 0), (3, .bp 2 0), (19, Br true s.Chans), (20, Ad s.Chans.length), (21, Ad ((k + 1 : Nat) : Int))])
        (hs' := [.box (Ax s), .box MP, .box (Ce s (.ow 3 0 (s.Chans.take (k + 1)).length) .nl), .arr true 0 (s.Chans.take (k + 1)).length 2 (FK (s.Chans.take (k + 1)))]) ?_ ?_ ⟨k + 1, by omega, rfl, rfl⟩
      · exact AZ _
      · rw [hpush, List.length_append]
        refine ⟨Ob.le_refl _, Ob.le_refl _, Ob.le_refl _, Ob.le_arr fun i hi => A8 ?_, trivial⟩
        exact B8 (l := s.Chans.take k) (r := [c]) (f := Ar) (d := default) (F := fun i => Ar ((s.Chans.take k).getD i default)) (G := fun i => [Ar c].getD i []) (fun i hi => rfl) (fun i hi => by
          obtain rfl : i = 0 := by simpa using hi
          rfl) (by simpa using hi)
  · have hge' : s.Chans.length ≤ k := by have := AV hge; omega
    rw [List.take_of_length_le hge']
    refine Bh Am An (fun g st => ∃ k : Nat, k ≤ s.Procs.length ∧ g = s.Procs.length - k ∧ st = Uq s s.Chans (s.Procs.take k) k) (by kernel_rfl) (by kernel_rfl) ⟨_, Up.cv (Cv.ownBox 1 2 4 (JQ []) rfl rfl) (Up.of ⟨0, Nat.zero_le _, rfl, rfl⟩)⟩ ?_
    rintro g st ⟨k, hk, rfl, rfl⟩
    have hlk : (s.Procs.take k).length = k := by simp; omega
    refine A9.raw (RK _ _ s s.Chans (s.Procs.take k) k _) ⟨fun hlt => ?_, fun hge => ?_⟩
    · have hlt' : k < s.Procs.length := by have := AQ hlt; omega
      have hto : (k : Int).toNat = k := by omega
      rw [hto]
      have hpush : s.Procs.take (k + 1) = s.Procs.take k ++ [s.Procs.getD k default] := DH hlt'
      have hq := hf.f _ (AF (d := default) hlt')
      generalize s.Procs.getD k default = p at hpush hq ⊢
      refine ⟨⟨by omega, by omega⟩, p.Frame, Mg (by omega), by rw [hlk]; omega, s.Procs.length - (k + 1), by omega, ?_⟩
      rw [Ap (by omega)]
      refine Up.mk (l' := [(2, .bp 0 0), (3, .bp 1 0), (49, A1 true s.Procs), (50, Ad s.Procs.length), (51, Ad ((k + 1 : Nat) : Int))])
        (hs' := [.box MP, .box (Ce s (.ow 2 0 s.Chans.length) (.ow 3 0 (s.Procs.take (k + 1)).length)), .arr true 0 s.Chans.length 2 (FK s.Chans), .arr true 0 (s.Procs.take (k + 1)).length 4 (JQ (s.Procs.take (k + 1)))]) ?_ ?_ ⟨k + 1, by omega, rfl, rfl⟩
      · exact AZ _
      · rw [hpush, List.length_append]
        refine ⟨Ob.le_refl _, Ob.le_refl _, Ob.le_refl _, Ob.le_arr fun i hi => A8 ?_, trivial⟩
        exact B8 (l := s.Procs.take k) (r := [p]) (f := Ak) (d := default) (F := fun i => Ak ((s.Procs.take k).getD i default)) (G := fun i => List.take 4 (List.drop (i * 4) (Ak p))) (fun i hi => rfl) (fun i hi => by
          obtain rfl : i = 0 := by simpa using hi
          rfl) (by simpa using hi)
    · have hge2 : s.Procs.length ≤ k := by have := AV hge; omega
      rw [List.take_of_length_le hge2]
      exact ⟨⟨Ob.le_refl _, Ob.le_refl _, trivial⟩, VV.le_refl _⟩
theorem TC {e : D.Env} {s : D.Stmt} {w : Wy} (hk : s.Kind = 7 ∨ s.Kind = 8) : Ae Tryz.prog 22 (hsE e) [.bp 0 0, .agg (Av s), .agg (AX w)] (hsE e) (.tup [Iq ⟨#[]⟩, Ad 0]) := by
  refine Ah Am An Tryz.func22 (by kernel_rfl) rfl (MU e ⟨#[]⟩ 0 e s w) ?_
  have n : ∀ {k : Int} {p : Prop}, k ≠ 7 → k ≠ 8 → (s.Kind == k) = true → p := fun h1 h2 h => by
    have := eq_of_beq h; omega
  exact ⟨n (by decide) (by decide), fun _ => ⟨n (by decide) (by decide), fun _ => ⟨n (by decide) (by decide), fun _ => ⟨n (by decide) (by decide), fun _ => ⟨n (by decide) (by decide), fun _ => ⟨n (by decide) (by decide), fun _ => ⟨n (by decide) (by decide), fun _ => ⟨⟨Ob.le_refl _, Ob.le_refl _, Ob.le_refl _, trivial⟩, VV.le_refl _⟩⟩⟩⟩⟩⟩⟩⟩
end Go.Proofs.YtiaebjpcgjkhoaaGreatDoor
namespace Go.Proofs.YtiaebjpcgjkhoaaGreatDoor
open Go.RowKit
def Be (l : D.Loc) (esc : Int) : List D.Trans := bif decide (esc < 0) then l.Out else l.Esc.getD esc.toNat []
theorem QK : ∀ {r : List (List D.Trans)} {k : Nat} {i : Int} {ws : List D.Trans}, (i, ws) ∈ Rg k r → ∃ j : Nat, i = ((k + j : Nat) : Int) ∧ r[j]? = some ws
  | [], k, i, ws, h => by cases h
  | w :: r, k, i, ws, h => by
    rcases List.mem_cons.1 h with h | h
    · simp only [Prod.mk.injEq] at h
      obtain ⟨rfl, rfl⟩ := h
      exact ⟨0, by omega, rfl⟩
    · obtain ⟨j, hj, hw⟩ := QK h
      exact ⟨j + 1, by omega, by simpa using hw⟩
theorem HM {l : D.Loc} {i : Int} {ws : List D.Trans} (h : (i, ws) ∈ Ee l) : Be l i = ws ∧ -1 ≤ i ∧ i < l.Esc.length ∧ (ws = l.Out ∨ ws ∈ l.Esc) := by
  rcases List.mem_append.1 h with h | h
  · obtain ⟨j, rfl, hj⟩ := QK h
    obtain ⟨hlt, rfl⟩ := List.getElem?_eq_some_iff.1 hj
    refine ⟨?_, by omega, by omega, .inr (List.getElem_mem _)⟩
    unfold Be
    rw [decide_eq_false (by omega), cond_false]
    simp [List.getD, hlt]
  · simp only [List.mem_singleton, Prod.mk.injEq] at h
    obtain ⟨rfl, rfl⟩ := h
    exact ⟨rfl, by omega, by omega, .inl rfl⟩
section
variable {e : D.Env} {mt : Int → List Int → List Pn} {ws : List D.Trans} {self : Bool}
theorem X3 {s : D.Stmt} (h : (C0 e mt s self).is = false) : (C0 e mt s self).wth = [] := by
  unfold C0 at h ⊢
  split
  · cases Fx e s.A <;> rfl
  · rename_i n1
    rw [if_neg n1] at h
    split
    · cases Fx e s.B <;> rfl
    · rename_i n2
      rw [if_neg n2] at h
      split
      · rfl
      · rename_i n3
        rw [if_neg n3] at h
        split
        · rename_i n4
          rw [if_pos n4] at h
          unfold Gi at h ⊢
          cases c1 : decide ((AL e s.A).2 ≠ 0) with
          | true => rfl
          | false =>
          rw [c1, cond_false] at h
          rw [cond_false]
          cases c2 : decide ((BP e (AL e s.A).1).length ≠ s.Args.length) with
          | true => rfl
          | false =>
          rw [c2, cond_false] at h
          rw [cond_false]
          cases c3 : decide (0 < (CN e.M (Dy e (AL e s.A).1).Shape).Room) with
          | true => rfl
          | false =>
          rw [c3, cond_false] at h
          rw [cond_false]
          cases c4 : self with
          | true => rfl
          | false =>
          rw [c4, cond_false] at h
          rw [cond_false]
          cases c5 : decide ((AM e s).2.2 ≠ 0) with
          | true => rfl
          | false =>
          rw [c5, cond_false] at h
          rw [cond_false]
          exact List.eq_nil_of_length_eq_zero (Nat.eq_zero_of_not_pos (of_decide_eq_false h))
        split
        · rfl
        split <;> rfl
theorem VQ {s : D.Stmt} (h : s.Kind = 7) : C0 e mt s self = ⟨false, 0, []⟩ := by
  unfold C0
  rw [if_neg (by omega), if_neg (by omega), if_neg (by omega), if_neg (by omega), if_neg (by omega), if_pos h]
theorem P5 : ∀ {n : Nat}, Eo e mt ws self n = false → ∀ j, j < n → (C0 e mt (ws.getD j default).S self).is = false
  | 0, _, j, hj => absurd hj (Nat.not_lt_zero j)
  | n + 1, h, j, hj => by
    unfold Eo at h
    rw [Bool.or_eq_false_iff] at h
    rcases Nat.lt_succ_iff_lt_or_eq.1 hj with h' | rfl
    · exact P5 h.1 j h'
    · exact h.2
def AaZ (x : Ab) : Prop := x.is = true ∨ x.wth ≠ []
theorem Zt {j : Nat} (hk : (ws.getD j default).S.Kind = 7) (h : AaZ (Fj e mt ws self j)) : Eo e mt ws self ws.length = false := by
  unfold Fj at h
  rw [VQ hk, show decide ((ws.getD j default).S.Kind = 7) = true by simpa using hk] at h
  cases hs : Eo e mt ws self ws.length with
  | false => rfl
  | true =>
    rw [hs] at h
    rcases h with h | h
    · cases h
    · exact absurd rfl h
theorem Zs {j : Nat} (hj : j < ws.length) (hs : Eo e mt ws self ws.length = false) (h : AaZ (Fj e mt ws self j)) : (ws.getD j default).S.Kind = 7 := by
  refine Classical.byContradiction fun hn => ?_
  have his := P5 hs j hj
  have hw := X3 his
  unfold Fj at h
  rw [show decide ((ws.getD j default).S.Kind = 7) = false by simpa using hn] at h
  rcases h with h | h
  · have h' : (C0 e mt (ws.getD j default).S self).is = true := h
    rw [his] at h'; cases h'
  · exact h hw
theorem WV {i : Int} {k : Nat} {x : Ab} {w : Wy} (h : w ∈ GA i k x) : w.Esc = i ∧ w.Way = k ∧ AaZ x := by
  rcases List.mem_append.1 h with h | h
  · cases c : (x.is && decide (x.wth.length = 0)) with
    | false => rw [c] at h; cases h
    | true =>
      rw [c] at h
      obtain rfl := List.mem_singleton.1 h
      simp only [Bool.and_eq_true] at c
      exact ⟨rfl, rfl, .inl c.1⟩
  · obtain ⟨p, hp, rfl⟩ := List.mem_map.1 h
    refine ⟨rfl, rfl, .inr ?_⟩
    intro hn; rw [hn] at hp; cases hp
theorem L3 {i : Int} : ∀ {l : List Ab} {k : Nat} {w : Wy}, w ∈ CX i k l → ∃ (j : Nat) (x : Ab), l[j]? = some x ∧ w.Esc = i ∧ w.Way = ((k + j : Nat) : Int) ∧ AaZ x
  | [], k, w, h => by cases h
  | x :: r, k, w, h => by
    rcases List.mem_append.1 (show w ∈ GA i k x ++ CX i (k + 1) r from h) with h | h
    · obtain ⟨h1, h2, h3⟩ := WV h
      exact ⟨0, x, rfl, h1, h2, h3⟩
    · obtain ⟨j, y, h1, h2, h3, h4⟩ := L3 h
      exact ⟨j + 1, y, h1, h2, by rw [h3]; congr 1; omega, h4⟩
theorem TI {j : Nat} {x : Ab} (h : (Ch e mt ws self)[j]? = some x) : j < ws.length ∧ x = Fj e mt ws self j := by
  unfold Ch at h
  simp only [List.getElem?_map, Option.map_eq_some_iff] at h
  obtain ⟨a, ha, rfl⟩ := h
  obtain ⟨h1, h2⟩ := List.getElem?_eq_some_iff.1 ha
  simp at h1 h2
  subst h2
  exact ⟨h1, rfl⟩
theorem Kw : ∀ {r : List (Int × List D.Trans)}, FC e r = [] ∨ ∃ i ws, (i, ws) ∈ r ∧ FC e r = CX i 0 (Ch e (BF e) ws false)
  | [] => .inl rfl
  | (i, ws) :: r => by
    have hq : FC e ((i, ws) :: r) = bif decide (0 < (CX i 0 (Ch e (BF e) ws false)).length) then CX i 0 (Ch e (BF e) ws false) else FC e r := rfl
    rw [hq]
    cases decide (0 < (CX i 0 (Ch e (BF e) ws false)).length) with
    | true => exact .inr ⟨i, ws, List.mem_cons_self, rfl⟩
    | false =>
      rcases Kw (r := r) with h | ⟨i', ws', h1, h2⟩
      · exact .inl h
      · exact .inr ⟨i', ws', List.mem_cons_of_mem _ h1, h2⟩
theorem GX : BH e = [] ∨ (∃ er, BH e = [Ic er]) ∨ ∃ i ws, (i, ws) ∈ Ee (BZ e) ∧ BH e = CX i 0 (Ch e (BF e) ws false) := by
  unfold BH
  cases decide ((Dz e e.Pid).Loc = (Dm e).Final) with
  | true =>
    cases decide (e.Pid = (e.S.Procs.length : Int) - 1) with
    | true => exact .inr (.inl ⟨0, rfl⟩)
    | false => exact .inl rfl
  | false =>
    cases decide ((Bm e).2 ≠ 0) with
    | true => exact .inr (.inl ⟨_, rfl⟩)
    | false =>
      cases (Bm e).1 with
      | false => exact .inl rfl
      | true =>
        rcases Kw (e := e) (r := Ee (BZ e)) with h | h
        · exact .inl h
        · exact .inr (.inr h)
theorem Px {w : Wy} (hw : w ∈ BH e) :
    (w.Way < 0 → (BH e).length = 1) ∧ (0 ≤ w.Way → -1 ≤ w.Esc ∧ w.Esc < (BZ e).Esc.length ∧ ∀ w' ∈ BH e, w'.Esc = w.Esc ∧ 0 ≤ w'.Way ∧ w'.Way < (Be (BZ e) w.Esc).length ∧
      (((Be (BZ e) w.Esc).getD w.Way.toNat default).S.Kind = 7 → ((Be (BZ e) w.Esc).getD w'.Way.toNat default).S.Kind = 7)) := by
  rcases GX (e := e) with h | ⟨er, h⟩ | ⟨i, ws, hi, h⟩
  · rw [h] at hw; cases hw
  · rw [h] at hw
    obtain rfl := List.mem_singleton.1 hw
    exact ⟨fun _ => by rw [h]; rfl, fun h0 => by unfold Ic at h0; simp at h0⟩
  · rw [h] at hw ⊢
    obtain ⟨hl, h1, h2, _⟩ := HM hi
    obtain ⟨j, x, a1, a2, a3, a4⟩ := L3 hw
    obtain ⟨b1, rfl⟩ := TI a1
    refine ⟨fun hn => by rw [a3] at hn; omega, fun _ => ⟨by omega, by omega, fun w' hw' => ?_⟩⟩
    obtain ⟨j', x', c1, c2, c3, c4⟩ := L3 hw'
    obtain ⟨d1, rfl⟩ := TI c1
    rw [a2, hl]
    refine ⟨c2, by rw [c3]; omega, by rw [c3]; omega, fun hk => ?_⟩
    rw [show w.Way.toNat = j by rw [a3]; omega] at hk
    rw [show w'.Way.toNat = j' by rw [c3]; omega]
    exact Zs d1 (Zt hk a4) c4
end
end Go.Proofs.YtiaebjpcgjkhoaaGreatDoor
namespace Go.Proofs.YtiaebjpcgjkhoaaGreatDoor
open Go.RowKit
section
variable {e : D.Env}
theorem Py {i : Int} : ∀ {l : List Ab} {k : Nat}, (∀ x ∈ l, x.wth.length ≤ 16384) → (CX i k l).length ≤ l.length * 16385
  | [], _, _ => Nat.zero_le _
  | x :: r, k, h => by
    rw [M0, List.length_append, List.length_cons, Nat.succ_mul]
    have h1 := Py (i := i) (k := k + 1) fun y hy => h y (List.mem_cons_of_mem _ hy)
    have h2 : (GA i k x).length ≤ 16385 := by
      have hx := h x List.mem_cons_self
      unfold GA
      rw [List.length_append, List.length_map]
      cases (x.is && decide (x.wth.length = 0))
      · simp; omega
      · simp; omega
    omega
theorem HD (h : Cp e) : (BH e).length ≤ 16778240 := by
  rcases GX (e := e) with h' | ⟨er, h'⟩ | ⟨i, ws, hi, h'⟩
  · rw [h']; simp
  · rw [h']; simp
  · rw [h']
    obtain ⟨_, _, _, hm⟩ := HM hi
    have hws := (h.ws (ws := ws) (by rcases hm with rfl | hm; exact List.mem_cons_self; exact List.mem_cons_of_mem _ hm)).len
    have h1 := Py (i := i) (k := 0) (l := Ch e (BF e) ws false) (Rl h)
    have h2 : (Ch e (BF e) ws false).length = ws.length := by simp [Ch]
    rw [h2] at h1
    have := Nat.mul_le_mul_right 16385 hws
    omega
theorem NA (h : Cp e) {esc : Int} (h4 : esc < (BZ e).Esc.length) : Ae Tryz.prog 12 [] [.agg (Af e), Ad esc] [] (Aq true (Be (BZ e) esc)) :=
  SG ⟨h.p0, h.ok.pid.2⟩ h.facts.1 h.facts.2 fun _ => h4
end
end Go.Proofs.YtiaebjpcgjkhoaaGreatDoor
namespace Go.Proofs.YtiaebjpcgjkhoaaGreatDoor
open Go.RowKit
section
variable {e : D.Env} {w : Wy}
def GH : D.State := ⟨[], [], [], 0, 0, 0⟩
theorem L7 {c : Int} : VV.le (.tup [.agg [.nl, .nl, .nl, Ad 0, Ad 0, Ad 0], Iq ⟨#[]⟩, Ad c]) (.tup [.agg (Ax GH), Iq ⟨#[]⟩, Ad c]) :=
  VV.le_tup ⟨VV.le_agg ⟨VV.le_nil, VV.le_nil, VV.le_nil, VV.le_refl _, VV.le_refl _, VV.le_refl _, trivial⟩, VV.le_refl _, VV.le_refl _, trivial⟩
theorem AaD (h : Cp e) (h0 : DJ e = 0) (hn : w ∉ BH e) : Ae Tryz.prog 9 [] [.agg (Af e), .agg (AX w)] [] (.tup [.agg (Ax GH), Iq ⟨#[]⟩, Ad 42]) := by
  have hl := HD h
  refine Ah Am An Tryz.func9 (by kernel_rfl) rfl (NX (GH, ⟨#[]⟩, 42) e w) ⟨DJ e, IY h.ok.wf h.small, fun h1 => ?_, fun _ => ⟨BH e, Em h, decide (w ∈ BH e), GI (by omega), fun _ => ⟨trivial, L7⟩, fun h2 => ?_⟩⟩
  · rw [h0] at h1; cases h1
  · rw [decide_eq_false hn] at h2; cases h2
theorem LJ {l : List D.Process} {t j : Nat} {p : D.Process} (hj : j < l.length) : (bif j.beq t then Ak p else Ak (l.getD j default)) = Ak ((l.set t p).getD j default) := by
  cases hq : j.beq t with
  | true =>
    have := Nat.eq_of_beq_eq_true hq; subst this
    simp [List.getD, hj]
  | false =>
    have hne : t ≠ j := by rintro rfl; simp at hq
    simp [List.getD, hne]
def JU (e : D.Env) (to : Int) : D.State := { e.S with Procs := e.S.Procs.set e.Pid.toNat { Dz e e.Pid with Loc := to }, Last := e.Pid }
theorem Y4 (h : Cp e) (h0 : DJ e = 0) (hin : w ∈ BH e) (herr : w.Err = 0) (h1 : 0 ≤ w.Way) (h2 : w.With < 0) (hk : ((Be (BZ e) w.Esc).getD w.Way.toNat default).S.Kind = 7 ∨ ((Be (BZ e) w.Esc).getD w.Way.toNat default).S.Kind = 8) :
    Ae Tryz.prog 9 [] [.agg (Af e), .agg (AX w)] [] (.tup [.agg (Ax (JU e ((Be (BZ e) w.Esc).getD w.Way.toNat default).To)), Iq ⟨#[]⟩, Ad 0]) := by
  have hl := HD h
  obtain ⟨_, law⟩ := Px hin
  obtain ⟨e1, e2, law⟩ := law h1
  obtain ⟨_, _, l3, _⟩ := law w hin
  have hlist : (bif decide (w.Esc < 0) then (BZ e).Out else (BZ e).Esc.getD w.Esc.toNat []) = Be (BZ e) w.Esc := rfl
  have hway := MQ (l := BZ e) (esc := w.Esc) (i := w.Way) (fun hn => ⟨h1, by
      have hx : Be (BZ e) w.Esc = (BZ e).Out := by unfold Be; rw [decide_eq_true hn]; rfl
      rw [hx] at l3; exact l3⟩) (fun hn => ⟨e2, h1, by
      have hx : Be (BZ e) w.Esc = (BZ e).Esc.getD w.Esc.toNat [] := by unfold Be; rw [decide_eq_false (by omega)]; rfl
      rw [hx] at l3; exact l3⟩)
  rw [hlist] at hway
  generalize (Be (BZ e) w.Esc).getD w.Way.toNat default = t at hk hway ⊢
  have hcopy := NO h.ok.fit
  have hdoes := TC (e := e) (w := w) hk
  have hpid := h.ok.pid
  have hp0 := h.p0
  refine Ah Am An Tryz.func9 (by kernel_rfl) rfl (NX (JU e t.To, ⟨#[]⟩, 0) e w) ⟨DJ e, IY h.ok.wf h.small, fun h1 => ?_, fun _ => ⟨BH e, Em h, decide (w ∈ BH e), GI (by omega), fun hb => ?_, fun _ => ⟨fun hb => ?_, fun _ => ⟨fun hb => ?_, fun _ =>
    ⟨e.S, hcopy, BZ e, FP h, t, hway, (e, ⟨#[]⟩, 0), hdoes, fun hb => ?_, fun _ => ⟨fun hb => ?_, fun _ => ⟨⟨hp0, hpid.2⟩, trivial, VV.le_tup ⟨VV.le_agg ⟨VV.le_refl _, VV.le_refl _, ?_, VV.le_refl _, VV.le_refl _, VV.le_refl _, trivial⟩, VV.le_refl _, VV.le_refl _, trivial⟩⟩⟩⟩⟩⟩⟩⟩
  · rw [h0] at h1; cases h1
  · rw [decide_eq_true hin] at hb; cases hb
  · rw [herr] at hb; cases hb
  · have := of_decide_eq_true hb; omega
  · cases hb
  · have := of_decide_eq_true hb; omega
  · have hlen : e.S.Procs.length = (JU e t.To).Procs.length := by simp [JU]
    show VV.le (.sl true e.S.Procs.length 4 _) (.sl true (JU e t.To).Procs.length 4 _)
    rw [← hlen]
    refine VV.le_sl (.inl rfl) fun j hj => A8 ?_
    exact LJ (t := e.Pid.toNat) (p := { Dz e e.Pid with Loc := t.To }) hj
def Zo (m : D.Model) (s : D.State) (k : Int) : D.Env := ⟨m, s, k, false, []⟩
def Abg (m : D.Model) (s : D.State) (k : Nat) : Bool := decide (((BH (Zo m s k)).length : Int) > 0)
def D7 (m : D.Model) (s : D.State) (k : Nat) : List Bool := (List.range s.Procs.length).map fun i => bif Nat.blt i k then Abg m s i else false
theorem Ek {m : D.Model} {s : D.State} {k : Nat} : (D7 m s k).length = s.Procs.length := by simp [D7]
theorem Mx {m : D.Model} {s : D.State} {k j : Nat} (hj : j < s.Procs.length) : (D7 m s k).getD j false = bif Nat.blt j k then Abg m s j else false := by
  simp [D7, List.getD, hj]
theorem Xx {m : D.Model} {s : D.State} (hw : AN m) (hs : Bl s) (hc : CG m s = 0) : Ae Tryz.prog 13 [] [.agg (Ac m), .agg (Ax s)] [] (.tup [Ay true (D7 m s s.Procs.length), Ad 0]) := by
  obtain ⟨hm, hf⟩ := IH hc
  have hfit := Y9 hm hf
  have hp := hfit.p
  have hpid : ∀ k : Nat, k < s.Procs.length → Cp (Zo m s k) := fun k hk => ⟨⟨hf, hm, hw, by show -1 ≤ (k : Int); omega, by show (k : Int) < s.Procs.length; omega⟩, by show 0 ≤ (k : Int); omega⟩
  refine Ah Am An Tryz.func13 (by kernel_rfl) rfl (Vs (D7 m s s.Procs.length) 0 m s) ⟨CG m s, Gf hw hs (fun h => (OT h).clp), fun h1 => ?_, fun _ => ⟨⟨by omega, by omega, by omega⟩, ?_⟩⟩
  · rw [hc] at h1; cases h1
  have hn0 : ((s.Procs.length : Int).toNat) = (D7 m s 0).length := by rw [Ek]; omega
  rw [hn0]
  refine AH.le (l' := [(2, .bp 0 0), (3, .bp 1 0), (7, .ow 2 0 (D7 m s 0).length), (21, Ad s.Procs.length), (22, Ad 0)]) (hs' := [.box (Ac m), .box (Ax s), .arr true 0 (D7 m s 0).length 1 (DV (D7 m s 0))]) (AZ _) ⟨Ob.le_refl _, Ob.le_refl _, Ob.le_arr fun i hi => A8 ?_, trivial⟩ ?_
  · rw [Ek] at hi
    show _ = [Ai ((D7 m s 0).getD i false)]
    rw [Mx hi]; rfl
  refine AI Am An s.Procs.length (fun k => T8 m s (D7 m s k) k) (fun _ => True) (by kernel_rfl) (by kernel_rfl) trivial ?_
  intro k hk _ J next
  refine A9.raw (RP _ 0 m s (D7 m s k) k J) ⟨fun hlt => ?_, fun hge => ?_⟩
  · have hlt' : k < s.Procs.length := by have := AQ hlt; omega
    have hto : (k : Int).toNat = k := by omega
    rw [hto]
    refine ⟨BH (Zo m s k), (Em (hpid k hlt')).le trivial ⟨VV.le_agg ⟨VV.le_refl _, VV.le_refl _, VV.le_refl _, VV.le_refl _, VV.le_refl _, VV.le_refl _, VV.le_refl _, VV.le_refl _, VV.le_refl _, VV.le_refl _, VV.le_refl _, VV.le_refl _, VV.le_refl _, VV.le_refl _, VV.le_refl _, VV.le_nil, trivial⟩, trivial⟩ trivial (VV.le_refl _), ⟨by omega, by rw [Ek]; omega⟩, next _ hlt' trivial ?_⟩
    rw [Ap (by omega)]
    refine Up.mk (l' := [(2, .bp 0 0), (3, .bp 1 0), (7, .ow 2 0 (D7 m s (k + 1)).length), (21, Ad s.Procs.length), (22, Ad ((k + 1 : Nat) : Int))]) (hs' := [.box (Ac m), .box (Ax s), .arr true 0 (D7 m s (k + 1)).length 1 (DV (D7 m s (k + 1)))]) ?_ ?_ rfl
    · rw [Ek, Ek]; exact AZ _
    · rw [Ek, Ek]
      refine ⟨Ob.le_refl _, Ob.le_refl _, Ob.le_arr fun i hi => A8 ?_, trivial⟩
      show _ = [Ai ((D7 m s (k + 1)).getD i false)]
      rw [Mx (k := k + 1) hi]
      cases hq : i.beq k with
      | true =>
        have := Nat.eq_of_beq_eq_true hq; subst this
        rw [cond_true, K4 (Nat.lt_succ_self _)] <;> rfl
      | false =>
        rw [cond_false, Mx (k := k) hi]
        have hne : i ≠ k := by rintro rfl; simp at hq
        rcases Nat.lt_or_ge i k with h | h
        · rw [K4 h, K4 (by omega)] <;> rfl
        · rw [O0 h, O0 (by omega)] <;> rfl
  · have hge' : k = s.Procs.length := by have := AV hge; omega
    subst hge'
    exact ⟨trivial, VV.le_refl _⟩
end
def Ni : D.Model := ⟨[], [], [], [], [⟨ByteArray.empty, 0, [], [], [⟨[⟨⟨8, -1, -1, 0, [], [], ByteArray.empty⟩, 1, 0⟩], [], false, false, false, false, false⟩, ⟨[], [], false, false, false, false, false⟩], 0, 1, 1, 1, -1⟩], -1, []⟩
def LI : D.State := ⟨[], [], [⟨0, 0, 1, []⟩], 0, -1, -1⟩
def Ia : D.Env := ⟨Ni, LI, 0, false, []⟩
theorem Le : AN Ni where
  Globals := ⟨by decide, by intro y hy; cases hy⟩
  Init := ⟨by decide, by intro y hy; cases hy⟩
  Shapes := ⟨by decide, by intro y hy; cases hy⟩
  Chans := ⟨by decide, by intro y hy; cases hy⟩
  Procs := ⟨by decide, by
    intro y hy; obtain rfl := List.mem_singleton.1 hy
    refine { Name := by decide, Params := rfl, Frame := ⟨by decide, by intro y hy; cases hy⟩, Init := ⟨by decide, by intro y hy; cases hy⟩, Locs := ⟨by decide, fun y hy => ?_⟩, Start := rfl, Final := rfl, Active := rfl, Prio := rfl, Provided := rfl }
    rcases List.mem_cons.1 hy with rfl | hy
    · exact { Out := ⟨by decide, by intro y hy; obtain rfl := List.mem_singleton.1 hy; exact ⟨⟨rfl, rfl, rfl, rfl, ⟨by decide, by intro y hy; cases hy⟩, ⟨by decide, by intro y hy; cases hy⟩, by decide⟩, rfl, rfl⟩⟩, Esc := ⟨by decide, by intro y hy; cases hy⟩, Atomic := trivial, Dstep := trivial, End := trivial, Accept := trivial, Progress := trivial }
    · obtain rfl := List.mem_singleton.1 hy
      exact { Out := ⟨by decide, by intro y hy; cases hy⟩, Esc := ⟨by decide, by intro y hy; cases hy⟩, Atomic := trivial, Dstep := trivial, End := trivial, Accept := trivial, Progress := trivial }⟩
  Claim := rfl
  Exprs := ⟨by decide, by intro y hy; cases hy⟩
theorem Ks : Bl LI := Fit.small ⟨by decide, by decide, fun c hc => (by cases hc), by decide, fun p hp => (by obtain rfl := List.mem_singleton.1 hp; decide)⟩
theorem O3 : DJ Ia = 0 := by kernel_rfl
theorem Aaa : CG Ni LI = 0 := by kernel_rfl
def Nt : Wy := ⟨-1, 0, -1, -1, -1, 0⟩
theorem MZ : BH Ia = [Nt] := by kernel_rfl
theorem RR : GK Ia = ([Nt], 0) := by kernel_rfl
theorem Xy : D7 Ni LI LI.Procs.length = [true] := by kernel_rfl
theorem Sj : Ae Tryz.prog 6 [] [] [] (Ai true) := by
  have hP : Cp Ia := J0 Le O3
  refine Ah Am An Tryz.func6 (by kernel_rfl) rfl (Tc true) ?_
  refine AH.pubB 8 8 (hs' := [.box (Ac Ni), .gone 1, .gone 1, .gone 1, .box (Ax LI), .gone 1, .box (Af Ia)]) (by kernel_rfl) ?_
  have hw1 := Lc (e := Ia) Le Ks
  rw [RR] at hw1
  have hin : Nt ∈ BH Ia := by rw [MZ]; exact List.mem_singleton.2 rfl
  have hg1 := Y4 hP O3 hin rfl (by decide) (by decide) (.inr (by kernel_rfl))
  rw [show ((Be (BZ Ia) Nt.Esc).getD Nt.Way.toNat default).To = 1 by kernel_rfl] at hg1
  have hab := Xx Le Ks Aaa
  rw [Xy] at hab
  have hg2 := AaD (w := ⟨0, 0, 0, 0, 0, 0⟩) hP O3 (by rw [MZ]; decide)
  exact D0 Am An (by kernel_rfl) (QQ true Ni LI Ia) ⟨([Nt], 0), hw1, fun h => (by cases h), fun _ => ⟨by decide, (JU Ia 1, ⟨#[]⟩, 0), hg1, fun h => (by cases h), fun _ => ⟨([true], 0), hab, (GH, ⟨#[]⟩, 42), hg2, fun _ => by decide, fun _ => by decide, fun _ => by decide, As (by kernel_rfl)⟩⟩⟩
end Go.Proofs.YtiaebjpcgjkhoaaGreatDoor
namespace Go.Proofs.YtiaebjpcgjkhoaaGreatDoor
open Go.RowKit
def FV (is : List Nat) (φ : Phi) : Phi := fun j => (is[j]?).bind φ
def QD (is : List Nat) (hs : List Ob) : List Ob := is.map fun i => Qu false (idx is) (fun _ g => some g) (fun g => g) (BK hs i)
theorem SO (p : Pl) : D5 (fun g => g) p = p := by cases p <;> rfl
theorem Ae.pick {P : Program} {f : FuncId} {hs hs1 : List Ob} {xs : List VV} {r : VV} (is : List Nat) (h : Ae P f hs xs hs1 r) (hok : Fa hs1.length is = true)
    (hl : ∀ j, j < hs.length → is[j]? = some j ∨ ((∀ cs, BK hs j ≠ .box cs) ∧ ∃ i, is[j]? = some i ∧ ∀ cs, BK hs1 i ≠ .box cs)) :
    Ae P f hs xs (QD is hs1) (Jj false (idx is) (fun _ g => some g) 8 r) := by
  refine ⟨h.callable, fun w E φ vs hz hH hφ hs0 => (h.call w E φ vs hz hH hφ hs0).mono ?_⟩
  rintro e w' ⟨v, φ', rfl, h1, h2, h3, h4⟩
  have hsub : ∀ k, Own (FV is φ') k → Own φ' k := by
    rintro k ⟨j, hb⟩
    obtain ⟨p, hp, hpb⟩ := AJ.1 hb
    unfold FV at hp
    cases hq : is[j]? with
    | none => rw [hq] at hp; cases hp
    | some i => rw [hq] at hp; exact ⟨i, AJ.2 ⟨p, hp, hpb⟩⟩
  have hrel : NS false (idx is) (fun _ g => some g) (E.up φ') φ' (E.up (FV is φ')) (FV is φ') := by
    refine ⟨fun k hk => hk.imp id (hsub k), fun _ k hk => hk.imp id (hsub k), fun id i b hi hb => ?_, fun id i gen g c len hd hi hg hph hle => ?_⟩
    · unfold FV; rw [C9 hi]; exact hb
    · obtain rfl := Option.some.inj hg
      refine ⟨c, ?_, hle, fun e => e⟩
      unfold FV; rw [C9 hi]; exact hph
  have hat : ∀ j i, is[j]? = some i → FV is φ' j = φ' i := fun j i hj => by unfold FV; rw [hj]; rfl
  refine ⟨v, FV is φ', rfl, ⟨h1.sub, fun j p e => ?_, fun i j k hi hj => ?_, fun k hk => h1.free k (hsub k hk)⟩, ⟨h2.os, h2.tape, h2.output, h2.size, h2.block, fun k hk => h2.new k (hsub k hk), fun id p hid e => ?_⟩, fun j => ?_, EL hrel 8 _ _ h4⟩
  · cases hq : is[j]? with
    | none => unfold FV at e; rw [hq] at e; cases e
    | some i =>
      rw [hat j i hq] at e
      have := Ji (og := fun g => g) hrel (h1.ob i p e)
      rw [SO] at this
      have e1 : BK (QD is hs1) j = Qu false (idx is) (fun _ g => some g) (fun g => g) (BK hs1 i) := by
        unfold QD BK
        rw [List.getD_eq_getElem?_getD, List.getElem?_map, hq]; rfl
      rw [e1]; exact this
  · have toOld : ∀ j k, Blk (FV is φ') j k → ∃ i, is[j]? = some i ∧ Blk φ' i k := by
      intro j k hb
      obtain ⟨p, hp, hpb⟩ := AJ.1 hb
      unfold FV at hp
      cases hq : is[j]? with
      | none => rw [hq] at hp; cases hp
      | some i => rw [hq] at hp; exact ⟨i, rfl, AJ.2 ⟨p, hp, hpb⟩⟩
    obtain ⟨a, ha, hab⟩ := toOld i k hi
    obtain ⟨b, hb, hbb⟩ := toOld j k hj
    obtain rfl := h1.inj a b k hab hbb
    have e1 := IC hok i a ha
    have e2 := IC hok j a hb
    rw [e1] at e2
    exact Option.some.inj e2
  · rcases hl id hid with hi | ⟨n1, i, hi, n2⟩
    · obtain ⟨p', e1, e2⟩ := h2.kind id p hid e
      exact ⟨p', by rw [hat id id hi]; exact e1, e2⟩
    · have hlt : i < hs1.length := by
        have := (h3 i)
        exact Classical.byContradiction fun hn => by
          have hj := Er hok _ _ hi
          exact hn hj
      obtain ⟨q, hq⟩ : ∃ q, φ' i = some q := Option.ne_none_iff_exists'.1 ((h3 i).2 hlt)
      refine ⟨q, by rw [hat id i hi]; exact hq, ?_⟩
      have o1 := hH.ob id p e
      have o2 := h1.ob i q hq
      cases p with
      | box b =>
        exfalso
        generalize hx : BK hs id = x at o1 n1
        cases x with
        | box cs => exact n1 cs rfl
        | arr => exact o1.elim
        | gone => exact o1.elim
      | arr c n hd =>
        cases q with
        | arr c' n' hd' => exact ⟨c', n', hd', rfl⟩
        | box b =>
          exfalso
          generalize hx : BK hs1 i = x at o2 n2
          cases x with
          | box cs => exact n2 cs rfl
          | arr => exact o2.elim
          | gone => exact o2.elim
  · have hlen : (QD is hs1).length = is.length := by simp [QD]
    rw [hlen]
    constructor
    · intro hn
      refine Classical.byContradiction fun hge => hn ?_
      unfold FV
      rw [List.getElem?_eq_none (by omega)]; rfl
    · intro hlt
      have hj : is[j]? = some is[j] := List.getElem?_eq_getElem hlt
      rw [hat j _ hj]
      exact (h3 _).2 (Er hok _ _ hj)
end Go.Proofs.YtiaebjpcgjkhoaaGreatDoor
namespace Go.Proofs.YtiaebjpcgjkhoaaGreatDoor
open Go.RowKit
def Yj : Shp := { α := D.State × Int, enc := fun y => ([obC y.1, obP y.1], .tup [.agg (Ce y.1 (.ow 0 0 y.1.Chans.length) (.ow 1 0 y.1.Procs.length)), Ad y.2]) }
def Abz : Shp := { α := D.Chan × Int, enc := fun y => ([], .tup [.agg (Ar y.1), Ad y.2]) }
def Ou (f : FuncId) : Shp := bif Nat.beq f 63 then Yj else bif Nat.beq f 64 then Yl else bif Nat.beq f 66 then Abz else GQ f
def IT : Ann := { keep := fun
  | [0, 1, 0, 1, 1, 1, 1, 1] => [1, 3, 5, 7]
  | _ => [] }
def IM : Ann := { base := 3, keep := fun
  | [0, 1, 0, 1] => [0, 2, 4, 11, 12, 13]
  | _ => [] }
def Oq (e : D.Env) (s : D.Stmt) (m : List Int) (k : Int) : St := Ao [(0, .bp 0 0), (2, Aa true m), (4, .bp 3 0), (11, Aa true s.Args), (12, Ad s.Args.length), (13, Ad k)] (hsE e ++ [.box (Av s)])
end Go.Proofs.YtiaebjpcgjkhoaaGreatDoor
namespace Go.Proofs.YtiaebjpcgjkhoaaGreatDoor
open Go.RowKit
set_option maxRecDepth 100000
theorem Td (b : Bool) (e : D.Env) : (Ag Tryz.prog tb Ou IT true Tryz.f5 [] (Ai b)).goal (St.init [] [.agg (Af e)]) =
    (∃ (y : Bool), Ae Tryz.prog 6 [] [] [] (Ai y) ∧ ∃ (y_1 : Int), Ae Tryz.prog 7 [] [VV.agg (Af e)] [] (Ad y_1) ∧ ((y_1 != (0 : Int)) = true → leO [] [] ∧ (Ai y).le (Ai b)) ∧ ((y_1 != (0 : Int)) = false → ∃ (y_2 : List Wy × Int), Ae Tryz.prog 8 [] [VV.agg (Af e)] [] (VV.tup [Bf true y_2.fst, Ad y_2.snd]) ∧ AH (Ag Tryz.prog tb Ou IT true Tryz.f5 [] (Ai b)) [1, 1, 1, 1, 1, 0, 1, 0] (Ao [(1, VV.bp 0 0), (3, Ai y), (5, Bf true y_2.fst), (7, Ad (0 : Int))] [Ob.box (Af e)]))) := by kernel_rfl
theorem K5 (hs' : List Ob) (r : Int) (e : D.Env) (x v : Int) : (Ag Tryz.prog tb Ou Ab9 false Tryz.f42 hs' (Ad r)).goal (St.init (hsE e) [.bp 0 0, Ad x, Ad v]) =
    (∃ (y : D.State × Int), Ae Tryz.prog 63 [] [VV.agg (Bu e), Ad x, Ad v] [Ob.arr true 0 y.fst.Chans.length 2 fun (i : Nat) => Ar (y.fst.Chans.getD i default), Ob.arr true 0 y.fst.Procs.length 4 fun (i : Nat) => Ak (y.fst.Procs.getD i default)] (VV.tup [VV.agg [Aa true y.fst.Globals, VV.ow 0 0 y.fst.Chans.length, VV.ow 1 0 y.fst.Procs.length, Ad y.fst.Last, Ad y.fst.Alone, Ad y.fst.Claim], Ad y.snd]) ∧ ((y.snd == 0) = true → leO [Ob.box [Aj true e.M.Globals, Aa true e.M.Init, Aw true e.M.Shapes, Aa true e.M.Chans, AA true e.M.Procs, Ad e.M.Claim, AC true e.M.Exprs, Aa true y.fst.Globals, VV.ow 3 0 y.fst.Chans.length, VV.ow 4 0 y.fst.Procs.length, Ad y.fst.Last, Ad y.fst.Alone, Ad y.fst.Claim, Ad e.Pid, Ai e.Timeout, Ay true e.Able], Ob.arr true 0 e.S.Chans.length 2 fun (i : Nat) => Ar (e.S.Chans.getD i default), Ob.arr true 0 e.S.Procs.length 4 fun (i : Nat) => Ak (e.S.Procs.getD i default), Ob.arr true 0 y.fst.Chans.length 2 fun (i : Nat) => Ar (y.fst.Chans.getD i default), Ob.arr true 0 y.fst.Procs.length 4 fun (i : Nat) => Ak (y.fst.Procs.getD i default)] hs' ∧ (Ad y.snd).le (Ad r)) ∧ ((y.snd == 0) = false → leO (hsE e) hs' ∧ (Ad y.snd).le (Ad r))) := by kernel_rfl
theorem RH (y : D.Env) (r : Int) (e : D.Env) (s : D.Stmt) (m : List Int) : (Ag Tryz.prog tb Ou IM false Tryz.f65 (hsE y) (Ad r)).goal (St.init (hsE e) [.bp 0 0, .agg (Av s), Aa true m]) =
    (AH (Ag Tryz.prog tb Ou IM false Tryz.f65 (hsE y) (Ad r)) [1, 0, 1, 0] (Ao [(0, VV.bp 0 0), (2, Aa true m), (4, VV.bp 3 0), (11, Aa true s.Args), (12, Ad (↑s.Args.length : Int)), (13, Ad (0 : Int))] [Ob.box [Aj true e.M.Globals, Aa true e.M.Init, Aw true e.M.Shapes, Aa true e.M.Chans, AA true e.M.Procs, Ad e.M.Claim, AC true e.M.Exprs, Aa true e.S.Globals, VV.ow 1 0 e.S.Chans.length, VV.ow 2 0 e.S.Procs.length, Ad e.S.Last, Ad e.S.Alone, Ad e.S.Claim, Ad e.Pid, Ai e.Timeout, Ay true e.Able], Ob.arr true 0 e.S.Chans.length 2 fun (i : Nat) => Ar (e.S.Chans.getD i default), Ob.arr true 0 e.S.Procs.length 4 fun (i : Nat) => Ak (e.S.Procs.getD i default), Ob.box (Av s)])) := by kernel_rfl
theorem Pm (y : D.Env) (r : Int) (e : D.Env) (s : D.Stmt) (m : List Int) (k : Int) (J : St → Prop) : ((Ag Tryz.prog tb Ou IM false Tryz.f65 (hsE y) (Ad r)).loop [1, 0, 1, 0] J).goal (Oq e s m k) =
    ((decide (k < (↑s.Args.length : Int)) = true → ((0 : Int) ≤ k ∧ k < (↑s.Args.length : Int)) ∧ ((0 : Int) ≤ k ∧ k < (↑s.Match.length : Int)) ∧ ((s.Match.getD k.toNat (0 : Int) != (0 : Int)) = true → J (Ao [(0, VV.bp 0 0), (2, Aa true m), (4, VV.bp 3 0), (11, Aa true s.Args), (12, Ad (↑s.Args.length : Int)), (13, Ad (IntKind.i64.wrap (k + (1 : Int))))] [Ob.box [Aj true e.M.Globals, Aa true e.M.Init, Aw true e.M.Shapes, Aa true e.M.Chans, AA true e.M.Procs, Ad e.M.Claim, AC true e.M.Exprs, Aa true e.S.Globals, VV.ow 1 0 e.S.Chans.length, VV.ow 2 0 e.S.Procs.length, Ad e.S.Last, Ad e.S.Alone, Ad e.S.Claim, Ad e.Pid, Ai e.Timeout, Ay true e.Able], Ob.arr true 0 e.S.Chans.length 2 fun (i : Nat) => Ar (e.S.Chans.getD i default), Ob.arr true 0 e.S.Procs.length 4 fun (i : Nat) => Ak (e.S.Procs.getD i default), Ob.box (Av s)])) ∧ ((s.Match.getD k.toNat (0 : Int) != (0 : Int)) = false → ((0 : Int) ≤ k ∧ k < (↑m.length : Int)) ∧ ∃ (y_1 : D.Env × Int), Ae Tryz.prog 42 (hsE e) [VV.bp 0 0, Ad (s.Args.getD k.toNat (0 : Int)), Ad (m.getD k.toNat (0 : Int))] (hsE y_1.fst) (Ad y_1.snd) ∧ ((y_1.snd != (0 : Int)) = true → leO (hsE y_1.fst) (hsE y) ∧ (Ad y_1.snd).le (Ad r)) ∧ ((y_1.snd != (0 : Int)) = false → J (Ao [(0, VV.bp 0 0), (2, Aa true m), (4, VV.bp 3 0), (11, Aa true s.Args), (12, Ad (↑s.Args.length : Int)), (13, Ad (IntKind.i64.wrap (k + (1 : Int))))] [Ob.box [Aj true y_1.fst.M.Globals, Aa true y_1.fst.M.Init, Aw true y_1.fst.M.Shapes, Aa true y_1.fst.M.Chans, AA true y_1.fst.M.Procs, Ad y_1.fst.M.Claim, AC true y_1.fst.M.Exprs, Aa true y_1.fst.S.Globals, VV.ow 1 0 y_1.fst.S.Chans.length, VV.ow 2 0 y_1.fst.S.Procs.length, Ad y_1.fst.S.Last, Ad y_1.fst.S.Alone, Ad y_1.fst.S.Claim, Ad y_1.fst.Pid, Ai y_1.fst.Timeout, Ay true y_1.fst.Able], Ob.arr true 0 y_1.fst.S.Chans.length 2 fun (i : Nat) => Ar (y_1.fst.S.Chans.getD i default), Ob.arr true 0 y_1.fst.S.Procs.length 4 fun (i : Nat) => Ak (y_1.fst.S.Procs.getD i default), Ob.box (Av s)])))) ∧ (decide (k < (↑s.Args.length : Int)) = false → leO (hsE e) (hsE y) ∧ (Ad (0 : Int)).le (Ad r))) := by kernel_rfl
theorem U5 (hs' : List Ob) (r : Int) (e : D.Env) (s : D.Stmt) (w : Wy) : (Ag Tryz.prog tb Ou Ab9 false Tryz.f43 hs' (Ad r)).goal (St.init (hsE e) [.bp 0 0, .agg (Av s), .agg (AX w)]) =
    (∃ (y : Int × List Int × Int), Ae Tryz.prog 64 [] [VV.agg (Bu e), VV.agg (Av s)] [] (VV.tup [Ad y.fst, Aa true y.snd.fst, Ad y.snd.snd]) ∧ ((y.snd.snd != (0 : Int)) = true → leO (hsE e) hs' ∧ (Ad y.snd.snd).le (Ad r)) ∧ ((y.snd.snd != (0 : Int)) = false → (decide (w.With ≥ (0 : Int)) = true → ∃ (y_1 : D.Loc), Ae Tryz.prog 21 [] [VV.agg [Aj true e.M.Globals, Aa true e.M.Init, Aw true e.M.Shapes, Aa true e.M.Chans, AA true e.M.Procs, Ad e.M.Claim, AC true e.M.Exprs, Aa true e.S.Globals, Br false e.S.Chans, A1 false e.S.Procs, Ad e.S.Last, Ad e.S.Alone, Ad e.S.Claim, Ad w.With, Ai e.Timeout, Ay true e.Able]] [] (VV.agg (AY y_1)) ∧ ∃ (y_2 : D.Trans), Ae Tryz.prog 20 [] [VV.agg (AY y_1), Ad w.WithEsc, Ad w.WithWay] [] (VV.agg (Cs y_2)) ∧ ∃ (y_3 : D.Env × Int), Ae Tryz.prog 65 [Ob.box [Aj true e.M.Globals, Aa true e.M.Init, Aw true e.M.Shapes, Aa true e.M.Chans, AA true e.M.Procs, Ad e.M.Claim, AC true e.M.Exprs, Aa true e.S.Globals, VV.ow 1 0 e.S.Chans.length, VV.ow 2 0 e.S.Procs.length, Ad e.S.Last, Ad e.S.Alone, Ad e.S.Claim, Ad w.With, Ai e.Timeout, Ay true e.Able], Ob.arr true 0 e.S.Chans.length 2 fun (i : Nat) => Ar (e.S.Chans.getD i default), Ob.arr true 0 e.S.Procs.length 4 fun (i : Nat) => Ak (e.S.Procs.getD i default)] [VV.bp 0 0, VV.agg (Av y_2.S), Aa true y.snd.fst] (hsE y_3.fst) (Ad y_3.snd) ∧ leO [Ob.box [Aj true e.M.Globals, Aa true e.M.Init, Aw true e.M.Shapes, Aa true e.M.Chans, AA true e.M.Procs, Ad e.M.Claim, AC true e.M.Exprs, Aa true y_3.fst.S.Globals, VV.ow 1 0 y_3.fst.S.Chans.length, VV.ow 2 0 y_3.fst.S.Procs.length, Ad y_3.fst.S.Last, Ad y_3.fst.S.Alone, Ad y_3.fst.S.Claim, Ad e.Pid, Ai e.Timeout, Ay true e.Able], Ob.arr true 0 y_3.fst.S.Chans.length 2 fun (i : Nat) => Ar (y_3.fst.S.Chans.getD i default), Ob.arr true 0 y_3.fst.S.Procs.length 4 fun (i : Nat) => Ak (y_3.fst.S.Procs.getD i default)] hs' ∧ (Ad y_3.snd).le (Ad r)) ∧ (decide (w.With ≥ (0 : Int)) = false → ((0 : Int) ≤ IntKind.i64.wrap (y.fst - (1 : Int)) ∧ IntKind.i64.wrap (y.fst - (1 : Int)) < (↑e.S.Chans.length : Int)) ∧ ((0 : Int) ≤ (e.S.Chans.getD (IntKind.i64.wrap (y.fst - (1 : Int))).toNat default).Shape ∧ (e.S.Chans.getD (IntKind.i64.wrap (y.fst - (1 : Int))).toNat default).Shape < (↑e.M.Shapes.length : Int)) ∧ ∃ (y_1 : D.Chan × Int), Ae Tryz.prog 66 [] [VV.agg [Ad (e.M.Shapes.getD (e.S.Chans.getD (IntKind.i64.wrap (y.fst - (1 : Int))).toNat default).Shape.toNat default).Room, Aj true (e.M.Shapes.getD (e.S.Chans.getD (IntKind.i64.wrap (y.fst - (1 : Int))).toNat default).Shape.toNat default).Fields], VV.agg [Ad (e.S.Chans.getD (IntKind.i64.wrap (y.fst - (1 : Int))).toNat default).Shape, BA true (e.S.Chans.getD (IntKind.i64.wrap (y.fst - (1 : Int))).toNat default).Queue], Aa true y.snd.fst, Ai (s.N == 1)] [] (VV.tup [VV.agg (Ar y_1.fst), Ad y_1.snd]) ∧ ((0 : Int) ≤ IntKind.i64.wrap (y.fst - (1 : Int)) ∧ IntKind.i64.wrap (y.fst - (1 : Int)) < (↑e.S.Chans.length : Int)) ∧ leO [Ob.box [Aj true e.M.Globals, Aa true e.M.Init, Aw true e.M.Shapes, Aa true e.M.Chans, AA true e.M.Procs, Ad e.M.Claim, AC true e.M.Exprs, Aa true e.S.Globals, VV.ow 1 0 e.S.Chans.length, VV.ow 2 0 e.S.Procs.length, Ad e.S.Last, Ad e.S.Alone, Ad e.S.Claim, Ad e.Pid, Ai e.Timeout, Ay true e.Able], Ob.arr true 0 e.S.Chans.length 2 fun (j : Nat) => bif j.beq (IntKind.i64.wrap (y.fst - (1 : Int))).toNat then [Ad y_1.fst.Shape, BA true y_1.fst.Queue] else [Ad (e.S.Chans.getD j default).Shape, BA true (e.S.Chans.getD j default).Queue], Ob.arr true 0 e.S.Procs.length 4 fun (i : Nat) => Ak (e.S.Procs.getD i default)] hs' ∧ (Ad y_1.snd).le (Ad r)))) := by kernel_rfl
theorem Vh (l : D.Loc) (e : D.Env) : (Ag Tryz.prog tb Ou Bd true Tryz.f21 [] (.agg (AY l))).goal (St.init [] [.agg (Bu e)]) =
    (((0 : Int) ≤ e.Pid ∧ e.Pid < (↑e.S.Procs.length : Int)) ∧ ((0 : Int) ≤ (e.S.Procs.getD e.Pid.toNat default).Type_ ∧ (e.S.Procs.getD e.Pid.toNat default).Type_ < (↑e.M.Procs.length : Int)) ∧ ((0 : Int) ≤ (e.S.Procs.getD e.Pid.toNat default).Loc ∧ (e.S.Procs.getD e.Pid.toNat default).Loc < (↑(e.M.Procs.getD (e.S.Procs.getD e.Pid.toNat default).Type_.toNat default).Locs.length : Int)) ∧ leO [] [] ∧ (VV.agg (AY ((e.M.Procs.getD (e.S.Procs.getD e.Pid.toNat default).Type_.toNat default).Locs.getD (e.S.Procs.getD e.Pid.toNat default).Loc.toNat default))).le (VV.agg (AY l))) := by kernel_rfl
theorem QU (b : Bool) (e : D.Env) (up : Bool) (l : List Wy) (i : Int) (J : St → Prop) : ((Ag Tryz.prog tb Ou IT true Tryz.f5 [] (Ai b)).loop [1, 1, 1, 1, 1, 0, 1, 0] J).goal (KN e up l i) =
    ((decide (i < (↑l.length : Int)) = true → ((0 : Int) ≤ i ∧ i < (↑l.length : Int)) ∧ (decide ((l.getD i.toNat default).With < (0 : Int)) = true → ((bif (l.getD i.toNat default).WithEsc != (-1 : Int) then true else (l.getD i.toNat default).WithWay != (-1 : Int)) = true → leO [] [] ∧ (Ai false).le (Ai b)) ∧ ((bif (l.getD i.toNat default).WithEsc != (-1 : Int) then true else (l.getD i.toNat default).WithWay != (-1 : Int)) = false → J (Ao [(1, VV.bp 0 0), (3, Ai up), (5, Bf true l), (7, Ad (IntKind.i64.wrap (i + (1 : Int))))] [Ob.box (Af e)]))) ∧ (decide ((l.getD i.toNat default).With < (0 : Int)) = false → ((bif (l.getD i.toNat default).With == e.Pid then true else decide ((l.getD i.toNat default).With ≥ (↑e.S.Procs.length : Int))) = true → leO [] [] ∧ (Ai false).le (Ai b)) ∧ ((bif (l.getD i.toNat default).With == e.Pid then true else decide ((l.getD i.toNat default).With ≥ (↑e.S.Procs.length : Int))) = false → ∃ (y : List D.Trans), Ae Tryz.prog 12 [] [VV.agg (Af e), Ad (l.getD i.toNat default).Esc] [] (Aq true y) ∧ ((0 : Int) ≤ (l.getD i.toNat default).Way ∧ (l.getD i.toNat default).Way < (↑y.length : Int)) ∧ ∃ (y_1 : List D.Trans), Ae Tryz.prog 12 [] [VV.agg [Aj true e.M.Globals, Aa true e.M.Init, Aw true e.M.Shapes, Aa true e.M.Chans, AA true e.M.Procs, Ad e.M.Claim, AC true e.M.Exprs, Aa true e.S.Globals, Br true e.S.Chans, A1 true e.S.Procs, Ad e.S.Last, Ad e.S.Alone, Ad e.S.Claim, Ad (l.getD i.toNat default).With, Ai e.Timeout, Ay true e.Able], Ad (l.getD i.toNat default).WithEsc] [] (Aq true y_1) ∧ ((0 : Int) ≤ (l.getD i.toNat default).WithWay ∧ (l.getD i.toNat default).WithWay < (↑y_1.length : Int)) ∧ ∃ (y_2 : D.State × ByteArray × Int), Ae Tryz.prog 9 [] [VV.agg (Af e), VV.agg (AX (l.getD i.toNat default))] [] (VV.tup [VV.agg (Ax y_2.fst), Iq y_2.snd.fst, Ad y_2.snd.snd]) ∧ ((bif bif (y.getD (l.getD i.toNat default).Way.toNat default).S.Kind != (5 : Int) then true else (y_1.getD (l.getD i.toNat default).WithWay.toNat default).S.Kind != (6 : Int) then true else (↑(y.getD (l.getD i.toNat default).Way.toNat default).S.Args.length : Int) != (↑(y_1.getD (l.getD i.toNat default).WithWay.toNat default).S.Args.length : Int)) = true → leO [] [] ∧ (Ai false).le (Ai b)) ∧ ((bif bif (y.getD (l.getD i.toNat default).Way.toNat default).S.Kind != (5 : Int) then true else (y_1.getD (l.getD i.toNat default).WithWay.toNat default).S.Kind != (6 : Int) then true else (↑(y.getD (l.getD i.toNat default).Way.toNat default).S.Args.length : Int) != (↑(y_1.getD (l.getD i.toNat default).WithWay.toNat default).S.Args.length : Int)) = false → ((true && (y_2.snd.snd == 0) == true) = true → (0 : Int) ≤ e.Pid ∧ e.Pid < (↑y_2.fst.Procs.length : Int)) ∧ ((true && (y_2.snd.snd == 0) == true && ((y_2.fst.Procs.getD e.Pid.toNat default).Loc != (y.getD (l.getD i.toNat default).Way.toNat default).To) == false) = true → (0 : Int) ≤ (l.getD i.toNat default).With ∧ (l.getD i.toNat default).With < (↑y_2.fst.Procs.length : Int)) ∧ ((bif y_2.snd.snd == 0 then bif bif (y_2.fst.Procs.getD e.Pid.toNat default).Loc != (y.getD (l.getD i.toNat default).Way.toNat default).To then true else (y_2.fst.Procs.getD (l.getD i.toNat default).With.toNat default).Loc != (y_1.getD (l.getD i.toNat default).WithWay.toNat default).To then true else (↑y_2.fst.Chans.length : Int) != (↑e.S.Chans.length : Int) else false) = true → leO [] [] ∧ (Ai false).le (Ai b)) ∧ ((bif y_2.snd.snd == 0 then bif bif (y_2.fst.Procs.getD e.Pid.toNat default).Loc != (y.getD (l.getD i.toNat default).Way.toNat default).To then true else (y_2.fst.Procs.getD (l.getD i.toNat default).With.toNat default).Loc != (y_1.getD (l.getD i.toNat default).WithWay.toNat default).To then true else (↑y_2.fst.Chans.length : Int) != (↑e.S.Chans.length : Int) else false) = false → J (Ao [(1, VV.bp 0 0), (3, Ai up), (5, Bf true l), (7, Ad (IntKind.i64.wrap (i + (1 : Int))))] [Ob.box (Af e)])))))) ∧ (decide (i < (↑l.length : Int)) = false → leO [] [] ∧ (Ai up).le (Ai b))) := by kernel_rfl
end Go.Proofs.YtiaebjpcgjkhoaaGreatDoor
namespace Go.Proofs.YtiaebjpcgjkhoaaGreatDoor
open Go.RowKit
def stE (e : D.Env) (x v : Int) : D.Env := bif decide ((A5 e x v).2 = 0) then { e with S := (A5 e x v).1 } else e
def G6 (m mt : List Int) : Nat → List Int → D.Env → D.Env × Int
  | _, [], e => (e, 0)
  | k, x :: r, e => bif decide (mt.getD k 0 ≠ 0) then G6 m mt (k + 1) r e
      else bif decide ((A5 e x (m.getD k 0)).2 ≠ 0) then (e, (A5 e x (m.getD k 0)).2) else G6 m mt (k + 1) r (stE e x (m.getD k 0))
def Ff (e : D.Env) (s : D.Stmt) (m : List Int) : D.Env × Int := G6 m s.Match 0 s.Args e
structure Kk (e e' : D.Env) : Prop where
  M : e'.M = e.M
  pid : e'.Pid = e.Pid
  t : e'.Timeout = e.Timeout
  a : e'.Able = e.Able
  chans : e'.S.Chans = e.S.Chans
  procs : e'.S.Procs.length = e.S.Procs.length
theorem Kk.refl (e : D.Env) : Kk e e := ⟨rfl, rfl, rfl, rfl, rfl, rfl⟩
theorem Kk.trans {a b c : D.Env} (h : Kk a b) (k : Kk b c) : Kk a c := ⟨k.M.trans h.M, k.pid.trans h.pid, k.t.trans h.t, k.a.trans h.a, k.chans.trans h.chans, k.procs.trans h.procs⟩
theorem V0 (m : D.Model) (s : D.State) (who k v : Int) : (P8 m s who k v).Chans = s.Chans ∧ (P8 m s who k v).Procs.length = s.Procs.length := by
  unfold P8
  cases decide (who < 0) with
  | true => exact ⟨rfl, rfl⟩
  | false => exact ⟨rfl, by simp [setO]⟩
theorem R8 {e : D.Env} {x v : Int} (h : (A5 e x v).2 = 0) : (A5 e x v).1.Chans = e.S.Chans ∧ (A5 e x v).1.Procs.length = e.S.Procs.length := by
  unfold A5 at h ⊢
  cases c1 : decide (Ck e x ≠ 0) with
  | true =>
    rw [c1, cond_true] at h
    exact absurd h (of_decide_eq_true c1)
  | false =>
    rw [c1, cond_false] at h
    rw [cond_false]
    cases c2 : decide ((B5 e (EA e) (AD e.M x)).2.2 ≠ 0) with
    | true =>
      rw [c2, cond_true] at h
      exact absurd h (of_decide_eq_true c2)
    | false => rw [cond_false]; exact V0 _ _ _ _ _
theorem P1 (e : D.Env) (x v : Int) : Kk e (stE e x v) := by
  unfold stE
  cases c : decide ((A5 e x v).2 = 0) with
  | true =>
    obtain ⟨h1, h2⟩ := R8 (of_decide_eq_true c)
    exact ⟨rfl, rfl, rfl, rfl, h1, h2⟩
  | false => exact Kk.refl e
theorem FD (m mt : List Int) : ∀ (l : List Int) (k : Nat) (e : D.Env), Kk e (G6 m mt k l e).1
  | [], _, e => Kk.refl e
  | x :: r, k, e => by
    unfold G6
    cases decide (mt.getD k 0 ≠ 0) with
    | true => exact FD m mt r (k + 1) e
    | false =>
      rw [cond_false]
      cases decide ((A5 e x (m.getD k 0)).2 ≠ 0) with
      | true => exact Kk.refl e
      | false => exact (P1 e x _).trans (FD m mt r (k + 1) _)
theorem No {e : D.Env} {c : Int} {m : List Int} {i : Int} {p : Pn} : ∀ {ws : List D.Trans} {k : Nat}, p ∈ Cj e c m i k ws → p.pid = e.Pid ∧ p.esc = i ∧ ∃ j : Nat, p.way = ((k + j : Nat) : Int) ∧ j < ws.length ∧ EW e (ws.getD j default).S c m = true
  | [], _, h => by cases h
  | t :: r, k, h => by
    rcases List.mem_append.1 (show p ∈ (bif EW e t.S c m then [(⟨e.Pid, i, k⟩ : Pn)] else []) ++ Cj e c m i (k + 1) r from h) with h | h
    · cases q : EW e t.S c m with
      | false => rw [q] at h; cases h
      | true =>
        rw [q] at h
        obtain rfl := List.mem_singleton.1 h
        exact ⟨rfl, rfl, 0, rfl, Nat.succ_pos _, q⟩
    · obtain ⟨h1, h2, j, h3, h4, h5⟩ := No h
      exact ⟨h1, h2, j + 1, by rw [h3]; congr 1; omega, Nat.succ_lt_succ h4, h5⟩
theorem Nm {e : D.Env} {c : Int} {m : List Int} {p : Pn} : ∀ {l : List (Int × List D.Trans)}, p ∈ FT e c m l → ∃ i ws, (i, ws) ∈ l ∧ p ∈ Cj e c m i 0 ws
  | [], h => by cases h
  | (i, ws) :: r, h => by
    have hq : FT e c m ((i, ws) :: r) = bif decide (0 < (Cj e c m i 0 ws).length) || isSome (Ch e Jq ws true) then Cj e c m i 0 ws else FT e c m r := rfl
    rw [hq] at h
    cases c1 : (decide (0 < (Cj e c m i 0 ws).length) || isSome (Ch e Jq ws true)) with
    | true => rw [c1] at h; exact ⟨i, ws, List.mem_cons_self, h⟩
    | false =>
      rw [c1] at h
      obtain ⟨i', ws', h1, h2⟩ := Nm h
      exact ⟨i', ws', List.mem_cons_of_mem _ h1, h2⟩
theorem Wt {e : D.Env} {c : Int} {m : List Int} {p : Pn} (h : p ∈ E7 e c m) : p.pid = e.Pid ∧ -1 ≤ p.esc ∧ p.esc < (BZ e).Esc.length ∧ 0 ≤ p.way ∧ p.way < (Be (BZ e) p.esc).length ∧
    ((Be (BZ e) p.esc).getD p.way.toNat default).S.Kind = 6 ∧ ((Be (BZ e) p.esc).getD p.way.toNat default).S.Args.length = m.length := by
  unfold E7 at h
  cases c1 : (!(Bm e).1 || decide ((Bm e).2 ≠ 0)) with
  | true => rw [c1] at h; cases h
  | false =>
    rw [c1, cond_false] at h
    obtain ⟨i, ws, hi, hp⟩ := Nm h
    obtain ⟨e1, e2, j, e3, e4, e5⟩ := No hp
    obtain ⟨l1, l2, l3, _⟩ := HM hi
    rw [e2, l1]
    refine ⟨e1, l2, l3, by rw [e3]; omega, by rw [e3]; omega, ?_⟩
    rw [show p.way.toNat = j by rw [e3]; omega]
    unfold EW at e5
    cases c2 : (decide ((ws.getD j default).S.Kind ≠ 6) || (decide (1 < (ws.getD j default).S.N) || decide ((ws.getD j default).S.Args.length ≠ m.length))) with
    | true => rw [c2] at e5; cases e5
    | false =>
      simp only [Bool.or_eq_false_iff, decide_eq_false_iff_not, ne_eq, Decidable.not_not] at c2
      exact ⟨c2.1, c2.2.2⟩
theorem L4 {e : D.Env} {c : Int} {m : List Int} {p : Pn} : ∀ {n : Nat}, p ∈ De e c m n → ∃ q : Nat, q < n ∧ (q : Int) ≠ e.Pid ∧ p ∈ E7 (Cf e q) c m
  | 0, h => by cases h
  | n + 1, h => by
    rcases List.mem_append.1 (show p ∈ De e c m n ++ (bif decide ((n : Int) ≠ e.Pid) then E7 (Cf e n) c m else []) from h) with h | h
    · obtain ⟨q, h1, h2⟩ := L4 h
      exact ⟨q, by omega, h2⟩
    · cases c1 : decide ((n : Int) ≠ e.Pid) with
      | true => rw [c1] at h; exact ⟨n, Nat.lt_succ_self _, of_decide_eq_true c1, h⟩
      | false => rw [c1] at h; cases h
theorem Rr {ev : Evl} : ∀ {l out : List Int}, (IV ev out l).2 = 0 → (IV ev out l).1.length = out.length + l.length
  | [], out, _ => rfl
  | x :: l, out, h => by
    have hq : IV ev out (x :: l) = bif decide ((ev x).2 ≠ 0) then ([], (ev x).2) else IV ev (out ++ [(ev x).1]) l := rfl
    rw [hq] at h ⊢
    cases c : decide ((ev x).2 ≠ 0) with
    | true => rw [c] at h; exact absurd h (of_decide_eq_true c)
    | false =>
      rw [c, cond_false] at h
      rw [cond_false, Rr h]
      simp; omega
theorem Kz {e : D.Env} {s : D.Stmt} (h : (AM e s).2.2 = 0) : (AM e s).2.1.length = s.Args.length := by
  unfold AM at h ⊢
  cases c1 : decide ((AL e s.A).2 ≠ 0) with
  | true => rw [c1] at h; exact absurd h (of_decide_eq_true c1)
  | false =>
    rw [c1, cond_false] at h
    rw [cond_false]
    cases c2 : decide ((BP e (AL e s.A).1).length ≠ s.Args.length) with
    | true => rw [c2] at h; cases h
    | false =>
      rw [c2, cond_false] at h
      rw [cond_false]
      cases c3 : decide ((D4 e s.Args).2 ≠ 0) with
      | true => rw [c3] at h; exact absurd h (of_decide_eq_true c3)
      | false =>
        rw [cond_false]
        have h0 : (D4 e s.Args).2 = 0 := by simpa using c3
        have := Rr (ev := B6 e) (l := s.Args) (out := []) h0
        rw [List.length_nil, Nat.zero_add] at this
        show (Tt _ _).length = _
        unfold Tt
        rw [List.length_map, List.length_range]
        exact this
theorem VP {e : D.Env} {mt : Int → List Int → List Pn} {s : D.Stmt} {self : Bool} {p : Pn} (h : p ∈ (C0 e mt s self).wth) : s.Kind = 5 ∧ (AM e s).2.2 = 0 ∧ p ∈ mt (AL e s.A).1 (AM e s).2.1 := by
  have no : ∀ {q : Prop}, p ∈ ([] : List Pn) → q := fun h => by cases h
  unfold C0 at h
  split at h
  · cases q : Fx e s.A <;> rw [q] at h <;> exact no h
  split at h
  · cases q : Fx e s.B <;> rw [q] at h <;> exact no h
  split at h
  · exact no h
  split at h
  · rename_i hk
    refine ⟨hk, ?_⟩
    unfold Gi at h
    cases c1 : decide ((AL e s.A).2 ≠ 0) with
    | true => rw [c1] at h; exact no h
    | false =>
    rw [c1, cond_false] at h
    cases c2 : decide ((BP e (AL e s.A).1).length ≠ s.Args.length) with
    | true => rw [c2] at h; exact no h
    | false =>
    rw [c2, cond_false] at h
    cases c3 : decide (0 < (CN e.M (Dy e (AL e s.A).1).Shape).Room) with
    | true => rw [c3] at h; exact no h
    | false =>
    rw [c3, cond_false] at h
    cases c4 : self with
    | true => rw [c4] at h; exact no h
    | false =>
    rw [c4, cond_false] at h
    cases c5 : decide ((AM e s).2.2 ≠ 0) with
    | true => rw [c5] at h; exact no h
    | false =>
    rw [c5, cond_false] at h
    exact ⟨by simpa using c5, h⟩
  split at h
  · exact no h
  split at h <;> exact no h
theorem QM {e : D.Env} {w : Wy} (hw : w ∈ BH e) :
    (w.With < 0 → w.WithEsc = -1 ∧ w.WithWay = -1) ∧
    (0 ≤ w.With → 0 ≤ w.Way ∧ w.With ≠ e.Pid ∧ w.With < e.S.Procs.length ∧ ((Be (BZ e) w.Esc).getD w.Way.toNat default).S.Kind = 5 ∧ -1 ≤ w.WithEsc ∧ w.WithEsc < (BZ (Cf e w.With)).Esc.length ∧ 0 ≤ w.WithWay ∧
      w.WithWay < (Be (BZ (Cf e w.With)) w.WithEsc).length ∧ ((Be (BZ (Cf e w.With)) w.WithEsc).getD w.WithWay.toNat default).S.Kind = 6 ∧
      ((Be (BZ e) w.Esc).getD w.Way.toNat default).S.Args.length = ((Be (BZ (Cf e w.With)) w.WithEsc).getD w.WithWay.toNat default).S.Args.length) := by
  rcases GX (e := e) with h | ⟨er, h⟩ | ⟨i, ws, hi, h⟩
  · rw [h] at hw; cases hw
  · rw [h] at hw
    obtain rfl := List.mem_singleton.1 hw
    exact ⟨fun _ => ⟨rfl, rfl⟩, fun h0 => by unfold Ic at h0; simp at h0⟩
  · rw [h] at hw
    obtain ⟨hl, h1, h2, _⟩ := HM hi
    have key : ∀ {l : List Ab} {k : Nat}, w ∈ CX i k l → ∃ (j : Nat) (x : Ab), l[j]? = some x ∧ w ∈ GA i (k + j) x := by
      intro l
      induction l with
      | nil => intro k h; cases h
      | cons x r ih =>
        intro k h
        rcases List.mem_append.1 (show w ∈ GA i k x ++ CX i (k + 1) r from h) with h | h
        · exact ⟨0, x, rfl, h⟩
        · obtain ⟨j, y, a, b⟩ := ih h
          exact ⟨j + 1, y, a, by rw [show k + (j + 1) = k + 1 + j by omega]; exact b⟩
    obtain ⟨j, x, a1, a2⟩ := key hw
    obtain ⟨b1, rfl⟩ := TI a1
    rw [Nat.zero_add] at a2
    rcases List.mem_append.1 a2 with a2 | a2
    · cases c : ((Fj e (BF e) ws false j).is && decide ((Fj e (BF e) ws false j).wth.length = 0)) with
      | false => rw [c] at a2; cases a2
      | true =>
        rw [c] at a2
        obtain rfl := List.mem_singleton.1 a2
        exact ⟨fun _ => ⟨rfl, rfl⟩, fun h0 => absurd (show (0 : Int) ≤ -1 from h0) (by decide)⟩
    · obtain ⟨p, hp, rfl⟩ := List.mem_map.1 a2
      have hwth : (Fj e (BF e) ws false j).wth = (C0 e (BF e) (ws.getD j default).S false).wth := by
        unfold Fj
        cases (decide ((ws.getD j default).S.Kind = 7) && !(Eo e (BF e) ws false ws.length)) <;> rfl
      rw [hwth] at hp
      obtain ⟨s1, s2, s3⟩ := VP hp
      obtain ⟨q, q1, q2, q3⟩ := L4 (show p ∈ De e _ _ e.S.Procs.length from s3)
      obtain ⟨r1, r2, r3, r4, r5, r6, r7⟩ := Wt q3
      have r1' : p.pid = q := r1
      have hat : Cf e p.pid = Cf e q := by rw [r1']
      refine ⟨fun h0 => ?_, fun _ => ?_⟩
      · have h0' : p.pid < 0 := h0
        rw [r1'] at h0'; omega
      · show 0 ≤ (j : Int) ∧ p.pid ≠ e.Pid ∧ p.pid < e.S.Procs.length ∧ ((Be (BZ e) i).getD (j : Int).toNat default).S.Kind = 5 ∧ -1 ≤ p.esc ∧ p.esc < (BZ (Cf e p.pid)).Esc.length ∧ 0 ≤ p.way ∧ p.way < (Be (BZ (Cf e p.pid)) p.esc).length ∧
          ((Be (BZ (Cf e p.pid)) p.esc).getD p.way.toNat default).S.Kind = 6 ∧ ((Be (BZ e) i).getD (j : Int).toNat default).S.Args.length = ((Be (BZ (Cf e p.pid)) p.esc).getD p.way.toNat default).S.Args.length
        rw [hat, hl, show ((j : Nat) : Int).toNat = j by omega]
        exact ⟨by omega, by rw [r1']; exact q2, by rw [r1']; omega, s1, r2, r3, r4, r5, r6, by rw [r7, Kz s2]⟩
end Go.Proofs.YtiaebjpcgjkhoaaGreatDoor
namespace Go.Proofs.YtiaebjpcgjkhoaaGreatDoor
open Go.RowKit
theorem UK {s : D.State} {cs : List VV} (h : obC s = .box cs) : False := by unfold obC at h; cases h
theorem UJ {s : D.State} {cs : List VV} (h : obP s = .box cs) : False := by unfold obP at h; cases h
section
variable {e : D.Env}
theorem Pe (hw : AN e.M) (hs : Bl e.S) (x v : Int) : Ae Tryz.prog 42 (hsE e) [.bp 0 0, Ad x, Ad v] (hsE (stE e x v)) (Ad (A5 e x v).2) := by
  have hst := Lz hw hs x v
  unfold stE
  cases c : decide ((A5 e x v).2 = 0) with
  | true =>
    have h0 : ((A5 e x v).2 == 0) = true := by rw [ieq]; exact c
    have h := Ah (Q := _) Am An Tryz.func42 (by kernel_rfl) rfl (K5 [.box (Rh { e with S := (A5 e x v).1 } (.ow 3 0 (A5 e x v).1.Chans.length) (.ow 4 0 (A5 e x v).1.Procs.length)), obC e.S, obP e.S, obC (A5 e x v).1, obP (A5 e x v).1] (A5 e x v).2 e x v)
      ⟨A5 e x v, hst, fun _ => ⟨⟨Ob.le_refl _, Ob.le_refl _, Ob.le_refl _, Ob.le_refl _, Ob.le_refl _, trivial⟩, VV.le_refl _⟩, fun h => by rw [h0] at h; cases h⟩
    exact h.pick [0, 3, 4] rfl fun j hj => by
      match j, hj with
      | 0, _ => exact .inl rfl
      | 1, _ => exact .inr ⟨fun cs h => UK h, 3, rfl, fun cs h => UK h⟩
      | 2, _ => exact .inr ⟨fun cs h => UJ h, 4, rfl, fun cs h => UJ h⟩
      | j + 3, hj => exact absurd hj (by simp [hsE])
  | false =>
    have h0 : ((A5 e x v).2 == 0) = false := by rw [ieq]; exact c
    exact Ah Am An Tryz.func42 (by kernel_rfl) rfl (K5 (hsE e) (A5 e x v).2 e x v)
      ⟨A5 e x v, hst, (fun h => by rw [h0] at h; cases h), fun _ => ⟨⟨Ob.le_refl _, Ob.le_refl _, Ob.le_refl _, trivial⟩, VV.le_refl _⟩⟩
theorem VS (hw : AN e.M) (hs : Bl e.S) (x v : Int) : AN (stE e x v).M ∧ Bl (stE e x v).S := by
  refine ⟨by rw [(P1 e x v).M]; exact hw, ?_⟩
  unfold stE
  cases decide ((A5 e x v).2 = 0) with
  | true => exact (Sb hw v).small
  | false => exact hs
theorem Pk {s : D.Stmt} {m : List Int} (hw : AN e.M) (hs : Bl e.S) (hl : s.Args.length ≤ 1048576) (h1 : s.Args.length ≤ s.Match.length) (h2 : s.Args.length ≤ m.length) :
    Ae Tryz.prog 65 (hsE e) [.bp 0 0, .agg (Av s), Aa true m] (hsE (Ff e s m).1) (Ad (Ff e s m).2) := by
  refine Ah Am An Tryz.func65 (by kernel_rfl) rfl (RH (Ff e s m).1 (Ff e s m).2 e s m) ?_
  change AH _ _ (Oq e s m 0)
  refine Bh Am An (fun g st => ∃ (k : Nat) (f : D.Env), k ≤ s.Args.length ∧ g = s.Args.length - k ∧ AN f.M ∧ Bl f.S ∧ G6 m s.Match k (s.Args.drop k) f = Ff e s m ∧ st = Oq f s m k) (by kernel_rfl) (by kernel_rfl) ⟨_, Up.of ⟨0, e, Nat.zero_le _, rfl, hw, hs, rfl, rfl⟩⟩ ?_
  rintro g st ⟨k, f, hk, rfl, hwf, hsf, hq, rfl⟩
  generalize Ff e s m = R at hq ⊢
  refine A9.raw (Pm R.1 R.2 f s m k _) ⟨fun hlt => ?_, fun hge => ?_⟩
  · have hlt' : k < s.Args.length := by have := AQ hlt; omega
    have hto : (k : Int).toNat = k := by omega
    rw [hto]
    rw [BQ (d := 0) hlt'] at hq
    unfold G6 at hq
    refine ⟨⟨by omega, by omega⟩, ⟨by omega, by omega⟩, fun hy => ?_, fun hy => ⟨⟨by omega, by omega⟩, (stE f (s.Args.getD k 0) (m.getD k 0), (A5 f (s.Args.getD k 0) (m.getD k 0)).2), Pe hwf hsf _ _, fun hz => ?_, fun hz => ?_⟩⟩
    · rw [A0] at hy
      rw [hy, cond_true] at hq
      rw [Ap (by omega)]
      exact ⟨s.Args.length - (k + 1), by omega, Up.of ⟨k + 1, f, by omega, rfl, hwf, hsf, hq, rfl⟩⟩
    · rw [A0] at hy hz
      rw [hy, cond_false, hz, cond_true] at hq
      subst hq
      have hst : stE f (s.Args.getD k 0) (m.getD k 0) = f := by
        unfold stE
        rw [decide_eq_false (of_decide_eq_true hz)]; rfl
      rw [hst]
      exact ⟨⟨Ob.le_refl _, Ob.le_refl _, Ob.le_refl _, trivial⟩, VV.le_refl _⟩
    · rw [A0] at hy hz
      rw [hy, cond_false, hz, cond_false] at hq
      rw [Ap (by omega)]
      obtain ⟨a, b⟩ := VS hwf hsf (s.Args.getD k 0) (m.getD k 0)
      exact ⟨s.Args.length - (k + 1), by omega, Up.of ⟨k + 1, _, by omega, rfl, a, b, hq, rfl⟩⟩
  · have hge' : s.Args.length ≤ k := by have := AV hge; omega
    rw [List.drop_of_length_le hge'] at hq
    unfold G6 at hq
    subst hq
    exact ⟨⟨Ob.le_refl _, Ob.le_refl _, Ob.le_refl _, trivial⟩, VV.le_refl _⟩
end
end Go.Proofs.YtiaebjpcgjkhoaaGreatDoor
namespace Go.Proofs.YtiaebjpcgjkhoaaGreatDoor
open Go.RowKit
section
variable {e : D.Env} {w : Wy}
theorem QV {l : D.Loc} {esc : Int} (_ : -1 ≤ esc) (h2 : esc < l.Esc.length) : Be l esc ∈ Bt l := by
  unfold Be
  cases c : decide (esc < 0) with
  | true => exact List.mem_cons_self
  | false =>
    have : 0 ≤ esc := by have := of_decide_eq_false c; omega
    exact List.mem_cons_of_mem _ (AF (by omega))
theorem RB (h : Cp e) : Ae Tryz.prog 21 [] [.agg (Bu e)] [] (.agg (AY (BZ e))) :=
  Ah Am An Tryz.func21 (by kernel_rfl) rfl (Vh _ e) ⟨⟨h.p0, h.ok.pid.2⟩, h.facts.1, h.facts.2, trivial, VV.le_refl _⟩
def DK (e : D.Env) (w : Wy) : D.Trans := (Be (BZ e) w.Esc).getD w.Way.toNat default
def FH (e : D.Env) (w : Wy) : D.Trans := (Be (BZ (Cf e w.With)) w.WithEsc).getD w.WithWay.toNat default
def Dv (e : D.Env) (w : Wy) : D.Env × Int :=
  bif decide ((AM e (DK e w).S).2.2 ≠ 0) then (e, (AM e (DK e w).S).2.2)
  else ({ e with S := (Ff (Cf e w.With) (FH e w).S (AM e (DK e w).S).2.1).1.S }, (Ff (Cf e w.With) (FH e w).S (AM e (DK e w).S).2.1).2)
theorem LK : Kk e (Dv e w).1 := by
  unfold Dv
  cases decide ((AM e (DK e w).S).2.2 ≠ 0) with
  | true => exact Kk.refl e
  | false =>
    have h := FD (AM e (DK e w).S).2.1 (FH e w).S.Match (FH e w).S.Args 0 (Cf e w.With)
    exact ⟨rfl, rfl, rfl, rfl, h.chans, h.procs⟩
structure JG (e : D.Env) (w : Wy) : Prop where
  h : Cp e
  hB : Cp (Cf e w.With)
  w0 : 0 ≤ w.Way
  wW : w.Way < (Be (BZ e) w.Esc).length
  e1 : -1 ≤ w.Esc
  e2 : w.Esc < (BZ e).Esc.length
  v0 : 0 ≤ w.With
  vn : w.With ≠ e.Pid
  vl : w.With < e.S.Procs.length
  b1 : -1 ≤ w.WithEsc
  b2 : w.WithEsc < (BZ (Cf e w.With)).Esc.length
  b3 : 0 ≤ w.WithWay
  b4 : w.WithWay < (Be (BZ (Cf e w.With)) w.WithEsc).length
  kA : (DK e w).S.Kind = 5
  kB : (FH e w).S.Kind = 6
  len : (DK e w).S.Args.length = (FH e w).S.Args.length
theorem YL (h : Cp e) (hin : w ∈ BH e) (hw : 0 ≤ w.With) : JG e w := by
  obtain ⟨m1, m2, m3, m4, m5, m6, m7, m8, m9, m10⟩ := (QM hin).2 hw
  obtain ⟨a1, a2, a3⟩ := (Px hin).2 m1
  obtain ⟨_, _, a4, _⟩ := a3 w hin
  have hB : Cp (Cf e w.With) := ⟨⟨h.ok.fits, h.ok.may, h.ok.wf, by show -1 ≤ w.With; omega, m3⟩, hw⟩
  exact ⟨h, hB, m1, a4, a1, a2, hw, m2, m3, m5, m6, m7, m8, m4, m9, m10⟩
theorem JG.stA (m : JG e w) : Ki e.M (DK e w).S := (m.h.ws (QV m.e1 m.e2)).st _ (AF (by have := m.w0; have := m.wW; omega))
theorem JG.stB (m : JG e w) : Ki e.M (FH e w).S := (m.hB.ws (QV m.b1 m.b2)).st _ (AF (by have := m.b3; have := m.b4; omega))
theorem RS {l : D.Loc} {esc i : Int} (_ : -1 ≤ esc) (h2 : esc < l.Esc.length) (h3 : 0 ≤ i) (h4 : i < (Be l esc).length) : Ae Tryz.prog 20 [] [.agg (AY l), Ad esc, Ad i] [] (.agg (Cs ((Be l esc).getD i.toNat default))) := by
  refine MQ (l := l) (esc := esc) (i := i) (fun hn => ⟨h3, by
      have hx : Be l esc = l.Out := by unfold Be; rw [decide_eq_true hn]; rfl
      rw [hx] at h4; exact h4⟩) (fun hn => ⟨h2, h3, by
      have hx : Be l esc = l.Esc.getD esc.toNat [] := by unfold Be; rw [decide_eq_false (by omega)]; rfl
      rw [hx] at h4; exact h4⟩)
theorem Rw (m : JG e w) : Ae Tryz.prog 43 (hsE e) [.bp 0 0, .agg (Av (DK e w).S), .agg (AX w)] (hsE (Dv e w).1) (Ad (Dv e w).2) := by
  have hv0 := m.v0
  have hq : Dv e w = bif decide ((AM e (DK e w).S).2.2 ≠ 0) then (e, (AM e (DK e w).S).2.2)
    else ({ e with S := (Ff (Cf e w.With) (FH e w).S (AM e (DK e w).S).2.1).1.S }, (Ff (Cf e w.With) (FH e w).S (AM e (DK e w).S).2.1).2) := rfl
  have hL := FD (AM e (DK e w).S).2.1 (FH e w).S.Match (FH e w).S.Args 0 (Cf e w.With)
  generalize Dv e w = R at hq ⊢
  refine Ah Am An Tryz.func43 (by kernel_rfl) rfl (U5 (hsE R.1) R.2 e (DK e w).S w) ⟨AM e (DK e w).S, Lb m.h.ok.wf m.h.small m.stA.args, fun h1 => ?_, fun h1 => ⟨fun h2 => ?_, fun h2 => ?_⟩⟩
  · rw [A0] at h1
    rw [h1, cond_true] at hq
    subst hq
    exact ⟨⟨Ob.le_refl _, Ob.le_refl _, Ob.le_refl _, trivial⟩, VV.le_refl _⟩
  · rw [A0] at h1
    rw [h1, cond_false] at hq
    have hml := Kz (e := e) (s := (DK e w).S) (by simpa using h1)
    have hk6 := m.stB.k6 m.kB
    have hll := m.len
    refine ⟨BZ (Cf e w.With), RB m.hB, FH e w, RS m.b1 m.b2 m.b3 m.b4, Ff (Cf e w.With) (FH e w).S (AM e (DK e w).S).2.1, Pk (e := Cf e w.With) m.h.ok.wf m.h.small m.stB.args (by omega) (by omega), ?_⟩
    subst hq
    exact ⟨⟨Ob.le_refl _, Ob.le_refl _, Ob.le_refl _, trivial⟩, VV.le_refl _⟩
  · have := of_decide_eq_false h2; omega
theorem Xm (m : JG e w) : Ae Tryz.prog 22 (hsE e) [.bp 0 0, .agg (Av (DK e w).S), .agg (AX w)] (hsE (Dv e w).1) (.tup [Iq ⟨#[]⟩, Ad (Dv e w).2]) := by
  have hk := m.kA
  have hs := Rw m
  generalize DK e w = t at hk hs ⊢
  generalize Dv e w = R at hs ⊢
  refine Ah Am An Tryz.func22 (by kernel_rfl) rfl (MU R.1 ⟨#[]⟩ R.2 e t.S w) ?_
  have n : ∀ {k : Int} {p : Prop}, k ≠ 5 → (t.S.Kind == k) = true → p := fun h1 h => by
    have := eq_of_beq h; omega
  have y : ∀ {p : Prop}, (t.S.Kind == 5) = false → p := fun h => by rw [hk] at h; cases h
  exact ⟨n (by decide), fun _ => ⟨n (by decide), fun _ => ⟨n (by decide), fun _ => ⟨n (by decide), fun _ => ⟨n (by decide), fun _ => ⟨fun _ => ⟨R, hs, ⟨Ob.le_refl _, Ob.le_refl _, Ob.le_refl _, trivial⟩, VV.le_refl _⟩, y⟩⟩⟩⟩⟩⟩
def Jr (e : D.Env) (w : Wy) (y : D.Env) : List D.Process := y.S.Procs.set w.With.toNat { y.S.Procs.getD w.With.toNat default with Loc := (FH e w).To }
def WU (e : D.Env) (w : Wy) (y : D.Env) : D.State := { y.S with Procs := (Jr e w y).set e.Pid.toNat { (Jr e w y).getD e.Pid.toNat default with Loc := (DK e w).To }, Last := e.Pid }
def goM (e : D.Env) (w : Wy) : D.State × ByteArray × Int :=
  bif decide (w.Err ≠ 0) then (GH, ⟨#[]⟩, w.Err) else bif decide ((Dv e w).2 ≠ 0) then (GH, ⟨#[]⟩, (Dv e w).2) else (WU e w (Dv e w).1, ⟨#[]⟩, 0)
theorem Yn {l : List D.Process} {t j : Nat} {F : Nat → List VV} {to : Int} (ht : t < l.length) (hj : j < l.length) (hF : ∀ i, i < l.length → F i = Ak (l.getD i default)) :
    (bif j.beq t then (bif Nat.beq 1 4 then [Ad to] else List.take 1 (F t) ++ [Ad to] ++ List.drop 2 (F t)) else F j) = Ak ((l.set t { l.getD t default with Loc := to }).getD j default) := by
  rw [← LJ hj, hF t ht, hF j hj]
  rfl
theorem AaE (m : JG e w) (h0 : DJ e = 0) (hin : w ∈ BH e) : Ae Tryz.prog 9 [] [.agg (Af e), .agg (AX w)] [] (.tup [.agg (Ax (goM e w).1), Iq (goM e w).2.1, Ad (goM e w).2.2]) := by
  have h := m.h
  have hl := HD h
  have hway := RS m.e1 m.e2 m.w0 m.wW
  have hwayB := RS m.b1 m.b2 m.b3 m.b4
  have hcopy := NO h.ok.fit
  have hdoes := Xm m
  have hlike := LK (e := e) (w := w)
  have hpid := h.ok.pid
  have hp0 := h.p0
  have hv0 := m.v0
  have hvl := m.vl
  have hw0 := m.w0
  have hq : goM e w = bif decide (w.Err ≠ 0) then (GH, ⟨#[]⟩, w.Err) else bif decide ((Dv e w).2 ≠ 0) then (GH, ⟨#[]⟩, (Dv e w).2) else (WU e w (Dv e w).1, ⟨#[]⟩, 0) := rfl
  generalize goM e w = r at hq ⊢
  have hmet : ∀ y, WU e w y = { y.S with Procs := (Jr e w y).set e.Pid.toNat { (Jr e w y).getD e.Pid.toNat default with Loc := (DK e w).To }, Last := e.Pid } := fun _ => rfl
  generalize Dv e w = y at hq hdoes hlike
  refine Ah Am An Tryz.func9 (by kernel_rfl) rfl (NX r e w) ⟨DJ e, IY h.ok.wf h.small, fun h1 => ?_, fun _ => ⟨BH e, Em h, decide (w ∈ BH e), GI (by omega), fun hb => ?_, fun _ => ⟨fun hb => ?_, fun hb1 => ⟨fun hb => ?_, fun _ =>
    ⟨e.S, hcopy, BZ e, FP h, DK e w, hway, (y.1, ⟨#[]⟩, y.2), hdoes, fun hb => ?_, fun hb2 => ⟨fun hb => ⟨BZ (Cf e w.With), FP m.hB, FH e w, hwayB, ⟨hv0, by rw [hlike.procs]; exact hvl⟩, ⟨hp0, by rw [hlike.procs]; exact hpid.2⟩, ?_⟩, fun hb => ?_⟩⟩⟩⟩⟩⟩
  · rw [h0] at h1; cases h1
  · rw [decide_eq_true hin] at hb; cases hb
  · rw [A0] at hb
    rw [hb, cond_true] at hq
    subst hq
    exact ⟨trivial, L7⟩
  · have := of_decide_eq_true hb; omega
  · rw [A0] at hb1 hb
    rw [hb1, cond_false, show decide (y.2 ≠ 0) = true from hb, cond_true] at hq
    subst hq
    exact ⟨trivial, L7⟩
  · rw [A0] at hb1 hb2
    rw [hb1, cond_false, show decide (y.2 ≠ 0) = false from hb2, cond_false] at hq
    subst hq
    refine ⟨trivial, VV.le_tup ⟨VV.le_agg ⟨VV.le_refl _, VV.le_refl _, ?_, VV.le_refl _, VV.le_refl _, VV.le_refl _, trivial⟩, VV.le_refl _, VV.le_refl _, trivial⟩⟩
    have hlen : (WU e w y.1).Procs.length = y.1.S.Procs.length := by simp [WU, Jr]
    have hlm : (Jr e w y.1).length = y.1.S.Procs.length := by simp [Jr]
    show VV.le (.sl true y.1.S.Procs.length 4 _) (.sl true (WU e w y.1).Procs.length 4 _)
    rw [hlen]
    refine VV.le_sl (.inl rfl) fun j hj => A8 ?_
    have hpr := hlike.procs
    exact Yn (l := Jr e w y.1) (t := e.Pid.toNat) (to := (DK e w).To) (by rw [hlm]; omega) (by rw [hlm]; exact hj) fun i hi => LJ (l := y.1.S.Procs) (t := w.With.toNat) (p := { y.1.S.Procs.getD w.With.toNat default with Loc := (FH e w).To }) (by rw [hlm] at hi; exact hi)
  · have := of_decide_eq_false hb; omega
theorem AbX (m : JG e w) (h : (goM e w).2.2 = 0) : (goM e w).1.Procs.length = e.S.Procs.length ∧ ((goM e w).1.Procs.getD e.Pid.toNat default).Loc = (DK e w).To ∧ ((goM e w).1.Procs.getD w.With.toNat default).Loc = (FH e w).To ∧ (goM e w).1.Chans.length = e.S.Chans.length := by
  have hpid := m.h.ok.pid
  have hp0 := m.h.p0
  have hv0 := m.v0
  have hvl := m.vl
  have hvn := m.vn
  have hlike := LK (e := e) (w := w)
  unfold goM at h ⊢
  cases c1 : decide (w.Err ≠ 0) with
  | true => rw [c1, cond_true] at h; exact absurd h (of_decide_eq_true c1)
  | false =>
  rw [c1, cond_false] at h
  rw [cond_false]
  cases c2 : decide ((Dv e w).2 ≠ 0) with
  | true => rw [c2, cond_true] at h; exact absurd h (of_decide_eq_true c2)
  | false =>
  rw [cond_false]
  have hpr := hlike.procs
  have hlm : (Jr e w (Dv e w).1).length = e.S.Procs.length := by unfold Jr; rw [List.length_set]; exact hpr
  have get_set : ∀ {l : List D.Process} {t : Nat} {p : D.Process}, t < l.length → (l.set t p).getD t default = p := fun h => by simp [List.getD, h]
  have get_ne : ∀ {l : List D.Process} {t j : Nat} {p : D.Process}, t ≠ j → (l.set t p).getD j default = l.getD j default := fun h => by simp [List.getD, h]
  refine ⟨?_, ?_, ?_, ?_⟩
  · show ((Jr e w (Dv e w).1).set _ _).length = _
    rw [List.length_set]; exact hlm
  · show (((Jr e w (Dv e w).1).set e.Pid.toNat _).getD e.Pid.toNat default).Loc = _
    rw [get_set (by omega)]
  · show (((Jr e w (Dv e w).1).set e.Pid.toNat _).getD w.With.toNat default).Loc = _
    rw [get_ne (by omega)]
    unfold Jr
    rw [get_set (by omega)]
  · show (Dv e w).1.S.Chans.length = _
    rw [hlike.chans]
theorem QT (hw : RQ e) : Ae Tryz.prog 5 [] [.agg (Af e)] [] (Ai true) := by
  refine Ah Am An Tryz.func5 (by kernel_rfl) rfl (Td true e) ⟨true, Sj, Jy e, OC hw, fun h => As rfl, fun _ => ⟨GK e, Lc hw.M (P7 hw.S), ?_⟩⟩
  have hcase : (GK e).1 = [] ∨ (DJ e = 0 ∧ Cp e ∧ (GK e).1 = BH e) := by
    have hq : GK e = bif decide (DJ e ≠ 0) then ([], DJ e) else (BH e, 0) := rfl
    cases c : decide (DJ e ≠ 0) with
    | true => rw [hq, c]; exact .inl rfl
    | false => rw [hq, c]; exact .inr ⟨by simpa using c, J0 hw.M (by simpa using c), rfl⟩
  change AH _ _ (KN e true (GK e).1 0)
  generalize (GK e).1 = l at hcase
  have hlen : l.length ≤ 16778240 := by
    rcases hcase with rfl | ⟨_, h, rfl⟩
    · simp
    · exact HD h
  refine AI Am An l.length (fun k => KN e true l k) (fun _ => True) (by kernel_rfl) (by kernel_rfl) trivial ?_
  intro i hi _ J next
  refine A9.raw (QU true e true l i J) ⟨fun hlt => ?_, fun hge => As rfl⟩
  have hlt' : i < l.length := by have := AQ hlt; omega
  have hto : (i : Int).toNat = i := by omega
  rw [hto]
  obtain ⟨h0, hP, rfl⟩ : DJ e = 0 ∧ Cp e ∧ l = BH e := by
    rcases hcase with rfl | h
    · simp at hlt'
    · exact h
  have hin : (BH e).getD i default ∈ BH e := AF hlt'
  have goon : J (KN e true (BH e) ((i : Int) + 1)) := next _ hlt' trivial (Up.of rfl)
  rw [Ap (by omega)]
  generalize (BH e).getD i default = w at hin ⊢
  refine ⟨⟨by omega, by omega⟩, fun hn => ⟨fun hb => ?_, fun _ => goon⟩, fun hn => ?_⟩
  · obtain ⟨a, b⟩ := (QM hin).1 (of_decide_eq_true hn)
    rw [a, b] at hb; cases hb
  have m := YL hP hin (by have := of_decide_eq_false hn; omega)
  have hok := AbX m
  have hgo := AaE m h0 hin
  have hv0 := m.v0
  have hvl := m.vl
  have hvn := m.vn
  have hp0 := hP.p0
  have hpid := hP.ok.pid
  have hkA := m.kA
  have hkB := m.kB
  have hll := m.len
  refine ⟨fun hb => ?_, fun _ => ⟨Be (BZ e) w.Esc, NA hP m.e2, ⟨m.w0, m.wW⟩, Be (BZ (Cf e w.With)) w.WithEsc, NA (e := Cf e w.With) m.hB m.b2, ⟨m.b3, m.b4⟩, goM e w, hgo, fun hb => ?_, fun _ => ⟨fun hb => ?_, fun hb => ?_, fun hb => ?_, fun _ => goon⟩⟩⟩
  · rw [show (w.With == e.Pid) = false by simpa using hvn, cond_false] at hb
    have := of_decide_eq_true hb; omega
  · exfalso
    have hb' : (bif bif (DK e w).S.Kind != 5 then true else (FH e w).S.Kind != 6 then true else ((DK e w).S.Args.length : Int) != ((FH e w).S.Args.length : Int)) = true := hb
    rw [hkA, hkB, hll] at hb'
    simp at hb'
  · have hz : (goM e w).2.2 = 0 := by simpa using hb
    have := (hok hz).1; omega
  · have hz : (goM e w).2.2 = 0 := by
      cases hq : ((goM e w).2.2 == 0) with
      | true => exact eq_of_beq hq
      | false => rw [hq] at hb; simp at hb
    have := (hok hz).1; omega
  · exfalso
    cases hq : ((goM e w).2.2 == 0) with
    | false => rw [hq] at hb; cases hb
    | true =>
      obtain ⟨_, k2, k3, k4⟩ := hok (eq_of_beq hq)
      rw [hq, cond_true, k2, k3, k4] at hb
      have hb' : (bif bif (DK e w).To != (DK e w).To then true else (FH e w).To != (FH e w).To then true else (e.S.Chans.length : Int) != (e.S.Chans.length : Int)) = true := hb
      simp at hb'
end
end Go.Proofs.YtiaebjpcgjkhoaaGreatDoor
namespace Go.Proofs.YtiaebjpcgjkhoaaGreatDoor
open Go.ChangeShapes Go.WideShapes Go.ChangeAt Go.RowKit
theorem own : ownKnob Tryz.prog.godebug = none := by kernel_rfl
theorem Aay : laidOutB Tryz.prog = true := by kernel_rfl
theorem MC {H : Type} {enc : TypeId × Value → H} {P : Program} (hl : laidOutB P = true) {W W' : World} (hb : Below W.heap.size W W') :
    ∀ (ts : List TypeId) (vs : List Value) (ds : List (DataW H)) (ps : List MemPlace), ts.all (fun t => P.readableRec t && decide (t < P.types.size)) = true →
      DataW.TrodAll enc P W 0 (fun _ => true) true ts vs ds ps → DataW.TrodAll enc P W' 0 (fun b => decide (b < W.heap.size)) true ts vs ds ps := by
  intro ts
  induction ts with
  | nil =>
    intro vs ds ps _ h
    obtain ⟨rfl, rfl, rfl⟩ := trodAll_nil h
    exact trodAll_mk0
  | cons t ts ih =>
    intro vs ds ps ht h
    rw [List.all_cons, Bool.and_eq_true, Bool.and_eq_true] at ht
    obtain ⟨v, vs', d, ds', p, q, rfl, rfl, rfl, h1, h2⟩ := trodAll_cons h
    have lt1 : ∀ x ∈ p, x.block < W.heap.size := by obtain ⟨m, hm⟩ := h1; exact DataW.trod_lt m _ _ _ hm
    exact trodAll_cons_mk (Below.trod hl ht.1.1 (of_decide_eq_true ht.1.2) h1 hb lt1) (ih vs' ds' q ht.2 h2)
theorem YW {H : Type} {enc : TypeId × Value → H} {P : Program} {f : Func} {s : ChangeSpec} {tb : TypeId} (hl : laidOutB P = true)
    (hp : f.params.toList.all (fun t => P.readableRec t && decide (t < P.types.size)) = true) (hr : f.resultTypes = #[tb]) (htb : P.underlying tb = some .bool) (hvars : s.vars = [])
    {W W' : World} {args : Array Value} {ds gs : List (DataW H)} {before : List MemPlace}
    (hW : DataW.Whole enc P f.params.toList s.vars false W args.toList ds gs before)
    (hfn : ∀ ds, ds.length = f.params.toList.length → s.fn H ds = { results := [.lit (.bool true)], args := ds }) (hb : Below W.heap.size W W') :
    s.post enc P f false true false false W args (.bool true) W' := by
  have hW' := hW
  obtain ⟨p, q, hA, hV, rfl, hfz, hnd⟩ := hW
  rw [hvars] at hV
  obtain ⟨rfl, rfl⟩ := trodVars_none hV
  have hlen : ∀ (ts : List TypeId) (vs : List Value) (ds : List (DataW H)) (ps : List MemPlace), DataW.TrodAll enc P W 0 (fun _ => true) true ts vs ds ps → ds.length = ts.length := by
    intro ts
    induction ts with
    | nil => intro vs ds ps h; obtain ⟨_, rfl, _⟩ := trodAll_nil h; rfl
    | cons t ts ih => intro vs ds ps h; obtain ⟨v, vs', d, ds', p, q, rfl, rfl, rfl, _, h2⟩ := trodAll_cons h; simp [ih _ _ _ h2]
  have hf := hfn (ds ++ []) (by simpa using hlen _ _ _ _ hA)
  refine ⟨ds, [], _, [], p, [], hW', ?_, ?_, ?_, hb.frame _, fun h => by cases h⟩
  · rw [hf, hr]; exact trodAll_mk1 (shut_bool htb _)
  · rw [hf, List.append_nil]; exact MC hl hb _ _ _ _ hp hA
  · rw [hf, hvars]; rfl
end Go.Proofs.YtiaebjpcgjkhoaaGreatDoor
namespace Go.Proofs.YtiaebjpcgjkhoaaGreatDoor
open Go.ChangeShapes Go.WideShapes Go.ChangeAt Go.RowKit
theorem Ae1 : (Tryz.prog.globals[0]?).map (·.type) = some 225 := by kernel_rfl
theorem Zq : Tryz.prog.cellsOf 225 = 20 := by kernel_rfl
theorem Zp : Tryz.prog.cellsOf 137 = 1 := by kernel_rfl
theorem Agv : (Tryz.prog.globals[2]?).map (·.type) = some 244 := by kernel_rfl
theorem AaT : Tryz.prog.cellsOf 244 = 64 := by kernel_rfl
theorem AaS : Tryz.prog.cellsOf 5 = 1 := by kernel_rfl
theorem WQ : Rows.execMeetsRow.laid.filter (fun x => x.2.handleName?.isSome) = [] := by kernel_rfl
theorem YU {W : World} (h : laidMetH Tryz.prog Rows.execMeetsRow.laid W) : EJ W ∧ ∀ k, k ∈ G4 → k < W.heap.size := by
  unfold laidMetH at h
  rw [WQ] at h
  have h : laidMet Tryz.prog Rows.execMeetsRow.laid W := h
  have h1 := h.tail
  have h2 := h1.tail
  have hL : EJ W := ⟨Lib.tabIs_of_head Te Ae1 Tryz.underlying225 Tryz.underlying137 Zp Zq h2,
    Lib.tabIs_of_head YT Agv Tryz.underlying244 Tryz.underlying5 AaS AaT h1⟩
  refine ⟨hL, fun k hk => ?_⟩
  have lt : ∀ {g i : Nat} {v : Value}, W.cell? ⟨g, i, none⟩ = some v → g < W.heap.size := fun {g i v} h => by
    rcases Nat.lt_or_ge g W.heap.size with h' | h'
    · exact h'
    · simp [World.cell?, Array.getElem?_eq_none h'] at h
  simp only [G4, List.mem_cons, List.mem_nil_iff, or_false] at hk
  rcases hk with rfl | rfl
  · exact lt (hL.tab.cell Te 0 (by decide))
  · exact lt (hL.db.cell YT 0 (by decide))
def Aa9 : DataW Unit → Value
  | .lit (.int k n) => .int k n
  | _ => undef
def Y6 : DataW Unit → Array Value
  | .agg l => (l.flatMap fun x => match x with
    | .agg m => m.map Aa9
    | y => [Aa9 y]).toArray
  | _ => #[]
def AbP (c : Array Value) : Obj → Obj
  | .cells _ t frozen => .cells c t frozen
  | o => o
noncomputable def JW (os : Os) : World :=
  let w0 := World.holding Tryz.prog os ⟨#[], #[], []⟩
  { w0 with heap := ((w0.heap.modify 1 (AbP (Y6 Rows.laid_math_bits_deBruijn32tab))).modify 2 (AbP (Y6 Rows.laid_math_bits_deBruijn64tab))).modify 0 (AbP (Y6 Rows.laid_internal_strconv_uint64pow10)) }
def MJ : Value := .slice none 0 0
def zI : Value := .int .i64 0
def TT : Array Value := #[.agg #[MJ, MJ, MJ, MJ, MJ, zI, MJ, MJ, MJ, MJ, zI, zI, zI, zI, .bool false, MJ]]
set_option maxRecDepth 100000 in
theorem YX (os : Os) : laidMet Tryz.prog Rows.execMeetsRow.laid ((JW os).forCall (fun _ _ => 0) ⟨#[], TT, []⟩).memory :=
  laidMet_of_run' 8 (by kernel_rfl) (by kernel_rfl)
end Go.Proofs.YtiaebjpcgjkhoaaGreatDoor
