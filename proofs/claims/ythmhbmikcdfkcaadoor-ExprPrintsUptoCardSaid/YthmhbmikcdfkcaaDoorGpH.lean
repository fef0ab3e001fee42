/-
  Texts, joined: EbP, EbS, EbW.
-/
import Derived.Test.YthmhbmikcdfkcaaDoorGpG
import Derived.Test.YthmhbmikcdfkcaaDoorGpI
/-
  Layer 14 in plain terms: what is reckoned fits 33 bits with a sign; truths are 0 or 1.
-/
namespace Go.Proofs.YthmhbmikcdfkcaaDoor
open Go.RowKit
def B33 (n : Int) : Prop := -2147483648 ≤ n ∧ n ≤ 4294967295
def Q33 (t : Bool) (p : Int × Int) : Prop := p.2 = 0 → B33 p.1 ∧ (t = true → p.1 = 0 ∨ p.1 = 1)
theorem q_truth {t b : Bool} : Q33 t (truthP b) := by cases b <;> simp [Q33, B33, truthP]
theorem q_err {t : Bool} {a c : Int} (h : c ≠ 0) : Q33 t (a, c) := fun h' => absurd h' h
theorem q_dec {t : Bool} {a c : Int} (h : decide (c ≠ 0) = true) : Q33 t (a, c) := q_err (of_decide_eq_true h)
theorem q_bif {t c : Bool} {p q : Int × Int} (h1 : c = true → Q33 t p) (h2 : c = false → Q33 t q) : Q33 t (bif c then p else q) := by
  cases c
  · exact h2 rfl
  · exact h1 rfl
theorem q_ite {t : Bool} {c : Prop} [Decidable c] {p q : Int × Int} (h1 : c → Q33 t p) (h2 : ¬ c → Q33 t q) : Q33 t (if c then p else q) := by
  split
  · rename_i h; exact h1 h
  · rename_i h; exact h2 h
theorem q_num {t : Bool} {a c : Int} (h : B33 a) (ht : t = false) : Q33 t (a, c) := fun _ => ⟨h, fun h => by rw [ht] at h; cases h⟩
theorem q_less {t : Bool} {p : Int × Int} (h : Q33 t p) : Q33 false p := fun h0 => ⟨(h h0).1, fun h => by cases h⟩
theorem fits_b33 {t : D.Type} {v : Int} (h : fitsP t v = true) : B33 v := by
  unfold fitsP typP at h
  simp only [Bool.and_eq_true, decide_eq_true_eq] at h
  obtain ⟨⟨h1, h2, h3⟩, h4⟩ := h
  have hp := pow_bd t.Bits h1 h2
  unfold B33
  cases hs : t.Signed with
  | false => rw [hs] at h4; simp at h4; omega
  | true =>
    rw [hs] at h3 h4
    simp at h3 h4
    rcases h3 with h3 | h3
    · rw [h3] at h4; simp at h4; omega
    · rw [h3] at h4; simp at h4; omega
theorem typed_at {t : List D.Type} {l : List Int} {k : Nat} (h : typedP t l = true) (hk : k < l.length) : B33 (l.getD k 0) := by
  unfold typedP at h
  simp only [Bool.and_eq_true, decide_eq_true_eq] at h
  exact fits_b33 (allI_iff.1 h.2 k hk)
theorem one_bd {b : Bool} : oneOf b = 0 ∨ oneOf b = 1 := by cases b <;> simp [oneOf]
def I32b (n : Int) : Prop := -2147483648 ≤ n ∧ n ≤ 2147483647
theorem i32_ite {c : Prop} [Decidable c] {a b : Int} (h1 : I32b a) (h2 : I32b b) : I32b (if c then a else b) := by
  split
  · exact h1
  · exact h2
theorem two_bd (op a b : Int) : -2147483648 ≤ twoV op a b ∧ twoV op a b ≤ 2147483647 := by
  have ho : ∀ b : Bool, -2147483648 ≤ oneOf b ∧ oneOf b ≤ 2147483647 := fun b => by rcases one_bd (b := b) with h | h <;> rw [h] <;> decide
  have hz : (-2147483648 : Int) ≤ 0 ∧ (0 : Int) ≤ 2147483647 := by decide
  show I32b (twoV op a b)
  unfold twoV
  exact i32_ite (wrap32_bd _) (i32_ite (i32_ite hz (wrap32_bd _)) (i32_ite (i32_ite hz (tmod_bd _ _ (wrap32_bd _).1 (wrap32_bd _).2)) (i32_ite (wrap32_bd _) (i32_ite (wrap32_bd _) (i32_ite (shiftP_bd _ _ (wrap32_bd _)) (i32_ite (shiftP_bd _ _ (wrap32_bd _)) (i32_ite (ho _) (i32_ite (ho _) (i32_ite (ho _) (i32_ite (ho _) (i32_ite (ho _) (i32_ite (ho _) (i32_ite (bits_i32_bd .and (.inl rfl) _ _) (i32_ite (bits_i32_bd .xor (.inr (.inr rfl)) _ _) (i32_ite (bits_i32_bd .or (.inr (.inl rfl)) _ _) hz)))))))))))))))
theorem two_truth {op a b : Int} (h : 13 ≤ op ∧ op ≤ 18) : twoV op a b = 0 ∨ twoV op a b = 1 := by
  obtain ⟨h1, h2⟩ := h
  have : op = 13 ∨ op = 14 ∨ op = 15 ∨ op = 16 ∨ op = 17 ∨ op = 18 := by omega
  rcases this with rfl | rfl | rfl | rfl | rfl | rfl <;> exact one_bd
theorem oneV_bd (op a : Int) : -2147483648 ≤ oneV op a ∧ oneV op a ≤ 2147483647 := by
  have hw := wrap32_bd a
  unfold oneV
  split
  · exact wrap32_bd _
  split
  · rcases one_bd (b := wrap32 a == 0) with h | h <;> rw [h] <;> decide
  split
  · omega
  · decide
/-- What asks for a truth. -/
def truthOp (op : Int) : Bool := decide (13 ≤ op ∧ op ≤ 18) || (decide (op = 4) || (decide (op = 22) || (decide (op = 23) || (decide (26 ≤ op ∧ op ≤ 30) || (decide (op = 34) || (decide (op = 35) || (decide (op = 36) || decide (op = 38))))))))
section
variable {e : D.Env} {ev : Evl}
theorem b33_two {op a b : Int} : B33 (twoV op a b) := by have := two_bd op a b; unfold B33; omega
theorem b33_one {op a : Int} : B33 (oneV op a) := by have := oneV_bd op a; unfold B33; omega
theorem q_sums {x : D.Expr} {t : Bool} (ht : t = true → x.Op = 4 ∨ (13 ≤ x.Op ∧ x.Op ≤ 18)) : Q33 t (sumsV ev x) := by
  unfold sumsV
  refine q_bif q_dec fun _ => q_bif (fun h _ => ⟨b33_one, fun h' => ?_⟩) fun h => q_bif q_dec fun _ => fun _ => ⟨b33_two, fun h' => ?_⟩
  · rcases ht h' with h4 | h4
    · show oneV x.Op _ = 0 ∨ oneV x.Op _ = 1
      rw [h4]; exact one_bd
    · simp at h; omega
  · rcases ht h' with h4 | h4
    · rw [h4] at h; simp at h
    · exact two_truth h4
theorem q_logic {x : D.Expr} {t : Bool} (ht : t = true → x.Op ≠ 24) (hB : Q33 false (ev x.B)) (hC : x.Op = 24 → Q33 false (ev x.C)) : Q33 t (logicV ev x) := by
  unfold logicV
  refine q_bif q_dec fun _ => q_bif (fun h => ?_) fun h => q_bif (fun _ => q_truth) fun _ => q_bif q_dec fun _ => q_truth
  have h24 := of_decide_eq_true h
  cases t with
  | true => exact absurd h24 (ht rfl)
  | false => exact q_bif (fun _ => hB) fun _ => hC h24
theorem chAt_len (hE : EnvOk e) (n : Int) : (chAt e n).Queue.length ≤ 16 := by
  unfold chAt
  by_cases h : (n - 1).toNat < e.S.Chans.length
  · exact (hE.fit.q _ (getD_mem h)).1
  · rw [List.getD, List.getElem?_eq_none (show e.S.Chans.length ≤ (n - 1).toNat by omega)]; exact Nat.zero_le _
theorem q_asks {x : D.Expr} {t : Bool} (hE : EnvOk e) (ht : t = true → x.Op ≠ 25) : Q33 t (asksV e ev x) := by
  have hl := chAt_len hE (chanV e ev x.A).1
  unfold asksV
  refine q_bif q_dec fun _ => ?_
  unfold askP
  refine q_ite (fun h => ?_) fun _ => q_ite (fun _ => q_truth) fun _ => q_ite (fun _ => q_truth) fun _ => q_ite (fun _ => q_truth) fun _ => q_truth
  refine q_num (by unfold B33; omega) ?_
  cases t with
  | true => exact absurd h (ht rfl)
  | false => rfl
theorem q_poll {x : D.Expr} {t : Bool} : Q33 t (pollV e ev x) := by
  unfold pollV
  exact q_bif q_dec fun _ => q_bif (fun _ => q_err (by decide)) fun _ => q_bif q_dec fun _ => q_truth
theorem q_able {x : D.Expr} {t : Bool} : Q33 t (ableV e ev x) := by
  unfold ableV
  exact q_bif q_dec fun _ => q_truth
theorem q_remote {x : D.Expr} {t : Bool} (hE : EnvOk e) (ht : t = true → x.Op ≠ 37) : Q33 t (remoteV e ev x) := by
  unfold remoteV
  refine q_bif q_dec fun _ => q_bif (fun _ => q_err (by decide)) fun h2 => q_bif (fun h => ?_) fun _ => q_truth
  simp only [Bool.or_eq_false_iff, decide_eq_false_iff_not] at h2
  have hp := proc_facts (hE.proc (p := psAt e (ev x.A).1) (getD_mem (d := default) (show (ev x.A).1.toNat < e.S.Procs.length by omega)))
  have hl := (lim_of hE.may).locs _ hp.1.1 hp.1.2
  have hloc := hp.2.1
  refine q_num (by unfold B33; omega) ?_
  cases t with
  | true => exact absurd (of_decide_eq_true h) (ht rfl)
  | false => rfl
theorem q_read {x : D.Expr} {k : Int} (hE : EnvOk e) (hv : x.Op = 2 → VarOk e.M k x.V) : Q33 false (readV e ev x) := by
  unfold readV
  refine q_bif q_dec fun h => ?_
  have hs := slot_in hE hv (by simpa using h)
  refine q_bif (fun h1 => ?_) fun h1 => ?_
  · have := hs.glob (of_decide_eq_true h1)
    exact q_num (typed_at hE.globals.2 (by omega)) rfl
  · have h0 : 0 ≤ (slotV e ev x).1 := by have := of_decide_eq_false h1; omega
    have := hs.own h0
    have hp := proc_facts (hE.proc (p := psAt e (slotV e ev x).1) (getD_mem (d := default) (show (slotV e ev x).1.toNat < e.S.Procs.length by omega)))
    exact q_num (typed_at hp.2.2.2.1 (by omega)) rfl
theorem eval_b33 {x : D.Expr} {k : Int} (hE : EnvOk e) (hx : ExOk e.M k x) (hB : 2 ≤ partsP x.Op → Q33 false (ev x.B)) (hC : 3 ≤ partsP x.Op → Q33 false (ev x.C)) (hl : 0 ≤ e.S.Last ∧ e.S.Last < 16) : Q33 (truthOp x.Op) (evalV e ev x) := by
  have hpid := hE.pid
  have hpl := hE.fit.p
  have tt : ∀ {o : Int}, truthOp o = true → (13 ≤ o ∧ o ≤ 18) ∨ o = 4 ∨ o = 22 ∨ o = 23 ∨ (26 ≤ o ∧ o ≤ 30) ∨ o = 34 ∨ o = 35 ∨ o = 36 ∨ o = 38 := fun h => by
    simpa only [truthOp, Bool.or_eq_true, decide_eq_true_eq] using h
  unfold evalV
  refine q_ite (fun h => q_num (fits_b33 (hx.num h)) (by rw [h]; rfl)) fun n1 => q_ite (fun h => ?_) fun n2 => q_ite (fun h => ?_) fun n3 => q_ite (fun h => ?_) fun n4 => q_ite (fun _ => q_poll) fun n5 =>
    q_ite (fun h => q_num (by unfold B33; omega) (by rw [h]; rfl)) fun n6 => q_ite (fun h => q_num (by unfold B33; omega) (by rw [h]; rfl)) fun n7 => q_ite (fun h => q_num (by unfold B33; omega) (by rw [h]; rfl)) fun n8 => q_ite (fun _ => q_truth) fun n9 => q_ite (fun _ => q_truth) fun n10 => q_ite (fun _ => q_able) fun n11 => q_ite (fun h => ?_) fun n12 => q_ite (fun _ => q_err (by decide)) fun n13 => ?_
  · rw [show truthOp x.Op = false by rw [h]; rfl]
    exact q_read hE fun ho => var_ok (hx.var ho)
  · refine q_logic (fun ht h' => by rw [h'] at ht; cases ht) (hB ?_) fun h24 => hC (by rw [h24]; decide)
    rcases h with h | h | h <;> rw [h] <;> decide
  · exact q_asks hE fun ht h' => by rw [h'] at ht; cases ht
  · exact q_remote hE fun ht h' => by rw [h'] at ht; cases ht
  · refine q_sums fun ht => ?_
    have := tt ht
    omega
end
theorem EnvOk.last {e : D.Env} (h : EnvOk e) : 0 ≤ e.S.Last ∧ e.S.Last < 16 := by
  have h := h.fits
  unfold stFits headP at h
  simp only [Bool.and_eq_true, decide_eq_true_eq] at h
  exact ⟨h.1.1.1.1.1.1.2, h.1.1.1.1.1.2⟩
theorem evalF_b33 {e : D.Env} (hE : EnvOk e) : ∀ (n : Nat) (x : Int), 0 ≤ x → x < e.M.Exprs.length → x < n → Q33 (truthOp (exAt e.M x).Op) (evalF e n x)
  | 0, x, h0, _, h2 => by omega
  | n + 1, x, h0, h1, h2 => by
    have hxn : ((x.toNat : Nat) : Int) = x := by omega
    have hok : ExOk e.M x (exAt e.M x) := ex_ok (by have := hE.expr x.toNat (by omega); rwa [hxn] at this)
    exact eval_b33 hE hok (fun h => q_less (evalF_b33 hE n _ (hok.b h).1 (by have := hok.b h; omega) (by have := hok.b h; omega))) (fun h => q_less (evalF_b33 hE n _ (hok.c h).1 (by have := hok.c h; omega) (by have := hok.c h; omega))) hE.last
theorem evalP_b33 {e : D.Env} (hw : wf_Model e.M) (x : Int) : Q33 (truthOp (exAt e.M x).Op) (evalP e x) := by
  unfold evalP
  refine q_bif q_dec fun h => ?_
  obtain ⟨hE, h0, h1⟩ := env_ok (x := x) hw (by simpa using h)
  have hxn : ((x.toNat : Nat) : Int) = x := by omega
  have hok : ExOk e.M x (exAt e.M x) := ex_ok (by have := hE.expr x.toNat (by omega); rwa [hxn] at this)
  exact eval_b33 hE hok (fun h => q_less (evalF_b33 hE _ _ (hok.b h).1 (by have := hok.b h; omega) (by have := hok.b h; omega))) (fun h => q_less (evalF_b33 hE _ _ (hok.c h).1 (by have := hok.c h; omega) (by have := hok.c h; omega))) hE.last
end Go.Proofs.YthmhbmikcdfkcaaDoor
/-
  Layer 14 in plain terms: a variable is made another number; what is read again.
-/
namespace Go.Proofs.YthmhbmikcdfkcaaDoor
open Go.RowKit
def fitT (t : D.Type) (v : Int) : Int := fitP t.Bits t.Signed v
def setG (m : D.Model) (s : D.State) (k v : Int) : D.State := { s with Globals := s.Globals.set k.toNat (fitT (m.Globals.getD k.toNat default) v) }
def setF (m : D.Model) (p : D.Process) (k v : Int) : D.Process := { p with Frame := p.Frame.set k.toNat (fitT ((prAt m p.Type_).Frame.getD k.toNat default) v) }
def setO (m : D.Model) (s : D.State) (who k v : Int) : D.State := { s with Procs := s.Procs.set who.toNat (setF m (s.Procs.getD who.toNat default) k v) }
/-- A number is put into a slot; who < 0: a global one. -/
def setS (m : D.Model) (s : D.State) (who k v : Int) : D.State := bif decide (who < 0) then setG m s k v else setO m s who k v
def storeP (e : D.Env) (x v : Int) : D.State × Int :=
  bif decide (exCheck e x ≠ 0) then (default, exCheck e x)
  else bif decide ((slotV e (subP e) (exAt e.M x)).2.2 ≠ 0) then (default, (slotV e (subP e) (exAt e.M x)).2.2)
  else (setS e.M e.S (slotV e (subP e) (exAt e.M x)).1 (slotV e (subP e) (exAt e.M x)).2.1 v, 0)
theorem mem_set_cases {α : Type} {l : List α} {i : Nat} {a x : α} (h : x ∈ l.set i a) : x ∈ l ∨ x = a := List.mem_or_eq_of_mem_set h
theorem Fit.setG {s : D.State} (h : Fit s) (m : D.Model) (k v : Int) : Fit (setG m s k v) := ⟨by show (List.set _ _ _).length ≤ _; rw [List.length_set]; exact h.g, h.c, h.q, h.p, h.f⟩
theorem Fit.setO {s : D.State} (h : Fit s) (m : D.Model) (who k v : Int) (hw : who.toNat < s.Procs.length) : Fit (setO m s who k v) := by
  refine ⟨h.g, h.c, h.q, by show (List.set _ _ _).length ≤ _; rw [List.length_set]; exact h.p, fun p hp => ?_⟩
  rcases mem_set_cases hp with hp | rfl
  · exact h.f p hp
  · show (List.set _ _ _).length ≤ _
    rw [List.length_set]
    exact h.f _ (getD_mem (d := default) hw)
theorem fit_default : Fit (default : D.State) := ⟨by decide, by decide, fun c hc => (by cases hc), by decide, fun p hp => (by cases hp)⟩
section
variable {e : D.Env} {x : Int}
theorem ex_at (hE : EnvOk e) (h0 : 0 ≤ x) (h1 : x < e.M.Exprs.length) : ExOk e.M x (exAt e.M x) := by
  have hxn : ((x.toNat : Nat) : Int) = x := by omega
  exact ex_ok (by have := hE.expr x.toNat (by omega); rwa [hxn] at this)
theorem slotIn_at (hE : EnvOk e) (h0 : 0 ≤ x) (h1 : x < e.M.Exprs.length) {ev : Evl} (h : (slotV e ev (exAt e.M x)).2.2 = 0) : SlotIn e (slotV e ev (exAt e.M x)).1 (slotV e ev (exAt e.M x)).2.1 :=
  slot_in hE (fun ho => var_ok ((ex_at hE h0 h1).var ho)) h
theorem slotP_zero (h : (slotP e x).2.2 = 0) : exCheck e x = 0 ∧ slotP e x = slotV e (subP e) (exAt e.M x) := by
  unfold slotP at h ⊢
  cases c : decide (exCheck e x ≠ 0) with
  | true => rw [c, cond_true] at h; exact absurd h (of_decide_eq_true c)
  | false => exact ⟨by simpa using c, rfl⟩
theorem slotP_in (hw : wf_Model e.M) (h : (slotP e x).2.2 = 0) : SlotIn e (slotP e x).1 (slotP e x).2.1 := by
  obtain ⟨h1, h2⟩ := slotP_zero h
  obtain ⟨hE, h0, hl⟩ := env_ok hw h1
  rw [h2] at h ⊢
  exact slotIn_at hE h0 hl h
/-- What is read at an expression that is a variable. -/
theorem evalP_var (h : (evalP e x).2 = 0) (ho : (exAt e.M x).Op = 2) : (slotP e x).2.2 = 0 := by
  unfold evalP at h
  unfold slotP
  cases c : decide (exCheck e x ≠ 0) with
  | true => rw [c, cond_true] at h; exact absurd h (of_decide_eq_true c)
  | false =>
    rw [c, cond_false] at h
    rw [cond_false]
    unfold evalV at h
    rw [if_neg (by omega), if_pos ho] at h
    unfold readV at h
    cases c2 : decide ((slotV e (subP e) (exAt e.M x)).2.2 ≠ 0) with
    | true => rw [c2, cond_true] at h; exact absurd h (of_decide_eq_true c2)
    | false => simpa using c2
def gotP (e : D.Env) (who k : Int) : Int := bif decide (who < 0) then e.S.Globals.getD k.toNat 0 else (psAt e who).Frame.getD k.toNat 0
theorem evalP_slot (h : (slotP e x).2.2 = 0) (ho : (exAt e.M x).Op = 2) : evalP e x = (gotP e (slotP e x).1 (slotP e x).2.1, 0) := by
  obtain ⟨h1, h2⟩ := slotP_zero h
  rw [h2] at h ⊢
  unfold evalP evalV
  rw [if_neg (by omega), if_pos ho, show decide (exCheck e x ≠ 0) = false by simpa using h1, cond_false]
  unfold readV gotP
  rw [show decide ((slotV e (subP e) (exAt e.M x)).2.2 ≠ 0) = false by simpa using h, cond_false]
  cases decide ((slotV e (subP e) (exAt e.M x)).1 < 0) <;> rfl
theorem storeP_ok (v : Int) (h : (slotP e x).2.2 = 0) : storeP e x v = (setS e.M e.S (slotP e x).1 (slotP e x).2.1 v, 0) := by
  obtain ⟨h1, h2⟩ := slotP_zero h
  rw [h2] at h ⊢
  unfold storeP
  rw [show decide (exCheck e x ≠ 0) = false by simpa using h1, cond_false, show decide ((slotV e (subP e) (exAt e.M x)).2.2 ≠ 0) = false by simpa using h, cond_false]
theorem storeP_fit (hw : wf_Model e.M) (v : Int) : Fit (storeP e x v).1 := by
  unfold storeP
  cases c : decide (exCheck e x ≠ 0) with
  | true => exact fit_default
  | false =>
    obtain ⟨hE, h0, h1⟩ := env_ok (x := x) hw (by simpa using c)
    rw [cond_false]
    cases c2 : decide ((slotV e (subP e) (exAt e.M x)).2.2 ≠ 0) with
    | true => exact fit_default
    | false =>
      rw [cond_false]
      have hs := slotIn_at hE h0 h1 (ev := subP e) (by simpa using c2)
      show Fit (setS _ _ _ _ _)
      unfold setS
      cases c3 : decide ((slotV e (subP e) (exAt e.M x)).1 < 0) with
      | true => exact hE.fit.setG _ _ _
      | false =>
        have hn : 0 ≤ (slotV e (subP e) (exAt e.M x)).1 := by have := of_decide_eq_false c3; omega
        exact hE.fit.setO _ _ _ _ (by have := hs.own hn; omega)
end
end Go.Proofs.YthmhbmikcdfkcaaDoor
/-
  The walk of expr.Store.
-/
namespace Go.Proofs.YthmhbmikcdfkcaaDoor
open Go.RowKit
/-- Nothing is guarded. -/
abbrev P0 : Prot := ⟨fun _ => False, fun _ => False⟩
theorem V.keep {w w' : World} {x : VV} {v : Value} (h : V w P0 none x v) (hb : Below w.heap.size w w') : V w' P0 none x v :=
  h.mono hb.size (fun k hk _ => ⟨hb.block k hk, fun h => h⟩) (fun k hk _ => ⟨hb.block k hk, fun h => h⟩) trivial
theorem V.bare {w : World} {E : Prot} {x : VV} {v : Value} (h : V w E none x v) : V w P0 none x v := h.less (fun _ h => h.elim) fun _ h => h.elim
theorem VSpec.at {P : Program} {f : FuncId} {xs : List VV} {r : VV} (h : VSpec P f [] xs [] r) {w0 w : World} {vs : Array Value} (hL : LibAt w0) (hB : ∀ k, k ∈ libB → k < w0.heap.size) (hb : Below w0.heap.size w0 w) (hs : Says w P0 none xs vs) :
    Calls P f vs w fun e w' => ∃ v, e = .returned v ∧ Below w.heap.size w w' ∧ V w' P0 none r v :=
  h.start (hL.congr fun k hk => hb.block k (hB k hk)) (fun k hk => Nat.lt_of_lt_of_le (hB k hk) hb.size) hs
theorem says2 {w : World} {E : Prot} {x y : VV} {u v : Value} (h1 : V w E none x u) (h2 : V w E none y v) : Says w E none [x, y] #[u, v] := by
  refine ⟨rfl, fun j z hz => ?_⟩
  match j, hz with
  | 0, hz => simp only [List.getElem?_cons_zero, Option.some.injEq] at hz; subst hz; exact h1
  | 1, hz => simp only [List.getElem?_cons_succ, List.getElem?_cons_zero, Option.some.injEq] at hz; subst hz; exact h2
  | j + 2, hz => simp at hz
theorem tup3_inv {w : World} {E : Prot} {m : Option Phi} {a b c : Int} {v : Value} (h : V w E m (vIII (a, b, c)) v) : v = .tuple #[.int .i64 a, .int .i64 b, .int .i64 c] := by
  cases h with
  | @tup _ _ _ vs h1 h2 =>
    obtain ⟨l⟩ := vs
    match l, h1, h2 with
    | [u0, u1, u2], _, h2 =>
      have e0 : u0 = .int .i64 a := (h2 0 _ rfl).sc_inv
      have e1 : u1 = .int .i64 b := (h2 1 _ rfl).sc_inv
      have e2 : u2 = .int .i64 c := (h2 2 _ rfl).sc_inv
      rw [e0, e1, e2]
theorem list16 {l : List Value} (h : l.length = 16) : ∃ a0 a1 a2 a3 a4 a5 a6 a7 a8 a9 a10 a11 a12 a13 a14 a15, l = [a0, a1, a2, a3, a4, a5, a6, a7, a8, a9, a10, a11, a12, a13, a14, a15] := by
  match l, h with
  | [a0, a1, a2, a3, a4, a5, a6, a7, a8, a9, a10, a11, a12, a13, a14, a15], _ => exact ⟨_, _, _, _, _, _, _, _, _, _, _, _, _, _, _, _, rfl⟩
def AtT (w : World) (ts : List D.Type) (v : Value) : Prop :=
  AtL w ts.length (fun b off i => w.cell? ⟨b, off + i * 2, none⟩ = some (.int .i64 (ts.getD i default).Bits) ∧ w.cell? ⟨b, off + i * 2 + 1, none⟩ = some (.bool (ts.getD i default).Signed)) v
def AtF (w : World) (ps : List D.Proc) (v : Value) : Prop :=
  AtL w ps.length (fun b off i => ∃ u, w.cell? ⟨b, off + i * 10 + 2, none⟩ = some u ∧ AtT w (ps.getD i default).Frame u) v
section
variable {w w' : World} {E : Prot} {m : Option Phi} {v : Value} {fz : Bool}
theorem at_t {ts : List D.Type} (h : V w E m (encL_Type fz ts) v) : AtT w ts v := by
  obtain ⟨ao, cap, rfl, h1, h2, h3⟩ := V.sl_inv h
  refine ⟨ao, cap, rfl, h1, h2, fun hp => ?_⟩
  obtain ⟨b, off, rfl, hb, _, _, u, hc, hv⟩ := h3 hp
  refine ⟨b, off, rfl, hb, fun i hi => ⟨?_, ?_⟩⟩
  · have c1 := hc i 0 _ hi rfl
    have c2 := (hv i 0 _ hi rfl).sc_inv
    rw [c2] at c1
    simpa using c1
  · have c1 := hc i 1 _ hi rfl
    have c2 := (hv i 1 _ hi rfl).sc_inv
    rw [c2] at c1
    simpa using c1
theorem at_f {ps : List D.Proc} (h : V w E m (encL_Proc fz ps) v) : AtF w ps v := by
  obtain ⟨ao, cap, rfl, h1, h2, h3⟩ := V.sl_inv h
  refine ⟨ao, cap, rfl, h1, h2, fun hp => ?_⟩
  obtain ⟨b, off, rfl, hb, _, _, u, hc, hv⟩ := h3 hp
  exact ⟨b, off, rfl, hb, fun i hi => ⟨u i 2, hc i 2 _ hi rfl, at_t (hv i 2 _ hi rfl)⟩⟩
theorem AtT.below {ts : List D.Type} (h : AtT w ts v) (hb : Below w.heap.size w w') : AtT w' ts v :=
  AtL.map h hb.size fun b off i hl _ hc => ⟨by rw [hb.cell (p := ⟨b, off + i * 2, none⟩) hl]; exact hc.1, by rw [hb.cell (p := ⟨b, off + i * 2 + 1, none⟩) hl]; exact hc.2⟩
theorem AtF.below {ps : List D.Proc} (h : AtF w ps v) (hb : Below w.heap.size w w') : AtF w' ps v :=
  AtL.map h hb.size fun b off i hl _ ⟨u, h1, h2⟩ => ⟨u, by rw [hb.cell (p := ⟨b, off + i * 10 + 2, none⟩) hl]; exact h1, h2.below hb⟩
theorem AtQ.below {q : List (List Int)} (h : AtQ w q v) (hb : Below w.heap.size w w') : AtQ w' q v :=
  AtL.map h hb.size fun b off i hl _ ⟨u, h1, h2⟩ => ⟨u, by rw [hb.cell (p := ⟨b, off + i, none⟩) hl]; exact h1, h2.below hb⟩
theorem AtC.below {cs : List D.Chan} (h : AtC w cs v) (hb : Below w.heap.size w w') : AtC w' cs v :=
  AtL.map h hb.size fun b off i hl _ ⟨u, h0, h1, h2⟩ => ⟨u, by rw [hb.cell (p := ⟨b, off + i * 2, none⟩) hl]; exact h0, by rw [hb.cell (p := ⟨b, off + i * 2 + 1, none⟩) hl]; exact h1, h2.below hb⟩
theorem AtP.below {ps : List D.Process} (h : AtP w ps v) (hb : Below w.heap.size w w') : AtP w' ps v :=
  AtL.map h hb.size fun b off i hl _ ⟨u, h0, h1, h2, h3, h4⟩ => ⟨u, by rw [hb.cell (p := ⟨b, off + i * 4, none⟩) hl]; exact h0, by rw [hb.cell (p := ⟨b, off + i * 4 + 1, none⟩) hl]; exact h1,
    by rw [hb.cell (p := ⟨b, off + i * 4 + 2, none⟩) hl]; exact h2, by rw [hb.cell (p := ⟨b, off + i * 4 + 3, none⟩) hl]; exact h3, h4.below hb⟩
end
/-- What is known of the environment's parts. -/
structure EnvAt (w : World) (e : D.Env) (c0 c1 c2 c3 c4 c6 c7 c8 c9 c15 : Value) : Prop where
  t : AtT w e.M.Globals c0
  f : AtF w e.M.Procs c4
  g : AtI w e.S.Globals c7
  c : AtC w e.S.Chans c8
  p : AtP w e.S.Procs c9
abbrev envA (e : D.Env) (c0 c1 c2 c3 c4 c6 c7 c8 c9 c15 : Value) : Array Value :=
  #[c0, c1, c2, c3, c4, .int .i64 e.M.Claim, c6, c7, c8, c9, .int .i64 e.S.Last, .int .i64 e.S.Alone, .int .i64 e.S.Claim, .int .i64 e.Pid, .bool e.Timeout, c15]
theorem env_inv {w : World} {E : Prot} {m : Option Phi} {e : D.Env} {v : Value} (h : V w E m (.agg (enc_Env e)) v) :
    ∃ c0 c1 c2 c3 c4 c6 c7 c8 c9 c15, v = .agg (envA e c0 c1 c2 c3 c4 c6 c7 c8 c9 c15) ∧ EnvAt w e c0 c1 c2 c3 c4 c6 c7 c8 c9 c15 := by
  obtain ⟨vs, rfl, h1, h2⟩ := h.agg_inv
  obtain ⟨l⟩ := vs
  obtain ⟨a0, a1, a2, a3, a4, a5, a6, a7, a8, a9, a10, a11, a12, a13, a14, a15, rfl⟩ := list16 (l := l) h1
  have e5 : a5 = .int .i64 e.M.Claim := (h2 5 _ rfl).sc_inv
  have e10 : a10 = .int .i64 e.S.Last := (h2 10 _ rfl).sc_inv
  have e11 : a11 = .int .i64 e.S.Alone := (h2 11 _ rfl).sc_inv
  have e12 : a12 = .int .i64 e.S.Claim := (h2 12 _ rfl).sc_inv
  have e13 : a13 = .int .i64 e.Pid := (h2 13 _ rfl).sc_inv
  have e14 : a14 = .bool e.Timeout := (h2 14 _ rfl).sc_inv
  subst e5 e10 e11 e12 e13 e14
  exact ⟨_, _, _, _, _, _, _, _, _, _, rfl, at_t (h2 0 _ rfl), at_f (h2 4 _ rfl), at_i (h2 7 _ rfl), at_c (h2 8 _ rfl), at_p (h2 9 _ rfl)⟩
end Go.Proofs.YthmhbmikcdfkcaaDoor
