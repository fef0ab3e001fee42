/-
  Calls of functions that are lent what they may write.
-/
import Derived.Test.YtnodhjlpoaahbaaVjSound
namespace Go.Proofs.Ytnodhjlpoaahbaa
open Go.RowKit
section
variable {P : Program} {T : TypeId → TE} {O : Orc} {w : World} {E : Prot} {φ : Phi} {st : St} {Hc : Nat → Ob} {a : Act} {ids : List Nat}

def lendE (E : Prot) (ids : List Nat) (φ : Phi) : Prot := ⟨fun k => E.fz k ∨ Rest ids φ k, fun k => E.br k ∨ Rest ids φ k⟩
/-- Where all lies when the callee has come back. -/
def backP (st : St) (ids : List Nat) (n : Nat) (φ φ2 : Phi) : Phi := fun k =>
  match idx ids k with
  | some j => (φ2 j).map (relPl (outG st ids j))
  | none => if st.nx ≤ k ∧ k < st.nx + (n - ids.length) then (φ2 (k - st.nx + ids.length)).map (relPl (outG st ids (k - st.nx + ids.length))) else φ k
theorem outId_lt {j id : Nat} (h : ids[j]? = some id) : outId st ids j = id := by unfold outId; rw [h]
theorem outId_ge {j : Nat} (h : ids.length ≤ j) : outId st ids j = st.nx + (j - ids.length) := by
  unfold outId
  rw [List.getElem?_eq_none h]
theorem idx_ge (hk : okIds st.nx ids = true) {k : Nat} (h : st.nx ≤ k) : idx ids k = none := by
  cases hq : idx ids k with
  | none => rfl
  | some j => have := okIds_lt hk j k (idx_some hq); omega
theorem backP_at (hk : okIds st.nx ids = true) {n j : Nat} {φ2 : Phi} (hj : j < n) : backP st ids n φ φ2 (outId st ids j) = (φ2 j).map (relPl (outG st ids j)) := by
  unfold backP
  rcases Nat.lt_or_ge j ids.length with h | h
  · have e : ids[j]? = some ids[j] := List.getElem?_eq_getElem h
    rw [outId_lt e, idx_of hk j _ e]
  · rw [outId_ge h, idx_ge hk (by omega)]
    simp only
    rw [if_pos (by omega), show st.nx + (j - ids.length) - st.nx + ids.length = j by omega]
theorem backP_inv {n k : Nat} {φ2 : Phi} {p : Pl} (h : backP st ids n φ φ2 k = some p) :
    (∃ j q, k = outId st ids j ∧ φ2 j = some q ∧ p = relPl (outG st ids j) q) ∨ (idx ids k = none ∧ φ k = some p ∧ ¬ (st.nx ≤ k ∧ k < st.nx + (n - ids.length))) := by
  unfold backP at h
  cases hq : idx ids k with
  | some j =>
    rw [hq] at h
    obtain ⟨q, e1, e2⟩ := Option.map_eq_some_iff.1 h
    exact .inl ⟨j, q, (outId_lt (idx_some hq)).symm, e1, e2.symm⟩
  | none =>
    rw [hq] at h
    simp only at h
    split at h
    · rename_i hc
      obtain ⟨q, e1, e2⟩ := Option.map_eq_some_iff.1 h
      exact .inl ⟨_, q, by rw [outId_ge (by omega)]; omega, e1, e2.symm⟩
    · rename_i hc; exact .inr ⟨rfl, h, hc⟩

/-- What a callee that is lent objects hands back. -/
theorem back_puts (hH : HRel E st.H φ w) (hfr : ∀ id, st.nx ≤ id → φ id = none) (hlv : ∀ id, id < st.nx → φ id ≠ none) (hk : okIds st.nx ids = true) {w' : World} {φ2 : Phi} {os : List Ob} {r : VV} {v : Value} (hlen : ids.length ≤ os.length)
    (h1 : HRel (lendE E ids φ) (obsH os) φ2 w') (h2 : Fr ids.length w (lendP ids φ) w' φ2) (h3 : ∀ id, φ2 id ≠ none ↔ id < os.length) (h4 : V w' ((lendE E ids φ).up φ2) (some φ2) r v) {H' : Nat → Ob} (hH' : ∀ j, j < os.length → H' (outId st ids j) = backOb false st ids j (obsH os j))
    (hH'' : ∀ k, k < st.nx → idx ids k = none → H' k = st.H k) :
    ∃ φ', HRel E H' φ' w' ∧ Ext w φ w' φ' ∧ (∀ id, φ' id ≠ none ↔ φ id ≠ none ∨ (st.nx ≤ id ∧ id < st.nx + (os.length - ids.length))) ∧ V w' (E.up φ') (some φ') (backV false st ids r) v := by
  refine ⟨backP st ids os.length φ φ2, ?_⟩
  have hat : ∀ {j : Nat}, j < os.length → backP st ids os.length φ φ2 (outId st ids j) = (φ2 j).map (relPl (outG st ids j)) := fun hj => backP_at hk hj
  have hlt2 : ∀ {j : Nat} {q : Pl}, φ2 j = some q → j < os.length := fun e => (h3 _).1 (by rw [e]; simp)
  have hltφ : ∀ {k : Nat} {p : Pl}, φ k = some p → k < st.nx := by
    intro k p e
    rcases Nat.lt_or_ge k st.nx with h | h
    · exact h
    · rw [hfr k h] at e; cases e
  -- blocks
  have hblk : ∀ {i k : Nat}, Blk (backP st ids os.length φ φ2) i k → (∃ j, i = outId st ids j ∧ j < os.length ∧ Blk φ2 j k) ∨ (idx ids i = none ∧ Blk φ i k) := by
    intro i k hb
    obtain ⟨p, hp, hpb⟩ := blk_iff.1 hb
    rcases backP_inv hp with ⟨j, q, e1, e2, rfl⟩ | ⟨e1, e2, _⟩
    · exact .inl ⟨j, e1, hlt2 e2, blk_iff.2 ⟨q, e2, relPl_B.1 hpb⟩⟩
    · exact .inr ⟨e1, blk_iff.2 ⟨p, e2, hpb⟩⟩
  have hblk' : ∀ {j k : Nat}, Blk φ2 j k → Blk (backP st ids os.length φ φ2) (outId st ids j) k := by
    intro j k hb
    obtain ⟨p, hp, hpb⟩ := blk_iff.1 hb
    exact blk_iff.2 ⟨_, by rw [hat (hlt2 hp), hp]; rfl, relPl_B.2 hpb⟩
  have hblk'' : ∀ {i k : Nat}, idx ids i = none → Blk φ i k → Blk (backP st ids os.length φ φ2) i k := by
    intro i k hi hb
    obtain ⟨p, hp, hpb⟩ := blk_iff.1 hb
    have := hltφ hp
    refine blk_iff.2 ⟨p, ?_, hpb⟩
    unfold backP
    rw [hi]
    simp only
    rw [if_neg (by omega), hp]
  have apart : ∀ {j i k : Nat}, Blk φ2 j k → idx ids i = none → Blk φ i k → False := fun h5 h6 h7 => h1.free _ ⟨_, h5⟩ (.inr ⟨_, h6, h7⟩)
  have hown : ∀ {k : Nat}, Own (backP st ids os.length φ φ2) k ↔ Own φ2 k ∨ Rest ids φ k := by
    intro k
    constructor
    · rintro ⟨i, hb⟩
      rcases hblk hb with ⟨j, _, _, hb⟩ | ⟨hi, hb⟩
      · exact .inl ⟨j, hb⟩
      · exact .inr ⟨i, hi, hb⟩
    · rintro (⟨j, hb⟩ | ⟨i, hi, hb⟩)
      · exact ⟨_, hblk' hb⟩
      · exact ⟨i, hblk'' hi hb⟩
  have hrel : Reloc false (fun j => some (outId st ids j)) (fun j g => some (outG st ids j g)) ((lendE E ids φ).up φ2) φ2 (E.up (backP st ids os.length φ φ2)) (backP st ids os.length φ φ2) := by
    refine ⟨?_, fun _ => ?_, fun id i b hi hb => ?_, fun id i gen g c len hd hi hg hph hgc => ?_⟩
    · rintro k (hk1 | hk1)
      · exact .inl (.inl hk1)
      · rcases hown.1 hk1 with h | h
        · exact .inr h
        · exact .inl (.inr h)
    · rintro k (hk1 | hk1)
      · exact .inl (.inl hk1)
      · rcases hown.1 hk1 with h | h
        · exact .inr h
        · exact .inl (.inr h)
    · simp only [Option.some.injEq] at hi
      rw [← hi, hat (hlt2 hb), hb]; rfl
    · simp only [Option.some.injEq] at hi hg
      subst hi; subst hg
      obtain ⟨m1, m2⟩ := outG_mono (st := st) (ids := ids) (j := id) hgc
      exact ⟨_, by rw [hat (hlt2 hph), hph]; rfl, m1, m2⟩
  have hext : Ext w φ w' (backP st ids os.length φ φ2) := by
    refine ⟨h2.os, h2.tape, h2.output, h2.size, fun k hk1 hn => h2.block k hk1 fun h => hn (rest_own.2 (.inr h)), fun id p e => ?_, fun k hk1 => ?_⟩
    · cases hq : idx ids id with
      | none =>
        have := hltφ e
        refine ⟨p, ?_, PlUp.refl p⟩
        unfold backP
        rw [hq]
        simp only
        rw [if_neg (by omega), e]
      | some j =>
        have hj := idx_some hq
        have hjl : j < ids.length := (List.getElem?_eq_some_iff.1 hj).1
        obtain ⟨p2, e2, hp2⟩ := h2.kind j (relPl (fun _ => 0) p) hjl (by rw [lendP_at hj, e]; rfl)
        refine ⟨relPl (outG st ids j) p2, ?_, ?_⟩
        · have := hat (j := j) (by omega)
          rw [outId_lt hj, e2] at this
          exact this
        · cases p with
          | box b => simp only [relPl, PlK] at hp2; subst hp2; rfl
          | arr c n hd =>
            obtain ⟨c', n', hd', rfl⟩ := hp2
            have hg := hH.gen e
            have : outG st ids j c' = c + 1 + c' := by unfold outG; rw [hj]; simp only [hg]
            exact ⟨_, _, _, rfl, by omega, fun e' => by omega⟩
    · rcases hown.1 hk1 with h | ⟨i, hi, hb⟩
      · exact (h2.new k h).imp (fun h => rest_own.2 (.inr h)) fun h => h
      · exact .inl ⟨i, hb⟩
  refine ⟨⟨hH.sub, fun k p e => ?_, fun i j k hi hj => ?_, fun k hk1 hf => ?_⟩, hext, fun id => ?_, relF_ok hrel _ _ _ h4⟩
  · rcases backP_inv e with ⟨j, q, rfl, e2, rfl⟩ | ⟨e1, e2, _⟩
    · rw [hH' j (hlt2 e2)]
      exact relOb_ok hrel (h1.ob j q e2)
    · rw [hH'' k (hltφ e2) e1]
      refine (hH.ob k p e2).ext hext fun b hb hlt => h2.block b hlt ?_
      intro ho
      obtain ⟨j, id', a1, a2⟩ := lendP_own.1 ho
      have := hH.inj k id' b (blk_iff.2 ⟨p, e2, hb⟩) a2
      subst this
      exact idx_none e1 j a1
  · rcases hblk hi with ⟨i', rfl, _, hb1⟩ | ⟨hi1, hb1⟩ <;> rcases hblk hj with ⟨j', rfl, _, hb2⟩ | ⟨hj1, hb2⟩
    · rw [h1.inj i' j' k hb1 hb2]
    · exact (apart hb1 hj1 hb2).elim
    · exact (apart hb2 hi1 hb1).elim
    · exact hH.inj i j k hb1 hb2
  · rcases hown.1 hk1 with h | ⟨i, hi, hb⟩
    · exact h1.free k h (.inl hf)
    · exact hH.free k ⟨i, hb⟩ hf
  · constructor
    · intro hn
      cases hq : idx ids id with
      | some j => exact .inl (hlv id (okIds_lt hk j id (idx_some hq)))
      | none =>
        unfold backP at hn
        rw [hq] at hn
        simp only at hn
        split at hn
        · rename_i hc; exact .inr hc
        · exact .inl hn
    · intro hn
      unfold backP
      cases hq : idx ids id with
      | some j =>
        have hj := idx_some hq
        have hjl : j < ids.length := (List.getElem?_eq_some_iff.1 hj).1
        have := (h3 j).2 (by omega)
        simpa using this
      | none =>
        simp only
        split
        · have := (h3 (id - st.nx + ids.length)).2 (by omega)
          simpa using this
        · rename_i hc; exact hn.resolve_right hc

theorem s_call (hO : OrcOk P O) (hH : HRel E Hc φ w) (hHc : ∀ id, id < st.nx → Hc id = st.H id) (hz : ∀ k, E.fz k → k < w.heap.size) {o : Oper} {c : Call} {f : Operand} (ho : o.op = .call c) (hf : c.callee = .value f)
    (h1 : V w (E.up φ) (some φ) (st.val f) (a.eval f)) (h2 : ∀ y ∈ c.args.toList, V w (E.up φ) (some φ) (st.val y) (a.eval y)) (hc : ∀ p ∈ (vcall O st (st.val f) (c.args.toList.map st.val)).chk, p) :
    ((vcall O st (st.val f) (c.args.toList.map st.val)).put = none ∧ ((∀ i, i < (vcall O st (st.val f) (c.args.toList.map st.val)).new.length → φ (st.nx + i) = none) →
        Makes P E φ st.nx (vcall O st (st.val f) (c.args.toList.map st.val)).new (vcall O st (st.val f) (c.args.toList.map st.val)).val o a w)) ∨
    (∃ H', (vcall O st (st.val f) (c.args.toList.map st.val)).put = some H' ∧ ((∀ id, st.nx ≤ id → φ id = none) → (∀ id, id < st.nx → φ id ≠ none) → HRel E st.H φ w →
        Puts P E φ (addH H' st.nx (vcall O st (st.val f) (c.args.toList.map st.val)).new) st.nx (st.nx + (vcall O st (st.val f) (c.args.toList.map st.val)).new.length) (vcall O st (st.val f) (c.args.toList.map st.val)).val o a w)) := by
  generalize hx : st.val f = x at *
  unfold vcall at hc ⊢
  cases hask : vask O.lend st x (c.args.toList.map st.val) with
  | none => rw [hask] at hc; exact not_bad hc
  | some q =>
    obtain ⟨g, ids, hs, xs⟩ := q
    rw [hask] at hc
    simp only at hc ⊢
    unfold vask at hask
    split at hask
    · rename_i g' caps
      generalize hv : a.eval f = vf at h1
      cases h1 with | fn e1 e2 =>
      rename_i vs
      obtain ⟨l1, l2⟩ := args_at (c := c) (st := st) (a := a) (R := V w (E.up φ) (some φ)) h2 e1 e2
      cases hld : O.lend g' with
      | false =>
        rw [hld] at hask
        simp only [cond_false] at hask
        split at hask
        · rename_i xs' hsn
          simp only [Option.some.injEq, Prod.mk.injEq] at hask
          obtain ⟨rfl, rfl, rfl, rfl⟩ := hask
          generalize hrun : O.run g' [] xs' = q at hc ⊢
          obtain ⟨⟨os, r⟩, ck⟩ := q
          simp only [hld] at hc ⊢
          have hb : vback st false [] os r = { val := backV true st [] r, new := backL true st [] 0 os, put := none } := by simp [vback, Nat.ble]
          rw [hb] at hc ⊢
          refine .inl ⟨rfl, fun hid => ?_⟩
          simp only [Res.also, List.nil_append] at hc hid ⊢
          have hsp := hO g' [] xs' (by rw [hrun]; exact hc)
          rw [hrun] at hsp
          obtain ⟨m1, m2⟩ := omapL_ok hsn
          have hHlt : ∀ {k : Nat}, Own φ k → k < w.heap.size := fun h => hH.lt h
          have hnil : lendP [] φ = fun _ => none := by funext j; simp [lendP]
          have hHc' : HRel ((E.up φ).lend) (obsH []) (lendP [] φ) w := by
            refine ⟨fun k h => h.elim, fun j p e => ?_, fun i j k h => ?_, fun k h => ?_⟩
            · rw [hnil] at e; cases e
            · rw [hnil] at h; obtain ⟨p, hp, _⟩ := blk_iff.1 h; cases hp
            · rw [hnil] at h; obtain ⟨j, h⟩ := h; obtain ⟨p, hp, _⟩ := blk_iff.1 h; cases hp
          have hcall := hsp.call w (E.up φ).lend (lendP [] φ) (c.args.map a.eval ++ vs) (by
              rintro k (hk | hk)
              · exact hz k hk
              · exact hHlt hk) hHc' (fun id => by rw [hnil]; simp) ⟨by rw [l1, m1], fun j y hy => by
              obtain ⟨x, hx, hxy⟩ := m2 j y hy
              have := snapF_ok (H := st.Hg) hH (fun id => by
                unfold St.Hg
                cases hq : Nat.blt id st.nx with
                | false => exact .inl rfl
                | true => exact .inr (hHc id (Nat.le_of_ble_eq_true hq)).symm) _ x y _ (l2 j x hx) hxy
              refine (this.held (m := some (lendP [] φ))).less ?_ ?_
              · rintro k (hk | hk)
                · exact hk
                · rw [hnil] at hk; obtain ⟨j, h⟩ := hk; obtain ⟨p, hp, _⟩ := blk_iff.1 h; cases hp
              · rintro k (hk | hk)
                · exact hk
                · rw [hnil] at hk; obtain ⟨j, h⟩ := hk; obtain ⟨p, hp, _⟩ := blk_iff.1 h; cases hp⟩
          intro K Q hK
          refine wp_call ho hf hv hsp.callable hcall ?_
          rintro e w' ⟨v, φ2, rfl, k1, k2, k3, k4⟩
          refine ⟨v, rfl, ?_⟩
          rw [hnil] at k2
          obtain ⟨pls, n1, n2⟩ := back_news (st := st) rfl (fun i hi => hid i (by rw [backL_len]; exact hi)) k1 k2 k3 k4
          exact hK v w' pls n1 n2
        · cases hask
      | true =>
        rw [hld] at hask
        simp only [cond_true] at hask
        generalize reachF st 64 ((c.args.toList.map st.val ++ caps).flatMap (refsF 8)) [] = is at hask
        cases hok : okIds st.nx is with
        | false => rw [hok] at hask; cases hask
        | true =>
          rw [hok] at hask
          simp only [cond_true, Option.some.injEq, Prod.mk.injEq] at hask
          obtain ⟨rfl, rfl, rfl, rfl⟩ := hask
          generalize hrun : O.run g' (is.map (lendOb st is)) ((c.args.toList.map st.val ++ caps).map (lendV st is)) = q at hc ⊢
          obtain ⟨⟨os, r⟩, ck⟩ := q
          simp only [hld] at hc ⊢
          unfold vback at hc ⊢
          cases hle : Nat.ble is.length os.length with
          | false => rw [hle] at hc; exact (hc False (by simp [Res.bad, Res.also])).elim
          | true =>
            rw [hle] at hc
            simp only [cond_true, Bool.not_true] at hc ⊢
            have hlen := Nat.le_of_ble_eq_true hle
            refine .inr ⟨_, rfl, fun hfr hlv hHs => ?_⟩
            simp only [Res.also, List.nil_append] at hc ⊢
            have hsp := hO g' _ _ (by rw [hrun]; exact hc)
            rw [hrun] at hsp
            have hE1 : ∀ k, (lendE E is φ).fz k → E.fz k ∨ Rest is φ k := fun _ h => h
            have hE2 : ∀ k, (lendE E is φ).br k → E.br k ∨ Rest is φ k := fun _ h => h
            have hHc' := hHs.lend (E' := lendE E is φ) hok hE1 hE2 (fun k h => h.imp (hHs.sub k) fun h => h) (H' := obsH (is.map (lendOb st is))) (fun j id e => by simp [obsH, e])
            have hrl := lend_reloc (E' := lendE E is φ) hHs hE1 hE2
            have hcall := hsp.call w (lendE E is φ) (lendP is φ) (c.args.map a.eval ++ vs) (by
                rintro k (hk | ⟨id, _, hk⟩)
                · exact hz k hk
                · exact hHs.lt ⟨id, hk⟩) hHc' (fun j => by
                rw [List.length_map]
                constructor
                · intro h
                  obtain ⟨p, hp⟩ := Option.ne_none_iff_exists'.1 h
                  obtain ⟨id, _, e1, _⟩ := lendP_some hp
                  exact (List.getElem?_eq_some_iff.1 e1).1
                · intro h
                  have e1 : is[j]? = some is[j] := List.getElem?_eq_getElem h
                  rw [lendP_at e1]
                  have := hlv _ (okIds_lt hok j _ e1)
                  simpa using this) ⟨by rw [l1]; simp, fun j y hy => by
                rw [List.getElem?_map] at hy
                obtain ⟨x, hx, rfl⟩ := Option.map_eq_some_iff.1 hy
                exact relF_ok hrl _ _ _ (l2 j x hx)⟩
            intro K Q hK
            refine wp_call ho hf hv hsp.callable hcall ?_
            rintro e w' ⟨v, φ2, rfl, k1, k2, k3, k4⟩
            refine ⟨v, rfl, ?_⟩
            rw [List.length_map] at k2
            have hnl : ((backL false st is 0 os).drop is.length).length = os.length - is.length := by rw [List.length_drop, backL_len]
            obtain ⟨φ', p1, p2, p3, p4⟩ := back_puts hHs hfr hlv hok hlen k1 k2 k3 k4 (H' := addH (fun k => match idx is k with
              | some j => (backL false st is 0 os).getD j (.gone 0)
              | none => st.H k) st.nx ((backL false st is 0 os).drop is.length)) (fun j hj => by
                have hoj : os[j]? = some os[j] := List.getElem?_eq_getElem hj
                have hbj : (backL false st is 0 os)[j]? = some (backOb false st is j (obsH os j)) := by
                  rw [backL_at, Nat.zero_add, hoj]; simp [obsH, hoj]
                rcases Nat.lt_or_ge j is.length with h | h
                · have e : is[j]? = some is[j] := List.getElem?_eq_getElem h
                  rw [outId_lt e, addH_out (.inl (okIds_lt hok j _ e)), idx_of hok j _ e]
                  simp only [List.getD, hbj, Option.getD_some]
                · rw [outId_ge h]
                  refine addH_at ?_
                  rw [List.getElem?_drop, show is.length + (j - is.length) = j by omega]
                  exact hbj) (fun k hk hi => by rw [addH_out (.inl hk), hi])
            exact hK v w' φ' p1 p2 (by rw [hnl]; exact p3) p4
    · cases hask
end
end Go.Proofs.Ytnodhjlpoaahbaa
