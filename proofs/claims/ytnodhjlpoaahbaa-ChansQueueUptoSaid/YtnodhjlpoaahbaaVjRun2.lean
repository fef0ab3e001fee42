/-
  Each operation, run: addresses, parts, what is built.
-/
import Derived.Test.YtnodhjlpoaahbaaVjRun
namespace Go.Proofs.Ytnodhjlpoaahbaa
open Go.RowKit
section
variable {P : Program} {T : TypeId → TE} {w : World} {E : Prot} {m : Option Phi}

theorem known_ne {k : TK} (h : k.known = true) : k ≠ .other := by intro e; rw [e] at h; cases h
theorem V.tp_inv {cs : List VV} {v : Value} (h : V w E m (.tp cs) v) : ∃ b off, v = .pointer (some ⟨b, off, none⟩) ∧ b < w.heap.size ∧ ¬ E.br b ∧ ∃ u : Nat → Value,
    (∀ (j : Nat) x, cs[j]? = some x → w.cell? ⟨b, off + j, none⟩ = some (u j)) ∧ ∀ (j : Nat) x, cs[j]? = some x → V w E none x (u j) := by
  cases h with | tp u h1 h2 h3 h4 => exact ⟨_, _, rfl, h1, h2, u, h3, h4⟩
theorem V.unhold {x : VV} {v : Value} (h : V w E.hold m x v) : V w E m x v := h.less (fun _ h => h) fun _ _ => trivial
theorem V.unat {fz : Bool} {x : VV} {v : Value} (h : V w (E.at fz) m x v) : V w E m x v := by cases fz with
  | true => exact h.unhold
  | false => exact h
theorem V.agg_inv {cs : List VV} {v : Value} (h : V w E m (.agg cs) v) : ∃ vs : Array Value, v = .agg vs ∧ vs.size = cs.length ∧ ∀ (j : Nat) x, cs[j]? = some x → V w E m x (vs.getD j undef) := by
  cases h with | agg h1 h2 => exact ⟨_, rfl, h1, h2⟩

theorem s_fieldAt (hT : TOk P T) {φ : Phi} {s : TypeId} {f : Nat} {x : VV} {vx : Value} (hx : V w E (some φ) x vx) (h : ∀ p ∈ (vfieldAt T s f x).chk, p) :
    ∃ v, (Instr.fieldAt s vx f).run P w = .ok v w ∧ V w E (some φ) (vfieldAt T s f x).val v := by
  unfold vfieldAt at h ⊢
  split at h
  · rename_i fs hk
    obtain ⟨F, hF, rfl⟩ := hT.agg hk
    split at h
    · rename_i o t hf
      rw [List.getElem?_map] at hf
      obtain ⟨fl, hfl, e⟩ := Option.map_eq_some_iff.1 hf
      simp only [Prod.mk.injEq] at e
      obtain ⟨rfl, rfl⟩ := e
      have hfl' : F[f]? = some fl := by simpa using hfl
      cases hq : ((T fl.type).k.known && !(Nat.beq (T fl.type).sz 0)) with
      | false => rw [hq] at h; exact not_bad h
      | true =>
        rw [hq] at h
        simp only [cond_true] at h ⊢
        rw [Bool.and_eq_true] at hq
        obtain ⟨hq1, hq2⟩ := hq
        obtain ⟨i, z, hi, hs, _⟩ := hT.size (known_ne hq1)
        have hz : i.size ≠ 0 := by rw [← hs]; intro e; rw [e] at hq2; cases hq2
        have run : ∀ a : Addr, (Instr.fieldAt s (.pointer (some a)) f).run P w = .ok (.pointer (some (a.add fl.offset))) w := by
          intro a
          simp [Instr.fieldAt, run_underlying hF, hfl', Instr.sureAddr, fieldPlace, sizeOf, typeInfo, hi, hz]
        split at h
        · obtain ⟨b, hb, rfl⟩ := hx.bp_inv
          exact ⟨_, run _, by rw [Addr.add_lit]; exact .bp hb⟩
        · rename_i id gen sz i o
          obtain ⟨c, len, hd, b, hp, hg, rfl, hv⟩ := hx.ep_inv
          exact ⟨_, run _, by rw [Addr.add_lit, Nat.add_assoc]; exact .ep hp hg hv⟩
        · rename_i cs
          obtain ⟨b, off, rfl, h1, h2, u, h3, h4⟩ := hx.tp_inv
          refine ⟨_, run _, ?_⟩
          rw [Addr.add_lit]
          refine .tp (fun j => u (fl.offset + j)) h1 h2 (fun j x hj => ?_) (fun j x hj => ?_)
          · rw [List.getElem?_drop] at hj; rw [Nat.add_assoc]; exact h3 _ _ hj
          · rw [List.getElem?_drop] at hj; exact h4 _ _ hj
        · exact not_bad h
    · exact not_bad h
  · exact not_bad h

theorem s_indexAt (hT : TOk P T) {φ : Phi} {t : TypeId} {x i : VV} {vx vi : Value} (hx : V w E (some φ) x vx) (hi : V w E (some φ) i vi) (hE : ∀ k, E.br k → E.fz k) (h : ∀ p ∈ (vindexAt T t x i).chk, p) :
    ∃ v, (Instr.indexAt t vx vi).run P w = .ok v w ∧ V w E (some φ) (vindexAt T t x i).val v := by
  unfold vindexAt at h ⊢
  split at h
  · rename_i e fz n sz f k i hk
    have ht := hT.sl hk
    rw [hi.sc_inv]
    cases hq : ((T e).k.known && Nat.beq (T e).sz sz) with
    | false => rw [hq] at h; exact not_bad h
    | true =>
      rw [hq] at h
      simp only [cond_true] at h ⊢
      rw [Bool.and_eq_true] at hq
      obtain ⟨hq1, hq2⟩ := hq
      obtain ⟨ie, z, hie, hs, _⟩ := hT.size (known_ne hq1)
      have hsz : ie.size = sz := by rw [← hs]; exact Nat.eq_of_beq_eq_true hq2
      obtain ⟨h0, h1⟩ : 0 ≤ i ∧ i < n := h _ (List.mem_cons_self ..)
      obtain ⟨a, cap, rfl, _, _, hpos⟩ := hx.sl_inv
      obtain ⟨b, off, rfl, hb, hnA, hlen, u, hc, hv⟩ := hpos (by omega)
      have hin : i.toNat < n := by omega
      refine ⟨.pointer (some ((⟨b, off, none⟩ : Addr).add (i.toNat * sz))), ?_, ?_⟩
      · simp [Instr.indexAt, asIntOf, run_underlying ht, h0, h1, sizeOf, typeInfo, hie, hsz]
      · rw [Addr.add_lit]
        refine .tp (u i.toNat) hb (fun e => hnA ?_) (fun j x hj => hc _ _ _ hin hj) (fun j x hj => (hv _ _ _ hin hj).unat)
        cases fz with
        | true => exact hE _ e
        | false => exact e
  · rename_i e id gen n k i hk
    have ht := hT.sl hk
    rw [hi.sc_inv]
    cases hq : (T e).k.known with
    | false => rw [hq] at h; exact not_bad h
    | true =>
      rw [hq] at h
      simp only [cond_true] at h ⊢
      obtain ⟨ie, z, hie, hs, _⟩ := hT.size (known_ne hq)
      obtain ⟨h0, h1⟩ : 0 ≤ i ∧ i < n := h _ (List.mem_cons_self ..)
      obtain ⟨c, len, hd, hd0, hp, hg, hv0, hv⟩ := hx.ow_inv
      match hd0, hv0, hv with
      | none, hv0, _ => have := hv0.1; omega
      | some (b, cap), hv0, hv =>
        obtain ⟨rfl, hcap⟩ := hv0
        refine ⟨.pointer (some ((⟨b, 0, none⟩ : Addr).add (i.toNat * ie.size))), ?_, ?_⟩
        · simp [Instr.indexAt, asIntOf, run_underlying ht, h0, h1, sizeOf, typeInfo, hie]
        · rw [Addr.add_lit, Nat.zero_add, hs]
          have e : i.toNat * ie.size = i.toNat * ie.size + 0 := rfl
          rw [e]
          refine .ep hp hg fun eg => ?_
          obtain ⟨e1, e2⟩ := hv eg
          exact ⟨by omega, cap, e1.symm⟩
  · obtain ⟨h0, h1⟩ : 0 ≤ _ ∧ _ < (0 : Int) := h _ (List.mem_cons_self ..)
    omega
  · rename_i n e id off k i hk
    have ht := hT.arr hk
    rw [hi.sc_inv]
    cases hq : (T e).k.known with
    | false => rw [hq] at h; exact not_bad h
    | true =>
      rw [hq] at h
      simp only [cond_true] at h ⊢
      obtain ⟨ie, z, hie, hs, _⟩ := hT.size (known_ne hq)
      obtain ⟨h0, h1⟩ : 0 ≤ i ∧ i < n := h _ (List.mem_cons_self ..)
      obtain ⟨b, hb, rfl⟩ := hx.bp_inv
      refine ⟨.pointer (some ((⟨b, off, none⟩ : Addr).add (i.toNat * ie.size))), ?_, ?_⟩
      · simp [Instr.indexAt, asIntOf, run_underlying ht, h0, h1, sizeOf, typeInfo, hie, Instr.sureAddr]
      · rw [Addr.add_lit, hs]
        exact .bp hb
  · rename_i n e id gen sz k' o k i hk
    have ht := hT.arr hk
    rw [hi.sc_inv]
    cases hq : (T e).k.known with
    | false => rw [hq] at h; exact not_bad h
    | true =>
      rw [hq] at h
      simp only [cond_true] at h ⊢
      obtain ⟨ie, z, hie, hs, _⟩ := hT.size (known_ne hq)
      obtain ⟨h0, h1⟩ : 0 ≤ i ∧ i < n := h _ (List.mem_cons_self ..)
      obtain ⟨c, len, hd, b, hp, hg, rfl, hv⟩ := hx.ep_inv
      refine ⟨.pointer (some ((⟨b, k' * sz + o, none⟩ : Addr).add (i.toNat * ie.size))), ?_, ?_⟩
      · simp [Instr.indexAt, asIntOf, run_underlying ht, h0, h1, sizeOf, typeInfo, hie, Instr.sureAddr]
      · rw [Addr.add_lit, hs, Nat.add_assoc]
        exact .ep hp hg hv
  · rename_i n e cs k i hk
    have ht := hT.arr hk
    rw [hi.sc_inv]
    cases hq : (T e).k.known with
    | false => rw [hq] at h; exact not_bad h
    | true =>
      rw [hq] at h
      simp only [cond_true] at h ⊢
      obtain ⟨ie, z, hie, hs, _⟩ := hT.size (known_ne hq)
      obtain ⟨h0, h1⟩ : 0 ≤ i ∧ i < n := h _ (List.mem_cons_self ..)
      obtain ⟨b, off, rfl, h1', h2, u, h3, h4⟩ := hx.tp_inv
      refine ⟨.pointer (some ((⟨b, off, none⟩ : Addr).add (i.toNat * ie.size))), ?_, ?_⟩
      · simp [Instr.indexAt, asIntOf, run_underlying ht, h0, h1, sizeOf, typeInfo, hie, Instr.sureAddr]
      · rw [Addr.add_lit, hs]
        refine .tp (fun j => u (i.toNat * ie.size + j)) h1' h2 (fun j x hj => ?_) (fun j x hj => ?_)
        · rw [List.getElem?_drop] at hj; rw [Nat.add_assoc]; exact h3 _ _ hj
        · rw [List.getElem?_drop] at hj; exact h4 _ _ hj
  · exact not_bad h

/-- A part of a struct's cells, as a value. -/
theorem s_part (hT : TOk P T) {t : TypeId} {cs : List VV} {o : Nat} {vs : Array Value} (hl : vs.size = cs.length) (hv : ∀ (j : Nat) x, cs[j]? = some x → V w E m x (vs.getD j undef))
    (h : ∀ p ∈ (vpart T t cs o).chk, p) : ∃ v, (part t vs o).run P w = .ok v w ∧ V w E m (vpart T t cs o).val v := by
  unfold vpart vtake at h ⊢
  cases hk : (T t).k.known with
  | false => rw [hk] at h; exact not_bad h
  | true =>
    rw [hk] at h
    simp only [cond_true] at h ⊢
    obtain ⟨d, hd, hkd⟩ := hT.und (known_ne hk)
    obtain ⟨i, z, hi, hs, _⟩ := hT.size (known_ne hk)
    cases hr : (T t).k.row with
    | true =>
      rw [hr] at h
      simp only [cond_true] at h ⊢
      cases hlt : Nat.ble (T t).sz (cs.drop o).length with
      | false => rw [hlt] at h; exact not_bad h
      | true =>
        simp only [cond_true]
        have hle : (T t).sz ≤ cs.length - o := by have := Nat.le_of_ble_eq_true hlt; simpa using this
        have hagg : (isAgg t).run P w = .ok true w := by
          have : d.isRow = true := kind_row.1 (by rw [hkd]; exact hr)
          unfold isAgg
          rw [Sem.run_bind, run_underlying hd w]
          cases d <;> simp_all [TypeDesc.isRow]
        refine ⟨.agg (vs.extract o (o + i.size)), by simp [part, hagg, sizeOf, typeInfo, hi], .agg ?_ ?_⟩
        · simp; omega
        · intro j x hx
          rw [List.getElem?_take] at hx
          split at hx
          · rename_i hj
            rw [List.getElem?_drop] at hx
            have hjl : o + j < cs.length := (List.getElem?_eq_some_iff.1 hx).1
            have := hv _ x hx
            simp only [Array.getD] at this ⊢
            rw [dif_pos (by omega)] at this
            rw [dif_pos (by simp; omega)]
            simpa using this
          · cases hx
    | false =>
      rw [hr] at h
      simp only [cond_false] at h ⊢
      have hrow : d.isRow = false := by rw [← Bool.not_eq_true, ← kind_row, hkd, hr]; simp
      have hagg : (isAgg t).run P w = .ok false w := by
        unfold isAgg
        rw [Sem.run_bind, run_underlying hd w]
        cases d <;> simp_all [TypeDesc.isRow]
      cases hc : cs.drop o with
      | nil => rw [hc] at h; exact not_bad h
      | cons x rest =>
        have hx : cs[o]? = some x := by have := List.getElem?_drop (xs := cs) (i := o) (j := 0); rw [hc] at this; simpa using this.symm
        have hol : o < cs.length := (List.getElem?_eq_some_iff.1 hx).1
        have hvo := hv o x hx
        simp only [Array.getD] at hvo
        rw [dif_pos (by omega)] at hvo
        refine ⟨vs[o]'(by omega), ?_, hvo⟩
        have hvs : vs[o]? = some (vs[o]'(by omega)) := by simp [show o < vs.size by omega]
        simp [part, hagg, hvs]

theorem s_field (hT : TOk P T) {s : TypeId} {f : Nat} {x : VV} {vx : Value} (hx : V w E m x vx) (h : ∀ p ∈ (vfield T s f x).chk, p) :
    ∃ v, (Instr.field s vx f).run P w = .ok v w ∧ V w E m (vfield T s f x).val v := by
  unfold vfield at h ⊢
  split at h
  · rename_i fs cs hk
    obtain ⟨F, hF, rfl⟩ := hT.agg hk
    obtain ⟨vs, rfl, hl, hv⟩ := hx.agg_inv
    split at h
    · rename_i o t hf
      rw [List.getElem?_map] at hf
      obtain ⟨fl, hfl, e⟩ := Option.map_eq_some_iff.1 hf
      simp only [Prod.mk.injEq] at e
      obtain ⟨rfl, rfl⟩ := e
      have hfl' : F[f]? = some fl := by simpa using hfl
      obtain ⟨v, hr, hV⟩ := s_part (w := w) hT hl hv h
      refine ⟨v, ?_, hV⟩
      simp [Instr.field, run_underlying hF, hfl', asAgg, hr]
    · exact not_bad h
  · exact not_bad h

theorem s_index (hT : TOk P T) {t : TypeId} {x i : VV} {vx vi : Value} (hx : V w E m x vx) (hi : V w E m i vi) (h : ∀ p ∈ (vindex T t x i).chk, p) :
    ∃ v, (Instr.index t vx vi).run P w = .ok v w ∧ V w E m (vindex T t x i).val v := by
  unfold vindex at h ⊢
  split at h
  · rename_i n e cs k i hk
    have ht := hT.arr hk
    rw [hi.sc_inv]
    obtain ⟨vs, rfl, hl, hv⟩ := hx.agg_inv
    obtain ⟨h0, h1⟩ : 0 ≤ i ∧ i < n := h _ (List.mem_cons_self ..)
    have hp : ∀ p ∈ (vpart T e cs (i.toNat * (T e).sz)).chk, p := fun p hp => h p (List.mem_cons_of_mem _ hp)
    have hkn : (T e).k.known = true := by
      cases hq : (T e).k.known with
      | true => rfl
      | false => unfold vpart vtake at hp; rw [hq] at hp; exact not_bad hp
    obtain ⟨ie, z, hie, hs, _⟩ := hT.size (known_ne hkn)
    obtain ⟨v, hr, hV⟩ := s_part (w := w) hT hl hv hp
    refine ⟨v, ?_, hV⟩
    rw [hs] at hr
    simp [Instr.index, asIntOf, run_underlying ht, h0, h1, sizeOf, typeInfo, hie, hr]
  · rename_i s k i hk
    have ht := hT.str hk
    rw [hi.sc_inv, hx.sc_inv]
    obtain ⟨h0, h1⟩ : 0 ≤ i ∧ i < s.size := h _ (List.mem_cons_self ..)
    refine ⟨_, ?_, .sc⟩
    have hb : s[i.toNat]? = some (s[i.toNat]'(by omega)) := getElem?_pos s i.toNat (by omega)
    simp [Instr.index, asIntOf, run_underlying ht, h0, hb]
  · exact not_bad h

theorem s_extract {x : VV} {i : Nat} {vx : Value} (hx : V w E m x vx) (h : ∀ p ∈ (vextract x i).chk, p) : ∃ v, (Instr.extract vx i).run P w = .ok v w ∧ V w E m (vextract x i).val v := by
  unfold vextract at h ⊢
  split at h
  · cases hx with | tup h1 h2 =>
    rename_i cs vs
    split at h
    · rename_i y hy
      have hl : i < cs.length := (List.getElem?_eq_some_iff.1 hy).1
      have := h2 i y hy
      simp only [Array.getD] at this
      rw [dif_pos (by omega)] at this
      refine ⟨_, ?_, this⟩
      have hv : vs[i]? = some (vs[i]'(by omega)) := by simp [show i < vs.size by omega]
      simp [Instr.extract, hv]
    · exact not_bad h
  · exact not_bad h

theorem s_len (hT : TOk P T) {t ty : TypeId} {x : VV} {vx : Value} (hx : V w E m x vx) (h : ∀ p ∈ (vlen T t x).chk, p) : ∃ v, (Builtin.len_ #[t] ty #[vx]).run P w = .ok v w ∧ V w E m (vlen T t x).val v := by
  unfold vlen at h ⊢
  split at h
  · rename_i e fz n sz f hk
    obtain ⟨a, cap, rfl, _⟩ := hx.sl_inv
    exact ⟨_, by simp [Builtin.len_, run_underlying (hT.sl hk), goInt], .sc⟩
  · rename_i e id gen n hk
    obtain ⟨hd0, h0⟩ := hx.ow_hd
    match hd0, h0 with
    | none, h0 =>
      obtain ⟨rfl, rfl⟩ := h0
      exact ⟨_, by simp [Builtin.len_, run_underlying (hT.sl hk), goInt], .sc⟩
    | some (b, cap), h0 =>
      obtain ⟨rfl, _⟩ := h0
      exact ⟨_, by simp [Builtin.len_, run_underlying (hT.sl hk), goInt], .sc⟩
  · rename_i e hk
    obtain rfl := hx.nl_inv
    exact ⟨.int .i64 0, by simp [Builtin.len_, run_underlying (hT.sl hk), goInt], .sc⟩
  · rename_i s hk
    rw [hx.sc_inv]
    exact ⟨_, by simp [Builtin.len_, run_underlying (hT.str hk), goInt], .sc⟩
  · rename_i n e _ hk
    exact ⟨_, by simp [Builtin.len_, run_underlying (hT.arr hk), goInt], .sc⟩
  · exact not_bad h

theorem s_conv (hT : TOk P T) {s d : TypeId} {x : VV} {vx : Value} (hx : V w E m x vx) (h : ∀ p ∈ (vconv T s d x).chk, p) : ∃ v, (convert s d vx).run P w = .ok v w ∧ V w E m (vconv T s d x).val v := by
  unfold vconv at h ⊢
  split at h
  · rename_i k' k k'' n hs hd
    rw [hx.sc_inv]
    refine ⟨_, ?_, .sc⟩
    simp [convert, run_underlying (hT.int hs), run_underlying (hT.int hd), Conv.intToInt]
  · rename_i s hs hd
    rw [hx.sc_inv]
    refine ⟨_, ?_, .sc⟩
    simp [convert, run_underlying (hT.str hs), run_underlying (hT.str hd)]
  · exact not_bad h

theorem s_pick {c a b : VV} {vc va vb : Value} (hc : V w E m c vc) (ha : vc = .bool true → V w E m a va) (hb : vc = .bool false → V w E m b vb) (h : ∀ p ∈ (vpick c a b).chk, p) :
    ∃ v, (do pure (if ← asBool vc then va else vb) : Sem Value).run P w = .ok v w ∧ V w E m (vpick c a b).val v := by
  unfold vpick at h ⊢
  split at h
  · rename_i c a b
    have e := hc.sc_inv
    subst e
    cases c with
    | true => have := (ha rfl).sc_inv; subst this; exact ⟨_, rfl, .sc⟩
    | false => have := (hb rfl).sc_inv; subst this; exact ⟨_, rfl, .sc⟩
  · exact not_bad h
end
end Go.Proofs.Ytnodhjlpoaahbaa
