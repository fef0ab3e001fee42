/-
  Texts, joined: CoW, ExA, ExH, ValPlain, TwoPlain, ExP, ExOne, ExW1, ExW2, ExW3, ExW4, ExW5, EbP, EbS, EbW, EbX, EbV, EbY, EbZ, VjThaw, EbT, EgS, EcP, VjThawF, VjOwn, EcE, EcA, EcH, EcW1.
-/
import Derived.Test.YtiaebjpcgjkhoaaGreatDoorQkC
import Derived.KernelRfl
import Derived.WalkKit
import Derived.Test.YtiaebjpcgjkhoaaGreatDoorProg
import Derived.Lib.Hide
import Derived.WalkSpells
import Derived.WalkLawsBesides
import Derived.BigQuiet
import Derived.Deep.QuietTactic
import Derived.Deep.RegionHeld3
namespace Go.Proofs.YtiaebjpcgjkhoaaGreatDoor
open Go.RowKit
theorem Zy {W w1 : World} (hb : Below W.heap.size W w1) : (∀ b o, b < W.heap.size → w1.cell? ⟨b, o, none⟩ = W.cell? ⟨b, o, none⟩) ∧ (∀ b o, b < W.heap.size → w1.frozen? ⟨b, o, none⟩ = W.frozen? ⟨b, o, none⟩) :=
  ⟨fun b o h => hb.cell (p := ⟨b, o, none⟩) h, fun b o h => hb.frozen (p := ⟨b, o, none⟩) h⟩
set_option maxHeartbeats 1000000 in
theorem Jz {w : World} {ao : Option Addr} {cap : Nat} {xs : List Int} (h1 : xs.length ≤ cap) (h2 : cap ≤ maxLen) (hr : xs.length * 8 ≤ 140737488355328) (h3 : 0 < xs.length → ∃ a, ao = some a ∧ ∀ i, i < xs.length → w.cell? (a.add i) = some (.int .i64 (xs.getD i 0))) :
    Calls Tryz.prog 35 #[.slice ao xs.length cap] w fun e w' => ∃ v', e = .returned v' ∧ w'.ownsRow w.heap.size 2 1 v' xs.length (xs.map (Value.int .i64)) ∧ Below w.heap.size w w' := by
  have q22 : ∀ (w : World) (a : Option Addr) (n c n' c' : Nat), (binOp .eql 83 (.slice a n c) (.slice none n' c')).run Tryz.prog w = .ok (.bool a.isNone) w := fun w a n c n' c' => Lib.run_eql_slice_nil w _ _ a n c n' c' Tryz.underlying83
  obtain ⟨ki, khi, khz0, khz1, khz2⟩ := Eu QY
  cases ao with
  | none =>
    have h0 : xs = [] := by
      apply List.eq_nil_of_length_eq_zero
      apply Classical.byContradiction
      intro hp
      obtain ⟨_, e, _⟩ := h3 (by omega)
      cases e
    subst h0
    clear h3
    go_enter Tryz.func35, Tryz.ntmps35
    go_wp2
    go_ret
    exact ⟨_, rfl, World.ownsRow_nil _ _ _ _, Below.refl _ _⟩
  | some a =>
    have hn : ∀ (j : Nat) (u : Value), (xs.map (Value.int .i64))[j]? = some u → w.cell? (a.add j) = some u := by
      intro j u hj
      have hjl : j < xs.length := by have := (List.getElem?_eq_some_iff.1 hj).1; simpa using this
      obtain ⟨a', e, hc⟩ := h3 (by omega)
      simp only [Option.some.injEq] at e
      subst e
      rw [hc j hjl, ← hj]; simp [List.getD, hjl]
    have HN := Lib.hid hn
    clear h3 hn
    have hlen := h2
    unfold maxLen at hlen
    go_enter Tryz.func35, Tryz.ntmps35
    go_wp2_with (at_builtin; refine wpList_append_own _ rfl _ _ 83 rfl w.heap.size 2 ki (.int .i64 0) 1 8 Tryz.underlying83 khi khz0 khz1 khz2 rfl (by decide) _ _ _ rfl (World.ownsRow_made w #[] 0 (Nat.le_refl _) (Nat.zero_le _) (by simp)) a xs.length cap (xs.map (Value.int .i64)) rfl ?qc1 ?qc2 ?qc3 ?qc4 ?qc5 ?qc6 ?_)
    case qc1 => simp
    case qc2 => intro j u hj; have := HN.out j u hj; exact Lib.cell?_alloc_some _ this
    case qc3 => intro u hu; simp at hu; obtain ⟨x, _, rfl⟩ := hu; rfl
    case qc4 => unfold maxLen; omega
    case qc5 => omega
    case qc6 => simp
    intro v' w1 hown hgrow _
    go_wp2
    go_ret
    exact ⟨v', rfl, by simpa using hown, ((Below.refl _ w).alloc (Nat.le_refl _) _).grown hgrow (by simp) (by intro k hk; simp [Value.ownBlock] at hk; omega)⟩
theorem UZ {w : World} {v : Value} {xs : List Int} (h : AtI w xs v) (hr : xs.length ≤ 128) :
    Calls Tryz.prog 34 #[v] w fun e w' => ∃ v', e = .returned v' ∧ Gz w' w.heap.size v' xs ∧ Below w.heap.size w w' := by
  obtain ⟨ao, cap, rfl, h1, h2, h3⟩ := h
  exact KE h1 h2 (by omega) fun hp => by obtain ⟨b, off, rfl, _, hc⟩ := h3 hp; exact ⟨_, rfl, fun i hi => by rw [Addr.add_lit]; exact hc i hi⟩
theorem AaR {w : World} {v : Value} {xs : List Int} (h : AtI w xs v) (hr : xs.length ≤ 8) :
    Calls Tryz.prog 35 #[v] w fun e w' => ∃ v', e = .returned v' ∧ Gz w' w.heap.size v' xs ∧ Below w.heap.size w w' := by
  obtain ⟨ao, cap, rfl, h1, h2, h3⟩ := h
  exact Jz h1 h2 (by omega) fun hp => by obtain ⟨b, off, rfl, _, hc⟩ := h3 hp; exact ⟨_, rfl, fun i hi => by rw [Addr.add_lit]; exact hc i hi⟩
theorem AtI.alloc {w : World} {xs : List Int} {v : Value} (h : AtI w xs v) (o : Obj) : AtI (w.alloc o) xs v :=
  AtL.map h (by simp) fun b off i hb _ hc => Lib.cell?_alloc_some _ hc
theorem JL {α : Type} {q : List α} {k : Nat} {m : α} (h : q[k]? = some m) : q.take (k + 1) = q.take k ++ [m] := by
  obtain ⟨hk, rfl⟩ := List.getElem?_eq_some_iff.1 h
  rw [List.take_succ_eq_append_getElem hk]
structure Rs (w w2 w' : World) (s : D.State) (vg vc vp : Value) (n1 : Nat) (qs fs : List Value) : Prop where
  g : Gz w' w.heap.size vg s.Globals
  g1 : ∀ k, vg.ownBlock = some k → k < n1
  n0 : w.heap.size ≤ n1
  n2 : n1 ≤ w2.heap.size
  c : EG w2 n1 vc qs s.Chans
  kept : ∀ k, n1 ≤ k → k < w2.heap.size → w'.heap[k]? = w2.heap[k]?
  p : DL w' w2.heap.size vp fs s.Procs
  below : Below w.heap.size w w'
theorem Eb {w w' : World} {b i : Nat} {u : Value} (h : BU w w' (fun k => k = b)) : BU w (w'.setCell ⟨b, i, none⟩ u) (fun k => k = b) :=
  BU.setCell (p := ⟨b, i, none⟩) h (Or.inl rfl) u
theorem FR {w : World} {b : Nat} (v0 v1 v2 v3 v4 v5 : Value) :
    BU w ((((((w.setCell ⟨b, 0, none⟩ v0).setCell ⟨b, 1, none⟩ v1).setCell ⟨b, 2, none⟩ v2).setCell ⟨b, 3, none⟩ v3).setCell ⟨b, 4, none⟩ v4).setCell ⟨b, 5, none⟩ v5) (fun k => k = b) := by
  refine Eb ?_
  refine Eb ?_
  refine Eb ?_
  refine Eb ?_
  refine Eb ?_
  refine Eb ?_
  exact BU.refl w _
theorem Yg {w : World} {b : Nat} (v0 v1 v2 v3 v4 v5 : Value) :
    ((((((w.setCell ⟨b, 0, none⟩ v0).setCell ⟨b, 1, none⟩ v1).setCell ⟨b, 2, none⟩ v2).setCell ⟨b, 3, none⟩ v3).setCell ⟨b, 4, none⟩ v4).setCell ⟨b, 5, none⟩ v5).heap.size = w.heap.size := by
  simp [World.setCell]
theorem JC {w : World} {b : Nat} {u0 u1 u2 u3 u4 u5 : Value} {t : TypeId} (h : w.heap[b]? = some (.cells #[u0, u1, u2, u3, u4, u5] t (0, 0))) (v0 v1 v2 v3 v4 v5 : Value) :
    ((((((w.setCell ⟨b, 0, none⟩ v0).setCell ⟨b, 1, none⟩ v1).setCell ⟨b, 2, none⟩ v2).setCell ⟨b, 3, none⟩ v3).setCell ⟨b, 4, none⟩ v4).setCell ⟨b, 5, none⟩ v5).heap[b]? = some (.cells #[v0, v1, v2, v3, v4, v5] t (0, 0)) := by
  rw [DD (DD (DD (DD (DD (DD h _) _) _) _) _) _]; rfl
set_option maxRecDepth 100000 in
set_option maxHeartbeats 4000000 in
theorem Me {w : World} {s : D.State} {g c p : Value} (hs : Fit s) (hg : AtI w s.Globals g) (hc : AtC w s.Chans c) (hp : AtP w s.Procs p) :
    Calls Tryz.prog 19 #[.agg #[g, c, p, .int .i64 s.Last, .int .i64 s.Alone, .int .i64 s.Claim]] w fun e w' =>
      ∃ vg vc vp n1 qs fs w2, e = .returned (.agg #[vg, vc, vp, .int .i64 s.Last, .int .i64 s.Alone, .int .i64 s.Claim]) ∧ Rs w w2 w' s vg vc vp n1 qs fs := by
  obtain ⟨ki, khi, khz0, khz1, khz2⟩ := Eu YZ
  obtain ⟨kc, khc, kcz0, kcz1, kcz2⟩ := Eu W5
  obtain ⟨kp, khp, kpz0, kpz1, kpz2⟩ := Eu W4
  have hg128 := hs.g
  have hsc := hs.c
  have hsp := hs.p
  obtain ⟨ag, capg, rfl, hg1, hg2, hg3⟩ := id hg
  obtain ⟨ac, capc, rfl, hc1, hc2, hc3⟩ := hc
  obtain ⟨ap, capp, rfl, hp1, hp2, hp3⟩ := hp
  go_enter Tryz.func19, Tryz.ntmps19
  go_wp2_with (go_at_call 34; refine (UZ (((hg.alloc _).alloc _).alloc _) hg128).mono ?_; rintro e w1 ⟨vg, rfl, hr1, hb1⟩; obtain ⟨aog, cg, rfl, _⟩ := CH hr1; obtain ⟨cc1, cf1⟩ := Zy hb1)
  have hz1 : w.heap.size + 1 + 1 + 1 ≤ w1.heap.size := by simpa using hb1.size
  have a2 : w1.heap[w.heap.size + 1 + 1]? = some (.cells #[.slice ag s.Globals.length capg, .slice ac s.Chans.length capc, .slice ap s.Procs.length capp, .int .i64 s.Last, .int .i64 s.Alone, .int .i64 s.Claim] BG (0, 0)) := by
    rw [hb1.block _ (by simp)]
    have := heap_alloc_new ((w.alloc (.cells #[.slice ag s.Globals.length capg, .slice ac s.Chans.length capc, .slice ap s.Procs.length capp, .int .i64 s.Last, .int .i64 s.Alone, .int .i64 s.Claim] BG)).alloc (.cells #[.slice none 0 0, .slice none 0 0, .slice none 0 0, .int .i64 0, .int .i64 0, .int .i64 0] BG)) (.cells #[.slice ag s.Globals.length capg, .slice ac s.Chans.length capc, .slice ap s.Procs.length capp, .int .i64 s.Last, .int .i64 s.Alone, .int .i64 s.Claim] BG)
    simpa using this
  have a1 : w1.heap[w.heap.size + 1]? = some (.cells #[.slice none 0 0, .slice none 0 0, .slice none 0 0, .int .i64 0, .int .i64 0, .int .i64 0] BG (0, 0)) := by
    rw [hb1.block _ (by simp <;> omega), Below.heap_alloc _ _ _ (by simp)]
    have := heap_alloc_new (w.alloc (.cells #[.slice ag s.Globals.length capg, .slice ac s.Chans.length capc, .slice ap s.Procs.length capp, .int .i64 s.Last, .int .i64 s.Alone, .int .i64 s.Claim] BG)) (.cells #[.slice none 0 0, .slice none 0 0, .slice none 0 0, .int .i64 0, .int .i64 0, .int .i64 0] BG)
    simpa using this
  have a0 : w1.heap[w.heap.size]? = some (.cells #[.slice ag s.Globals.length capg, .slice ac s.Chans.length capc, .slice ap s.Procs.length capp, .int .i64 s.Last, .int .i64 s.Alone, .int .i64 s.Claim] BG (0, 0)) := by
    rw [hb1.block _ (by simp <;> omega), Below.heap_alloc _ _ _ (by simp <;> omega), Below.heap_alloc _ _ _ (by simp)]
    have := heap_alloc_new w (.cells #[.slice ag s.Globals.length capg, .slice ac s.Chans.length capc, .slice ap s.Procs.length capp, .int .i64 s.Last, .int .i64 s.Alone, .int .i64 s.Claim] BG)
    simpa using this
  have hB1 : Below w.heap.size w w1 := (((Below.refl _ w).alloc (Nat.le_refl _) _).alloc (by simp) _ |>.alloc (by simp <;> omega) _).trans (hb1.mono (by simp <;> omega))
  clear cc1 cf1
  have F0 : (((w1.setCell ⟨w.heap.size + 1 + 1, 0, none⟩ (.slice aog s.Globals.length cg)).setCell ⟨w.heap.size + 1 + 1, 1, none⟩ (.slice none 0 0)).setCell ⟨w.heap.size + 1 + 1, 2, none⟩ (.slice none 0 0)).heap[w.heap.size]? = some (.cells #[.slice ag s.Globals.length capg, .slice ac s.Chans.length capc, .slice ap s.Procs.length capp, .int .i64 s.Last, .int .i64 s.Alone, .int .i64 s.Claim] BG (0, 0)) := by
    rw [Below.heap_setCell _ _ _ _ (by simp <;> omega), Below.heap_setCell _ _ _ _ (by simp <;> omega), Below.heap_setCell _ _ _ _ (by simp <;> omega)]; exact a0
  have F1 : (((w1.setCell ⟨w.heap.size + 1 + 1, 0, none⟩ (.slice aog s.Globals.length cg)).setCell ⟨w.heap.size + 1 + 1, 1, none⟩ (.slice none 0 0)).setCell ⟨w.heap.size + 1 + 1, 2, none⟩ (.slice none 0 0)).heap[w.heap.size + 1]? = some (.cells #[.slice none 0 0, .slice none 0 0, .slice none 0 0, .int .i64 0, .int .i64 0, .int .i64 0] BG (0, 0)) := by
    rw [Below.heap_setCell _ _ _ _ (by simp), Below.heap_setCell _ _ _ _ (by simp), Below.heap_setCell _ _ _ _ (by simp)]; exact a1
  have F2 : (((w1.setCell ⟨w.heap.size + 1 + 1, 0, none⟩ (.slice aog s.Globals.length cg)).setCell ⟨w.heap.size + 1 + 1, 1, none⟩ (.slice none 0 0)).setCell ⟨w.heap.size + 1 + 1, 2, none⟩ (.slice none 0 0)).heap[w.heap.size + 1 + 1]? = some (.cells #[.slice aog s.Globals.length cg, .slice none 0 0, .slice none 0 0, .int .i64 s.Last, .int .i64 s.Alone, .int .i64 s.Claim] BG (0, 0)) := by
    rw [DD (DD (DD a2 _) _) _]; rfl
  have FB : Below w.heap.size w (((w1.setCell ⟨w.heap.size + 1 + 1, 0, none⟩ (.slice aog s.Globals.length cg)).setCell ⟨w.heap.size + 1 + 1, 1, none⟩ (.slice none 0 0)).setCell ⟨w.heap.size + 1 + 1, 2, none⟩ (.slice none 0 0)) :=
    ((hB1.setCell (by simp <;> omega) _).setCell (by simp <;> omega) _).setCell (by simp <;> omega) _
  have FG : Gz (((w1.setCell ⟨w.heap.size + 1 + 1, 0, none⟩ (.slice aog s.Globals.length cg)).setCell ⟨w.heap.size + 1 + 1, 1, none⟩ (.slice none 0 0)).setCell ⟨w.heap.size + 1 + 1, 2, none⟩ (.slice none 0 0)) (w.heap.size + 1 + 1 + 1) (.slice aog s.Globals.length cg) s.Globals := by
    refine C3 (BV hr1 (by simp)) fun k hk => ?_
    have hkb := (hr1.lt k hk).1
    simp at hkb
    rw [Below.heap_setCell _ _ _ _ (by simp <;> omega), Below.heap_setCell _ _ _ _ (by simp <;> omega), Below.heap_setCell _ _ _ _ (by simp <;> omega)]
  have FZ : w.heap.size + 1 + 1 + 1 ≤ (((w1.setCell ⟨w.heap.size + 1 + 1, 0, none⟩ (.slice aog s.Globals.length cg)).setCell ⟨w.heap.size + 1 + 1, 1, none⟩ (.slice none 0 0)).setCell ⟨w.heap.size + 1 + 1, 2, none⟩ (.slice none 0 0)).heap.size := by simpa using hz1
  clear hr1 hb1 a0 a1 a2 hB1 hz1
  generalize (((w1.setCell ⟨w.heap.size + 1 + 1, 0, none⟩ (.slice aog s.Globals.length cg)).setCell ⟨w.heap.size + 1 + 1, 1, none⟩ (.slice none 0 0)).setCell ⟨w.heap.size + 1 + 1, 2, none⟩ (.slice none 0 0)) = wl at *
  go_loopw [21] (fun i wr => ∃ k : Nat, k ≤ s.Chans.length ∧ i = .int .i64 k ∧ ∃ ov qs, wr.heap[w.heap.size + 1 + 1]? = some (.cells #[.slice aog s.Globals.length cg, ov, .slice none 0 0, .int .i64 s.Last, .int .i64 s.Alone, .int .i64 s.Claim] BG (0, 0)) ∧ EG wr wl.heap.size ov qs (s.Chans.take k) ∧ BU wl wr (fun b => b = w.heap.size + 1 + 1)) (fun i _ => s.Chans.length - (intOf i).toNat)
  case atStart => exact ⟨0, Nat.zero_le _, rfl, .slice none 0 0, [], F2, EG.nil _ _, BU.refl _ _⟩
  case round =>
    obtain ⟨k, hk, rfl, ov, qs, hB, hC, hT⟩ := hrel
    generalize wr = wo at *
    by_cases hlt : k < s.Chans.length
    · obtain ⟨b, off, rfl, hbl, hrow⟩ := hc3 (by omega)
      obtain ⟨u, hu0, hu1, hq⟩ := hrow k hlt
      have hWr : Below w.heap.size w wo := FB.trans (hT.below FB.size (fun j hj => by subst hj; omega))
      rw [← hWr.cell (p := ⟨b, off + k * 2, none⟩) hbl] at hu0
      rw [← hWr.cell (p := ⟨b, off + k * 2 + 1, none⟩) hbl] at hu1
      obtain ⟨aq, capq, rfl, hq1, hq2, hq3⟩ := hq
      have HQ : Hid (s.Chans[k]? = some (s.Chans.getD k default)) := by unfold Hid; simp [List.getD, hlt]
      have hfit := hs.q (s.Chans.getD k default) (AF hlt)
      clear hrow
      generalize s.Chans.getD k default = ch at *
      have hfq := hfit.1
      have hfm := Lib.hid hfit.2
      clear hfit
      unfold maxLen at hq2
      go_wp2
      have hfb : wl.heap.size ≤ wo.heap.size := hT.size
      have G0 : (wo.alloc (.cells #[.int .i64 ch.Shape, .slice aq ch.Queue.length capq] Dg)).heap[wo.heap.size]? = some (.cells #[.int .i64 ch.Shape, .slice aq ch.Queue.length capq] Dg (0, 0)) := heap_alloc_new wo _
      have G1 : Below wo.heap.size wo (wo.alloc (.cells #[.int .i64 ch.Shape, .slice aq ch.Queue.length capq] Dg)) := (Below.refl _ wo).alloc (Nat.le_refl _) _
      have G2 : (wo.alloc (.cells #[.int .i64 ch.Shape, .slice aq ch.Queue.length capq] Dg)).heap.size = wo.heap.size + 1 := by simp
      generalize wo.alloc (.cells #[.int .i64 ch.Shape, .slice aq ch.Queue.length capq] Dg) = wb at *
      have HL := Lib.hid hlt
      go_loopw [6, 28] (fun qv i wr => ∃ (q0 : Value) (j : Nat) (vs : List Value), q0 = qv ∧ j ≤ ch.Queue.length ∧ i = .int .i64 j ∧ Ga wr (wo.heap.size + 1) q0 vs (ch.Queue.take j) ∧ Below (wo.heap.size + 1) wb wr) (fun _ i _ => ch.Queue.length - (intOf i).toNat)
      case atStart => exact ⟨_, 0, [], rfl, Nat.zero_le _, rfl, Ga.nil _ _, Below.refl _ _⟩
      case round =>
        obtain ⟨qv, j, vs, rfl, hj, rfl, hQ, hBq⟩ := hrel
        have hsz := hBq.size
        by_cases hjl : j < ch.Queue.length
        · obtain ⟨bq, offq, rfl, hbq, hrowq⟩ := hq3 (by omega)
          obtain ⟨x, hx0, hx⟩ := hrowq j hjl
          have hWq : Below w.heap.size w wr := (hWr.trans (G1.mono (by have := hWr.size; omega))).trans (hBq.mono (by have := hWr.size; omega))
          rw [← hWq.cell (p := ⟨bq, offq + j, none⟩) hbq] at hx0
          have hx' := hx.below hWq
          have HJ : Hid (ch.Queue[j]? = some (ch.Queue.getD j [])) := by unfold Hid; simp [List.getD, hjl]
          have hm8 := hfm.out (ch.Queue.getD j []) (AF hjl)
          clear hrowq hx
          generalize ch.Queue.getD j [] = m at *
          obtain ⟨ax, capx, rfl, hx1, hx2, hx3⟩ := id hx'
          have hQr := hQ.row
          have hkl : (ch.Queue.take j).length = j := by simp; omega
          rw [hkl] at hQr
          go_wp2_with (first | (go_at_call 35; refine (AaR hx' hm8).mono ?_; rintro e w2 ⟨v', rfl, hm2, hb2⟩; obtain ⟨ao', cap', rfl, _⟩ := CH hm2) | (at_builtin; refine wpList_append_own _ rfl _ _ 78 rfl (wo.heap.size + 1) Fc ki (.slice none 0 0) 1 24 Tryz.underlying78 khi khz0 khz1 khz2 rfl (by decide) qv j vs rfl ?qrow ⟨w2.heap.size, 0, none⟩ 1 1 [.slice ao' m.length cap'] rfl ?qc1 ?qc2 ?qc3 ?qc4 ?qc5 ?qc6 ?_))
          case qrow => exact BS (BS (ts := [Fc]) hQr (B4.below hb2) (by simp)) (B4.alloc (ts := [Fc]) _) (by simp)
          case qc1 => rfl
          case qc2 => exact World.news_of_block (heap_alloc_new w2 (.cells #[.slice ao' m.length cap'] Fc))
          case qc3 => intro u hu; simp at hu; subst hu; rfl
          case qc4 => unfold maxLen; omega
          case qc5 => omega
          case qc6 => have := hb2.size; simp; omega
          intro v2 w3 hown3 hgrow3 _
          have hz2 := hb2.size
          have HO : Hid (Ga w3 (wo.heap.size + 1) v2 (vs ++ [.slice ao' m.length cap']) (ch.Queue.take (j + 1))) := by
            unfold Hid
            rw [JL HJ.out]
            refine Ga.more ((hQ.kept (ts := [Fc, Di]) (B4.below hb2) (by simp) (by simp)).kept (ts := [Fc, Di]) (B4.alloc _) (by simp) (by simp)) (BS (ts := [Di]) (BV hm2 (by omega)) (B4.alloc _) (by simp)) (by rw [hkl]; exact hown3) hgrow3
          have HB : Hid (Below (wo.heap.size + 1) wb w3) := ((hBq.trans (hb2.mono (by omega))).alloc (by omega) _).grown hgrow3 (by simp; omega) (fun k hk => (hQr.lt k hk).1)
          clear hown3 hgrow3 hm2 hb2 hQr hQ hBq
          go_wp2
          go_roundw
          case rel => exact ⟨v2, j + 1, _, rfl, by omega, by go_num, HO.out, HB.out⟩
          case measure => simp [intOf]; omega
        · obtain rfl : j = ch.Queue.length := by omega
          rw [List.take_length] at hQ
          have hblkc : wr.heap[wo.heap.size]? = some (.cells #[.int .i64 ch.Shape, .slice aq ch.Queue.length capq] Dg (0, 0)) := (hBq.block _ (by omega)).trans G0
          have hBo : w.heap.size + 1 + 1 < wo.heap.size := by omega
          have hblkB : wr.heap[w.heap.size + 1 + 1]? = some (.cells #[.slice aog s.Globals.length cg, ov, .slice none 0 0, .int .i64 s.Last, .int .i64 s.Alone, .int .i64 s.Claim] BG (0, 0)) := ((hBq.block _ (by omega)).trans (G1.block _ hBo)).trans hB
          have x0 : wr.cell? ⟨wo.heap.size, 0, none⟩ = some (.int .i64 ch.Shape) := AG hblkc rfl
          have x1 : wr.cell? ⟨w.heap.size + 1 + 1, 1, none⟩ = some ov := AG hblkB rfl
          have hCr : EG wr wl.heap.size ov qs (s.Chans.take k) := hC.kept (ts := [Dg, Fc, Di]) (B4.of fun b _ hb => (hBq.block b (by omega)).trans (G1.block b hb)) (by simp) (by simp) (by simp)
          have hkl : (s.Chans.take k).length = k := by simp; omega
          have hCrow := hCr.row
          rw [hkl] at hCrow
          obtain ⟨aqq, cqq, rfl, _⟩ := CH hQ.row
          clear hC
          go_wp2_with (at_builtin; refine wpList_append_own _ rfl _ _ 30 rfl wl.heap.size Dg kc (.agg #[.int .i64 0, .slice none 0 0]) 2 32 Tryz.underlying30 khc kcz0 kcz1 kcz2 rfl (by decide) ov k (D1 (s.Chans.take k) qs) rfl ?qrow ⟨wr.heap.size, 0, none⟩ 1 1 [.int .i64 ch.Shape, .slice aqq ch.Queue.length cqq] rfl ?qc1 ?qc2 ?qc3 ?qc4 ?qc5 ?qc6 ?_)
          case qrow => exact BS hCrow (B4.alloc (ts := [Dg]) _) (by simp)
          case qc1 => rfl
          case qc2 => exact World.news_of_block (heap_alloc_new wr (.cells #[.int .i64 ch.Shape, .slice aqq ch.Queue.length cqq] Dg))
          case qc3 => intro u hu; simp at hu; rcases hu with rfl | rfl <;> rfl
          case qc4 => have := hs.c; unfold maxLen; omega
          case qc5 => have := hs.c; omega
          case qc6 => simp; omega
          intro v2 w3 hown3 hgrow3 _
          have hblk3 : w3.heap[w.heap.size + 1 + 1]? = some (.cells #[.slice aog s.Globals.length cg, ov, .slice none 0 0, .int .i64 s.Last, .int .i64 s.Alone, .int .i64 s.Claim] BG (0, 0)) := by
            rw [hgrow3.block _ (by simp <;> omega) (fun e => by obtain ⟨cur, hcur⟩ := C1 hCrow e.symm; exact Mn hcur hblkB (by decide) rfl), Below.heap_alloc _ _ _ (C4 hblkB)]; exact hblkB
          have e0 : w3.cell? ⟨w.heap.size + 1 + 1, 1, none⟩ = some ov := AG hblk3 rfl
          have e1 : w3.frozen? ⟨w.heap.size + 1 + 1, 1, none⟩ = false := BC hblk3
          have HC : Hid (EG (w3.setCell ⟨w.heap.size + 1 + 1, 1, none⟩ v2) wl.heap.size v2 (qs ++ [.slice aqq ch.Queue.length cqq]) (s.Chans.take (k + 1))) := by
            unfold Hid
            rw [JL HQ.out]
            exact EG.kept (ts := [Dg, Fc, Di]) (EG.more (hCr.kept (ts := [Dg, Fc, Di]) (B4.alloc _) (by simp) (by simp) (by simp)) ((hQ.base (by omega)).kept (ts := [Fc, Di]) (B4.alloc _) (by simp) (by simp)) (by rw [hkl]; exact hown3) hgrow3) (B4.set hblk3 (by decide)) (by simp) (by simp) (by simp)
          have HK : Hid ((w3.setCell ⟨w.heap.size + 1 + 1, 1, none⟩ v2).heap[w.heap.size + 1 + 1]? = some (.cells #[.slice aog s.Globals.length cg, v2, .slice none 0 0, .int .i64 s.Last, .int .i64 s.Alone, .int .i64 s.Claim] BG (0, 0))) := by
            unfold Hid; rw [DD hblk3]; rfl
          have HT : Hid (BU wl (w3.setCell ⟨w.heap.size + 1 + 1, 1, none⟩ v2) (fun b => b = w.heap.size + 1 + 1)) :=
            ((((hT.trans (BU.of_below (F := fun _ => False) G1) (fun _ h => h.elim)).trans (BU.of_below (F := fun _ => False) (G2 ▸ hBq)) (fun _ h => h.elim)).alloc _).grown hgrow3 (fun k hk => .inr (hCrow.lt k hk).1)).setCell (.inl rfl) _
          obtain ⟨ao3, cap3, rfl, _⟩ := CH hown3
          clear hown3 hgrow3 hCrow hCr hblkB hblkc hQ hBq G0 G1 hblk3 x0 x1 hq3
          go_wp2
          go_roundw
          case rel => exact ⟨k + 1, HL.out, by go_num, _, _, HK.out, HC.out, HT.out⟩
          case measure => have := HL.out; simp [intOf]; omega
    · obtain rfl : k = s.Chans.length := by omega
      rw [List.take_length] at hC
      have hfb : wl.heap.size ≤ wo.heap.size := hT.size
      have hWo : Below w.heap.size w wo := FB.trans (hT.below FB.size (fun j hj => by subst hj; omega))
      have f0 : wo.heap[w.heap.size]? = _ := (hT.block _ (by omega) (fun e => absurd (show w.heap.size = w.heap.size + 1 + 1 from e) (by omega))).trans F0
      have f1 : wo.heap[w.heap.size + 1]? = _ := (hT.block _ (by omega) (fun e => absurd (show w.heap.size + 1 = w.heap.size + 1 + 1 from e) (by omega))).trans F1
      have s0 : wo.cell? ⟨w.heap.size, 2, none⟩ = some (.slice ap s.Procs.length capp) := AG f0 rfl
      have HG : Hid (Gz wo (w.heap.size + 1 + 1 + 1) (.slice aog s.Globals.length cg) s.Globals) := C3 FG fun b hb => hT.block b (FG.lt b hb).2 (fun e => by have := (FG.lt b hb).1; omega)
      have HG1 : Hid (∀ b, (Value.slice aog s.Globals.length cg).ownBlock = some b → b < wl.heap.size) := fun b hb => (FG.lt b hb).2
      clear FG F0 F1 F2 hg3 hc3
      go_wp2
      go_loopw [51] (fun i wr => ∃ k : Nat, k ≤ s.Procs.length ∧ i = .int .i64 k ∧ ∃ pv fs, wr.heap[w.heap.size + 1 + 1]? = some (.cells #[.slice aog s.Globals.length cg, ov, pv, .int .i64 s.Last, .int .i64 s.Alone, .int .i64 s.Claim] BG (0, 0)) ∧ DL wr wo.heap.size pv fs (s.Procs.take k) ∧ BU wo wr (fun b => b = w.heap.size + 1 + 1)) (fun i _ => s.Procs.length - (intOf i).toNat)
      case atStart => exact ⟨0, Nat.zero_le _, rfl, .slice none 0 0, [], hB, DL.nil _ _, BU.refl _ _⟩
      case round =>
        obtain ⟨k, hk, rfl, pv, fs, hB2, hP, hT2⟩ := hrel
        have hsz2 := hT2.size
        by_cases hlt : k < s.Procs.length
        · obtain ⟨b, off, rfl, hbl, hrow⟩ := hp3 (by omega)
          obtain ⟨u, hu0, hu1, hu2, hu3, hq⟩ := hrow k hlt
          have hWr : Below w.heap.size w wr := hWo.trans (hT2.below hWo.size (fun j hj => by subst hj; omega))
          rw [← hWr.cell (p := ⟨b, off + k * 4, none⟩) hbl] at hu0
          rw [← hWr.cell (p := ⟨b, off + k * 4 + 1, none⟩) hbl] at hu1
          rw [← hWr.cell (p := ⟨b, off + k * 4 + 2, none⟩) hbl] at hu2
          rw [← hWr.cell (p := ⟨b, off + k * 4 + 3, none⟩) hbl] at hu3
          have hx' := hq.below hWr
          have HQ : Hid (s.Procs[k]? = some (s.Procs.getD k default)) := by unfold Hid; simp [List.getD, hlt]
          have hm8 := hs.f (s.Procs.getD k default) (AF hlt)
          clear hrow hq
          generalize s.Procs.getD k default = ch at *
          obtain ⟨aq, capq, rfl, hq1, hq2, hq3⟩ := id hx'
          clear hq3
          unfold maxLen at hq2
          have hPr := hP.row
          have hkl : (s.Procs.take k).length = k := by simp; omega
          rw [hkl] at hPr
          have HL := Lib.hid hlt
          go_wp2_with (first | (go_at_call 34; refine (UZ (hx'.alloc _) hm8).mono ?_; rintro e w2 ⟨v', rfl, hm2, hb2⟩; obtain ⟨ao', cap', rfl, _⟩ := CH hm2; obtain ⟨cc2, cf2⟩ := Zy hb2; have hblkB2 := (hb2.block _ (Nat.lt_of_lt_of_le (C4 hB2) (by simp))).trans ((Below.heap_alloc _ _ _ (C4 hB2)).trans hB2); have y2 : w2.cell? ⟨w.heap.size + 1 + 1, 2, none⟩ = some pv := AG hblkB2 rfl) | (at_builtin; refine wpList_append_own _ rfl _ _ 31 rfl wo.heap.size Dw kp (.agg #[.int .i64 0, .int .i64 0, .int .i64 0, .slice none 0 0]) 4 48 Tryz.underlying31 khp kpz0 kpz1 kpz2 rfl (by decide) pv k (CU (s.Procs.take k) fs) rfl ?qrow ⟨w2.heap.size, 0, none⟩ 1 1 [.int .i64 ch.Type_, .int .i64 ch.Loc, .int .i64 ch.Prio, .slice ao' ch.Frame.length cap'] rfl ?qc1 ?qc2 ?qc3 ?qc4 ?qc5 ?qc6 ?_))
          case qrow =>
            have K : B4 wr (w2.setCell ⟨wr.heap.size, 3, none⟩ (.slice ao' ch.Frame.length cap')) wo.heap.size [Dw] := B4.of fun b _ hb => (Below.heap_setCell _ _ _ _ (by simp; omega)).trans ((hb2.block b (by simp; omega)).trans (Below.heap_alloc _ _ _ hb))
            exact BS (BS hPr K (by simp)) (B4.alloc (ts := [Dw]) _) (by simp)
          case qc1 => rfl
          case qc2 =>
            have := World.news_of_block (heap_alloc_new (w2.setCell ⟨wr.heap.size, 3, none⟩ (.slice ao' ch.Frame.length cap')) (.cells #[.int .i64 ch.Type_, .int .i64 ch.Loc, .int .i64 ch.Prio, .slice ao' ch.Frame.length cap'] Dw))
            simpa using this
          case qc3 => intro u hu; simp at hu; rcases hu with rfl | rfl | rfl | rfl <;> rfl
          case qc4 => have := hs.p; unfold maxLen; omega
          case qc5 => have := hs.p; omega
          case qc6 => have := hb2.size; simp at this; simp; omega
          intro v2 w3 hown3 hgrow3 _
          have hz2 := hb2.size
          simp at hz2
          have hblkz : (w2.setCell ⟨wr.heap.size, 3, none⟩ (.slice ao' ch.Frame.length cap')).heap[w.heap.size + 1 + 1]? = some (.cells #[.slice aog s.Globals.length cg, ov, pv, .int .i64 s.Last, .int .i64 s.Alone, .int .i64 s.Claim] BG (0, 0)) :=
            (Below.heap_setCell _ _ _ _ (by simp; omega)).trans hblkB2
          have hblk3 : w3.heap[w.heap.size + 1 + 1]? = some (.cells #[.slice aog s.Globals.length cg, ov, pv, .int .i64 s.Last, .int .i64 s.Alone, .int .i64 s.Claim] BG (0, 0)) := by
            rw [hgrow3.block _ (by simp; omega) (fun e => by obtain ⟨cur, hcur⟩ := C1 hPr e.symm; exact Mn hcur hB2 (by decide) rfl), Below.heap_alloc _ _ _ (C4 hblkz)]; exact hblkz
          have e0 : w3.cell? ⟨w.heap.size + 1 + 1, 2, none⟩ = some pv := AG hblk3 rfl
          have e1 : w3.frozen? ⟨w.heap.size + 1 + 1, 2, none⟩ = false := BC hblk3
          have hPz : DL ((w2.setCell ⟨wr.heap.size, 3, none⟩ (.slice ao' ch.Frame.length cap')).alloc (.cells #[.int .i64 ch.Type_, .int .i64 ch.Loc, .int .i64 ch.Prio, .slice ao' ch.Frame.length cap'] Dw)) wo.heap.size pv fs (s.Procs.take k) := by
            have K : B4 wr (w2.setCell ⟨wr.heap.size, 3, none⟩ (.slice ao' ch.Frame.length cap')) wo.heap.size [Dw, Di] := B4.of fun b _ hb => (Below.heap_setCell _ _ _ _ (by simp; omega)).trans ((hb2.block b (by simp; omega)).trans (Below.heap_alloc _ _ _ hb))
            exact (hP.kept K (by simp) (by simp)).kept (ts := [Dw, Di]) (B4.alloc _) (by simp) (by simp)
          have hFz : Gz ((w2.setCell ⟨wr.heap.size, 3, none⟩ (.slice ao' ch.Frame.length cap')).alloc (.cells #[.int .i64 ch.Type_, .int .i64 ch.Loc, .int .i64 ch.Prio, .slice ao' ch.Frame.length cap'] Dw)) (wr.heap.size + 1) (.slice ao' ch.Frame.length cap') ch.Frame :=
            BS (ts := [Di]) (BS (ts := [Di]) (BV hm2 (by simp)) (B4.low (by simp)) (by simp)) (B4.alloc _) (by simp)
          have HP : Hid (DL (w3.setCell ⟨w.heap.size + 1 + 1, 2, none⟩ v2) wo.heap.size v2 (fs ++ [.slice ao' ch.Frame.length cap']) (s.Procs.take (k + 1))) := by
            unfold Hid
            rw [JL HQ.out]
            refine DL.kept (ts := [Dw, Di]) (DL.more hPz (BV hFz (by omega)) (fun i x b hx hb e => ?_) (by rw [hkl]; exact hown3) hgrow3) (B4.set hblk3 (by decide)) (by simp) (by simp)
            have hi : i < fs.length := (List.getElem?_eq_some_iff.1 hx).1
            rw [hP.len] at hi
            have h1 := ((hP.each i x _ hx (List.getElem?_eq_getElem hi)).lt b hb).2
            have h2 := (hFz.lt b e).1
            omega
          have HK : Hid ((w3.setCell ⟨w.heap.size + 1 + 1, 2, none⟩ v2).heap[w.heap.size + 1 + 1]? = some (.cells #[.slice aog s.Globals.length cg, ov, v2, .int .i64 s.Last, .int .i64 s.Alone, .int .i64 s.Claim] BG (0, 0))) := by
            unfold Hid; rw [DD hblk3]; rfl
          have HT : Hid (BU wo (w3.setCell ⟨w.heap.size + 1 + 1, 2, none⟩ v2) (fun b => b = w.heap.size + 1 + 1)) :=
            ((((((hT2.alloc _).trans (BU.of_below (F := fun _ => False) hb2) (fun _ h => h.elim)).setCell (.inr hsz2) _).alloc _).grown hgrow3 (fun k hk => .inr (hPr.lt k hk).1)).setCell (.inl rfl) _)
          obtain ⟨ao3, cap3, rfl, _⟩ := CH hown3
          clear hown3 hgrow3 hPr hP hPz hFz hblkz hblkB2 hB2 hm2 hb2 cc2 cf2 hblk3 hT2 hx' y2
          go_wp2
          go_roundw
          case rel => exact ⟨k + 1, HL.out, by go_num, _, _, HK.out, HP.out, HT.out⟩
          case measure => have := HL.out; simp [intOf]; omega
        · obtain rfl : k = s.Procs.length := by omega
          rw [List.take_length] at hP
          have b1 : wr.heap[w.heap.size + 1]? = _ := (hT2.block _ (by omega) (fun e => absurd (show w.heap.size + 1 = w.heap.size + 1 + 1 from e) (by omega))).trans f1
          have c0 : wr.cell? ⟨w.heap.size + 1 + 1, 0, none⟩ = _ := AG hB2 rfl
          have c1 : wr.cell? ⟨w.heap.size + 1 + 1, 1, none⟩ = _ := AG hB2 rfl
          have c2 : wr.cell? ⟨w.heap.size + 1 + 1, 2, none⟩ = _ := AG hB2 rfl
          have c3 : wr.cell? ⟨w.heap.size + 1 + 1, 3, none⟩ = _ := AG hB2 rfl
          have c4 : wr.cell? ⟨w.heap.size + 1 + 1, 4, none⟩ = _ := AG hB2 rfl
          have c5 : wr.cell? ⟨w.heap.size + 1 + 1, 5, none⟩ = _ := AG hB2 rfl
          have d0 : wr.cell? ⟨w.heap.size + 1, 0, none⟩ = _ := AG b1 rfl
          have d1 : wr.cell? ⟨w.heap.size + 1, 1, none⟩ = _ := AG b1 rfl
          have d2 : wr.cell? ⟨w.heap.size + 1, 2, none⟩ = _ := AG b1 rfl
          have d3 : wr.cell? ⟨w.heap.size + 1, 3, none⟩ = _ := AG b1 rfl
          have d4 : wr.cell? ⟨w.heap.size + 1, 4, none⟩ = _ := AG b1 rfl
          have d5 : wr.cell? ⟨w.heap.size + 1, 5, none⟩ = _ := AG b1 rfl
          have g0 : wr.frozen? ⟨w.heap.size + 1, 0, none⟩ = _ := BC b1
          have g1 : wr.frozen? ⟨w.heap.size + 1, 1, none⟩ = _ := BC b1
          have g2 : wr.frozen? ⟨w.heap.size + 1, 2, none⟩ = _ := BC b1
          have g3 : wr.frozen? ⟨w.heap.size + 1, 3, none⟩ = _ := BC b1
          have g4 : wr.frozen? ⟨w.heap.size + 1, 4, none⟩ = _ := BC b1
          have g5 : wr.frozen? ⟨w.heap.size + 1, 5, none⟩ = _ := BC b1
          obtain ⟨aov, cov, rfl, _⟩ := CH hC.row
          obtain ⟨apv, cpv, rfl, _⟩ := CH hP.row
          go_wp2
          have hres := JC b1 (.slice aog s.Globals.length cg) (.slice aov s.Chans.length cov) (.slice apv s.Procs.length cpv) (.int .i64 s.Last) (.int .i64 s.Alone) (.int .i64 s.Claim)
          have hT3 := FR (w := wr) (b := w.heap.size + 1) (.slice aog s.Globals.length cg) (.slice aov s.Chans.length cov) (.slice apv s.Procs.length cpv) (.int .i64 s.Last) (.int .i64 s.Alone) (.int .i64 s.Claim)
          have hz3 := Yg (w := wr) (b := w.heap.size + 1) (.slice aog s.Globals.length cg) (.slice aov s.Chans.length cov) (.slice apv s.Procs.length cpv) (.int .i64 s.Last) (.int .i64 s.Alone) (.int .i64 s.Claim)
          refine Wr rfl rfl hres Tryz.underlying33 rfl (by kernel_rfl) rfl ?_
          generalize ((((((wr.setCell ⟨w.heap.size + 1, 0, none⟩ (.slice aog s.Globals.length cg)).setCell ⟨w.heap.size + 1, 1, none⟩ (.slice aov s.Chans.length cov)).setCell ⟨w.heap.size + 1, 2, none⟩ (.slice apv s.Procs.length cpv)).setCell ⟨w.heap.size + 1, 3, none⟩ (.int .i64 s.Last)).setCell ⟨w.heap.size + 1, 4, none⟩ (.int .i64 s.Alone)).setCell ⟨w.heap.size + 1, 5, none⟩ (.int .i64 s.Claim)) = wz at *
          have hWr : Below w.heap.size w wr := hWo.trans (hT2.below hWo.size (fun j hj => by subst hj; omega))
          have hGr : Gz wr (w.heap.size + 1 + 1 + 1) (.slice aog s.Globals.length cg) s.Globals := C3 HG.out fun b hb => hT2.block b (HG.out.lt b hb).2 (fun e => by have := (HG.out.lt b hb).1; omega)
          refine ⟨_, _, _, wl.heap.size, qs, fs, wo, rfl, ⟨?_, HG1.out, FB.size, hfb, hC, fun b h1 h2 => ?_, ?_, ?_⟩⟩
          · exact BV (C3 hGr fun b hb => hT3.block b (hGr.lt b hb).2 (fun e => by have := (hGr.lt b hb).1; omega)) (by omega)
          · exact (hT3.block b (by omega) (fun e => by have e : b = w.heap.size + 1 := e; omega)).trans (hT2.block b h2 (fun e => by have e : b = w.heap.size + 1 + 1 := e; omega))
          · exact hP.kept (ts := [Dw, Di]) (B4.of fun b h1 h2 => hT3.block b h2 (fun e => by have e : b = w.heap.size + 1 := e; omega)) (by simp) (by simp)
          · exact hWr.trans (hT3.below hWr.size (fun j hj => by have hj : j = w.heap.size + 1 := hj; omega))
end Go.Proofs.YtiaebjpcgjkhoaaGreatDoor
namespace Go.Proofs.YtiaebjpcgjkhoaaGreatDoor
open Go.RowKit
def Mt : Ann := { keep := fun
  | [0, 1, 0, 1, 1, 1, 1, 1, 1] => [0, 8, 10, 46, 47, 48]
  | _ => [] }
def JE : Ann := { keep := fun
  | [0, 1, 0, 1, 1, 1, 1, 1, 1] => [0, 3, 8, 9, 51, 52, 53]
  | _ => [] }
def Gy : Ann := { keep := fun
  | [0, 1, 0, 1] => [0, 9, 10, 11]
  | _ => [] }
def Kf : Ann := { keep := fun
  | [0, 1, 0, 1] => [0, 1, 7, 8]
  | _ => [] }
def Mv : Ann := { keep := fun
  | [0, 1, 0, 1] => [1, 2, 3, 12, 13, 14]
  | _ => [] }
def Mu : Ann := { keep := fun
  | [0, 1, 0, 1, 1] => [0, 1, 21, 22, 23]
  | _ => [] }
def CV : Ann := { cut := (fun | 1 :: 0 :: 1 :: 1 :: 0 :: 0 :: 0 :: 0 :: q => Nat.beq q.length 29 | 1 :: 0 :: 1 :: 1 :: 1 :: 0 :: 0 :: 0 :: 0 :: q => Nat.beq q.length 29 | _ => false), keep := fun
  | 1 :: 0 :: 1 :: 1 :: 0 :: 0 :: 0 :: 0 :: q => bif Nat.beq q.length 29 then [0, 6, 21, 26] else []
  | 1 :: 0 :: 1 :: 1 :: 1 :: 0 :: 0 :: 0 :: 0 :: q => bif Nat.beq q.length 29 then [0, 6, 21, 30] else []
  | _ => [] }
def Aar : List Nat := [1, 1, 0, 1, 0, 0, 0, 0, 0, 0, 0, 0, 0, 0, 0, 0, 0, 0, 0, 0, 0, 0, 0, 0, 0, 0, 0, 0, 0, 0, 0, 0, 0, 1, 1, 0, 1]
def WJ : List Nat := [1, 1, 0, 1, 0, 0, 0, 0, 0, 0, 0, 0, 0, 0, 0, 0, 0, 0, 0, 0, 0, 0, 0, 0, 0, 0, 0, 0, 0, 0, 0, 0, 0, 1, 1, 1, 0, 1]
def Yd (e : D.Env) (x : D.Expr) (i : Nat) (b : Bool) : St := Ao [(0, .tp (Af e)), (6, .bp 0 0), (21, Ad x.Op), (i, Ai b)] [.box (Au x)]
def Sf (e : D.Env) (ds : List D.Dim) (who at' k : Int) : St := Ao [(0, .tp (Af e)), (8, Ad who), (10, Ad at'), (46, Bw true ds), (47, Ad ds.length), (48, Ad k)] []
def Ya (e : D.Env) (x : D.Expr) (c : D.Chan) (l : List Int) (k : Int) : St := Ao [(0, .tp (Af e)), (3, .bp 0 0), (8, .bp 1 0), (9, .ow 2 0 l.length), (51, Aa true x.Args), (52, Ad x.Args.length), (53, Ad k)] [.box (Au x), .box (Ar c), .arr true 0 l.length 1 (A7 l)]
def X9 (e : D.Env) (k : Int) : St := Ao [(0, .tp (Af e)), (9, A1 true e.S.Procs), (10, Ad e.S.Procs.length), (11, Ad k)] []
def Aa1 (l : List Int) (v k : Int) : St := Ao [(0, Aa true l), (1, Ad v), (7, Ad l.length), (8, Ad k)] []
def Yc (c : D.Chan) (l mt : List Int) (any : Bool) (k : Int) : St := Ao [(1, Aa false l), (2, Aa true mt), (3, Ai any), (12, BA true c.Queue), (13, Ad c.Queue.length), (14, Ad k)] []
def Yb (x l mt : List Int) (k : Int) : St := Ao [(0, Aa true x), (1, Aa false l), (21, Aa true mt), (22, Ad mt.length), (23, Ad k)] []
end Go.Proofs.YtiaebjpcgjkhoaaGreatDoor
namespace Go.Proofs.YtiaebjpcgjkhoaaGreatDoor
open Go.RowKit
set_option maxRecDepth 100000
theorem Rc (r : Int) (e : D.Env) (x : Int) : (Ag Tryz.prog tb CD Bd true Tryz.f51 [] (Ad r)).goal (St.init [] [.agg (Af e), Ad x]) =
    (∃ (y : Int), Ae Tryz.prog 25 [] [VV.agg (Ac e.M), VV.agg (Ax e.S)] [] (Ad y) ∧ ((y != (0 : Int)) = true → leO [] [] ∧ (Ad y).le (Ad r)) ∧ ((y != (0 : Int)) = false → ((bif bif bif decide (e.Pid < (-1 : Int)) then true else decide (e.Pid ≥ (↑e.S.Procs.length : Int)) then true else decide (x < (0 : Int)) then true else decide (x ≥ (↑e.M.Exprs.length : Int))) = true → leO [] [] ∧ (Ad (42 : Int)).le (Ad r)) ∧ ((bif bif bif decide (e.Pid < (-1 : Int)) then true else decide (e.Pid ≥ (↑e.S.Procs.length : Int)) then true else decide (x < (0 : Int)) then true else decide (x ≥ (↑e.M.Exprs.length : Int))) = false → leO [] [] ∧ (Ad (0 : Int)).le (Ad r)))) := by kernel_rfl
theorem Xk (v r : Int) (e : D.Env) (x : Int) : (Ag Tryz.prog tb CD Bd true Tryz.f39 [] (.tup [Ad v, Ad r])).goal (St.init [] [.agg (Af e), Ad x]) =
    (∃ (y : Int), Ae Tryz.prog 51 [] [VV.agg (Af e), Ad x] [] (Ad y) ∧ ((y != (0 : Int)) = true → leO [] [] ∧ (VV.tup [Ad (0 : Int), Ad y]).le (VV.tup [Ad v, Ad r])) ∧ ((y != (0 : Int)) = false → ∃ (y : Int × Int), Ae Tryz.prog 52 [] [VV.tp (Af e), Ad x] [] (VV.tup [Ad y.fst, Ad y.snd]) ∧ leO [] [] ∧ (VV.tup [Ad y.fst, Ad y.snd]).le (VV.tup [Ad v, Ad r]))) := by kernel_rfl
theorem Xl (v r : Int) (e : D.Env) (x : Int) : (Ag Tryz.prog tb CD Bd true Tryz.f92 [] (.tup [Ad v, Ad r])).goal (St.init [] [.agg (Af e), Ad x]) =
    (∃ (y : Int), Ae Tryz.prog 51 [] [VV.agg (Af e), Ad x] [] (Ad y) ∧ ((y != (0 : Int)) = true → leO [] [] ∧ (VV.tup [Ad (0 : Int), Ad y]).le (VV.tup [Ad v, Ad r])) ∧ ((y != (0 : Int)) = false → ∃ (y : Int × Int), Ae Tryz.prog 118 [] [VV.tp (Af e), Ad x] [] (VV.tup [Ad y.fst, Ad y.snd]) ∧ leO [] [] ∧ (VV.tup [Ad y.fst, Ad y.snd]).le (VV.tup [Ad v, Ad r]))) := by kernel_rfl
theorem VI (v r : Int) (c : Bool) : (Ag Tryz.prog tb CD Bd true Tryz.f84 [] (.tup [Ad v, Ad r])).goal (St.init [] [Ai c]) =
    ((c = true → leO [] [] ∧ (VV.tup [Ad (1 : Int), Ad (0 : Int)]).le (VV.tup [Ad v, Ad r])) ∧ (c = false → leO [] [] ∧ (VV.tup [Ad (0 : Int), Ad (0 : Int)]).le (VV.tup [Ad v, Ad r]))) := by kernel_rfl
theorem Tl (v r : Int) (e : D.Env) (x : D.Var) : (Ag Tryz.prog tb CD Bd true Tryz.f116 [] (.tup [Ad v, Ad r])).goal (St.init [] [.tp (Af e), .agg (A4 x)]) =
    (((x.Scope == 0) = true → ∃ (y : Int), Ae Tryz.prog 146 [] [VV.agg (A4 x)] [] (Ad y) ∧ (decide (y > (↑e.S.Globals.length : Int)) = true → leO [] [] ∧ (VV.tup [Ad (0 : Int), Ad (42 : Int)]).le (VV.tup [Ad v, Ad r])) ∧ (decide (y > (↑e.S.Globals.length : Int)) = false → leO [] [] ∧ (VV.tup [Ad (-1 : Int), Ad (0 : Int)]).le (VV.tup [Ad v, Ad r]))) ∧ ((x.Scope == 0) = false → ((x.Scope == 1) = true → ∃ (y : Int), ((true && decide (e.Pid < (0 : Int)) == false) = true → Ae Tryz.prog 146 [] [VV.agg (A4 x)] [] (Ad y)) ∧ ((true && decide (e.Pid < (0 : Int)) == false) = true → (0 : Int) ≤ e.Pid ∧ e.Pid < (↑e.S.Procs.length : Int)) ∧ ((bif decide (e.Pid < (0 : Int)) then true else decide (y > (↑(e.S.Procs.getD e.Pid.toNat default).Frame.length : Int))) = true → leO [] [] ∧ (VV.tup [Ad (0 : Int), Ad (42 : Int)]).le (VV.tup [Ad v, Ad r])) ∧ ((bif decide (e.Pid < (0 : Int)) then true else decide (y > (↑(e.S.Procs.getD e.Pid.toNat default).Frame.length : Int))) = false → leO [] [] ∧ (VV.tup [Ad e.Pid, Ad (0 : Int)]).le (VV.tup [Ad v, Ad r]))) ∧ ((x.Scope == 1) = false → ∃ (y : Int × Int), Ae Tryz.prog 52 [] [VV.tp (Af e), Ad x.Who] [] (VV.tup [Ad y.fst, Ad y.snd]) ∧ ((y.snd != (0 : Int)) = true → leO [] [] ∧ (VV.tup [Ad (0 : Int), Ad y.snd]).le (VV.tup [Ad v, Ad r])) ∧ ((y.snd != (0 : Int)) = false → ((true && (bif decide (y.fst < (0 : Int)) then true else decide (y.fst ≥ (↑e.S.Procs.length : Int))) == false) = true → (0 : Int) ≤ y.fst ∧ y.fst < (↑e.S.Procs.length : Int)) ∧ ((bif bif decide (y.fst < (0 : Int)) then true else decide (y.fst ≥ (↑e.S.Procs.length : Int)) then true else (e.S.Procs.getD y.fst.toNat default).Type_ != x.Type_) = true → leO [] [] ∧ (VV.tup [Ad (0 : Int), Ad (52 : Int)]).le (VV.tup [Ad v, Ad r])) ∧ ((bif bif decide (y.fst < (0 : Int)) then true else decide (y.fst ≥ (↑e.S.Procs.length : Int)) then true else (e.S.Procs.getD y.fst.toNat default).Type_ != x.Type_) = false → ∃ (y_1 : Int), Ae Tryz.prog 146 [] [VV.agg (A4 x)] [] (Ad y_1) ∧ ((0 : Int) ≤ y.fst ∧ y.fst < (↑e.S.Procs.length : Int)) ∧ (decide (y_1 > (↑(e.S.Procs.getD y.fst.toNat default).Frame.length : Int)) = true → leO [] [] ∧ (VV.tup [Ad (0 : Int), Ad (42 : Int)]).le (VV.tup [Ad v, Ad r])) ∧ (decide (y_1 > (↑(e.S.Procs.getD y.fst.toNat default).Frame.length : Int)) = false → leO [] [] ∧ (VV.tup [Ad y.fst, Ad (0 : Int)]).le (VV.tup [Ad v, Ad r]))))))) := by kernel_rfl
theorem Yf (p k r : Int) (e : D.Env) (x : Int) : (Ag Tryz.prog tb CD Mt true Tryz.f80 [] (.tup [Ad p, Ad k, Ad r])).goal (St.init [] [.tp (Af e), Ad x]) =
    (((0 : Int) ≤ x ∧ x < (↑e.M.Exprs.length : Int)) ∧ ((0 : Int) ≤ x ∧ x < (↑e.M.Exprs.length : Int)) ∧ (((e.M.Exprs.getD x.toNat default).Op != (2 : Int)) = true → leO [] [] ∧ (VV.tup [Ad (0 : Int), Ad (0 : Int), Ad (42 : Int)]).le (VV.tup [Ad p, Ad k, Ad r])) ∧ (((e.M.Exprs.getD x.toNat default).Op != (2 : Int)) = false → ∃ (y : Int × Int), Ae Tryz.prog 116 [] [VV.tp (Af e), VV.agg (A4 (e.M.Exprs.getD x.toNat default).V)] [] (VV.tup [Ad y.fst, Ad y.snd]) ∧ ((y.snd != (0 : Int)) = true → leO [] [] ∧ (VV.tup [Ad (0 : Int), Ad (0 : Int), Ad y.snd]).le (VV.tup [Ad p, Ad k, Ad r])) ∧ ((y.snd != (0 : Int)) = false → AH (Ag Tryz.prog tb CD Mt true Tryz.f80 [] (VV.tup [Ad p, Ad k, Ad r])) [1, 1, 1, 1, 1, 1, 0, 1, 0] (Ao [(0, VV.tp (Af e)), (8, Ad y.fst), (10, Ad (e.M.Exprs.getD x.toNat default).V.Slot), (46, Bw true (e.M.Exprs.getD x.toNat default).V.Dims), (47, Ad (↑(e.M.Exprs.getD x.toNat default).V.Dims.length : Int)), (48, Ad (0 : Int))] [])))) := by kernel_rfl
theorem Vm (v r : Int) (e : D.Env) (x : Int) : (Ag Tryz.prog tb CD Bd true Tryz.f118 [] (.tup [Ad v, Ad r])).goal (St.init [] [.tp (Af e), Ad x]) =
    (∃ (y : Int × Int), Ae Tryz.prog 52 [] [VV.tp (Af e), Ad x] [] (VV.tup [Ad y.fst, Ad y.snd]) ∧ ((y.snd != (0 : Int)) = true → leO [] [] ∧ (VV.tup [Ad (0 : Int), Ad y.snd]).le (VV.tup [Ad v, Ad r])) ∧ ((y.snd != (0 : Int)) = false → ((bif decide (y.fst < (1 : Int)) then true else decide (y.fst > (↑e.S.Chans.length : Int))) = true → leO [] [] ∧ (VV.tup [Ad (0 : Int), Ad (49 : Int)]).le (VV.tup [Ad v, Ad r])) ∧ ((bif decide (y.fst < (1 : Int)) then true else decide (y.fst > (↑e.S.Chans.length : Int))) = false → leO [] [] ∧ (VV.tup [Ad y.fst, Ad (0 : Int)]).le (VV.tup [Ad v, Ad r])))) := by kernel_rfl
theorem ZA (v r : Int) (e : D.Env) (x : D.Expr) : (Ag Tryz.prog tb CD Bd true Tryz.f82 [] (.tup [Ad v, Ad r])).goal (St.init [] [.tp (Af e), .agg (Au x)]) =
    (∃ (y : Int × Int), Ae Tryz.prog 118 [] [VV.tp (Af e), Ad x.A] [] (VV.tup [Ad y.fst, Ad y.snd]) ∧ ((y.snd != (0 : Int)) = true → leO [] [] ∧ (VV.tup [Ad (0 : Int), Ad y.snd]).le (VV.tup [Ad v, Ad r])) ∧ ((y.snd != (0 : Int)) = false → ((0 : Int) ≤ IntKind.i64.wrap (y.fst - (1 : Int)) ∧ IntKind.i64.wrap (y.fst - (1 : Int)) < (↑e.S.Chans.length : Int)) ∧ ((0 : Int) ≤ (e.S.Chans.getD (IntKind.i64.wrap (y.fst - (1 : Int))).toNat default).Shape ∧ (e.S.Chans.getD (IntKind.i64.wrap (y.fst - (1 : Int))).toNat default).Shape < (↑e.M.Shapes.length : Int)) ∧ ((x.Op == 25) = true → leO [] [] ∧ (VV.tup [Ad (↑(e.S.Chans.getD (IntKind.i64.wrap (y.fst - (1 : Int))).toNat default).Queue.length : Int), Ad (0 : Int)]).le (VV.tup [Ad v, Ad r])) ∧ ((x.Op == 25) = false → ((x.Op == 26) = true → ∃ (y_1 : Int × Int), Ae Tryz.prog 84 [] [Ai (decide ((↑(e.S.Chans.getD (IntKind.i64.wrap (y.fst - (1 : Int))).toNat default).Queue.length : Int) ≥ (e.M.Shapes.getD (e.S.Chans.getD (IntKind.i64.wrap (y.fst - (1 : Int))).toNat default).Shape.toNat default).Room))] [] (VV.tup [Ad y_1.fst, Ad y_1.snd]) ∧ leO [] [] ∧ (VV.tup [Ad y_1.fst, Ad y_1.snd]).le (VV.tup [Ad v, Ad r])) ∧ ((x.Op == 26) = false → ((x.Op == 28) = true → ∃ (y_1 : Int × Int), Ae Tryz.prog 84 [] [Ai (decide ((↑(e.S.Chans.getD (IntKind.i64.wrap (y.fst - (1 : Int))).toNat default).Queue.length : Int) < (e.M.Shapes.getD (e.S.Chans.getD (IntKind.i64.wrap (y.fst - (1 : Int))).toNat default).Shape.toNat default).Room))] [] (VV.tup [Ad y_1.fst, Ad y_1.snd]) ∧ leO [] [] ∧ (VV.tup [Ad y_1.fst, Ad y_1.snd]).le (VV.tup [Ad v, Ad r])) ∧ ((x.Op == 28) = false → ((x.Op == 27) = true → ∃ (y_1 : Int × Int), Ae Tryz.prog 84 [] [Ai ((↑(e.S.Chans.getD (IntKind.i64.wrap (y.fst - (1 : Int))).toNat default).Queue.length : Int) == 0)] [] (VV.tup [Ad y_1.fst, Ad y_1.snd]) ∧ leO [] [] ∧ (VV.tup [Ad y_1.fst, Ad y_1.snd]).le (VV.tup [Ad v, Ad r])) ∧ ((x.Op == 27) = false → ∃ (y_1 : Int × Int), Ae Tryz.prog 84 [] [Ai (decide ((↑(e.S.Chans.getD (IntKind.i64.wrap (y.fst - (1 : Int))).toNat default).Queue.length : Int) > (0 : Int)))] [] (VV.tup [Ad y_1.fst, Ad y_1.snd]) ∧ leO [] [] ∧ (VV.tup [Ad y_1.fst, Ad y_1.snd]).le (VV.tup [Ad v, Ad r]))))))) := by kernel_rfl
theorem YE (v r : Int) (e : D.Env) (x : D.Expr) : (Ag Tryz.prog tb CD JE true Tryz.f83 [] (.tup [Ad v, Ad r])).goal (St.init [] [.tp (Af e), .agg (Au x)]) =
    (∃ (y : Int × Int), Ae Tryz.prog 118 [] [VV.tp (Af e), Ad x.A] [] (VV.tup [Ad y.fst, Ad y.snd]) ∧ ((y.snd != (0 : Int)) = true → leO [] [] ∧ (VV.tup [Ad (0 : Int), Ad y.snd]).le (VV.tup [Ad v, Ad r])) ∧ ((y.snd != (0 : Int)) = false → ((0 : Int) ≤ IntKind.i64.wrap (y.fst - (1 : Int)) ∧ IntKind.i64.wrap (y.fst - (1 : Int)) < (↑e.S.Chans.length : Int)) ∧ ((0 : Int) ≤ (e.S.Chans.getD (IntKind.i64.wrap (y.fst - (1 : Int))).toNat default).Shape ∧ (e.S.Chans.getD (IntKind.i64.wrap (y.fst - (1 : Int))).toNat default).Shape < (↑e.M.Shapes.length : Int)) ∧ (((↑(e.M.Shapes.getD (e.S.Chans.getD (IntKind.i64.wrap (y.fst - (1 : Int))).toNat default).Shape.toNat default).Fields.length : Int) != (↑x.Args.length : Int)) = true → leO [] [] ∧ (VV.tup [Ad (0 : Int), Ad (49 : Int)]).le (VV.tup [Ad v, Ad r])) ∧ (((↑(e.M.Shapes.getD (e.S.Chans.getD (IntKind.i64.wrap (y.fst - (1 : Int))).toNat default).Shape.toNat default).Fields.length : Int) != (↑x.Args.length : Int)) = false → ((0 : Int) ≤ (↑x.Args.length : Int) ∧ (↑x.Args.length : Int) ≤ (↑x.Args.length : Int) ∧ (↑x.Args.length : Int) * (↑8 : Int) ≤ (140737488355328 : Int)) ∧ AH (Ag Tryz.prog tb CD JE true Tryz.f83 [] (VV.tup [Ad v, Ad r])) [1, 1, 1, 1, 1, 1, 0, 1, 0] (Ao [(0, VV.tp (Af e)), (3, VV.bp 0 0), (8, VV.bp 1 0), (9, VV.ow 2 0 (↑x.Args.length : Int).toNat), (51, Aa true x.Args), (52, Ad (↑x.Args.length : Int)), (53, Ad (0 : Int))] [Ob.box (Au x), Ob.box [Ad (e.S.Chans.getD (IntKind.i64.wrap (y.fst - (1 : Int))).toNat default).Shape, BA true (e.S.Chans.getD (IntKind.i64.wrap (y.fst - (1 : Int))).toNat default).Queue], Ob.arr true 0 (↑x.Args.length : Int).toNat 1 fun (_ : Nat) => ((Ag Tryz.prog tb CD JE true Tryz.f83 [] (VV.tup [Ad v, Ad r])).T (2 : TypeId)).zero])))) := by kernel_rfl
theorem SN (v r : Int) (e : D.Env) (x : D.Expr) : (Ag Tryz.prog tb CD Bd true Tryz.f86 [] (.tup [Ad v, Ad r])).goal (St.init [] [.tp (Af e), .agg (Au x)]) =
    (∃ (y : Int × Int), Ae Tryz.prog 52 [] [VV.tp (Af e), Ad x.A] [] (VV.tup [Ad y.fst, Ad y.snd]) ∧ ((y.snd != (0 : Int)) = true → leO [] [] ∧ (VV.tup [Ad (0 : Int), Ad y.snd]).le (VV.tup [Ad v, Ad r])) ∧ ((y.snd != (0 : Int)) = false → ((true && (bif decide (y.fst < (0 : Int)) then true else decide (y.fst ≥ (↑e.S.Procs.length : Int))) == false && (x.Op == 38) == true) = true → (0 : Int) ≤ y.fst ∧ y.fst < (↑e.S.Procs.length : Int)) ∧ ((bif bif decide (y.fst < (0 : Int)) then true else decide (y.fst ≥ (↑e.S.Procs.length : Int)) then true else bif x.Op == 38 then (e.S.Procs.getD y.fst.toNat default).Type_ != x.N else false) = true → leO [] [] ∧ (VV.tup [Ad (0 : Int), Ad (52 : Int)]).le (VV.tup [Ad v, Ad r])) ∧ ((bif bif decide (y.fst < (0 : Int)) then true else decide (y.fst ≥ (↑e.S.Procs.length : Int)) then true else bif x.Op == 38 then (e.S.Procs.getD y.fst.toNat default).Type_ != x.N else false) = false → ((x.Op == 37) = true → ((0 : Int) ≤ y.fst ∧ y.fst < (↑e.S.Procs.length : Int)) ∧ leO [] [] ∧ (VV.tup [Ad (e.S.Procs.getD y.fst.toNat default).Loc, Ad (0 : Int)]).le (VV.tup [Ad v, Ad r])) ∧ ((x.Op == 37) = false → ((0 : Int) ≤ y.fst ∧ y.fst < (↑e.S.Procs.length : Int)) ∧ ∃ (y_1 : Bool), Ae Tryz.prog 119 [] [Aa true x.Args, Ad (e.S.Procs.getD y.fst.toNat default).Loc] [] (Ai y_1) ∧ ∃ (y : Int × Int), Ae Tryz.prog 84 [] [Ai y_1] [] (VV.tup [Ad y.fst, Ad y.snd]) ∧ leO [] [] ∧ (VV.tup [Ad y.fst, Ad y.snd]).le (VV.tup [Ad v, Ad r]))))) := by kernel_rfl
theorem W0 (v r : Int) (e : D.Env) (x : D.Expr) : (Ag Tryz.prog tb CD Bd true Tryz.f81 [] (.tup [Ad v, Ad r])).goal (St.init [] [.tp (Af e), .agg (Au x)]) =
    (∃ (y : Int × Int), Ae Tryz.prog 52 [] [VV.tp (Af e), Ad x.A] [] (VV.tup [Ad y.fst, Ad y.snd]) ∧ ((y.snd != (0 : Int)) = true → leO [] [] ∧ (VV.tup [Ad (0 : Int), Ad y.snd]).le (VV.tup [Ad v, Ad r])) ∧ ((y.snd != (0 : Int)) = false → ((bif x.Op == 24 then y.fst != (0 : Int) else false) = true → ∃ (y : Int × Int), Ae Tryz.prog 117 [] [Ad x.B, VV.tp [VV.tp (Af e)]] [] (VV.tup [Ad y.fst, Ad y.snd]) ∧ leO [] [] ∧ (VV.tup [Ad y.fst, Ad y.snd]).le (VV.tup [Ad v, Ad r])) ∧ ((bif x.Op == 24 then y.fst != (0 : Int) else false) = false → ((x.Op == 24) = true → ∃ (y : Int × Int), Ae Tryz.prog 117 [] [Ad x.C, VV.tp [VV.tp (Af e)]] [] (VV.tup [Ad y.fst, Ad y.snd]) ∧ leO [] [] ∧ (VV.tup [Ad y.fst, Ad y.snd]).le (VV.tup [Ad v, Ad r])) ∧ ((x.Op == 24) = false → ((bif bif x.Op == 22 then y.fst == 0 else false then true else bif x.Op == 23 then y.fst != (0 : Int) else false) = true → ∃ (y_1 : Int × Int), Ae Tryz.prog 84 [] [Ai (y.fst != (0 : Int))] [] (VV.tup [Ad y_1.fst, Ad y_1.snd]) ∧ leO [] [] ∧ (VV.tup [Ad y_1.fst, Ad y_1.snd]).le (VV.tup [Ad v, Ad r])) ∧ ((bif bif x.Op == 22 then y.fst == 0 else false then true else bif x.Op == 23 then y.fst != (0 : Int) else false) = false → ∃ (y : Int × Int), Ae Tryz.prog 117 [] [Ad x.B, VV.tp [VV.tp (Af e)]] [] (VV.tup [Ad y.fst, Ad y.snd]) ∧ ((y.snd != (0 : Int)) = true → leO [] [] ∧ (VV.tup [Ad (0 : Int), Ad y.snd]).le (VV.tup [Ad v, Ad r])) ∧ ((y.snd != (0 : Int)) = false → ∃ (y_1 : Int × Int), Ae Tryz.prog 84 [] [Ai (y.fst != (0 : Int))] [] (VV.tup [Ad y_1.fst, Ad y_1.snd]) ∧ leO [] [] ∧ (VV.tup [Ad y_1.fst, Ad y_1.snd]).le (VV.tup [Ad v, Ad r]))))))) := by kernel_rfl
theorem X2 (v r : Int) (e : D.Env) (x : D.Expr) : (Ag Tryz.prog tb CD Bd true Tryz.f87 [] (.tup [Ad v, Ad r])).goal (St.init [] [.tp (Af e), .agg (Au x)]) =
    (∃ (y : Int × Int), Ae Tryz.prog 52 [] [VV.tp (Af e), Ad x.A] [] (VV.tup [Ad y.fst, Ad y.snd]) ∧ ((y.snd != (0 : Int)) = true → leO [] [] ∧ (VV.tup [Ad (0 : Int), Ad y.snd]).le (VV.tup [Ad v, Ad r])) ∧ ((y.snd != (0 : Int)) = false → ((bif bif x.Op == 3 then true else x.Op == 4 then true else x.Op == 5) = true → ∃ (y_1 : Int × Int), Ae Tryz.prog 120 [] [Ad x.Op, Ad y.fst] [] (VV.tup [Ad y_1.fst, Ad y_1.snd]) ∧ leO [] [] ∧ (VV.tup [Ad y_1.fst, Ad y_1.snd]).le (VV.tup [Ad v, Ad r])) ∧ ((bif bif x.Op == 3 then true else x.Op == 4 then true else x.Op == 5) = false → ∃ (y_1 : Int × Int), Ae Tryz.prog 52 [] [VV.tp (Af e), Ad x.B] [] (VV.tup [Ad y_1.fst, Ad y_1.snd]) ∧ ((y_1.snd != (0 : Int)) = true → leO [] [] ∧ (VV.tup [Ad (0 : Int), Ad y_1.snd]).le (VV.tup [Ad v, Ad r])) ∧ ((y_1.snd != (0 : Int)) = false → ∃ (y_2 : Int × Int), Ae Tryz.prog 121 [] [Ad x.Op, Ad y.fst, Ad y_1.fst] [] (VV.tup [Ad y_2.fst, Ad y_2.snd]) ∧ leO [] [] ∧ (VV.tup [Ad y_2.fst, Ad y_2.snd]).le (VV.tup [Ad v, Ad r]))))) := by kernel_rfl
theorem OF (b : Bool) (e : D.Env) : (Ag Tryz.prog tb CD Gy true Tryz.f85 [] (Ai b)).goal (St.init [] [.tp (Af e)]) =
    (AH (Ag Tryz.prog tb CD Gy true Tryz.f85 [] (Ai b)) [1, 0, 1, 0] (Ao [(0, VV.tp (Af e)), (9, A1 true e.S.Procs), (10, Ad (↑e.S.Procs.length : Int)), (11, Ad (0 : Int))] [])) := by kernel_rfl
theorem Ze (v r : Int) (e : D.Env) (x : Int) : (Ag Tryz.prog tb CD CV true Tryz.f52 [] (.tup [Ad v, Ad r])).goal (St.init [] [.tp (Af e), Ad x]) =
    (((0 : Int) ≤ x ∧ x < (↑e.M.Exprs.length : Int)) ∧ (((e.M.Exprs.getD x.toNat default).Op == 1) = true → leO [] [] ∧ (VV.tup [Ad (e.M.Exprs.getD x.toNat default).N, Ad (0 : Int)]).le (VV.tup [Ad v, Ad r])) ∧ (((e.M.Exprs.getD x.toNat default).Op == 1) = false → (((e.M.Exprs.getD x.toNat default).Op == 2) = true → ∃ (y : Int × Int × Int), Ae Tryz.prog 80 [] [VV.tp (Af e), Ad x] [] (VV.tup [Ad y.fst, Ad y.snd.fst, Ad y.snd.snd]) ∧ ((y.snd.snd != (0 : Int)) = true → leO [] [] ∧ (VV.tup [Ad (0 : Int), Ad y.snd.snd]).le (VV.tup [Ad v, Ad r])) ∧ ((y.snd.snd != (0 : Int)) = false → (decide (y.fst < (0 : Int)) = true → ((0 : Int) ≤ y.snd.fst ∧ y.snd.fst < (↑e.S.Globals.length : Int)) ∧ leO [] [] ∧ (VV.tup [Ad (e.S.Globals.getD y.snd.fst.toNat (0 : Int)), Ad (0 : Int)]).le (VV.tup [Ad v, Ad r])) ∧ (decide (y.fst < (0 : Int)) = false → ((0 : Int) ≤ y.fst ∧ y.fst < (↑e.S.Procs.length : Int)) ∧ ((0 : Int) ≤ y.snd.fst ∧ y.snd.fst < (↑(e.S.Procs.getD y.fst.toNat default).Frame.length : Int)) ∧ leO [] [] ∧ (VV.tup [Ad ((e.S.Procs.getD y.fst.toNat default).Frame.getD y.snd.fst.toNat (0 : Int)), Ad (0 : Int)]).le (VV.tup [Ad v, Ad r])))) ∧ (((e.M.Exprs.getD x.toNat default).Op == 2) = false → (((e.M.Exprs.getD x.toNat default).Op == 22) = true → AH (Ag Tryz.prog tb CD CV true Tryz.f52 [] (VV.tup [Ad v, Ad r])) Aar (Ao [(0, VV.tp (Af e)), (6, VV.bp 0 0), (21, Ad (e.M.Exprs.getD x.toNat default).Op), (26, Ai ((e.M.Exprs.getD x.toNat default).Op == 22))] [Ob.box (Au (e.M.Exprs.getD x.toNat default))])) ∧ (((e.M.Exprs.getD x.toNat default).Op == 22) = false → (((e.M.Exprs.getD x.toNat default).Op == 23) = true → AH (Ag Tryz.prog tb CD CV true Tryz.f52 [] (VV.tup [Ad v, Ad r])) Aar (Ao [(0, VV.tp (Af e)), (6, VV.bp 0 0), (21, Ad (e.M.Exprs.getD x.toNat default).Op), (26, Ai ((e.M.Exprs.getD x.toNat default).Op == 23))] [Ob.box (Au (e.M.Exprs.getD x.toNat default))])) ∧ (((e.M.Exprs.getD x.toNat default).Op == 23) = false → AH (Ag Tryz.prog tb CD CV true Tryz.f52 [] (VV.tup [Ad v, Ad r])) Aar (Ao [(0, VV.tp (Af e)), (6, VV.bp 0 0), (21, Ad (e.M.Exprs.getD x.toNat default).Op), (26, Ai ((e.M.Exprs.getD x.toNat default).Op == 24))] [Ob.box (Au (e.M.Exprs.getD x.toNat default))])))))) := by kernel_rfl
theorem OZ (b : Bool) (l : List Int) (v : Int) : (Ag Tryz.prog tb CD Bd true Tryz.f119 [] (Ai b)).goal (St.init [] [Aa true l, Ad v]) =
    (∃ (y : Int), Ae Tryz.prog 147 [] [Aa true l, Ad v] [] (Ad y) ∧ leO [] [] ∧ (Ai (decide (y ≥ (0 : Int)))).le (Ai b)) := by kernel_rfl
theorem W6 (r : Int) (l : List Int) (v : Int) : (Ag Tryz.prog tb CD Kf true Tryz.f147 [] (Ad r)).goal (St.init [] [Aa true l, Ad v]) =
    (AH (Ag Tryz.prog tb CD Kf true Tryz.f147 [] (Ad r)) [1, 0, 1, 0] (Ao [(0, Aa true l), (1, Ad v), (7, Ad (↑l.length : Int)), (8, Ad (0 : Int))] [])) := by kernel_rfl
theorem Zb (r : Int) (c : D.Chan) (l mt : List Int) (some' : Bool) : (Ag Tryz.prog tb CD Mv true Tryz.f100 [] (Ad r)).goal (St.init [] [.agg (Ar c), Aa false l, Aa true mt, Ai some']) =
    (AH (Ag Tryz.prog tb CD Mv true Tryz.f100 [] (Ad r)) [1, 0, 1, 0] (Ao [(1, Aa false l), (2, Aa true mt), (3, Ai some'), (12, BA true c.Queue), (13, Ad (↑c.Queue.length : Int)), (14, Ad (0 : Int))] [])) := by kernel_rfl
theorem YK (b : Bool) (x l mt : List Int) : (Ag Tryz.prog tb CD Mu true Tryz.f129 [] (Ai b)).goal (St.init [] [Aa true x, Aa false l, Aa true mt]) =
    (((bif decide ((↑x.length : Int) < (↑mt.length : Int)) then true else decide ((↑l.length : Int) < (↑mt.length : Int))) = true → leO [] [] ∧ (Ai false).le (Ai b)) ∧ ((bif decide ((↑x.length : Int) < (↑mt.length : Int)) then true else decide ((↑l.length : Int) < (↑mt.length : Int))) = false → AH (Ag Tryz.prog tb CD Mu true Tryz.f129 [] (Ai b)) [1, 1, 0, 1, 0] (Ao [(0, Aa true x), (1, Aa false l), (21, Aa true mt), (22, Ad (↑mt.length : Int)), (23, Ad (0 : Int))] []))) := by kernel_rfl
theorem Xh (v r : Int) (e : D.Env) (x : D.Expr) (b : Bool) : ((Ag Tryz.prog tb CD CV true Tryz.f52 [] (.tup [Ad v, Ad r])).cut Aar).goal (Yd e x 26 b) =
    ((b = true → ∃ (y : Int × Int), Ae Tryz.prog 81 [] [VV.tp (Af e), VV.agg (Au x)] [] (VV.tup [Ad y.fst, Ad y.snd]) ∧ leO [] [] ∧ (VV.tup [Ad y.fst, Ad y.snd]).le (VV.tup [Ad v, Ad r])) ∧ (b = false → ((x.Op == 25) = true → AH (Ag Tryz.prog tb CD CV true Tryz.f52 [] (VV.tup [Ad v, Ad r])) WJ (Ao [(0, VV.tp (Af e)), (6, VV.bp 0 0), (21, Ad x.Op), (30, Ai (x.Op == 25))] [Ob.box (Au x)])) ∧ ((x.Op == 25) = false → ((x.Op == 26) = true → AH (Ag Tryz.prog tb CD CV true Tryz.f52 [] (VV.tup [Ad v, Ad r])) WJ (Ao [(0, VV.tp (Af e)), (6, VV.bp 0 0), (21, Ad x.Op), (30, Ai (x.Op == 26))] [Ob.box (Au x)])) ∧ ((x.Op == 26) = false → ((x.Op == 27) = true → AH (Ag Tryz.prog tb CD CV true Tryz.f52 [] (VV.tup [Ad v, Ad r])) WJ (Ao [(0, VV.tp (Af e)), (6, VV.bp 0 0), (21, Ad x.Op), (30, Ai (x.Op == 27))] [Ob.box (Au x)])) ∧ ((x.Op == 27) = false → ((x.Op == 28) = true → AH (Ag Tryz.prog tb CD CV true Tryz.f52 [] (VV.tup [Ad v, Ad r])) WJ (Ao [(0, VV.tp (Af e)), (6, VV.bp 0 0), (21, Ad x.Op), (30, Ai (x.Op == 28))] [Ob.box (Au x)])) ∧ ((x.Op == 28) = false → AH (Ag Tryz.prog tb CD CV true Tryz.f52 [] (VV.tup [Ad v, Ad r])) WJ (Ao [(0, VV.tp (Af e)), (6, VV.bp 0 0), (21, Ad x.Op), (30, Ai (x.Op == 29))] [Ob.box (Au x)]))))))) := by kernel_rfl
theorem Xg (v r : Int) (e : D.Env) (x : D.Expr) (b : Bool) : ((Ag Tryz.prog tb CD CV true Tryz.f52 [] (.tup [Ad v, Ad r])).cut WJ).goal (Yd e x 30 b) =
    ((b = true → ∃ (y : Int × Int), Ae Tryz.prog 82 [] [VV.tp (Af e), VV.agg (Au x)] [] (VV.tup [Ad y.fst, Ad y.snd]) ∧ leO [] [] ∧ (VV.tup [Ad y.fst, Ad y.snd]).le (VV.tup [Ad v, Ad r])) ∧ (b = false → ((x.Op == 30) = true → ∃ (y : Int × Int), Ae Tryz.prog 83 [] [VV.tp (Af e), VV.agg (Au x)] [] (VV.tup [Ad y.fst, Ad y.snd]) ∧ leO [] [] ∧ (VV.tup [Ad y.fst, Ad y.snd]).le (VV.tup [Ad v, Ad r])) ∧ ((x.Op == 30) = false → ((x.Op == 31) = true → leO [] [] ∧ (VV.tup [Ad e.Pid, Ad (0 : Int)]).le (VV.tup [Ad v, Ad r])) ∧ ((x.Op == 31) = false → ((x.Op == 32) = true → leO [] [] ∧ (VV.tup [Ad e.S.Last, Ad (0 : Int)]).le (VV.tup [Ad v, Ad r])) ∧ ((x.Op == 32) = false → ((x.Op == 33) = true → leO [] [] ∧ (VV.tup [Ad (↑e.S.Procs.length : Int), Ad (0 : Int)]).le (VV.tup [Ad v, Ad r])) ∧ ((x.Op == 33) = false → ((x.Op == 34) = true → ∃ (y : Bool), Ae Tryz.prog 85 [] [VV.tp (Af e)] [] (Ai y) ∧ ∃ (y_1 : Int × Int), Ae Tryz.prog 84 [] [Ai !y] [] (VV.tup [Ad y_1.fst, Ad y_1.snd]) ∧ leO [] [] ∧ (VV.tup [Ad y_1.fst, Ad y_1.snd]).le (VV.tup [Ad v, Ad r])) ∧ ((x.Op == 34) = false → ((x.Op == 35) = true → ∃ (y : Int × Int), Ae Tryz.prog 84 [] [Ai e.Timeout] [] (VV.tup [Ad y.fst, Ad y.snd]) ∧ leO [] [] ∧ (VV.tup [Ad y.fst, Ad y.snd]).le (VV.tup [Ad v, Ad r])) ∧ ((x.Op == 35) = false → ((x.Op == 36) = true → ∃ (y : Int × Int), Ae Tryz.prog 52 [] [VV.tp (Af e), Ad x.A] [] (VV.tup [Ad y.fst, Ad y.snd]) ∧ ((y.snd != (0 : Int)) = true → leO [] [] ∧ (VV.tup [Ad (0 : Int), Ad y.snd]).le (VV.tup [Ad v, Ad r])) ∧ ((y.snd != (0 : Int)) = false → ((true && (bif decide (y.fst ≥ (0 : Int)) then decide (y.fst < (↑e.Able.length : Int)) else false) == true) = true → (0 : Int) ≤ y.fst ∧ y.fst < (↑e.Able.length : Int)) ∧ ∃ (y_1 : Int × Int), Ae Tryz.prog 84 [] [Ai (bif bif decide (y.fst ≥ (0 : Int)) then decide (y.fst < (↑e.Able.length : Int)) else false then e.Able.getD y.fst.toNat false else false)] [] (VV.tup [Ad y_1.fst, Ad y_1.snd]) ∧ leO [] [] ∧ (VV.tup [Ad y_1.fst, Ad y_1.snd]).le (VV.tup [Ad v, Ad r]))) ∧ ((x.Op == 36) = false → ((x.Op == 37) = true → ∃ (y : Int × Int), Ae Tryz.prog 86 [] [VV.tp (Af e), VV.agg (Au x)] [] (VV.tup [Ad y.fst, Ad y.snd]) ∧ leO [] [] ∧ (VV.tup [Ad y.fst, Ad y.snd]).le (VV.tup [Ad v, Ad r])) ∧ ((x.Op == 37) = false → ((x.Op == 38) = true → ∃ (y : Int × Int), Ae Tryz.prog 86 [] [VV.tp (Af e), VV.agg (Au x)] [] (VV.tup [Ad y.fst, Ad y.snd]) ∧ leO [] [] ∧ (VV.tup [Ad y.fst, Ad y.snd]).le (VV.tup [Ad v, Ad r])) ∧ ((x.Op == 38) = false → ((x.Op == 39) = true → leO [] [] ∧ (VV.tup [Ad (0 : Int), Ad (42 : Int)]).le (VV.tup [Ad v, Ad r])) ∧ ((x.Op == 39) = false → ∃ (y : Int × Int), Ae Tryz.prog 87 [] [VV.tp (Af e), VV.agg (Au x)] [] (VV.tup [Ad y.fst, Ad y.snd]) ∧ leO [] [] ∧ (VV.tup [Ad y.fst, Ad y.snd]).le (VV.tup [Ad v, Ad r]))))))))))))) := by kernel_rfl
theorem VX (p k r : Int) (e : D.Env) (_ : Int) (ds : List D.Dim) (who at' i : Int) (J : St → Prop) : ((Ag Tryz.prog tb CD Mt true Tryz.f80 [] (.tup [Ad p, Ad k, Ad r])).loop [1, 1, 1, 1, 1, 1, 0, 1, 0] J).goal (Sf e ds who at' i) =
    ((decide (i < (↑ds.length : Int)) = true → ((0 : Int) ≤ i ∧ i < (↑ds.length : Int)) ∧ ∃ (y : Int × Int), Ae Tryz.prog 52 [] [VV.tp (Af e), Ad (ds.getD i.toNat default).I] [] (VV.tup [Ad y.fst, Ad y.snd]) ∧ ((y.snd != (0 : Int)) = true → leO [] [] ∧ (VV.tup [Ad (0 : Int), Ad (0 : Int), Ad y.snd]).le (VV.tup [Ad p, Ad k, Ad r])) ∧ ((y.snd != (0 : Int)) = false → ((bif decide (y.fst < (0 : Int)) then true else decide (y.fst ≥ (ds.getD i.toNat default).Len)) = true → leO [] [] ∧ (VV.tup [Ad (0 : Int), Ad (0 : Int), Ad (47 : Int)]).le (VV.tup [Ad p, Ad k, Ad r])) ∧ ((bif decide (y.fst < (0 : Int)) then true else decide (y.fst ≥ (ds.getD i.toNat default).Len)) = false → J (Ao [(0, VV.tp (Af e)), (8, Ad who), (10, Ad (IntKind.i64.wrap (at' + IntKind.i64.wrap (y.fst * (ds.getD i.toNat default).Stride)))), (46, Bw true ds), (47, Ad (↑ds.length : Int)), (48, Ad (IntKind.i64.wrap (i + (1 : Int))))] [])))) ∧ (decide (i < (↑ds.length : Int)) = false → leO [] [] ∧ (VV.tup [Ad who, Ad at', Ad (0 : Int)]).le (VV.tup [Ad p, Ad k, Ad r]))) := by kernel_rfl
theorem WG (v r : Int) (e : D.Env) (x : D.Expr) (c : D.Chan) (l : List Int) (k : Int) (J : St → Prop) : ((Ag Tryz.prog tb CD JE true Tryz.f83 [] (.tup [Ad v, Ad r])).loop [1, 1, 1, 1, 1, 1, 0, 1, 0] J).goal (Ya e x c l k) =
    ((decide (k < (↑x.Args.length : Int)) = true → ((0 : Int) ≤ k ∧ k < (↑x.Args.length : Int)) ∧ ((0 : Int) ≤ k ∧ k < (↑x.Match.length : Int)) ∧ ((x.Match.getD k.toNat (0 : Int) != (1 : Int)) = true → J (Ao [(0, VV.tp (Af e)), (3, VV.bp 0 0), (8, VV.bp 1 0), (9, VV.ow 2 0 l.length), (51, Aa true x.Args), (52, Ad (↑x.Args.length : Int)), (53, Ad (IntKind.i64.wrap (k + (1 : Int))))] [Ob.box (Au x), Ob.box (Ar c), Ob.arr true 0 l.length 1 fun (i : Nat) => [Ad (l.getD i (0 : Int))]])) ∧ ((x.Match.getD k.toNat (0 : Int) != (1 : Int)) = false → ∃ (y : Int × Int), Ae Tryz.prog 52 [] [VV.tp (Af e), Ad (x.Args.getD k.toNat (0 : Int))] [] (VV.tup [Ad y.fst, Ad y.snd]) ∧ ((0 : Int) ≤ k ∧ k < (↑l.length : Int)) ∧ ((y.snd != (0 : Int)) = true → leO [] [] ∧ (VV.tup [Ad (0 : Int), Ad y.snd]).le (VV.tup [Ad v, Ad r])) ∧ ((y.snd != (0 : Int)) = false → J (Ao [(0, VV.tp (Af e)), (3, VV.bp 0 0), (8, VV.bp 1 0), (9, VV.ow 2 0 l.length), (51, Aa true x.Args), (52, Ad (↑x.Args.length : Int)), (53, Ad (IntKind.i64.wrap (k + (1 : Int))))] [Ob.box (Au x), Ob.box (Ar c), Ob.arr true 0 l.length 1 fun (j : Nat) => bif j.beq k.toNat then [Ad y.fst] else [Ad (l.getD j (0 : Int))]])))) ∧ (decide (k < (↑x.Args.length : Int)) = false → ∃ (y : Int), Ae Tryz.prog 100 [] [VV.agg (Ar c), Aa false l, Aa true x.Match, Ai (x.N == 1)] [] (Ad y) ∧ ∃ (y_1 : Int × Int), Ae Tryz.prog 84 [] [Ai (decide (y ≥ (0 : Int)))] [] (VV.tup [Ad y_1.fst, Ad y_1.snd]) ∧ leO [] [] ∧ (VV.tup [Ad y_1.fst, Ad y_1.snd]).le (VV.tup [Ad v, Ad r]))) := by kernel_rfl
theorem MH (b : Bool) (e : D.Env) (k : Int) (J : St → Prop) : ((Ag Tryz.prog tb CD Gy true Tryz.f85 [] (Ai b)).loop [1, 0, 1, 0] J).goal (X9 e k) =
    ((decide (k < (↑e.S.Procs.length : Int)) = true → ((0 : Int) ≤ k ∧ k < (↑e.S.Procs.length : Int)) ∧ ((0 : Int) ≤ (e.S.Procs.getD k.toNat default).Type_ ∧ (e.S.Procs.getD k.toNat default).Type_ < (↑e.M.Procs.length : Int)) ∧ ((0 : Int) ≤ (e.S.Procs.getD k.toNat default).Loc ∧ (e.S.Procs.getD k.toNat default).Loc < (↑(e.M.Procs.getD (e.S.Procs.getD k.toNat default).Type_.toNat default).Locs.length : Int)) ∧ (((e.M.Procs.getD (e.S.Procs.getD k.toNat default).Type_.toNat default).Locs.getD (e.S.Procs.getD k.toNat default).Loc.toNat default).Progress = true → leO [] [] ∧ (Ai true).le (Ai b)) ∧ (((e.M.Procs.getD (e.S.Procs.getD k.toNat default).Type_.toNat default).Locs.getD (e.S.Procs.getD k.toNat default).Loc.toNat default).Progress = false → J (Ao [(0, VV.tp (Af e)), (9, A1 true e.S.Procs), (10, Ad (↑e.S.Procs.length : Int)), (11, Ad (IntKind.i64.wrap (k + (1 : Int))))] []))) ∧ (decide (k < (↑e.S.Procs.length : Int)) = false → leO [] [] ∧ (Ai false).le (Ai b))) := by kernel_rfl
theorem Tk (r : Int) (l : List Int) (v k : Int) (J : St → Prop) : ((Ag Tryz.prog tb CD Kf true Tryz.f147 [] (Ad r)).loop [1, 0, 1, 0] J).goal (Aa1 l v k) =
    ((decide (k < (↑l.length : Int)) = true → ((0 : Int) ≤ k ∧ k < (↑l.length : Int)) ∧ ((v == l.getD k.toNat (0 : Int)) = true → leO [] [] ∧ (Ad k).le (Ad r)) ∧ ((v == l.getD k.toNat (0 : Int)) = false → J (Ao [(0, Aa true l), (1, Ad v), (7, Ad (↑l.length : Int)), (8, Ad (IntKind.i64.wrap (k + (1 : Int))))] []))) ∧ (decide (k < (↑l.length : Int)) = false → leO [] [] ∧ (Ad (-1 : Int)).le (Ad r))) := by kernel_rfl
theorem Xe (r : Int) (c : D.Chan) (l mt : List Int) (any : Bool) (k : Int) (J : St → Prop) : ((Ag Tryz.prog tb CD Mv true Tryz.f100 [] (Ad r)).loop [1, 0, 1, 0] J).goal (Yc c l mt any k) =
    ((decide (k < (↑c.Queue.length : Int)) = true → ((0 : Int) ≤ k ∧ k < (↑c.Queue.length : Int)) ∧ ∃ (y : Bool), Ae Tryz.prog 129 [] [Aa true (c.Queue.getD k.toNat []), Aa false l, Aa true mt] [] (Ai y) ∧ (y = true → leO [] [] ∧ (Ad k).le (Ad r)) ∧ (y = false → ((!any) = true → leO [] [] ∧ (Ad (-1 : Int)).le (Ad r)) ∧ ((!any) = false → J (Ao [(1, Aa false l), (2, Aa true mt), (3, Ai any), (12, BA true c.Queue), (13, Ad (↑c.Queue.length : Int)), (14, Ad (IntKind.i64.wrap (k + (1 : Int))))] [])))) ∧ (decide (k < (↑c.Queue.length : Int)) = false → leO [] [] ∧ (Ad (-1 : Int)).le (Ad r))) := by kernel_rfl
theorem WT (b : Bool) (x l mt : List Int) (k : Int) (J : St → Prop) : ((Ag Tryz.prog tb CD Mu true Tryz.f129 [] (Ai b)).loop [1, 1, 0, 1, 0] J).goal (Yb x l mt k) =
    ((decide (k < (↑mt.length : Int)) = true → ((0 : Int) ≤ k ∧ k < (↑mt.length : Int)) ∧ ((true && (mt.getD k.toNat (0 : Int) == 1) == true) = true → (0 : Int) ≤ k ∧ k < (↑x.length : Int)) ∧ ((true && (mt.getD k.toNat (0 : Int) == 1) == true) = true → (0 : Int) ≤ k ∧ k < (↑l.length : Int)) ∧ ((bif mt.getD k.toNat (0 : Int) == 1 then x.getD k.toNat (0 : Int) != l.getD k.toNat (0 : Int) else false) = true → leO [] [] ∧ (Ai false).le (Ai b)) ∧ ((bif mt.getD k.toNat (0 : Int) == 1 then x.getD k.toNat (0 : Int) != l.getD k.toNat (0 : Int) else false) = false → J (Ao [(0, Aa true x), (1, Aa false l), (21, Aa true mt), (22, Ad (↑mt.length : Int)), (23, Ad (IntKind.i64.wrap (k + (1 : Int))))] []))) ∧ (decide (k < (↑mt.length : Int)) = false → leO [] [] ∧ (Ai true).le (Ai b))) := by kernel_rfl
theorem WZ (v r : Int) (e : D.Env) (x : Int) : (Ag Tryz.prog tb CD Bd true Tryz.f117 [] (.tup [Ad v, Ad r])).goal (St.init [] [Ad x, .tp [.tp (Af e)]]) =
    (∃ (y : Int × Int), Ae Tryz.prog 52 [] [VV.tp (Af e), Ad x] [] (VV.tup [Ad y.fst, Ad y.snd]) ∧ leO [] [] ∧ (VV.tup [Ad y.fst, Ad y.snd]).le (VV.tup [Ad v, Ad r])) := by kernel_rfl
end Go.Proofs.YtiaebjpcgjkhoaaGreatDoor
namespace Go.Proofs.YtiaebjpcgjkhoaaGreatDoor
open Go.RowKit
def Ef (b : Int) (s : Bool) (v : Int) : Int :=
  if 1 ≤ b ∧ b ≤ 32 then (if s then (v + 2 ^ b.toNat / 2) % 2 ^ b.toNat - 2 ^ b.toNat / 2 else v % 2 ^ b.toNat) else 0
theorem AaG (b v : Int) (s : Bool) (h : b < 1 ∨ 32 < b) : Ef b s v = 0 := by
  unfold Ef; rw [if_neg (by omega)]
theorem Q5 (b v : Int) (h1 : 1 ≤ b) (h2 : b ≤ 32) : wrap64 (v * 2 ^ (64 - b).toNat) / 2 ^ (64 - b).toNat = Ef b true v := by
  have hb : b = 1 ∨ b = 2 ∨ b = 3 ∨ b = 4 ∨ b = 5 ∨ b = 6 ∨ b = 7 ∨ b = 8 ∨ b = 9 ∨ b = 10 ∨ b = 11 ∨ b = 12 ∨ b = 13 ∨ b = 14 ∨ b = 15 ∨ b = 16 ∨ b = 17 ∨ b = 18 ∨ b = 19 ∨ b = 20 ∨ b = 21 ∨ b = 22 ∨ b = 23 ∨ b = 24 ∨ b = 25 ∨ b = 26 ∨ b = 27 ∨ b = 28 ∨ b = 29 ∨ b = 30 ∨ b = 31 ∨ b = 32 := by omega
  unfold wrap64 Ef
  rcases hb with h | h | h | h | h | h | h | h | h | h | h | h | h | h | h | h | h | h | h | h | h | h | h | h | h | h | h | h | h | h | h | h <;>
    subst h <;> simp <;> omega
theorem Rq (v : Int) (m : Nat) (hm : m < 32) : bits .and .i64 v (((2 ^ (m + 1) : Nat) : Int) - 1) = v % ((2 ^ (m + 1) : Nat) : Int) := by
  show IntKind.i64.wrap ((BitVec.ofInt 64 v &&& BitVec.ofInt 64 (((2 ^ (m + 1) : Nat) : Int) - 1)).toNat : Int) = _
  have hp : 2 ^ (m + 1) ≤ 2 ^ 32 := Nat.pow_le_pow_right (by decide) (by omega)
  have hpos : 0 < 2 ^ (m + 1) := Nat.two_pow_pos _
  have e1 : (((2 ^ (m + 1) : Nat) : Int) - 1) = ((2 ^ (m + 1) - 1 : Nat) : Int) := by omega
  rw [BitVec.toNat_and, e1, BitVec.ofInt_natCast, BitVec.toNat_ofNat, BitVec.toNat_ofInt]
  have e2 : (2 ^ (m + 1) - 1) % 2 ^ 64 = 2 ^ (m + 1) - 1 := Nat.mod_eq_of_lt (by omega)
  rw [e2, Nat.and_two_pow_sub_one_eq_mod]
  have hlt : (v % ((2 ^ 64 : Nat) : Int)).toNat % 2 ^ (m + 1) < 2 ^ (m + 1) := Nat.mod_lt _ hpos
  rw [IntWalk.i64_in _ (by omega)]
  have hnn : 0 ≤ v % ((2 ^ 64 : Nat) : Int) := Int.emod_nonneg _ (by decide)
  have hd : ((2 ^ (m + 1) : Nat) : Int) ∣ ((2 ^ 64 : Nat) : Int) := by
    have : 2 ^ (m + 1) ∣ 2 ^ 64 := Nat.pow_dvd_pow 2 (by omega)
    exact Int.natCast_dvd_natCast.2 this
  rw [Int.natCast_emod, Int.toNat_of_nonneg hnn]
  exact Int.emod_emod_of_dvd _ hd
theorem Za (b v : Int) (h1 : 1 ≤ b) (h2 : b ≤ 32) : bits .and .i64 v (wrap64 (wrap64 (2 ^ b.toNat) - 1)) = Ef b false v := by
  obtain ⟨m, rfl⟩ : ∃ m : Nat, b = (m : Int) + 1 := ⟨(b - 1).toNat, by omega⟩
  have hm : m < 32 := by omega
  have e : ((m : Int) + 1).toNat = m + 1 := by omega
  have hp : 2 ^ (m + 1) ≤ 2 ^ 32 := Nat.pow_le_pow_right (by decide) (by omega)
  have hpos : 0 < 2 ^ (m + 1) := Nat.two_pow_pos _
  have ec : (2 : Int) ^ (m + 1) = ((2 ^ (m + 1) : Nat) : Int) := by simp
  unfold Ef
  rw [if_pos ⟨h1, h2⟩, e, ec, IntWalk.wrap64_in ((2 ^ (m + 1) : Nat) : Int) (by omega), IntWalk.wrap64_in _ (by omega), Rq v m hm]
  simp
end Go.Proofs.YtiaebjpcgjkhoaaGreatDoor
namespace Go.Proofs.YtiaebjpcgjkhoaaGreatDoor
open Go.RowKit
theorem A2 (n : Int) : -2147483648 ≤ wrap32 n ∧ wrap32 n ≤ 2147483647 := by unfold wrap32; omega
theorem Vu {n : Int} (h : -2147483648 ≤ n) (h' : n ≤ 2147483647) : wrap32 n = n := by unfold wrap32; omega
theorem CZ (n : Int) : wrap64 (wrap32 n) = wrap32 n := by have := A2 n; exact IntWalk.wrap64_in _ (by omega)
theorem Ld (n : Int) : wrap32 n % 4294967296 = n % 4294967296 := by unfold wrap32; omega
theorem MW {m n : Int} (h : m % 4294967296 = n % 4294967296) : wrap32 m = wrap32 n := by unfold wrap32; omega
theorem ZM (a b : Int) : wrap32 (wrap32 a * b) = wrap32 (a * b) := MW (by rw [Int.mul_emod, Ld, ← Int.mul_emod])
theorem NZ (a b : Int) : wrap32 (a - wrap32 b) = wrap32 (a - b) := MW (by rw [Int.sub_emod, Ld, ← Int.sub_emod])
theorem Z7 (x y : Int) (h1 : -2147483648 ≤ x) (h2 : x ≤ 2147483647) : -2147483648 ≤ x.tmod y ∧ x.tmod y ≤ 2147483647 := by
  by_cases h : 0 ≤ x
  · have a := Int.tmod_nonneg y h
    have b : x.tmod y ≤ x := by
      have := Int.emod_nonneg
      rw [Int.tmod_eq_emod_of_nonneg h]
      by_cases hy : y = 0
      · subst hy; simp
      · have hq : x % y = x - y * (x / y) := by have := Int.emod_def x y; omega
        have : 0 ≤ y * (x / y) := by
          rcases Int.lt_or_gt_of_ne hy with hn | hp
          · exact Int.mul_nonneg_of_nonpos_of_nonpos (by omega) (Int.ediv_nonpos_of_nonneg_of_nonpos h (by omega))
          · exact Int.mul_nonneg (by omega) (Int.ediv_nonneg h (by omega))
        omega
    omega
  · have e : x.tmod y = -((-x).tmod y) := by rw [Int.neg_tmod]; omega
    have hx : 0 ≤ -x := by omega
    have a := Int.tmod_nonneg y hx
    have b : (-x).tmod y ≤ -x := by
      rw [Int.tmod_eq_emod_of_nonneg hx]
      by_cases hy : y = 0
      · subst hy; simp
      · have hq : -x % y = -x - y * (-x / y) := by have := Int.emod_def (-x) y; omega
        have : 0 ≤ y * (-x / y) := by
          rcases Int.lt_or_gt_of_ne hy with hn | hp
          · exact Int.mul_nonneg_of_nonpos_of_nonpos (by omega) (Int.ediv_nonpos_of_nonneg_of_nonpos hx (by omega))
          · exact Int.mul_nonneg (by omega) (Int.ediv_nonneg hx (by omega))
        omega
    omega
theorem Aao (x y : Int) (h1 : -2147483648 ≤ x) (h2 : x ≤ 2147483647) : wrap32 (x - wrap32 (wrap32 (x.tdiv y) * y)) = x.tmod y := by
  have hb := Z7 x y h1 h2
  rw [NZ, ← NZ, ZM, NZ]
  have e : x - x.tdiv y * y = x.tmod y := by have := Int.tmod_add_mul_tdiv x y; rw [Int.mul_comm] at this; omega
  rw [e]; exact Vu hb.1 hb.2
def Ky (b : Bool) : Int := if b then 1 else 0
def DU (a n : Int) : Int := if 0 ≤ n then wrap32 (a * 2 ^ min n.toNat 32) else a / 2 ^ min (-n).toNat 32
def CB (op a b : Int) : Int :=
  if op = 6 then wrap32 (wrap32 a * wrap32 b)
  else if op = 7 then (if wrap32 b = 0 then 0 else wrap32 ((wrap32 a).tdiv (wrap32 b)))
  else if op = 8 then (if wrap32 b = 0 then 0 else (wrap32 a).tmod (wrap32 b))
  else if op = 9 then wrap32 (wrap32 a + wrap32 b)
  else if op = 10 then wrap32 (wrap32 a - wrap32 b)
  else if op = 11 then DU (wrap32 a) (wrap32 b)
  else if op = 12 then DU (wrap32 a) (-wrap32 b)
  else if op = 13 then Ky (decide (wrap32 a < wrap32 b))
  else if op = 14 then Ky (decide (wrap32 a ≤ wrap32 b))
  else if op = 15 then Ky (decide (wrap32 b < wrap32 a))
  else if op = 16 then Ky (decide (wrap32 b ≤ wrap32 a))
  else if op = 17 then Ky (wrap32 a == wrap32 b)
  else if op = 18 then Ky (wrap32 a != wrap32 b)
  else if op = 19 then bits .and .i32 (wrap32 a) (wrap32 b)
  else if op = 20 then bits .xor .i32 (wrap32 a) (wrap32 b)
  else if op = 21 then bits .or .i32 (wrap32 a) (wrap32 b)
  else 0
def CC (op b : Int) : Int :=
  if (op = 7 ∨ op = 8) ∧ wrap32 b = 0 then 48 else if 6 ≤ op ∧ op ≤ 21 then 0 else 42
def KI (op a : Int) : Int :=
  if op = 3 then wrap32 (-wrap32 a) else if op = 4 then Ky (wrap32 a == 0) else if op = 5 then -wrap32 a - 1 else 0
def KJ (op : Int) : Int := if op = 3 ∨ op = 4 ∨ op = 5 then 0 else 42
theorem Hh (op : BinOp) (hop : op = .and ∨ op = .or ∨ op = .xor) (a b : Int) : -2147483648 ≤ bits op .i32 a b ∧ bits op .i32 a b ≤ 2147483647 := by
  rcases hop with rfl | rfl | rfl
  all_goals
    unfold bits
    simp only []
    rw [IntKind.wrap_i32]; omega
theorem Yh (a : Int) (k : Nat) : (a / 2 ^ k) / 2 = a / 2 ^ (k + 1) := by
  rw [Int.ediv_ediv_of_nonneg (Int.le_of_lt (Int.pow_pos (by decide))), Int.pow_succ]
theorem Abx (a : Int) (k : Nat) (h1 : -2147483648 ≤ a) (h2 : a ≤ 2147483647) : -2147483648 ≤ a / 2 ^ k ∧ a / 2 ^ k ≤ 2147483647 := by
  induction k with
  | zero => simp; omega
  | succ k ih => rw [← Yh]; omega
theorem Nj (a n : Int) (h : -2147483648 ≤ a ∧ a ≤ 2147483647) : -2147483648 ≤ DU a n ∧ DU a n ≤ 2147483647 := by
  unfold DU
  split
  · exact A2 _
  · exact Abx a _ h.1 h.2
theorem Xc (x : Int) (h : -2147483648 ≤ x ∧ x ≤ 2147483647) : bits .xor .i32 (-1) x = -x - 1 := by
  show IntKind.i32.wrap ((BitVec.ofInt 32 (-1) ^^^ BitVec.ofInt 32 x).toNat : Int) = _
  have e : BitVec.ofInt 32 (-1) = BitVec.allOnes 32 := by decide
  rw [e, BitVec.allOnes_xor, BitVec.toNat_not, BitVec.toNat_ofInt, IntKind.wrap_i32]
  have : (((2 : Nat) ^ 32 : Nat) : Int) = 4294967296 := by decide
  rw [this]; omega
theorem L9 (a : Int) : wrap64 (bits .xor .i32 (-1) (wrap32 a)) = -wrap32 a - 1 := by
  have h := A2 a
  rw [Xc _ h]; exact IntWalk.wrap64_in _ (by omega)
end Go.Proofs.YtiaebjpcgjkhoaaGreatDoor
namespace Go.Proofs.YtiaebjpcgjkhoaaGreatDoor
open Go.RowKit
def Dx (b : Bool) : Int × Int := (bif b then 1 else 0, 0)
abbrev Evl := Int → Int × Int
section
variable (e : D.Env) (ev : Evl)
def Db (a : Int) : Int × Int :=
  bif decide ((ev a).2 ≠ 0) then (0, (ev a).2) else bif decide ((ev a).1 < 1) || decide ((e.S.Chans.length : Int) < (ev a).1) then (0, 49) else ((ev a).1, 0)
def Dy (n : Int) : D.Chan := e.S.Chans.getD (n - 1).toNat default
def Ae3 (op room many : Int) : Int × Int :=
  if op = 25 then (many, 0) else if op = 26 then Dx (decide (room ≤ many)) else if op = 28 then Dx (decide (many < room)) else if op = 27 then Dx (decide (many = 0)) else Dx (decide (0 < many))
def U1 (x : D.Expr) : Int × Int :=
  bif decide ((Db e ev x.A).2 ≠ 0) then (0, (Db e ev x.A).2) else Ae3 x.Op (CN e.M (Dy e (Db e ev x.A).1).Shape).Room (Dy e (Db e ev x.A).1).Queue.length
def Tz : Nat → (Nat → Int) → Int
  | 0, _ => 0
  | n + 1, f => bif decide (Tz n f ≠ 0) then Tz n f else f n
def Du (a m : Int) : Int × Int := bif decide (m = 1) then ev a else (0, 0)
def JJ (args mt : List Int) : List Int := (List.range args.length).map fun i => (Du ev (args.getD i 0) (mt.getD i 0)).1
def DO (args mt : List Int) (n : Nat) : Int := Tz n fun i => (Du ev (args.getD i 0) (mt.getD i 0)).2
def FX (x l mt : List Int) : Bool := decide (mt.length ≤ x.length) && decide (mt.length ≤ l.length) && B3 mt.length fun i => !(decide (mt.getD i 0 = 1) && decide (x.getD i 0 ≠ l.getD i 0))
def NJ (l mt : List Int) (any : Bool) : Nat → List (List Int) → Int
  | _, [] => -1
  | k, x :: q => bif FX x l mt then (k : Int) else bif any then NJ l mt any (k + 1) q else -1
def G9 (c : D.Chan) (l mt : List Int) (any : Bool) : Int := NJ l mt any 0 c.Queue
def UB (x : D.Expr) : Int × Int :=
  bif decide ((Db e ev x.A).2 ≠ 0) then (0, (Db e ev x.A).2)
  else bif decide ((CN e.M (Dy e (Db e ev x.A).1).Shape).Fields.length ≠ x.Args.length) then (0, 49)
  else bif decide (DO ev x.Args x.Match x.Args.length ≠ 0) then (0, DO ev x.Args x.Match x.Args.length)
  else Dx (decide (0 ≤ G9 (Dy e (Db e ev x.A).1) (JJ ev x.Args x.Match) x.Match (decide (x.N = 1))))
def Dz (n : Int) : D.Process := e.S.Procs.getD n.toNat default
def KP (x : D.Expr) : Int × Int :=
  bif decide ((ev x.A).2 ≠ 0) then (0, (ev x.A).2)
  else bif decide ((ev x.A).1 < 0) || (decide ((e.S.Procs.length : Int) ≤ (ev x.A).1) || (decide (x.Op = 38) && decide ((Dz e (ev x.A).1).Type_ ≠ x.N))) then (0, 52)
  else bif decide (x.Op = 37) then ((Dz e (ev x.A).1).Loc, 0) else Dx (decide ((Dz e (ev x.A).1).Loc ∈ x.Args))
def OQ (x : D.Expr) : Int × Int :=
  bif decide ((ev x.A).2 ≠ 0) then (0, (ev x.A).2)
  else bif decide (x.Op = 24) then (bif decide ((ev x.A).1 ≠ 0) then ev x.B else ev x.C)
  else bif (decide (x.Op = 22) && decide ((ev x.A).1 = 0)) || (decide (x.Op = 23) && decide ((ev x.A).1 ≠ 0)) then Dx (decide ((ev x.A).1 ≠ 0))
  else bif decide ((ev x.B).2 ≠ 0) then (0, (ev x.B).2) else Dx (decide ((ev x.B).1 ≠ 0))
def T4 (x : D.Expr) : Int × Int :=
  bif decide ((ev x.A).2 ≠ 0) then (0, (ev x.A).2)
  else bif decide (x.Op = 3) || (decide (x.Op = 4) || decide (x.Op = 5)) then (KI x.Op (ev x.A).1, KJ x.Op)
  else bif decide ((ev x.B).2 ≠ 0) then (0, (ev x.B).2) else (CB x.Op (ev x.A).1 (ev x.B).1, CC x.Op (ev x.B).1)
def DC (v : D.Var) : Int × Int :=
  bif decide (v.Scope = 0) then (bif decide ((e.S.Globals.length : Int) < CE v) then (0, 42) else (-1, 0))
  else bif decide (v.Scope = 1) then (bif decide (e.Pid < 0) || decide (((Dz e e.Pid).Frame.length : Int) < CE v) then (0, 42) else (e.Pid, 0))
  else bif decide ((ev v.Who).2 ≠ 0) then (0, (ev v.Who).2)
  else bif decide ((ev v.Who).1 < 0) || (decide ((e.S.Procs.length : Int) ≤ (ev v.Who).1) || decide ((Dz e (ev v.Who).1).Type_ ≠ v.Type_)) then (0, 52)
  else bif decide (((Dz e (ev v.Who).1).Frame.length : Int) < CE v) then (0, 42) else ((ev v.Who).1, 0)
def EI : Int → List D.Dim → Int × Int
  | n, [] => (n, 0)
  | n, d :: l => bif decide ((ev d.I).2 ≠ 0) then (0, (ev d.I).2) else bif decide ((ev d.I).1 < 0) || decide (d.Len ≤ (ev d.I).1) then (0, 47) else EI (n + (ev d.I).1 * d.Stride) l
def B5 (x : D.Expr) : Int × Int × Int :=
  bif decide (x.Op ≠ 2) then (0, 0, 42)
  else bif decide ((DC e ev x.V).2 ≠ 0) then (0, 0, (DC e ev x.V).2)
  else bif decide ((EI ev x.V.Slot x.V.Dims).2 ≠ 0) then (0, 0, (EI ev x.V.Slot x.V.Dims).2) else ((DC e ev x.V).1, (EI ev x.V.Slot x.V.Dims).1, 0)
def Aa4 (x : D.Expr) : Int × Int :=
  bif decide ((B5 e ev x).2.2 ≠ 0) then (0, (B5 e ev x).2.2)
  else bif decide ((B5 e ev x).1 < 0) then (e.S.Globals.getD (B5 e ev x).2.1.toNat 0, 0) else ((Dz e (B5 e ev x).1).Frame.getD (B5 e ev x).2.1.toNat 0, 0)
def Hz : Bool := !(B3 e.S.Procs.length fun i => !((G3 e.M (e.S.Procs.getD i default).Type_).getD (e.S.Procs.getD i default).Loc.toNat default).Progress)
def Abf (x : D.Expr) : Int × Int :=
  bif decide ((ev x.A).2 ≠ 0) then (0, (ev x.A).2)
  else Dx (decide (0 ≤ (ev x.A).1) && (decide ((ev x.A).1 < e.Able.length) && e.Able.getD (ev x.A).1.toNat false))
def Da (x : D.Expr) : Int × Int :=
  if x.Op = 1 then (x.N, 0) else if x.Op = 2 then Aa4 e ev x else if x.Op = 22 ∨ x.Op = 23 ∨ x.Op = 24 then OQ ev x
  else if x.Op = 25 ∨ x.Op = 26 ∨ x.Op = 27 ∨ x.Op = 28 ∨ x.Op = 29 then U1 e ev x else if x.Op = 30 then UB e ev x
  else if x.Op = 31 then (e.Pid, 0) else if x.Op = 32 then (e.S.Last, 0) else if x.Op = 33 then (e.S.Procs.length, 0) else if x.Op = 34 then Dx (!Hz e)
  else if x.Op = 35 then Dx e.Timeout else if x.Op = 36 then Abf e ev x else if x.Op = 37 ∨ x.Op = 38 then KP e ev x else if x.Op = 39 then (0, 42) else T4 ev x
end
def Re (e : D.Env) : Nat → Evl
  | 0, _ => (0, 0)
  | n + 1, a => Da e (Re e n) (AD e.M a)
def EA (e : D.Env) : Evl := Re e (e.M.Exprs.length - 1)
def Ck (e : D.Env) (x : Int) : Int :=
  bif decide (CG e.M e.S ≠ 0) then CG e.M e.S
  else bif decide (e.Pid < -1) || (decide ((e.S.Procs.length : Int) ≤ e.Pid) || (decide (x < 0) || decide ((e.M.Exprs.length : Int) ≤ x))) then 42 else 0
def B6 (e : D.Env) (x : Int) : Int × Int := bif decide (Ck e x ≠ 0) then (0, Ck e x) else Da e (EA e) (AD e.M x)
def AL (e : D.Env) (x : Int) : Int × Int := bif decide (Ck e x ≠ 0) then (0, Ck e x) else Db e (Re e e.M.Exprs.length) x
def OW (v : Int) : Nat → List Int → Int
  | _, [] => -1
  | k, y :: l => bif decide (v = y) then (k : Int) else OW v (k + 1) l
theorem W7 {v y : Int} {k : Nat} {l : List Int} : OW v k (y :: l) = bif decide (v = y) then (k : Int) else OW v (k + 1) l := rfl
theorem UR {v : Int} : ∀ {l : List Int} {k : Nat}, decide (v ∈ l) = decide (OW v k l ≥ 0)
  | [], k => by simp [OW]
  | y :: l, k => by
    unfold OW
    by_cases h : v = y
    · simp [h]
    · have := UR (v := v) (l := l) (k := k + 1)
      simp only [h, decide_false, cond_false, ← this]
      simp [h]
end Go.Proofs.YtiaebjpcgjkhoaaGreatDoor
namespace Go.Proofs.YtiaebjpcgjkhoaaGreatDoor
open Go.RowKit
theorem Fz {k : IntKind} {a b : Int} (h : a = b) : Ending.returned (.int k a) = .returned (.int k b) := by rw [h]
theorem Gu (w : World) (o : Obj) : Below w.heap.size w (w.alloc o) := (Below.refl _ _).alloc (Nat.le_refl _) _
set_option maxHeartbeats 400000 in
theorem Abt (b v : Int) (w : World) (h1 : 1 ≤ b) (h2 : b ≤ 32) :
    Calls Tryz.prog 91 #[.agg #[.int .i64 b, .bool true], .int .i64 v] w fun e w' => e = .returned (.int .i64 (Ef b true v)) ∧ Below w.heap.size w w' := by
  have d1 : decide (b < 1) = false := by simp; omega
  have d2 : decide (32 < b) = false := by simp; omega
  go_enter Tryz.func91, Tryz.ntmps91
  go_wp2
  go_quiet (fail)
  go_wp2
  go_ret
  exact ⟨Fz (Q5 b v h1 h2), below_drewN (Gu _ _) _⟩
set_option maxHeartbeats 400000 in
theorem Abs (b v : Int) (w : World) (h1 : 1 ≤ b) (h2 : b ≤ 32) :
    Calls Tryz.prog 91 #[.agg #[.int .i64 b, .bool false], .int .i64 v] w fun e w' => e = .returned (.int .i64 (Ef b false v)) ∧ Below w.heap.size w w' := by
  have d1 : decide (b < 1) = false := by simp; omega
  have d2 : decide (32 < b) = false := by simp; omega
  go_enter Tryz.func91, Tryz.ntmps91
  go_wp2
  go_ret
  exact ⟨Fz (Za b v h1 h2), Gu _ _⟩
set_option maxHeartbeats 400000 in
theorem Abr (b v : Int) (s : Bool) (w : World) (h1 : b < 1 ∨ 32 < b) :
    Calls Tryz.prog 91 #[.agg #[.int .i64 b, .bool s], .int .i64 v] w fun e w' => e = .returned (.int .i64 (Ef b s v)) ∧ Below w.heap.size w w' := by
  have HF := Lib.hid (AaG b v s h1)
  rcases h1 with h1 | h1
  · go_enter Tryz.func91, Tryz.ntmps91
    go_wp2
    go_ret
    exact ⟨Fz HF.out.symm, Gu _ _⟩
  · have d1 : decide (b < 1) = false := by simp; omega
    go_enter Tryz.func91, Tryz.ntmps91
    go_wp2
    go_ret
    exact ⟨Fz HF.out.symm, Gu _ _⟩
theorem Abu (b v : Int) (s : Bool) (w : World) :
    Calls Tryz.prog 91 #[.agg #[.int .i64 b, .bool s], .int .i64 v] w fun e w' => e = .returned (.int .i64 (Ef b s v)) ∧ Below w.heap.size w w' := by
  by_cases h : 1 ≤ b ∧ b ≤ 32
  · cases s
    · exact Abs b v w h.1 h.2
    · exact Abt b v w h.1 h.2
  · exact Abr b v s w (by omega)
theorem B9 {k l : IntKind} {a b c d : Int} (h : a = b) (h' : c = d) : Ending.returned (.tuple #[.int k a, .int l c]) = .returned (.tuple #[.int k b, .int l d]) := by rw [h, h']
set_option maxHeartbeats 400000 in
theorem Dj (b : Bool) (w : World) :
    Calls Tryz.prog 148 #[.bool b] w fun e w' => e = .returned (.int .i64 (Ky b)) ∧ w = w' := by
  cases b
  all_goals
    go_enter Tryz.func148, Tryz.ntmps148
    go_wp2
    go_ret
    exact ⟨rfl, rfl⟩
set_option maxHeartbeats 400000 in
theorem DM (a n : Int) (w : World) (h0 : -2147483648 ≤ n) (h1 : n ≤ 2147483648) :
    Calls Tryz.prog 149 #[.int .i32 a, .int .i64 n] w fun e w' => e = .returned (.int .i32 (DU a n)) ∧ w = w' := by
  by_cases hn : 0 ≤ n
  · have HP : Hid (DU a n = wrap32 (a * 2 ^ min n.toNat 32)) := by unfold Hid DU; rw [if_pos hn]
    by_cases h63 : 63 < n
    · go_enter Tryz.func149, Tryz.ntmps149
      go_wp2
      go_ret
      exact ⟨Fz (by rw [HP.out, show min n.toNat 32 = 32 by omega]; first | rfl | (rw [IntKind.wrap_i32]; rfl)), rfl⟩
    · go_enter Tryz.func149, Tryz.ntmps149
      go_wp2
      go_ret
      exact ⟨Fz (by rw [HP.out]), rfl⟩
  · have HP : Hid (DU a n = a / 2 ^ min (-n).toNat 32) := by unfold Hid DU; rw [if_neg hn]
    have h0n : n ≤ 0 := by omega
    by_cases h63 : 63 < -n
    · go_enter Tryz.func149, Tryz.ntmps149
      go_wp2
      go_ret
      exact ⟨Fz (by rw [HP.out, show min (-n).toNat 32 = 32 by omega]; rfl), rfl⟩
    · go_enter Tryz.func149, Tryz.ntmps149
      go_wp2
      go_ret
      exact ⟨Fz HP.out.symm, rfl⟩
set_option maxHeartbeats 400000 in
theorem Abm (a b : Int) (w : World) :
    Calls Tryz.prog 121 #[.int .i64 6, .int .i64 a, .int .i64 b] w fun e w' => e = .returned (.tuple #[.int .i64 (CB 6 a b), .int .i64 (CC 6 b)]) ∧ w = w' := by
  have hy := A2 b
  go_enter Tryz.func121, Tryz.ntmps121
  go_wp2
  go_step3
  go_wp2_with (first | (go_at_call 149; (with_reducible refine (DM _ _ _ (by omega) (by omega)).mono ?_); rintro e w1 ⟨rfl, rfl⟩) | (go_at_call 148; (with_reducible refine (Dj _ _).mono ?_); rintro e w1 ⟨rfl, rfl⟩))
  rw [Exit.noGoto_ret]
  go_ret2
  exact ⟨B9 (by simp [CB, CZ]) (by simp [CC]), rfl⟩
set_option maxHeartbeats 400000 in
theorem Abj (a b : Int) (w : World) :
    Calls Tryz.prog 121 #[.int .i64 9, .int .i64 a, .int .i64 b] w fun e w' => e = .returned (.tuple #[.int .i64 (CB 9 a b), .int .i64 (CC 9 b)]) ∧ w = w' := by
  have hy := A2 b
  go_enter Tryz.func121, Tryz.ntmps121
  go_wp2
  go_step3
  go_wp2_with (first | (go_at_call 149; (with_reducible refine (DM _ _ _ (by omega) (by omega)).mono ?_); rintro e w1 ⟨rfl, rfl⟩) | (go_at_call 148; (with_reducible refine (Dj _ _).mono ?_); rintro e w1 ⟨rfl, rfl⟩))
  rw [Exit.noGoto_ret]
  go_ret2
  exact ⟨B9 (by simp [CB, CZ]) (by simp [CC]), rfl⟩
set_option maxHeartbeats 400000 in
theorem ZZ (a b : Int) (w : World) :
    Calls Tryz.prog 121 #[.int .i64 10, .int .i64 a, .int .i64 b] w fun e w' => e = .returned (.tuple #[.int .i64 (CB 10 a b), .int .i64 (CC 10 b)]) ∧ w = w' := by
  have hy := A2 b
  go_enter Tryz.func121, Tryz.ntmps121
  go_wp2
  go_step3
  go_wp2_with (first | (go_at_call 149; (with_reducible refine (DM _ _ _ (by omega) (by omega)).mono ?_); rintro e w1 ⟨rfl, rfl⟩) | (go_at_call 148; (with_reducible refine (Dj _ _).mono ?_); rintro e w1 ⟨rfl, rfl⟩))
  rw [Exit.noGoto_ret]
  go_ret2
  exact ⟨B9 (by simp [CB, CZ]) (by simp [CC]), rfl⟩
set_option maxHeartbeats 400000 in
theorem Abl (a b : Int) (w : World) :
    Calls Tryz.prog 121 #[.int .i64 7, .int .i64 a, .int .i64 b] w fun e w' => e = .returned (.tuple #[.int .i64 (CB 7 a b), .int .i64 (CC 7 b)]) ∧ w = w' := by
  have hy := A2 b
  have hx := A2 a
  by_cases h0 : wrap32 b = 0
  · have HV : Hid (CB 7 a b = 0) := by unfold Hid; simp [CB, h0]
    have HE : Hid (CC 7 b = 48) := by unfold Hid; simp [CC, h0]
    have hb0 : (wrap32 b == 0) = true := by simpa using h0
    clear h0
    go_enter Tryz.func121, Tryz.ntmps121
    go_wp2
    refine Cm 0 rfl (fun J hJ => ?_)
    go_wp2
    go_step3
    refine ⟨rfl, hJ _ _ ?_⟩
    go_wp2
    rw [Exit.noGoto_ret]
    go_ret2
    exact ⟨B9 HV.out.symm HE.out.symm, rfl⟩
  · have HV : Hid (CB 7 a b = wrap32 ((wrap32 a).tdiv (wrap32 b))) := by unfold Hid; simp [CB, h0]
    have HE : Hid (CC 7 b = 0) := by unfold Hid; simp [CC, h0]
    have hb0 : (wrap32 b == 0) = false := by simpa using h0
    go_enter Tryz.func121, Tryz.ntmps121
    go_wp2
    go_step3
    go_wp2
    rw [Exit.noGoto_ret]
    go_ret2
    exact ⟨B9 (by rw [HV.out]; exact CZ _) HE.out.symm, rfl⟩
set_option maxHeartbeats 400000 in
theorem Abk (a b : Int) (w : World) :
    Calls Tryz.prog 121 #[.int .i64 8, .int .i64 a, .int .i64 b] w fun e w' => e = .returned (.tuple #[.int .i64 (CB 8 a b), .int .i64 (CC 8 b)]) ∧ w = w' := by
  have hy := A2 b
  have hx := A2 a
  by_cases h0 : wrap32 b = 0
  · have HV : Hid (CB 8 a b = 0) := by unfold Hid; simp [CB, h0]
    have HE : Hid (CC 8 b = 48) := by unfold Hid; simp [CC, h0]
    have hb0 : (wrap32 b == 0) = true := by simpa using h0
    clear h0
    go_enter Tryz.func121, Tryz.ntmps121
    go_wp2
    refine Cm 0 rfl (fun J hJ => ?_)
    go_wp2
    go_step3
    refine ⟨rfl, hJ _ _ ?_⟩
    go_wp2
    rw [Exit.noGoto_ret]
    go_ret2
    exact ⟨B9 HV.out.symm HE.out.symm, rfl⟩
  · have HV : Hid (CB 8 a b = (wrap32 a).tmod (wrap32 b)) := by unfold Hid; simp [CB, h0]
    have HE : Hid (CC 8 b = 0) := by unfold Hid; simp [CC, h0]
    have hb0 : (wrap32 b == 0) = false := by simpa using h0
    go_enter Tryz.func121, Tryz.ntmps121
    go_wp2
    go_step3
    go_wp2
    rw [Exit.noGoto_ret]
    go_ret2
    exact ⟨B9 (by rw [HV.out]; rw [CZ]; exact Aao _ _ hx.1 hx.2) HE.out.symm, rfl⟩
set_option maxHeartbeats 400000 in
theorem ZY (a b : Int) (w : World) :
    Calls Tryz.prog 121 #[.int .i64 11, .int .i64 a, .int .i64 b] w fun e w' => e = .returned (.tuple #[.int .i64 (CB 11 a b), .int .i64 (CC 11 b)]) ∧ w = w' := by
  have hy := A2 b
  have HSB : ∀ x n, -2147483648 ≤ n → n ≤ 2147483648 → DU (wrap32 x) n = DU (wrap32 x) n := fun _ _ _ _ => rfl
  clear HSB
  go_enter Tryz.func121, Tryz.ntmps121
  go_wp2
  go_step3
  go_wp2_with (first | (go_at_call 149; (with_reducible refine (DM _ _ _ (by omega) (by omega)).mono ?_); rintro e w1 ⟨rfl, rfl⟩) | (go_at_call 148; (with_reducible refine (Dj _ _).mono ?_); rintro e w1 ⟨rfl, rfl⟩))
  rw [Exit.noGoto_ret]
  go_ret2
  exact ⟨B9 (by have h := Nj (wrap32 a) (wrap32 b) (A2 a); simp only [CB]; exact IntWalk.wrap64_in _ (by omega)) (by simp [CC]), rfl⟩
set_option maxHeartbeats 400000 in
theorem ZX (a b : Int) (w : World) :
    Calls Tryz.prog 121 #[.int .i64 12, .int .i64 a, .int .i64 b] w fun e w' => e = .returned (.tuple #[.int .i64 (CB 12 a b), .int .i64 (CC 12 b)]) ∧ w = w' := by
  have hy := A2 b
  have HSB : ∀ x n, -2147483648 ≤ n → n ≤ 2147483648 → DU (wrap32 x) n = DU (wrap32 x) n := fun _ _ _ _ => rfl
  clear HSB
  go_enter Tryz.func121, Tryz.ntmps121
  go_wp2
  go_step3
  go_wp2_with (first | (go_at_call 149; (with_reducible refine (DM _ _ _ (by omega) (by omega)).mono ?_); rintro e w1 ⟨rfl, rfl⟩) | (go_at_call 148; (with_reducible refine (Dj _ _).mono ?_); rintro e w1 ⟨rfl, rfl⟩))
  rw [Exit.noGoto_ret]
  go_ret2
  exact ⟨B9 (by have h := Nj (wrap32 a) (-wrap32 b) (A2 a); simp only [CB]; exact IntWalk.wrap64_in _ (by omega)) (by simp [CC]), rfl⟩
set_option maxHeartbeats 400000 in
theorem ZW (a b : Int) (w : World) :
    Calls Tryz.prog 121 #[.int .i64 13, .int .i64 a, .int .i64 b] w fun e w' => e = .returned (.tuple #[.int .i64 (CB 13 a b), .int .i64 (CC 13 b)]) ∧ w = w' := by
  have hy := A2 b
  go_enter Tryz.func121, Tryz.ntmps121
  go_wp2
  refine Cm 1 rfl (fun J hJ => ?_)
  go_wp2
  go_step3
  refine ⟨rfl, hJ _ _ ?_⟩
  go_wp2_with (first | (go_at_call 149; (with_reducible refine (DM _ _ _ (by omega) (by omega)).mono ?_); rintro e w1 ⟨rfl, rfl⟩) | (go_at_call 148; (with_reducible refine (Dj _ _).mono ?_); rintro e w1 ⟨rfl, rfl⟩))
  rw [Exit.noGoto_ret]
  go_ret2
  exact ⟨B9 (by simp only [CB]; rfl) (by simp [CC]), rfl⟩
set_option maxHeartbeats 400000 in
theorem ZV (a b : Int) (w : World) :
    Calls Tryz.prog 121 #[.int .i64 14, .int .i64 a, .int .i64 b] w fun e w' => e = .returned (.tuple #[.int .i64 (CB 14 a b), .int .i64 (CC 14 b)]) ∧ w = w' := by
  have hy := A2 b
  go_enter Tryz.func121, Tryz.ntmps121
  go_wp2
  refine Cm 1 rfl (fun J hJ => ?_)
  go_wp2
  go_step3
  refine ⟨rfl, hJ _ _ ?_⟩
  go_wp2_with (first | (go_at_call 149; (with_reducible refine (DM _ _ _ (by omega) (by omega)).mono ?_); rintro e w1 ⟨rfl, rfl⟩) | (go_at_call 148; (with_reducible refine (Dj _ _).mono ?_); rintro e w1 ⟨rfl, rfl⟩))
  rw [Exit.noGoto_ret]
  go_ret2
  exact ⟨B9 (by simp only [CB]; rfl) (by simp [CC]), rfl⟩
set_option maxHeartbeats 400000 in
theorem ZU (a b : Int) (w : World) :
    Calls Tryz.prog 121 #[.int .i64 15, .int .i64 a, .int .i64 b] w fun e w' => e = .returned (.tuple #[.int .i64 (CB 15 a b), .int .i64 (CC 15 b)]) ∧ w = w' := by
  have hy := A2 b
  go_enter Tryz.func121, Tryz.ntmps121
  go_wp2
  refine Cm 1 rfl (fun J hJ => ?_)
  go_wp2
  go_step3
  refine ⟨rfl, hJ _ _ ?_⟩
  go_wp2_with (first | (go_at_call 149; (with_reducible refine (DM _ _ _ (by omega) (by omega)).mono ?_); rintro e w1 ⟨rfl, rfl⟩) | (go_at_call 148; (with_reducible refine (Dj _ _).mono ?_); rintro e w1 ⟨rfl, rfl⟩))
  rw [Exit.noGoto_ret]
  go_ret2
  exact ⟨B9 (by simp only [CB]; rfl) (by simp [CC]), rfl⟩
set_option maxHeartbeats 400000 in
theorem ZT (a b : Int) (w : World) :
    Calls Tryz.prog 121 #[.int .i64 16, .int .i64 a, .int .i64 b] w fun e w' => e = .returned (.tuple #[.int .i64 (CB 16 a b), .int .i64 (CC 16 b)]) ∧ w = w' := by
  have hy := A2 b
  go_enter Tryz.func121, Tryz.ntmps121
  go_wp2
  refine Cm 1 rfl (fun J hJ => ?_)
  go_wp2
  go_step3
  refine ⟨rfl, hJ _ _ ?_⟩
  go_wp2_with (first | (go_at_call 149; (with_reducible refine (DM _ _ _ (by omega) (by omega)).mono ?_); rintro e w1 ⟨rfl, rfl⟩) | (go_at_call 148; (with_reducible refine (Dj _ _).mono ?_); rintro e w1 ⟨rfl, rfl⟩))
  rw [Exit.noGoto_ret]
  go_ret2
  exact ⟨B9 (by simp only [CB]; rfl) (by simp [CC]), rfl⟩
set_option maxHeartbeats 400000 in
theorem ZS (a b : Int) (w : World) :
    Calls Tryz.prog 121 #[.int .i64 17, .int .i64 a, .int .i64 b] w fun e w' => e = .returned (.tuple #[.int .i64 (CB 17 a b), .int .i64 (CC 17 b)]) ∧ w = w' := by
  have hy := A2 b
  go_enter Tryz.func121, Tryz.ntmps121
  go_wp2
  refine Cm 1 rfl (fun J hJ => ?_)
  go_wp2
  go_step3
  refine ⟨rfl, hJ _ _ ?_⟩
  go_wp2_with (first | (go_at_call 149; (with_reducible refine (DM _ _ _ (by omega) (by omega)).mono ?_); rintro e w1 ⟨rfl, rfl⟩) | (go_at_call 148; (with_reducible refine (Dj _ _).mono ?_); rintro e w1 ⟨rfl, rfl⟩))
  rw [Exit.noGoto_ret]
  go_ret2
  exact ⟨B9 (by simp only [CB]; rfl) (by simp [CC]), rfl⟩
set_option maxHeartbeats 400000 in
theorem ZR (a b : Int) (w : World) :
    Calls Tryz.prog 121 #[.int .i64 18, .int .i64 a, .int .i64 b] w fun e w' => e = .returned (.tuple #[.int .i64 (CB 18 a b), .int .i64 (CC 18 b)]) ∧ w = w' := by
  have hy := A2 b
  go_enter Tryz.func121, Tryz.ntmps121
  go_wp2
  refine Cm 1 rfl (fun J hJ => ?_)
  go_wp2
  go_step3
  refine ⟨rfl, hJ _ _ ?_⟩
  go_wp2_with (first | (go_at_call 149; (with_reducible refine (DM _ _ _ (by omega) (by omega)).mono ?_); rintro e w1 ⟨rfl, rfl⟩) | (go_at_call 148; (with_reducible refine (Dj _ _).mono ?_); rintro e w1 ⟨rfl, rfl⟩))
  rw [Exit.noGoto_ret]
  go_ret2
  exact ⟨B9 (by simp only [CB]; rfl) (by simp [CC]), rfl⟩
set_option maxHeartbeats 400000 in
theorem ZQ (a b : Int) (w : World) :
    Calls Tryz.prog 121 #[.int .i64 19, .int .i64 a, .int .i64 b] w fun e w' => e = .returned (.tuple #[.int .i64 (CB 19 a b), .int .i64 (CC 19 b)]) ∧ w = w' := by
  have hy := A2 b
  go_enter Tryz.func121, Tryz.ntmps121
  go_wp2
  go_step3
  go_wp2_with (first | (go_at_call 149; (with_reducible refine (DM _ _ _ (by omega) (by omega)).mono ?_); rintro e w1 ⟨rfl, rfl⟩) | (go_at_call 148; (with_reducible refine (Dj _ _).mono ?_); rintro e w1 ⟨rfl, rfl⟩))
  rw [Exit.noGoto_ret]
  go_ret2
  exact ⟨B9 (by have h := Hh .and (by simp) (wrap32 a) (wrap32 b); simp only [CB]; exact IntWalk.wrap64_in _ (by omega)) (by simp [CC]), rfl⟩
set_option maxHeartbeats 400000 in
theorem ZP (a b : Int) (w : World) :
    Calls Tryz.prog 121 #[.int .i64 20, .int .i64 a, .int .i64 b] w fun e w' => e = .returned (.tuple #[.int .i64 (CB 20 a b), .int .i64 (CC 20 b)]) ∧ w = w' := by
  have hy := A2 b
  go_enter Tryz.func121, Tryz.ntmps121
  go_wp2
  go_step3
  go_wp2_with (first | (go_at_call 149; (with_reducible refine (DM _ _ _ (by omega) (by omega)).mono ?_); rintro e w1 ⟨rfl, rfl⟩) | (go_at_call 148; (with_reducible refine (Dj _ _).mono ?_); rintro e w1 ⟨rfl, rfl⟩))
  rw [Exit.noGoto_ret]
  go_ret2
  exact ⟨B9 (by have h := Hh .xor (by simp) (wrap32 a) (wrap32 b); simp only [CB]; exact IntWalk.wrap64_in _ (by omega)) (by simp [CC]), rfl⟩
set_option maxHeartbeats 400000 in
theorem ZO (a b : Int) (w : World) :
    Calls Tryz.prog 121 #[.int .i64 21, .int .i64 a, .int .i64 b] w fun e w' => e = .returned (.tuple #[.int .i64 (CB 21 a b), .int .i64 (CC 21 b)]) ∧ w = w' := by
  have hy := A2 b
  go_enter Tryz.func121, Tryz.ntmps121
  go_wp2
  go_step3
  go_wp2_with (first | (go_at_call 149; (with_reducible refine (DM _ _ _ (by omega) (by omega)).mono ?_); rintro e w1 ⟨rfl, rfl⟩) | (go_at_call 148; (with_reducible refine (Dj _ _).mono ?_); rintro e w1 ⟨rfl, rfl⟩))
  rw [Exit.noGoto_ret]
  go_ret2
  exact ⟨B9 (by have h := Hh .or (by simp) (wrap32 a) (wrap32 b); simp only [CB]; exact IntWalk.wrap64_in _ (by omega)) (by simp [CC]), rfl⟩
set_option maxHeartbeats 400000 in
theorem ZN (op : Int) (a b : Int) (w : World) (ho : op < 6 ∨ 21 < op) :
    Calls Tryz.prog 121 #[.int .i64 op, .int .i64 a, .int .i64 b] w fun e w' => e = .returned (.tuple #[.int .i64 (CB op a b), .int .i64 (CC op b)]) ∧ w = w' := by
  have hy := A2 b
  have HV : Hid (CB op a b = 0) := by unfold Hid CB; repeat (rw [if_neg (by omega)])
  have HE : Hid (CC op b = 42) := by unfold Hid CC; rw [if_neg (by omega), if_neg (by omega)]
  have e6 : (op == 6) = false := by simp; omega
  have e7 : (op == 7) = false := by simp; omega
  have e8 : (op == 8) = false := by simp; omega
  have e9 : (op == 9) = false := by simp; omega
  have e10 : (op == 10) = false := by simp; omega
  have e11 : (op == 11) = false := by simp; omega
  have e12 : (op == 12) = false := by simp; omega
  have e13 : (op == 13) = false := by simp; omega
  have e14 : (op == 14) = false := by simp; omega
  have e15 : (op == 15) = false := by simp; omega
  have e16 : (op == 16) = false := by simp; omega
  have e17 : (op == 17) = false := by simp; omega
  have e18 : (op == 18) = false := by simp; omega
  have e19 : (op == 19) = false := by simp; omega
  have e20 : (op == 20) = false := by simp; omega
  have e21 : (op == 21) = false := by simp; omega
  clear ho
  go_enter Tryz.func121, Tryz.ntmps121
  go_wp2
  refine Cm 1 rfl (fun J hJ => ?_)
  go_wp2
  go_step3
  refine ⟨rfl, hJ _ _ ?_⟩
  go_wp2
  rw [Exit.noGoto_ret]
  go_ret2
  exact ⟨B9 HV.out.symm HE.out.symm, rfl⟩
theorem Ae4 (op a b : Int) (w : World) :
    Calls Tryz.prog 121 #[.int .i64 op, .int .i64 a, .int .i64 b] w fun e w' => e = .returned (.tuple #[.int .i64 (CB op a b), .int .i64 (CC op b)]) ∧ w = w' := by
  by_cases ho : op < 6 ∨ 21 < op
  · exact ZN op a b w ho
  · have h : op = 6 ∨ op = 7 ∨ op = 8 ∨ op = 9 ∨ op = 10 ∨ op = 11 ∨ op = 12 ∨ op = 13 ∨ op = 14 ∨ op = 15 ∨ op = 16 ∨ op = 17 ∨ op = 18 ∨ op = 19 ∨ op = 20 ∨ op = 21 := by omega
    rcases h with rfl | rfl | rfl | rfl | rfl | rfl | rfl | rfl | rfl | rfl | rfl | rfl | rfl | rfl | rfl | rfl
    · exact Abm a b w
    · exact Abl a b w
    · exact Abk a b w
    · exact Abj a b w
    · exact ZZ a b w
    · exact ZY a b w
    · exact ZX a b w
    · exact ZW a b w
    · exact ZV a b w
    · exact ZU a b w
    · exact ZT a b w
    · exact ZS a b w
    · exact ZR a b w
    · exact ZQ a b w
    · exact ZP a b w
    · exact ZO a b w
set_option maxHeartbeats 400000 in
theorem Abq (a : Int) (w : World) :
    Calls Tryz.prog 120 #[.int .i64 3, .int .i64 a] w fun e w' => e = .returned (.tuple #[.int .i64 (KI 3 a), .int .i64 (KJ 3)]) ∧ w = w' := by
  have hx := A2 a
  go_enter Tryz.func120, Tryz.ntmps120
  go_wp2_with (go_at_call 148; (with_reducible refine (Dj _ _).mono ?_); rintro e w1 ⟨rfl, rfl⟩)
  go_ret2
  exact ⟨B9 (by simp only [KI]; first | rfl | exact CZ _ | exact (L9 a) | (simp; omega)) (by simp [KJ]), rfl⟩
set_option maxHeartbeats 400000 in
theorem Abp (a : Int) (w : World) :
    Calls Tryz.prog 120 #[.int .i64 4, .int .i64 a] w fun e w' => e = .returned (.tuple #[.int .i64 (KI 4 a), .int .i64 (KJ 4)]) ∧ w = w' := by
  have hx := A2 a
  go_enter Tryz.func120, Tryz.ntmps120
  go_wp2_with (go_at_call 148; (with_reducible refine (Dj _ _).mono ?_); rintro e w1 ⟨rfl, rfl⟩)
  go_ret2
  exact ⟨B9 (by simp only [KI]; first | rfl | exact CZ _ | exact (L9 a) | (simp; omega)) (by simp [KJ]), rfl⟩
set_option maxHeartbeats 400000 in
theorem Abo (a : Int) (w : World) :
    Calls Tryz.prog 120 #[.int .i64 5, .int .i64 a] w fun e w' => e = .returned (.tuple #[.int .i64 (KI 5 a), .int .i64 (KJ 5)]) ∧ w = w' := by
  have hx := A2 a
  go_enter Tryz.func120, Tryz.ntmps120
  go_wp2_with (go_at_call 148; (with_reducible refine (Dj _ _).mono ?_); rintro e w1 ⟨rfl, rfl⟩)
  go_ret2
  exact ⟨B9 (by simp only [KI]; first | rfl | exact CZ _ | exact (L9 a) | (simp; omega)) (by simp [KJ]), rfl⟩
set_option maxHeartbeats 400000 in
theorem Ae5 (op a : Int) (w : World) :
    Calls Tryz.prog 120 #[.int .i64 op, .int .i64 a] w fun e w' => e = .returned (.tuple #[.int .i64 (KI op a), .int .i64 (KJ op)]) ∧ w = w' := by
  by_cases ho : op = 3 ∨ op = 4 ∨ op = 5
  · rcases ho with rfl | rfl | rfl
    · exact Abq a w
    · exact Abp a w
    · exact Abo a w
  have HV : Hid (KI op a = 0) := by unfold Hid KI; repeat (rw [if_neg (by omega)])
  have HE : Hid (KJ op = 42) := by unfold Hid KJ; rw [if_neg (by omega)]
  have e3 : (op == 3) = false := by simp; omega
  have e4 : (op == 4) = false := by simp; omega
  have e5 : (op == 5) = false := by simp; omega
  clear ho
  go_enter Tryz.func120, Tryz.ntmps120
  go_wp2
  go_ret2
  exact ⟨B9 HV.out.symm HE.out.symm, rfl⟩
end Go.Proofs.YtiaebjpcgjkhoaaGreatDoor
namespace Go.Proofs.YtiaebjpcgjkhoaaGreatDoor
open Go.RowKit
theorem VK {m : D.Model} (h : Bk m = (0, 0)) : EE m < 0 := by
  unfold Bk at h
  generalize (decide (128 < m.Globals.length) || !decide (m.Init.length = m.Globals.length)) = c1 at h
  generalize decide (0 ≤ Dl m.Globals m.Init) = c2 at h
  generalize (decide (32 < m.Shapes.length) || decide (32 < m.Chans.length)) = c3 at h
  generalize decide (0 ≤ DB m) = c4 at h
  generalize decide (0 ≤ EF m) = c5 at h
  generalize (decide (m.Procs.length < 1) || (decide (16 < m.Procs.length) || (decide (m.Claim < -1) || (decide ((m.Procs.length : Int) ≤ m.Claim) || decide (4096 < m.Exprs.length))))) = c6 at h
  cases c7 : decide (0 ≤ EE m) with
  | true => rw [c7] at h; cases c1 <;> cases c2 <;> cases c3 <;> cases c4 <;> cases c5 <;> cases c6 <;> simp at h
  | false => have := of_decide_eq_false c7; omega
structure Cy (e : D.Env) : Prop where
  fits : Cw e.M e.S = true
  may : H6 e.M = true
  wf : AN e.M
  pid : -1 ≤ e.Pid ∧ e.Pid < e.S.Procs.length
section
variable {e : D.Env}
theorem Cy.fit (h : Cy e) : Fit e.S := Y9 h.may h.fits
theorem Cy.tab (h : Cy e) : Abh e.M := N8 (ER h.may).1
theorem Cy.expr (h : Cy e) : ∀ i : Nat, i < e.M.Exprs.length → CT e.M i = true := Q7 (VK (ER h.may).1)
theorem Cy.chan (h : Cy e) {c : D.Chan} (hc : c ∈ e.S.Chans) : Dp e.M c = true := by
  have h := h.fits
  unfold Cw at h
  simp only [Bool.and_eq_true] at h
  exact (CK (d := default) (f := fun c => Dp e.M c)).1 h.1.1.2 c hc
theorem Cy.proc (h : Cy e) {p : D.Process} (hp : p ∈ e.S.Procs) : BL e.M p = true := by
  have h := h.fits
  unfold Cw at h
  simp only [Bool.and_eq_true] at h
  exact (CK (d := default) (f := fun c => BL e.M c)).1 h.1.2 p hp
theorem Cy.globals (h : Cy e) : e.S.Globals.length = e.M.Globals.length ∧ BE e.M.Globals e.S.Globals = true := by
  have h := h.fits
  unfold Cw F4 at h
  simp only [Bool.and_eq_true] at h
  have := h.1.1.1.1.1.1.1.1.1
  exact ⟨EP this, this⟩
theorem Iw {m : D.Model} {p : D.Process} (h : BL m p = true) : (0 ≤ p.Type_ ∧ p.Type_ < m.Procs.length) ∧ (0 ≤ p.Loc ∧ p.Loc < (Bo m p.Type_).Locs.length) ∧ p.Frame.length = (Bo m p.Type_).Frame.length ∧ BE (Bo m p.Type_).Frame p.Frame = true ∧ p.Prio = (Bo m p.Type_).Prio ∧ p.Type_ ≠ m.Claim := by
  unfold BL BN at h
  simp only [Bool.and_eq_true, decide_eq_true_eq] at h
  obtain ⟨⟨⟨⟨⟨h1, h2⟩, h3⟩, h4⟩, h5⟩, h6⟩ := h
  exact ⟨⟨h1, h2⟩, Cn.1 h4, EP h6, h6, h5, h3⟩
theorem II {m : D.Model} {c : D.Chan} (h : Dp m c = true) : (0 ≤ c.Shape ∧ c.Shape < m.Shapes.length) ∧ (c.Queue.length : Int) ≤ (CN m c.Shape).Room ∧ ∀ x ∈ c.Queue, BE (CN m c.Shape).Fields x = true := by
  unfold Dp at h
  simp only [Bool.and_eq_true, decide_eq_true_eq] at h
  exact ⟨Cn.1 h.1.1, h.1.2, fun x hx => (CK (d := []) (f := fun x => BE (CN m c.Shape).Fields x)).1 h.2 x hx⟩
end
abbrev vII (p : Int × Int) : VV := .tup [Ad p.1, Ad p.2]
abbrev RZ (p : Int × Int × Int) : VV := .tup [Ad p.1, Ad p.2.1, Ad p.2.2]
theorem Bi {a b : Int} {q : Int × Int} (h : (a, b) = q) : leO [] [] ∧ VV.le (.tup [.sc (.int .i64 a), .sc (.int .i64 b)]) (.tup [.sc (.int .i64 q.1), .sc (.int .i64 q.2)]) := by
  subst h; exact ⟨trivial, VV.le_refl _⟩
theorem Jt {a b c : Int} {q : Int × Int × Int} (h : (a, b, c) = q) : leO [] [] ∧ VV.le (.tup [.sc (.int .i64 a), .sc (.int .i64 b), .sc (.int .i64 c)]) (.tup [.sc (.int .i64 q.1), .sc (.int .i64 q.2.1), .sc (.int .i64 q.2.2)]) := by
  subst h; exact ⟨trivial, VV.le_refl _⟩
theorem ct {α : Type} {c : Bool} {a b x : α} (h : c = true) (k : x = a) : x = bif c then a else b := by rw [h]; exact k
theorem cf {α : Type} {c : Bool} {a b x : α} (h : c = false) (k : x = b) : x = bif c then a else b := by rw [h]; exact k
theorem it {α : Type} {c : Prop} [Decidable c] {a b x : α} (h : c) (k : x = a) : x = if c then a else b := by rw [if_pos h]; exact k
theorem ie {α : Type} {c : Prop} [Decidable c] {a b x : α} (h : ¬ c) (k : x = b) : x = if c then a else b := by rw [if_neg h]; exact k
abbrev EvS (e : D.Env) (a : Int) (p : Int × Int) : Prop := Ae Tryz.prog 52 [] [.tp (Af e), Ad a] [] (vII p)
theorem Ct {b : Bool} : Ae Tryz.prog 84 [] [Ai b] [] (vII (Dx b)) :=
  Ah Am An Tryz.func84 (by kernel_rfl) rfl (VI _ _ b) ⟨fun h => Bi (by rw [h]; rfl), fun h => Bi (by rw [h]; rfl)⟩
theorem A0 (a b : Int) : (a != b) = decide (a ≠ b) := by rw [Bool.eq_iff_iff]; simp
theorem Ii {e : D.Env} {ev : Evl} {a : Int} (h : EvS e a (ev a)) : Ae Tryz.prog 118 [] [.tp (Af e), Ad a] [] (vII (Db e ev a)) := by
  refine Ah Am An Tryz.func118 (by kernel_rfl) rfl (Vm _ _ e a) ⟨ev a, h, fun h => Bi (ct (by simpa using h) rfl), fun h => ⟨fun h2 => Bi (cf (by simpa using h) (ct ?_ rfl)), fun h2 => Bi (cf (by simpa using h) (cf ?_ rfl))⟩⟩
  · rw [Bc] at h2; exact h2
  · rw [Bc] at h2; exact h2
theorem O6 {e : D.Env} {ev : Evl} {a : Int} (hE : Cy e) (h : ¬ (Db e ev a).2 ≠ 0) : 1 ≤ (Db e ev a).1 ∧ (Db e ev a).1 ≤ e.S.Chans.length ∧ e.S.Chans.length ≤ 32 := by
  have hc := hE.fit.c
  unfold Db at h ⊢
  cases h1 : decide ((ev a).2 ≠ 0) with
  | true => rw [h1] at h; have := of_decide_eq_true h1; exact absurd h (by simpa using this)
  | false =>
    rw [h1] at h
    simp only [cond_false] at h ⊢
    cases h2 : (decide ((ev a).1 < 1) || decide ((e.S.Chans.length : Int) < (ev a).1)) with
    | true => rw [h2] at h; simp at h
    | false =>
      simp only [Bool.or_eq_false_iff, decide_eq_false_iff_not] at h2
      simp only [cond_false]
      omega
theorem Tj {l : List Int} {v : Int} (hl : Len l.length) : Ae Tryz.prog 147 [] [Aa true l, Ad v] [] (Ad (OW v 0 l)) := by
  unfold Len at hl
  refine Ah Am An Tryz.func147 (by kernel_rfl) rfl (W6 _ l v) ?_
  refine AI Am An l.length (fun k => Aa1 l v k) (fun k => OW v 0 l = OW v k (l.drop k)) (by kernel_rfl) (by kernel_rfl) rfl ?_
  intro k hk hI J next
  refine A9.raw (Tk _ l v k J) ⟨fun hlt => ?_, fun hge => BJ ?_⟩
  · have hlt' : k < l.length := by have := AQ hlt; omega
    have hto : (k : Int).toNat = k := by omega
    rw [hto]
    rw [BQ (d := 0) hlt'] at hI
    rw [W7] at hI
    refine ⟨by omega, fun hy => BJ ?_, fun hy => next _ hlt' ?_ (Up.of ?_)⟩
    · rw [ieq] at hy; rw [hI, hy, cond_true]
    · rw [ieq] at hy; rw [hI, hy, cond_false]
    · rw [Ap (by omega)]; rfl
  · have hge' : l.length ≤ k := by have := AV hge; omega
    rw [hI, List.drop_of_length_le hge']; rfl
theorem MN {l : List Int} {v : Int} (hl : Len l.length) : Ae Tryz.prog 119 [] [Aa true l, Ad v] [] (Ai (decide (v ∈ l))) :=
  Ah Am An Tryz.func119 (by kernel_rfl) rfl (OZ _ l v) ⟨_, Tj hl, As (by rw [UR (k := 0)])⟩
theorem Xw {e : D.Env} {ev : Evl} {x : D.Expr} (hE : Cy e) (h : EvS e x.A (ev x.A)) : Ae Tryz.prog 82 [] [.tp (Af e), .agg (Au x)] [] (vII (U1 e ev x)) := by
  refine Ah Am An Tryz.func82 (by kernel_rfl) rfl (ZA _ _ e x) ⟨Db e ev x.A, Ii h, fun h => Bi (ct (by simpa using h) rfl), fun h => ?_⟩
  have h0 : decide ((Db e ev x.A).2 ≠ 0) = false := by simpa using h
  have hq : U1 e ev x = Ae3 x.Op (CN e.M (Dy e (Db e ev x.A).1).Shape).Room (Dy e (Db e ev x.A).1).Queue.length := by unfold U1; rw [h0]; rfl
  rw [hq]
  have hn := O6 hE (of_decide_eq_false h0)
  generalize (Db e ev x.A).1 = n at hn
  rw [A6 (by omega) (by omega)]
  have hc := hE.chan (AF (d := default) (show (n - 1).toNat < e.S.Chans.length by omega))
  have hs := (II hc).1
  refine ⟨by omega, hs, fun h1 => Bi (it (by simpa using h1) rfl), fun h1 => ⟨fun h2 => ⟨_, Ct, Bi (ie (by simpa using h1) (it (by simpa using h2) rfl))⟩, fun h2 => ⟨fun h3 => ⟨_, Ct, Bi (ie (by simpa using h1) (ie (by simpa using h2) (it (by simpa using h3) rfl)))⟩, fun h3 => ⟨fun h4 => ⟨_, Ct, Bi (ie (by simpa using h1) (ie (by simpa using h2) (ie (by simpa using h3) (it (by simpa using h4) ?_))))⟩, fun h4 => ⟨_, Ct, Bi (ie (by simpa using h1) (ie (by simpa using h2) (ie (by simpa using h3) (ie (by simpa using h4) ?_))))⟩⟩⟩⟩⟩
  · rw [ieq]; rfl
  · rfl
theorem Qt {e : D.Env} {ev : Evl} {x : D.Expr} (h : EvS e x.A (ev x.A)) (hl : Len x.Args.length) : Ae Tryz.prog 86 [] [.tp (Af e), .agg (Au x)] [] (vII (KP e ev x)) := by
  refine Ah Am An Tryz.func86 (by kernel_rfl) rfl (SN _ _ e x) ⟨ev x.A, h, fun h => Bi (ct (by simpa using h) rfl), fun h => ?_⟩
  have h0 : decide ((ev x.A).2 ≠ 0) = false := by simpa using h
  have hq : KP e ev x = bif decide ((ev x.A).1 < 0) || (decide ((e.S.Procs.length : Int) ≤ (ev x.A).1) || (decide (x.Op = 38) && decide ((Dz e (ev x.A).1).Type_ ≠ x.N))) then (0, 52)
      else bif decide (x.Op = 37) then ((Dz e (ev x.A).1).Loc, 0) else Dx (decide ((Dz e (ev x.A).1).Loc ∈ x.Args)) := by unfold KP; rw [h0]; rfl
  rw [hq]
  generalize (ev x.A).1 = n
  refine ⟨fun h1 => ?_, fun h1 => ?_, fun h1 => ⟨fun h2 => ⟨?_, Bi (cf ?_ (ct (by simpa using h2) rfl))⟩, fun h2 => ⟨?_, _, MN hl, _, Ct, Bi (cf ?_ (cf (by simpa using h2) rfl))⟩⟩⟩
  · simp at h1; omega
  · simp only [Bc, AS, ieq, A0, ge_iff_le, Bool.or_assoc] at h1; exact Bi (ct h1 rfl)
  · simp at h1; omega
  · simp only [Bc, AS, ieq, A0, ge_iff_le, Bool.or_assoc] at h1; exact h1
  · simp at h1; omega
  · simp only [Bc, AS, ieq, A0, ge_iff_le, Bool.or_assoc] at h1; exact h1
theorem Iz {e : D.Env} {a : Int} {p : Int × Int} (h : EvS e a p) : Ae Tryz.prog 117 [] [Ad a, .tp [.tp (Af e)]] [] (vII p) :=
  Ah Am An Tryz.func117 (by kernel_rfl) rfl (WZ _ _ e a) ⟨p, h, Bi rfl⟩
theorem L5 {e : D.Env} {ev : Evl} {x : D.Expr} (h : EvS e x.A (ev x.A)) (hB : EvS e x.B (ev x.B)) (hC : x.Op = 24 → EvS e x.C (ev x.C)) : Ae Tryz.prog 81 [] [.tp (Af e), .agg (Au x)] [] (vII (OQ ev x)) := by
  refine Ah Am An Tryz.func81 (by kernel_rfl) rfl (W0 _ _ e x) ⟨ev x.A, h, fun h => Bi (ct (by simpa using h) rfl), fun h => ?_⟩
  have h0 : decide ((ev x.A).2 ≠ 0) = false := by simpa using h
  have hq : OQ ev x = bif decide (x.Op = 24) then (bif decide ((ev x.A).1 ≠ 0) then ev x.B else ev x.C)
      else bif (decide (x.Op = 22) && decide ((ev x.A).1 = 0)) || (decide (x.Op = 23) && decide ((ev x.A).1 ≠ 0)) then Dx (decide ((ev x.A).1 ≠ 0))
      else bif decide ((ev x.B).2 ≠ 0) then (0, (ev x.B).2) else Dx (decide ((ev x.B).1 ≠ 0)) := by unfold OQ; rw [h0]; rfl
  rw [hq]
  generalize (ev x.A).1 = n
  refine ⟨fun h1 => ⟨_, Iz hB, ?_⟩, fun h1 => ⟨fun h2 => ⟨_, Iz (hC (by simpa using h2)), ?_⟩, fun h2 => ⟨fun h3 => ⟨_, Ct, ?_⟩, fun h3 => ⟨_, Iz hB, fun h4 => ?_, fun h4 => ⟨_, Ct, ?_⟩⟩⟩⟩⟩
  · simp only [AS, ieq, A0, Bool.and_eq_true] at h1
    exact Bi (ct h1.1 (ct h1.2 rfl))
  · have h2' : decide (x.Op = 24) = true := by simpa using h2
    simp only [AS, ieq, A0, h2', Bool.true_and] at h1
    exact Bi (ct h2' (cf h1 rfl))
  · have h2' : decide (x.Op = 24) = false := by simpa using h2
    simp only [AS, Bc, ieq, A0] at h3
    rw [A0]
    exact Bi (cf h2' (ct h3 rfl))
  · have h2' : decide (x.Op = 24) = false := by simpa using h2
    simp only [AS, Bc, ieq, A0] at h3
    exact Bi (cf h2' (cf h3 (ct (by simpa using h4) rfl)))
  · have h2' : decide (x.Op = 24) = false := by simpa using h2
    simp only [AS, Bc, ieq, A0] at h3
    rw [A0]
    exact Bi (cf h2' (cf h3 (cf (by simpa using h4) rfl)))
theorem WP {op a : Int} : Ae Tryz.prog 120 [] [Ad op, Ad a] [] (vII (KI op a, KJ op)) := by
  refine Ae.hand ⟨_, Tryz.func120, rfl, by kernel_rfl⟩ fun w E vs hA hL _ _ hs => ?_
  obtain ⟨u1, us1, rfl, v1, hs⟩ := hs.cons_inv
  obtain ⟨u2, us2, rfl, v2, hs⟩ := hs.cons_inv
  obtain rfl := hs.nil_inv
  rw [v1.sc_inv, v2.sc_inv]
  refine (Ae5 op a w).mono ?_
  rintro e w' ⟨rfl, rfl⟩
  exact ⟨_, rfl, RX .sc .sc, Below.refl _ _⟩
theorem VH {op a b : Int} : Ae Tryz.prog 121 [] [Ad op, Ad a, Ad b] [] (vII (CB op a b, CC op b)) := by
  refine Ae.hand ⟨_, Tryz.func121, rfl, by kernel_rfl⟩ fun w E vs hA hL _ _ hs => ?_
  obtain ⟨u1, us1, rfl, v1, hs⟩ := hs.cons_inv
  obtain ⟨u2, us2, rfl, v2, hs⟩ := hs.cons_inv
  obtain ⟨u3, us3, rfl, v3, hs⟩ := hs.cons_inv
  obtain rfl := hs.nil_inv
  rw [v1.sc_inv, v2.sc_inv, v3.sc_inv]
  refine (Ae4 op a b w).mono ?_
  rintro e w' ⟨rfl, rfl⟩
  exact ⟨_, rfl, RX .sc .sc, Below.refl _ _⟩
theorem M6 {e : D.Env} {ev : Evl} {x : D.Expr} (h : EvS e x.A (ev x.A)) (hB : ¬ (x.Op = 3 ∨ x.Op = 4 ∨ x.Op = 5) → EvS e x.B (ev x.B)) : Ae Tryz.prog 87 [] [.tp (Af e), .agg (Au x)] [] (vII (T4 ev x)) := by
  refine Ah Am An Tryz.func87 (by kernel_rfl) rfl (X2 _ _ e x) ⟨ev x.A, h, fun h => Bi (ct (by simpa using h) rfl), fun h => ?_⟩
  have h0 : decide ((ev x.A).2 ≠ 0) = false := by simpa using h
  have hq : T4 ev x = bif decide (x.Op = 3) || (decide (x.Op = 4) || decide (x.Op = 5)) then (KI x.Op (ev x.A).1, KJ x.Op)
      else bif decide ((ev x.B).2 ≠ 0) then (0, (ev x.B).2) else (CB x.Op (ev x.A).1 (ev x.B).1, CC x.Op (ev x.B).1) := by unfold T4; rw [h0]; rfl
  rw [hq]
  generalize (ev x.A).1 = n
  refine ⟨fun h1 => ⟨_, WP, Bi (ct ?_ rfl)⟩, fun h1 => ⟨ev x.B, hB ?_, fun h2 => Bi (cf ?_ (ct (by simpa using h2) rfl)), fun h2 => ⟨_, VH, Bi (cf ?_ (cf (by simpa using h2) rfl))⟩⟩⟩
  · simpa only [Bc, ieq, Bool.or_assoc] using h1
  · simp at h1; omega
  · simpa only [Bc, ieq, Bool.or_assoc] using h1
  · simpa only [Bc, ieq, Bool.or_assoc] using h1
end Go.Proofs.YtiaebjpcgjkhoaaGreatDoor
namespace Go.Proofs.YtiaebjpcgjkhoaaGreatDoor
open Go.RowKit
theorem WS {x l mt : List Int} (hm : Len mt.length) : Ae Tryz.prog 129 [] [Aa true x, Aa false l, Aa true mt] [] (Ai (FX x l mt)) := by
  unfold Len at hm
  refine Ah Am An Tryz.func129 (by kernel_rfl) rfl (YK _ x l mt) ⟨fun h => As ?_, fun h => ?_⟩
  · symm; unfold FX
    rw [Bc] at h
    rw [Bool.eq_false_iff]; intro hq
    simp only [Bool.and_eq_true, decide_eq_true_eq] at hq
    simp at h; omega
  · have hl : mt.length ≤ x.length ∧ mt.length ≤ l.length := by simp at h; omega
    have e0 : FX x l mt = B3 mt.length fun i => !(decide (mt.getD i 0 = 1) && decide (x.getD i 0 ≠ l.getD i 0)) := by
      unfold FX
      rw [decide_eq_true hl.1, decide_eq_true hl.2]; rfl
    rw [e0]
    refine AI Am An mt.length (fun k => Yb x l mt k) (fun k => ∀ i, i < k → (!(decide (mt.getD i 0 = 1) && decide (x.getD i 0 ≠ l.getD i 0))) = true) (by kernel_rfl) (by kernel_rfl) (fun i hi => by omega) ?_
    intro k hk hI J next
    refine A9.raw (WT _ x l mt k J) ⟨fun hlt => ?_, fun hge => As ?_⟩
    · have hlt' : k < mt.length := by have := AQ hlt; omega
      have hto : (k : Int).toNat = k := by omega
      rw [hto]
      refine ⟨by omega, fun _ => by omega, fun _ => by omega, fun hy => As ?_, fun hy => next _ hlt' (Bx hI ?_) (Up.of ?_)⟩
      · simp only [AS, ieq, A0] at hy
        exact (Bg (f := fun i => !(decide (mt.getD i 0 = 1) && decide (x.getD i 0 ≠ l.getD i 0))) hlt' (by rw [hy]; rfl)).symm
      · simp only [AS, ieq, A0] at hy
        rw [hy]; rfl
      · rw [Ap (by omega)]; rfl
    · have hge' : mt.length ≤ k := by have := AV hge; omega
      exact (AW.2 fun i hi => hI i (by omega)).symm
theorem Tv {l mt : List Int} {any : Bool} {k : Nat} {x : List Int} {q : List (List Int)} : NJ l mt any k (x :: q) = bif FX x l mt then (k : Int) else bif any then NJ l mt any (k + 1) q else -1 := rfl
theorem NI {c : D.Chan} {l mt : List Int} {any : Bool} (hc : Len c.Queue.length) (hm : Len mt.length) : Ae Tryz.prog 100 [] [.agg (Ar c), Aa false l, Aa true mt, Ai any] [] (Ad (G9 c l mt any)) := by
  unfold Len at hc
  refine Ah Am An Tryz.func100 (by kernel_rfl) rfl (Zb _ c l mt any) ?_
  unfold G9
  refine AI Am An c.Queue.length (fun k => Yc c l mt any k) (fun k => NJ l mt any 0 c.Queue = NJ l mt any k (c.Queue.drop k)) (by kernel_rfl) (by kernel_rfl) rfl ?_
  intro k hk hI J next
  refine A9.raw (Xe _ c l mt any k J) ⟨fun hlt => ?_, fun hge => BJ ?_⟩
  · have hlt' : k < c.Queue.length := by have := AQ hlt; omega
    have hto : (k : Int).toNat = k := by omega
    rw [hto]
    rw [BQ (d := []) hlt', Tv] at hI
    refine ⟨by omega, _, WS hm, fun hy => BJ ?_, fun hy => ⟨fun ha => BJ ?_, fun ha => next _ hlt' ?_ (Up.of ?_)⟩⟩
    · rw [hI, hy, cond_true]
    · rw [hI, hy, cond_false, show any = false by simpa using ha, cond_false]
    · rw [hI, hy, cond_false, show any = true by simpa using ha, cond_true]
    · rw [Ap (by omega)]; rfl
  · have hge' : c.Queue.length ≤ k := by have := AV hge; omega
    rw [hI, List.drop_of_length_le hge']; rfl
theorem HY {f : Nat → Int} : ∀ {n : Nat}, (∀ i, i < n → f i = 0) → Tz n f = 0
  | 0, _ => rfl
  | n + 1, h => by
    unfold Tz
    rw [HY fun i hi => h i (by omega), h n (by omega)]; rfl
theorem Mb {f : Nat → Int} {k : Nat} (h : ∀ i, i < k → f i = 0) (hf : f k ≠ 0) : ∀ {n : Nat}, k < n → Tz n f = f k
  | 0, hk => by omega
  | n + 1, hk => by
    unfold Tz
    by_cases hkn : k = n
    · subst hkn; rw [HY h]; rfl
    · rw [Mb h hf (n := n) (by omega), decide_eq_true hf, cond_true]
def BR (ev : Evl) (args mt : List Int) (k : Nat) : List Int := (List.range args.length).map fun i => if i < k then (Du ev (args.getD i 0) (mt.getD i 0)).1 else 0
theorem B7 {ev : Evl} {args mt : List Int} {k : Nat} : (BR ev args mt k).length = args.length := by simp [BR]
theorem Ea {ev : Evl} {args mt : List Int} {k i : Nat} (hi : i < args.length) : (BR ev args mt k).getD i 0 = if i < k then (Du ev (args.getD i 0) (mt.getD i 0)).1 else 0 := by
  simp [BR, List.getD, hi]
theorem Li {ev : Evl} {args mt : List Int} : BR ev args mt args.length = JJ ev args mt := by
  unfold BR JJ
  apply List.map_congr_left
  intro i hi
  rw [if_pos (List.mem_range.1 hi)]
theorem WE {e : D.Env} {ev : Evl} {x : D.Expr} (hE : Cy e) (h : EvS e x.A (ev x.A)) (ha : ∀ a ∈ x.Args, EvS e a (ev a)) (hl : x.Args.length ≤ 8) (hm : x.Match.length = x.Args.length) : Ae Tryz.prog 83 [] [.tp (Af e), .agg (Au x)] [] (vII (UB e ev x)) := by
  refine Ah Am An Tryz.func83 (by kernel_rfl) rfl (YE _ _ e x) ⟨Db e ev x.A, Ii h, fun h => Bi (ct (by simpa using h) rfl), fun h => ?_⟩
  have h0 : decide ((Db e ev x.A).2 ≠ 0) = false := by simpa using h
  have hq : UB e ev x = bif decide ((CN e.M (Dy e (Db e ev x.A).1).Shape).Fields.length ≠ x.Args.length) then (0, 49)
      else bif decide (DO ev x.Args x.Match x.Args.length ≠ 0) then (0, DO ev x.Args x.Match x.Args.length)
      else Dx (decide (0 ≤ G9 (Dy e (Db e ev x.A).1) (JJ ev x.Args x.Match) x.Match (decide (x.N = 1)))) := by unfold UB; rw [h0]; rfl
  rw [hq]
  have hn := O6 hE (of_decide_eq_false h0)
  generalize (Db e ev x.A).1 = n at hn
  rw [A6 (by omega) (by omega)]
  have hcm := AF (d := default) (show (n - 1).toNat < e.S.Chans.length by omega)
  have hc := hE.chan hcm
  have hs := (II hc).1
  have hql := (hE.fit.q _ hcm).1
  refine ⟨by omega, hs, fun h1 => Bi (ct ?_ rfl), fun h1 => ⟨by omega, ?_⟩⟩
  · rw [A0] at h1
    have := of_decide_eq_true h1
    rw [decide_eq_true_eq]
    intro hh
    apply this
    have hh' : (e.M.Shapes.getD (e.S.Chans.getD (n - 1).toNat default).Shape.toNat default).Fields.length = x.Args.length := hh
    rw [hh']
  have h1' : decide ((CN e.M (Dy e n).Shape).Fields.length ≠ x.Args.length) = false := by
    rw [A0] at h1
    have := of_decide_eq_false h1
    rw [decide_eq_false_iff_not]
    intro hh
    apply this
    intro h2
    apply hh
    exact Int.ofNat.inj h2
  rw [h1', cond_false]
  have hcdef : e.S.Chans.getD (n - 1).toNat default = Dy e n := rfl
  clear hq h1 hs hc
  generalize Dy e n = c at hcdef
  have hqc : c.Queue.length ≤ 16 := by rw [← hcdef]; exact hql
  refine Bh Am An (fun gg st => ∃ k : Nat, k ≤ x.Args.length ∧ gg = x.Args.length - k ∧ (∀ i, i < k → (Du ev (x.Args.getD i 0) (x.Match.getD i 0)).2 = 0) ∧ st = Ya e x c (BR ev x.Args x.Match k) k) (by kernel_rfl) (by kernel_rfl)
    ⟨x.Args.length, Up.mk (l' := [(0, .tp (Af e)), (3, .bp 0 0), (8, .bp 1 0), (9, .ow 2 0 (BR ev x.Args x.Match 0).length), (51, Aa true x.Args), (52, Ad x.Args.length), (53, Ad ((0 : Nat) : Int))])
      (hs' := [.box (Au x), .box (Ar c), .arr true 0 (BR ev x.Args x.Match 0).length 1 (A7 (BR ev x.Args x.Match 0))]) ?_ ?_ ⟨0, Nat.zero_le _, rfl, fun i hi => by omega, rfl⟩⟩ ?_
  · rw [B7]; exact AZ _
  · rw [B7]
    refine ⟨Ob.le_refl _, by rw [← hcdef]; exact Ob.le_refl _, Ob.le_arr fun i hi => A8 ?_, trivial⟩
    have hz : A7 (BR ev x.Args x.Match 0) i = [Ad 0] := by
      unfold A7
      rw [Ea (by omega), if_neg (Nat.not_lt_zero _)]
    refine Eq.trans ?_ hz.symm
    rfl
  · rintro gg st ⟨k, hk, rfl, hI, rfl⟩
    refine A9.raw (WG _ _ e x c _ k _) ⟨fun hlt => ?_, fun hge => ?_⟩
    · have hlt' : k < x.Args.length := by have := AQ hlt; omega
      have hto : (k : Int).toNat = k := by omega
      rw [hto]
      refine ⟨by omega, by omega, fun hy => ?_, fun hy => ⟨ev (x.Args.getD k 0), ha _ (AF hlt'), by rw [B7]; omega, fun hz => Bi ?_, fun hz => ?_⟩⟩
      · rw [A0] at hy
        have h1 := of_decide_eq_true hy
        have hv : Du ev (x.Args.getD k 0) (x.Match.getD k 0) = (0, 0) := by unfold Du; rw [decide_eq_false h1]; rfl
        have e1 : BR ev x.Args x.Match k = BR ev x.Args x.Match (k + 1) := by
          unfold BR
          apply List.map_congr_left
          intro i _
          by_cases hik : i = k
          · subst hik; rw [if_neg (Nat.lt_irrefl _), if_pos (Nat.lt_succ_self _), hv]
          · by_cases hlt2 : i < k
            · rw [if_pos hlt2, if_pos (by omega)]
            · rw [if_neg hlt2, if_neg (by omega)]
        rw [e1, Ap (by omega)]
        exact ⟨x.Args.length - (k + 1), by omega, Up.of ⟨k + 1, by omega, rfl, Bx hI (by rw [hv]), rfl⟩⟩
      · have hm1 : decide (x.Match.getD k 0 = 1) = true := by rw [A0] at hy; simpa using hy
        have hv : Du ev (x.Args.getD k 0) (x.Match.getD k 0) = ev (x.Args.getD k 0) := by unfold Du; rw [hm1]; rfl
        have hnz : (Du ev (x.Args.getD k 0) (x.Match.getD k 0)).2 ≠ 0 := by rw [hv]; simpa using hz
        have he : DO ev x.Args x.Match x.Args.length = (ev (x.Args.getD k 0)).2 := by
          unfold DO
          rw [Mb (f := fun i => (Du ev (x.Args.getD i 0) (x.Match.getD i 0)).2) hI hnz hlt', hv]
        rw [he]
        exact ct (by simpa using hz) rfl
      · have hm1 : decide (x.Match.getD k 0 = 1) = true := by rw [A0] at hy; simpa using hy
        have hv : Du ev (x.Args.getD k 0) (x.Match.getD k 0) = ev (x.Args.getD k 0) := by unfold Du; rw [hm1]; rfl
        have h2 : (ev (x.Args.getD k 0)).2 = 0 := by simpa using hz
        rw [Ap (by omega)]
        refine ⟨x.Args.length - (k + 1), by omega, Up.mk (l' := [(0, .tp (Af e)), (3, .bp 0 0), (8, .bp 1 0), (9, .ow 2 0 (BR ev x.Args x.Match (k + 1)).length), (51, Aa true x.Args), (52, Ad x.Args.length), (53, Ad ((k + 1 : Nat) : Int))])
          (hs' := [.box (Au x), .box (Ar c), .arr true 0 (BR ev x.Args x.Match (k + 1)).length 1 (A7 (BR ev x.Args x.Match (k + 1)))]) ?_ ?_ ⟨k + 1, by omega, rfl, Bx hI (by rw [hv]; exact h2), rfl⟩⟩
        · rw [B7, B7]; exact AZ _
        · rw [B7, B7]
          refine ⟨Ob.le_refl _, Ob.le_refl _, Ob.le_arr fun i hi => A8 ?_, trivial⟩
          show (bif i.beq k then [Ad (ev (x.Args.getD k 0)).1] else [Ad ((BR ev x.Args x.Match k).getD i 0)]) = [Ad ((BR ev x.Args x.Match (k + 1)).getD i 0)]
          rw [Ea hi, Ea hi]
          cases hq : i.beq k with
          | true =>
            have := Nat.eq_of_beq_eq_true hq; subst this
            rw [cond_true, if_pos (Nat.lt_succ_self _), hv]
          | false =>
            have : i ≠ k := Nat.ne_of_beq_eq_false hq
            rw [cond_false]
            by_cases hlt2 : i < k
            · rw [if_pos hlt2, if_pos (by omega)]
            · rw [if_neg hlt2, if_neg (by omega)]
    · obtain rfl : k = x.Args.length := by have := AV hge; omega
      have he : DO ev x.Args x.Match x.Args.length = 0 := HY hI
      rw [he, Li]
      refine ⟨_, NI (by unfold Len; omega) (by unfold Len; omega), _, Ct, Bi (cf rfl ?_)⟩
      rw [ieq]
end Go.Proofs.YtiaebjpcgjkhoaaGreatDoor
namespace Go.Proofs.YtiaebjpcgjkhoaaGreatDoor
open Go.RowKit
theorem Q3 {e : D.Env} {ev : Evl} {v : D.Var} (hE : Cy e) (hv : Gc v) (hw : ¬ (v.Scope = 0 ∨ v.Scope = 1) → EvS e v.Who (ev v.Who)) : Ae Tryz.prog 116 [] [.tp (Af e), .agg (A4 v)] [] (vII (DC e ev v)) := by
  have hp := hE.pid
  refine Ah Am An Tryz.func116 (by kernel_rfl) rfl (Tl _ _ e v) ⟨fun h => ⟨_, E8 hv, fun h1 => Bi ?_, fun h1 => Bi ?_⟩, fun h => ⟨fun h1 => ⟨_, fun _ => E8 hv, fun h2 => ?_, fun h2 => Bi ?_, fun h2 => Bi ?_⟩, fun h1 => ⟨_, hw ?_, fun h2 => Bi ?_, fun h2 => ⟨fun h3 => ?_, fun h3 => Bi ?_, fun h3 => ⟨_, E8 hv, ?_, fun h4 => Bi ?_, fun h4 => Bi ?_⟩⟩⟩⟩⟩
  · exact ct (by simpa using h) (ct h1 rfl)
  · exact ct (by simpa using h) (cf h1 rfl)
  · simp at h2; omega
  · exact cf (by simpa using h) (ct (by simpa using h1) (ct (by rw [Bc] at h2; exact h2) rfl))
  · exact cf (by simpa using h) (ct (by simpa using h1) (cf (by rw [Bc] at h2; exact h2) rfl))
  · simp at h h1; omega
  · exact cf (by simpa using h) (cf (by simpa using h1) (ct (by simpa using h2) rfl))
  · simp at h3; omega
  · refine cf (by simpa using h) (cf (by simpa using h1) (cf (by simpa using h2) (ct ?_ rfl)))
    simp only [Bc, A0, ge_iff_le, Bool.or_assoc] at h3; exact h3
  · simp at h3; omega
  · refine cf (by simpa using h) (cf (by simpa using h1) (cf (by simpa using h2) (cf ?_ (ct h4 rfl))))
    simp only [Bc, A0, ge_iff_le, Bool.or_assoc] at h3; exact h3
  · refine cf (by simpa using h) (cf (by simpa using h1) (cf (by simpa using h2) (cf ?_ (cf h4 rfl))))
    simp only [Bc, A0, ge_iff_le, Bool.or_assoc] at h3; exact h3
theorem Md {ev : Evl} {n : Int} {d : D.Dim} {l : List D.Dim} : EI ev n (d :: l) = bif decide ((ev d.I).2 ≠ 0) then (0, (ev d.I).2) else bif decide ((ev d.I).1 < 0) || decide (d.Len ≤ (ev d.I).1) then (0, 47) else EI ev (n + (ev d.I).1 * d.Stride) l := rfl
structure ZI (d : D.Dim) : Prop where
  l1 : 1 ≤ d.Len
  l2 : d.Len ≤ 128
  s1 : 0 ≤ d.Stride
  s2 : d.Stride ≤ 128
theorem YJ {i s n : Int} (h0 : 0 ≤ i) (h1 : i < n) (h2 : n ≤ 128) (s0 : 0 ≤ s) (s1 : s ≤ 128) : 0 ≤ i * s ∧ i * s ≤ (n - 1) * s ∧ (n - 1) * s ≤ 16384 := by
  have a := Int.mul_nonneg h0 s0
  have b := Int.mul_le_mul_of_nonneg_right (show i ≤ n - 1 by omega) s0
  have c := Int.mul_le_mul (show n - 1 ≤ 128 by omega) s1 s0 (by omega)
  omega
theorem VW {e : D.Env} {ev : Evl} {x : Int} (hE : Cy e) (hx : 0 ≤ x ∧ x < e.M.Exprs.length) (hv : Gc (AD e.M x).V) (hw : (AD e.M x).Op = 2 → ¬ ((AD e.M x).V.Scope = 0 ∨ (AD e.M x).V.Scope = 1) → EvS e (AD e.M x).V.Who (ev (AD e.M x).V.Who))
    (hs : (AD e.M x).Op = 2 → 0 ≤ (AD e.M x).V.Slot ∧ (AD e.M x).V.Slot ≤ 128 ∧ (AD e.M x).V.Dims.length ≤ 4) (hd : (AD e.M x).Op = 2 → ∀ d ∈ (AD e.M x).V.Dims, ZI d ∧ EvS e d.I (ev d.I)) : Ae Tryz.prog 80 [] [.tp (Af e), Ad x] [] (RZ (B5 e ev (AD e.M x))) := by
  refine Ah Am An Tryz.func80 (by kernel_rfl) rfl (Yf _ _ _ e x) ⟨hx, hx, fun h => Jt (ct (by simpa [AD] using h) rfl), fun h => ?_⟩
  have h0 : (AD e.M x).Op = 2 := by simpa [AD] using h
  change ∃ y : Int × Int, Ae Tryz.prog 116 [] [.tp (Af e), .agg (A4 (AD e.M x).V)] [] (vII y) ∧ _
  replace hw := hw h0
  replace hs := hs h0
  replace hd := hd h0
  have hq : B5 e ev (AD e.M x) = bif decide ((DC e ev (AD e.M x).V).2 ≠ 0) then (0, 0, (DC e ev (AD e.M x).V).2)
      else bif decide ((EI ev (AD e.M x).V.Slot (AD e.M x).V.Dims).2 ≠ 0) then (0, 0, (EI ev (AD e.M x).V.Slot (AD e.M x).V.Dims).2) else ((DC e ev (AD e.M x).V).1, (EI ev (AD e.M x).V.Slot (AD e.M x).V.Dims).1, 0) := by
    unfold B5; rw [decide_eq_false (by rw [h0]; simp)]; rfl
  rw [hq]
  refine ⟨_, Q3 hE hv hw, fun h1 => Jt (ct (by simpa using h1) rfl), fun h1 => ?_⟩
  have h1' : decide ((DC e ev (AD e.M x).V).2 ≠ 0) = false := by simpa using h1
  rw [h1', cond_false]
  generalize (DC e ev (AD e.M x).V).1 = who
  have hsl := hs.1
  have hsl2 := hs.2
  change AH _ [1, 1, 1, 1, 1, 1, 0, 1, 0] (Sf e (AD e.M x).V.Dims who (AD e.M x).V.Slot 0)
  clear hq hw hv h h1 h1' hs
  generalize (AD e.M x).V.Dims = ds at hd hsl2 ⊢
  generalize (AD e.M x).V.Slot = sl at hsl hsl2 ⊢
  generalize hR : EI ev sl ds = R
  refine Bh Am An (fun gg st => ∃ (k : Nat) (n : Int), k ≤ ds.length ∧ gg = ds.length - k ∧ 0 ≤ n ∧ n ≤ 128 + 16384 * k ∧ EI ev n (ds.drop k) = R ∧ st = Sf e ds who n k) (by kernel_rfl) (by kernel_rfl)
    ⟨ds.length, Up.of ⟨0, sl, Nat.zero_le _, rfl, hsl, by omega, hR, rfl⟩⟩ ?_
  rintro gg st ⟨k, n, hk, rfl, hn0, hn1, hI, rfl⟩
  refine A9.raw (VX _ _ _ e x ds who n k _) ⟨fun hlt => ?_, fun hge => ?_⟩
  · have hlt' : k < ds.length := by have := AQ hlt; omega
    have hto : (k : Int).toNat = k := by omega
    rw [hto]
    obtain ⟨hD, hE'⟩ := hd _ (AF (d := default) hlt')
    rw [BQ (d := default) hlt', Md] at hI
    generalize ds.getD k default = d at hD hE' hI ⊢
    refine ⟨by omega, _, hE', fun h2 => Jt ?_, fun h2 => ⟨fun h3 => Jt ?_, fun h3 => ?_⟩⟩
    · have h2' : decide ((ev d.I).2 ≠ 0) = true := by simpa using h2
      rw [h2', cond_true] at hI
      subst hI
      exact ct h2' rfl
    · have h2' : decide ((ev d.I).2 ≠ 0) = false := by simpa using h2
      rw [Bc] at h3
      rw [h2', cond_false] at hI
      have h3' : (decide ((ev d.I).1 < 0) || decide (d.Len ≤ (ev d.I).1)) = true := h3
      rw [h3', cond_true] at hI
      subst hI
      exact ct rfl rfl
    · have h2' : decide ((ev d.I).2 ≠ 0) = false := by simpa using h2
      rw [Bc] at h3
      have h3' : (decide ((ev d.I).1 < 0) || decide (d.Len ≤ (ev d.I).1)) = false := h3
      rw [h2', cond_false, h3', cond_false] at hI
      simp only [Bool.or_eq_false_iff, decide_eq_false_iff_not] at h3'
      have hm := YJ (i := (ev d.I).1) (s := d.Stride) (n := d.Len) (by omega) (by omega) hD.l2 hD.s1 hD.s2
      have hk4 : k < 4 := by omega
      rw [A6 (n := (ev d.I).1 * d.Stride) (by omega) (by omega), A6 (by omega) (by omega), Ap (by omega)]
      exact ⟨ds.length - (k + 1), by omega, Up.of ⟨k + 1, n + (ev d.I).1 * d.Stride, by omega, rfl, by omega, by omega, hI, rfl⟩⟩
  · obtain rfl : k = ds.length := by have := AV hge; omega
    rw [List.drop_length] at hI
    subst hI
    exact Jt (cf rfl rfl)
end Go.Proofs.YtiaebjpcgjkhoaaGreatDoor
namespace Go.Proofs.YtiaebjpcgjkhoaaGreatDoor
open Go.RowKit
theorem MG {e : D.Env} (hE : Cy e) : Ae Tryz.prog 85 [] [.tp (Af e)] [] (Ai (Hz e)) := by
  have hpl := hE.fit.p
  refine Ah Am An Tryz.func85 (by kernel_rfl) rfl (OF _ e) ?_
  refine AI Am An e.S.Procs.length (fun k => X9 e k) (fun k => ∀ i, i < k → (!((G3 e.M (e.S.Procs.getD i default).Type_).getD (e.S.Procs.getD i default).Loc.toNat default).Progress) = true) (by kernel_rfl) (by kernel_rfl) (fun i hi => by omega) ?_
  intro k hk hI J next
  refine A9.raw (MH _ e k J) ⟨fun hlt => ?_, fun hge => As ?_⟩
  · have hlt' : k < e.S.Procs.length := by have := AQ hlt; omega
    have hto : (k : Int).toNat = k := by omega
    rw [hto]
    have hf := Iw (hE.proc (AF (d := default) hlt'))
    refine ⟨by omega, hf.1, hf.2.1, fun hy => As ?_, fun hy => next _ hlt' (Bx hI ?_) (Up.of ?_)⟩
    · unfold Hz
      rw [Bg (f := fun i => !((G3 e.M (e.S.Procs.getD i default).Type_).getD (e.S.Procs.getD i default).Loc.toNat default).Progress) hlt' (by show (!_) = false; unfold G3; rw [hy]; rfl)]; rfl
    · show (!_) = true
      unfold G3; rw [hy]; rfl
    · rw [Ap (by omega)]; rfl
  · have hge' : e.S.Procs.length ≤ k := by have := AV hge; omega
    unfold Hz
    rw [AW.2 fun i hi => hI i (by omega)]; rfl
structure ZH (m : D.Model) (k : Int) (x : D.Expr) : Prop where
  op : 1 ≤ x.Op ∧ x.Op ≤ 39
  a : 1 ≤ AK x.Op → 0 ≤ x.A ∧ x.A < k
  b : 2 ≤ AK x.Op → 0 ≤ x.B ∧ x.B < k
  c : 3 ≤ AK x.Op → 0 ≤ x.C ∧ x.C < k
  num : x.Op = 1 → Cz ⟨32, true⟩ x.N = true
  var : x.Op = 2 → Cr m k x.V = true
  poll : x.Op = 30 → Bn m k x.Args x.Match = true
theorem OH {k op p : Int} {i : Nat} (h : C8 k op i p = true) (hi : i < AK op) : 0 ≤ p ∧ p < k := by
  unfold C8 at h
  rw [decide_eq_true hi, cond_true] at h
  exact Cn.1 h
theorem Aba {m : D.Model} {k : Int} (h : CT m k = true) : ZH m k (AD m k) := by
  unfold CT at h
  simp only [Bool.and_eq_true, decide_eq_true_eq] at h
  obtain ⟨⟨h1, ⟨hA, hB⟩, hC⟩, h3⟩ := h
  refine ⟨h1, fun hi => OH hA (by omega), fun hi => OH hB (by omega), fun hi => OH hC (by omega), fun ho => ?_, fun ho => ?_, fun ho => ?_⟩
  · rw [if_pos ho] at h3; exact h3
  · rw [if_neg (by omega), if_pos ho] at h3; exact h3
  · rw [if_neg (by omega), if_neg (by omega), if_pos ho, Bool.and_eq_true] at h3; exact h3.1
theorem WW {k : Int} {l : List Int} (h : BI k l = true) : ∀ a ∈ l, 0 ≤ a ∧ a < k := fun a ha =>
  Cn.1 ((CK (d := 0) (f := fun a => inP k a)).1 h a ha)
structure ZE (m : D.Model) (k : Int) (v : D.Var) : Prop where
  scope : 0 ≤ v.Scope ∧ v.Scope ≤ 2
  slot : 0 ≤ v.Slot ∧ v.Slot ≤ 128
  dims : v.Dims.length ≤ 4
  who : v.Scope = 2 → 0 ≤ v.Who ∧ v.Who < k
  dim : ∀ d ∈ v.Dims, ZI d ∧ 0 ≤ d.I ∧ d.I < k
theorem Lo {m : D.Model} {k : Int} {v : D.Var} (h : Cr m k v = true) : ZE m k v := by
  unfold Cr at h
  simp only [Bool.and_eq_true, decide_eq_true_eq] at h
  obtain ⟨⟨⟨⟨⟨⟨h1, h2⟩, h3⟩, h4⟩, h5⟩, h6⟩, h7⟩ := h
  refine ⟨⟨h1, h2⟩, ⟨h3, h4⟩, h5, fun hs => ?_, fun d hd => ?_⟩
  · rw [decide_eq_true hs, cond_true, Bool.and_eq_true] at h6; exact Cn.1 h6.1
  · have := (CK (d := default) (f := fun d => Gs k d)).1 h7 d hd
    unfold Gs at this
    simp only [Bool.and_eq_true, decide_eq_true_eq] at this
    obtain ⟨⟨⟨⟨a1, a2⟩, a3⟩, a4⟩, a5⟩ := this
    have := Cn.1 a1
    exact ⟨⟨a2, a3, a4, a5⟩, this⟩
theorem UY {ev : Evl} : ∀ {l : List D.Dim} {n r k : Int}, (∀ d ∈ l, ZI d) → 0 ≤ n → n < r → (EI ev n l).2 = 0 → (EI ev n l).1 = k → 0 ≤ k ∧ k < CQ r l
  | [], n, r, k, _, h0, h1, _, hk => by subst hk; exact ⟨h0, h1⟩
  | d :: l, n, r, k, hd, h0, h1, h2, hk => by
    have hD := hd d (List.mem_cons_self ..)
    rw [Md] at h2 hk
    cases c1 : decide ((ev d.I).2 ≠ 0) with
    | true => rw [c1, cond_true] at h2; exact absurd h2 (of_decide_eq_true c1)
    | false =>
      rw [c1, cond_false] at h2 hk
      cases c2 : (decide ((ev d.I).1 < 0) || decide (d.Len ≤ (ev d.I).1)) with
      | true => rw [c2, cond_true] at h2; simp at h2
      | false =>
        rw [c2, cond_false] at h2 hk
        simp only [Bool.or_eq_false_iff, decide_eq_false_iff_not] at c2
        have hm := YJ (i := (ev d.I).1) (s := d.Stride) (n := d.Len) (by omega) (by omega) hD.l2 hD.s1 hD.s2
        have := UY (r := r + (d.Len - 1) * d.Stride) (fun x hx => hd x (List.mem_cons_of_mem _ hx)) (by omega) (by omega) h2 hk
        have hb : Fh d = false := by
          have := hD.l1; have := hD.l2; have := hD.s1; have := hD.s2
          unfold Fh; simp; omega
        show 0 ≤ k ∧ k < CQ r (d :: l)
        unfold CQ
        rw [hb, cond_false]
        exact this
structure Mz (e : D.Env) (who k : Int) : Prop where
  glob : who < 0 → 0 ≤ k ∧ k < e.S.Globals.length
  own : 0 ≤ who → who < e.S.Procs.length ∧ 0 ≤ k ∧ k < (Dz e who).Frame.length
theorem Wv {m : D.Model} {k : Int} {v : D.Var} (h : ZE m k v) : CE v = CQ (v.Slot + 1) v.Dims := by
  have h1 := h.slot; have h2 := h.dims
  unfold CE
  have : (decide (v.Slot < 0) || (decide (1073741824 < v.Slot) || decide (4 < v.Dims.length))) = false := by simp; omega
  rw [this, cond_false]
theorem Uv {e : D.Env} {ev : Evl} {x : D.Expr} {k : Int} (hE : Cy e) (hv : x.Op = 2 → ZE e.M k x.V) (h : (B5 e ev x).2.2 = 0) : Mz e (B5 e ev x).1 (B5 e ev x).2.1 := by
  have hpid := hE.pid
  unfold B5 at h ⊢
  cases c0 : decide (x.Op ≠ 2) with
  | true => rw [c0, cond_true] at h; simp at h
  | false =>
    rw [c0, cond_false] at h
    rw [cond_false]
    have hv := hv (by simpa using c0)
    have hr := Wv hv
    cases c1 : decide ((DC e ev x.V).2 ≠ 0) with
    | true => rw [c1, cond_true] at h; exact absurd h (of_decide_eq_true c1)
    | false =>
      rw [c1, cond_false] at h
      rw [cond_false]
      cases c2 : decide ((EI ev x.V.Slot x.V.Dims).2 ≠ 0) with
      | true => rw [c2, cond_true] at h; exact absurd h (of_decide_eq_true c2)
      | false =>
        rw [cond_false]
        have hd := UY (ev := ev) (l := x.V.Dims) (n := x.V.Slot) (r := x.V.Slot + 1) (fun d hd => (hv.dim d hd).1) hv.slot.1 (by omega) (by simpa using c2) rfl
        rw [← hr] at hd
        show Mz e (DC e ev x.V).1 (EI ev x.V.Slot x.V.Dims).1
        generalize (EI ev x.V.Slot x.V.Dims).1 = n at hd
        unfold DC at c1 ⊢
        cases d1 : decide (x.V.Scope = 0) with
        | true =>
          rw [d1, cond_true] at c1
          rw [cond_true]
          cases d2 : decide ((e.S.Globals.length : Int) < CE x.V) with
          | true => rw [d2, cond_true] at c1; simp at c1
          | false =>
            have := of_decide_eq_false d2
            exact ⟨fun _ => ⟨hd.1, by omega⟩, fun h => by simp at h⟩
        | false =>
          rw [d1, cond_false] at c1
          rw [cond_false]
          cases d2 : decide (x.V.Scope = 1) with
          | true =>
            rw [d2, cond_true] at c1
            rw [cond_true]
            cases d3 : (decide (e.Pid < 0) || decide (((Dz e e.Pid).Frame.length : Int) < CE x.V)) with
            | true => rw [d3, cond_true] at c1; simp at c1
            | false =>
              simp only [Bool.or_eq_false_iff, decide_eq_false_iff_not] at d3
              exact (show Mz e e.Pid n from ⟨fun h => absurd h d3.1, fun _ => ⟨hpid.2, hd.1, by omega⟩⟩)
          | false =>
            rw [d2, cond_false] at c1
            rw [cond_false]
            cases d3 : decide ((ev x.V.Who).2 ≠ 0) with
            | true => rw [d3, cond_true] at c1; rw [d3] at c1; exact absurd c1 (by simp)
            | false =>
              rw [d3, cond_false] at c1
              rw [cond_false]
              cases d4 : (decide ((ev x.V.Who).1 < 0) || (decide ((e.S.Procs.length : Int) ≤ (ev x.V.Who).1) || decide ((Dz e (ev x.V.Who).1).Type_ ≠ x.V.Type_))) with
              | true => rw [d4, cond_true] at c1; simp at c1
              | false =>
                rw [d4, cond_false] at c1
                rw [cond_false]
                simp only [Bool.or_eq_false_iff, decide_eq_false_iff_not] at d4
                cases d5 : decide (((Dz e (ev x.V.Who).1).Frame.length : Int) < CE x.V) with
                | true => rw [d5, cond_true] at c1; simp at c1
                | false =>
                  have := of_decide_eq_false d5
                  exact (show Mz e (ev x.V.Who).1 n from ⟨fun h => absurd h d4.1, fun _ => ⟨by omega, hd.1, by omega⟩⟩)
theorem KS {m : D.Model} {k : Int} {a t : List Int} (h : Bn m k a t = true) : a.length ≤ 8 ∧ t.length = a.length ∧ ∀ x ∈ a, 0 ≤ x ∧ x < k := by
  unfold Bn at h
  simp only [Bool.and_eq_true, decide_eq_true_eq] at h
  exact ⟨h.1.1.1.2, h.1.1.2, WW h.1.2⟩
theorem Zd {m : D.Model} {x : Int} (hx : 0 ≤ x ∧ x < m.Exprs.length) : AD m x ∈ m.Exprs := AF (d := default) (by omega)
theorem ZB {e : D.Env} {x : Int} (hE : Cy e) (hx : 0 ≤ x ∧ x < e.M.Exprs.length) : Len (AD e.M x).Args.length := by
  have := (hE.wf.Exprs.2 _ (Zd hx)).Args.1
  unfold Len; omega
theorem Uw {e : D.Env} {ev : Evl} {x : Int} (hE : Cy e) (hx : 0 ≤ x ∧ x < e.M.Exprs.length) (hok : ZH e.M x (AD e.M x)) (hev : ∀ a, 0 ≤ a → a < x → EvS e a (ev a)) : Ae Tryz.prog 80 [] [.tp (Af e), Ad x] [] (RZ (B5 e ev (AD e.M x))) := by
  refine VW hE hx (hE.wf.Exprs.2 _ (Zd hx)).V (fun ho hs => ?_) (fun ho => ?_) (fun ho d hd => ?_)
  · have hv := Lo (hok.var ho)
    have h1 := hv.scope
    exact hev _ (hv.who (by omega)).1 (hv.who (by omega)).2
  · have hv := Lo (hok.var ho)
    exact ⟨hv.slot.1, hv.slot.2, hv.dims⟩
  · have hv := Lo (hok.var ho)
    exact ⟨(hv.dim d hd).1, hev _ (hv.dim d hd).2.1 (hv.dim d hd).2.2⟩
theorem Wu {e : D.Env} {ev : Evl} {x : Int} (hE : Cy e) (hop : (e.M.Exprs.getD x.toNat default).Op = 2) (hok : ZH e.M x (AD e.M x)) (hsl : Ae Tryz.prog 80 [] [.tp (Af e), Ad x] [] (RZ (B5 e ev (AD e.M x)))) :
    ∃ y : Int × Int × Int, Ae Tryz.prog 80 [] [.tp (Af e), Ad x] [] (RZ y) ∧ ((y.2.2 != 0) = true → leO [] [] ∧ VV.le (.tup [.sc (.int .i64 0), .sc (.int .i64 y.2.2)]) (vII (Da e ev (AD e.M x)))) ∧ ((y.2.2 != 0) = false →
      (decide (y.1 < 0) = true → (0 ≤ y.2.1 ∧ y.2.1 < (e.S.Globals.length : Int)) ∧ leO [] [] ∧ VV.le (.tup [.sc (.int .i64 (e.S.Globals.getD y.2.1.toNat 0)), .sc (.int .i64 0)]) (vII (Da e ev (AD e.M x)))) ∧
      (decide (y.1 < 0) = false → (0 ≤ y.1 ∧ y.1 < (e.S.Procs.length : Int)) ∧ (0 ≤ y.2.1 ∧ y.2.1 < ((e.S.Procs.getD y.1.toNat default).Frame.length : Int)) ∧ leO [] [] ∧ VV.le (.tup [.sc (.int .i64 ((e.S.Procs.getD y.1.toNat default).Frame.getD y.2.1.toNat 0)), .sc (.int .i64 0)]) (vII (Da e ev (AD e.M x))))) := by
  have hop' : (AD e.M x).Op = 2 := hop
  have he : Da e ev (AD e.M x) = Aa4 e ev (AD e.M x) := by unfold Da; rw [hop']; rfl
  rw [he]
  have hin := Uv (e := e) (ev := ev) hE (fun ho => Lo (hok.var ho))
  refine ⟨B5 e ev (AD e.M x), hsl, fun h => Bi (ct (by simpa using h) rfl), fun h => ⟨fun h1 => ?_, fun h1 => ?_⟩⟩
  · have h0 : decide ((B5 e ev (AD e.M x)).2.2 ≠ 0) = false := by simpa using h
    exact ⟨(hin (by simpa using h0)).glob (of_decide_eq_true h1), Bi (cf h0 (ct h1 rfl))⟩
  · have h0 : decide ((B5 e ev (AD e.M x)).2.2 ≠ 0) = false := by simpa using h
    have hi := hin (by simpa using h0)
    have := of_decide_eq_false h1
    exact ⟨⟨by omega, (hi.own (by omega)).1⟩, (hi.own (by omega)).2, Bi (cf h0 (cf h1 rfl))⟩
theorem Xz {e : D.Env} {ev : Evl} {x : Int} (hop : (e.M.Exprs.getD x.toNat default).Op = 36) (h : EvS e (AD e.M x).A (ev (AD e.M x).A)) :
    ∃ y : Int × Int, Ae Tryz.prog 52 [] [.tp (Af e), Ad (AD e.M x).A] [] (vII y) ∧ ((y.2 != 0) = true → leO [] [] ∧ VV.le (.tup [.sc (.int .i64 0), .sc (.int .i64 y.2)]) (vII (Da e ev (AD e.M x)))) ∧ ((y.2 != 0) = false →
      ((true && (bif decide (y.1 ≥ 0) then decide (y.1 < (e.Able.length : Int)) else false) == true) = true → 0 ≤ y.1 ∧ y.1 < (e.Able.length : Int)) ∧
      ∃ y1 : Int × Int, Ae Tryz.prog 84 [] [Ai (bif bif decide (y.1 ≥ 0) then decide (y.1 < (e.Able.length : Int)) else false then e.Able.getD y.1.toNat false else false)] [] (vII y1) ∧ leO [] [] ∧ VV.le (vII y1) (vII (Da e ev (AD e.M x)))) := by
  have hop' : (AD e.M x).Op = 36 := hop
  have he : Da e ev (AD e.M x) = Abf e ev (AD e.M x) := by unfold Da; rw [hop']; rfl
  rw [he]
  refine ⟨_, h, fun h1 => Bi (ct (by simpa using h1) rfl), fun h1 => ⟨fun h2 => ?_, _, Ct, Bi (cf (by simpa using h1) ?_)⟩⟩
  · simp at h2; omega
  · simp only [AS, ge_iff_le, Bool.and_assoc]
theorem YI {o : Int} (h : 1 ≤ o ∧ o ≤ 39) : o = 1 ∨ o = 2 ∨ o = 3 ∨ o = 4 ∨ o = 5 ∨ o = 6 ∨ o = 7 ∨ o = 8 ∨ o = 9 ∨ o = 10 ∨ o = 11 ∨ o = 12 ∨ o = 13 ∨ o = 14 ∨ o = 15 ∨ o = 16 ∨ o = 17 ∨ o = 18 ∨ o = 19 ∨ o = 20 ∨ o = 21 ∨ o = 22 ∨ o = 23 ∨ o = 24 ∨ o = 25 ∨ o = 26 ∨ o = 27 ∨ o = 28 ∨ o = 29 ∨ o = 30 ∨ o = 31 ∨ o = 32 ∨ o = 33 ∨ o = 34 ∨ o = 35 ∨ o = 36 ∨ o = 37 ∨ o = 38 ∨ o = 39 := by omega
set_option maxHeartbeats 4000000 in
theorem NL {e : D.Env} {ev : Evl} {x : Int} (hE : Cy e) (hx : 0 ≤ x ∧ x < e.M.Exprs.length) (hev : ∀ a, 0 ≤ a → a < x → EvS e a (ev a)) : EvS e x (Da e ev (AD e.M x)) := by
  have hxn : ((x.toNat : Nat) : Int) = x := by omega
  have hok : ZH e.M x (AD e.M x) := Aba (by have := hE.expr x.toNat (by omega); rwa [hxn] at this)
  have hsl := Uw hE hx hok hev
  have hA : 1 ≤ AK (AD e.M x).Op → EvS e (AD e.M x).A (ev (AD e.M x).A) := fun h => hev _ (hok.a h).1 (hok.a h).2
  have hB : 2 ≤ AK (AD e.M x).Op → EvS e (AD e.M x).B (ev (AD e.M x).B) := fun h => hev _ (hok.b h).1 (hok.b h).2
  have hC : 3 ≤ AK (AD e.M x).Op → EvS e (AD e.M x).C (ev (AD e.M x).C) := fun h => hev _ (hok.c h).1 (hok.c h).2
  have c1 := fun b => D0 (c := Ag Tryz.prog tb CD CV true Tryz.f52 [] (vII (Da e ev (AD e.M x)))) Am An (by kernel_rfl) (Xh _ _ e (AD e.M x) b)
  have c2 := fun b => D0 (c := Ag Tryz.prog tb CD CV true Tryz.f52 [] (vII (Da e ev (AD e.M x)))) Am An (by kernel_rfl) (Xg _ _ e (AD e.M x) b)
  refine Ah Am An Tryz.func52 (by kernel_rfl) rfl (Ze _ _ e x) ⟨hx, ?_⟩
  rcases YI (o := (AD e.M x).Op) (by have := hok.op; omega) with ho | ho | ho | ho | ho | ho | ho | ho | ho | ho | ho | ho | ho | ho | ho | ho | ho | ho | ho | ho | ho | ho | ho | ho | ho | ho | ho | ho | ho | ho | ho | ho | ho | ho | ho | ho | ho | ho | ho
  all_goals
    have hop : (e.M.Exprs.getD x.toNat default).Op = _ := ho
    repeat (first
      | refine ⟨fun h => absurd h (by (first | rw [hop] | rw [ho]); decide), fun _ => ?_⟩
      | refine ⟨fun _ => ?_, fun h => absurd h (by (first | rw [hop] | rw [ho]); decide)⟩
      | refine c1 _ ?_
      | refine c2 _ ?_)
    first
      | exact Bi (by unfold Da; rw [ho]; rfl)
      | exact ⟨_, M6 (hA (by rw [ho]; decide)) (fun h => absurd (by omega) h), Bi (by unfold Da; rw [ho]; rfl)⟩
      | exact ⟨_, M6 (hA (by rw [ho]; decide)) (fun _ => hB (by rw [ho]; decide)), Bi (by unfold Da; rw [ho]; rfl)⟩
      | exact ⟨_, L5 (hA (by rw [ho]; decide)) (hB (by rw [ho]; decide)) (fun h => absurd h (by rw [ho]; decide)), Bi (by unfold Da; rw [ho]; rfl)⟩
      | exact ⟨_, L5 (hA (by rw [ho]; decide)) (hB (by rw [ho]; decide)) (fun _ => hC (by rw [ho]; decide)), Bi (by unfold Da; rw [ho]; rfl)⟩
      | exact ⟨_, Xw hE (hA (by rw [ho]; decide)), Bi (by unfold Da; rw [ho]; rfl)⟩
      | exact ⟨_, Qt (hA (by rw [ho]; decide)) (ZB hE hx), Bi (by unfold Da; rw [ho]; rfl)⟩
      | exact ⟨_, Ct, Bi (by unfold Da; rw [ho]; rfl)⟩
      | exact ⟨_, MG hE, _, Ct, Bi (by unfold Da; rw [ho]; rfl)⟩
      | exact Wu hE hop hok hsl
      | exact Xz hop (hA (by rw [ho]; decide))
      | exact ⟨_, WE hE (hA (by rw [ho]; decide)) (fun a ha => hev _ ((KS (hok.poll ho)).2.2 a ha).1 ((KS (hok.poll ho)).2.2 a ha).2) (KS (hok.poll ho)).1 (KS (hok.poll ho)).2.1, Bi (by unfold Da; rw [ho]; rfl)⟩
end Go.Proofs.YtiaebjpcgjkhoaaGreatDoor
namespace Go.Proofs.YtiaebjpcgjkhoaaGreatDoor
open Go.RowKit
theorem IE {e : D.Env} (hE : Cy e) : ∀ (n : Nat) (x : Int), 0 ≤ x → x < e.M.Exprs.length → x < n → EvS e x (Re e n x)
  | 0, x, h0, _, h2 => by omega
  | n + 1, x, h0, h1, h2 => NL hE ⟨h0, h1⟩ fun a ha hlt => IE hE n a ha (by omega) (by omega)
theorem M7 {e : D.Env} (hE : Cy e) {x a : Int} (hx : x < e.M.Exprs.length) (h0 : 0 ≤ a) (h1 : a < x) : EvS e a (EA e a) := IE hE _ a h0 (by omega) (by omega)
theorem Tw {e : D.Env} (hE : Cy e) {x : Int} (hx : 0 ≤ x ∧ x < e.M.Exprs.length) : EvS e x (Da e (EA e) (AD e.M x)) := NL hE hx fun _ h0 h1 => M7 hE hx.2 h0 h1
theorem Ds {e : D.Env} (hw : AN e.M) (hs : Bl e.S) (x : Int) : Ae Tryz.prog 51 [] [.agg (Af e), Ad x] [] (Ad (Ck e x)) := by
  refine Ah Am An Tryz.func51 (by kernel_rfl) rfl (Rc _ e x) ⟨_, Gf hw hs (fun h => (OT h).clp), fun h => BJ (ct (by simpa using h) rfl), fun h => ⟨fun h1 => BJ (cf (by simpa using h) (ct ?_ rfl)), fun h1 => BJ (cf (by simpa using h) (cf ?_ rfl))⟩⟩
  · simp only [Bc, ge_iff_le, Bool.or_assoc] at h1; exact h1
  · simp only [Bc, ge_iff_le, Bool.or_assoc] at h1; exact h1
theorem IF {e : D.Env} {x : Int} (hw : AN e.M) (h : Ck e x = 0) : Cy e ∧ 0 ≤ x ∧ x < e.M.Exprs.length := by
  unfold Ck at h
  cases c1 : decide (CG e.M e.S ≠ 0) with
  | true => rw [c1, cond_true] at h; exact absurd h (of_decide_eq_true c1)
  | false =>
    rw [c1, cond_false] at h
    obtain ⟨h1, h2⟩ := IH (show CG e.M e.S = 0 by simpa using c1)
    cases c2 : (decide (e.Pid < -1) || (decide ((e.S.Procs.length : Int) ≤ e.Pid) || (decide (x < 0) || decide ((e.M.Exprs.length : Int) ≤ x)))) with
    | true => rw [c2, cond_true] at h; simp at h
    | false =>
      simp only [Bool.or_eq_false_iff, decide_eq_false_iff_not] at c2
      exact ⟨⟨h2, h1, hw, by omega, by omega⟩, by omega, by omega⟩
theorem Gq {e : D.Env} (hw : AN e.M) (hs : Bl e.S) (x : Int) : Ae Tryz.prog 39 [] [.agg (Af e), Ad x] [] (vII (B6 e x)) := by
  refine Ah Am An Tryz.func39 (by kernel_rfl) rfl (Xk _ _ e x) ⟨_, Ds hw hs x, fun h => Bi (ct (by simpa using h) rfl), fun h => ?_⟩
  obtain ⟨hE, hx⟩ := IF (x := x) hw (by simpa using h)
  exact ⟨_, Tw hE hx, Bi (cf (by simpa using h) rfl)⟩
theorem Gr {e : D.Env} (hw : AN e.M) (hs : Bl e.S) (x : Int) : Ae Tryz.prog 92 [] [.agg (Af e), Ad x] [] (vII (AL e x)) := by
  refine Ah Am An Tryz.func92 (by kernel_rfl) rfl (Xl _ _ e x) ⟨_, Ds hw hs x, fun h => Bi (ct (by simpa using h) rfl), fun h => ?_⟩
  obtain ⟨hE, hx⟩ := IF (x := x) hw (by simpa using h)
  exact ⟨_, Ii (IE hE _ x hx.1 hx.2 hx.2), Bi (cf (by simpa using h) rfl)⟩
end Go.Proofs.YtiaebjpcgjkhoaaGreatDoor
namespace Go.Proofs.YtiaebjpcgjkhoaaGreatDoor
open Go.RowKit
end Go.Proofs.YtiaebjpcgjkhoaaGreatDoor
namespace Go.Proofs.YtiaebjpcgjkhoaaGreatDoor
open Go.RowKit
def OY (t : D.Type) (v : Int) : Int := Ef t.Bits t.Signed v
def setG (m : D.Model) (s : D.State) (k v : Int) : D.State := { s with Globals := s.Globals.set k.toNat (OY (m.Globals.getD k.toNat default) v) }
def AeN (m : D.Model) (p : D.Process) (k v : Int) : D.Process := { p with Frame := p.Frame.set k.toNat (OY ((Bo m p.Type_).Frame.getD k.toNat default) v) }
def setO (m : D.Model) (s : D.State) (who k v : Int) : D.State := { s with Procs := s.Procs.set who.toNat (AeN m (s.Procs.getD who.toNat default) k v) }
def P8 (m : D.Model) (s : D.State) (who k v : Int) : D.State := bif decide (who < 0) then setG m s k v else setO m s who k v
def A5 (e : D.Env) (x v : Int) : D.State × Int :=
  bif decide (Ck e x ≠ 0) then (default, Ck e x)
  else bif decide ((B5 e (EA e) (AD e.M x)).2.2 ≠ 0) then (default, (B5 e (EA e) (AD e.M x)).2.2)
  else (P8 e.M e.S (B5 e (EA e) (AD e.M x)).1 (B5 e (EA e) (AD e.M x)).2.1 v, 0)
theorem MK {α : Type} {l : List α} {i : Nat} {a x : α} (h : x ∈ l.set i a) : x ∈ l ∨ x = a := List.mem_or_eq_of_mem_set h
theorem Fit.setG {s : D.State} (h : Fit s) (m : D.Model) (k v : Int) : Fit (setG m s k v) := ⟨by show (List.set _ _ _).length ≤ _; rw [List.length_set]; exact h.g, h.c, h.q, h.p, h.f⟩
theorem Fit.setO {s : D.State} (h : Fit s) (m : D.Model) (who k v : Int) (hw : who.toNat < s.Procs.length) : Fit (setO m s who k v) := by
  refine ⟨h.g, h.c, h.q, by show (List.set _ _ _).length ≤ _; rw [List.length_set]; exact h.p, fun p hp => ?_⟩
  rcases MK hp with hp | rfl
  · exact h.f p hp
  · show (List.set _ _ _).length ≤ _
    rw [List.length_set]
    exact h.f _ (AF (d := default) hw)
theorem KD : Fit (default : D.State) := ⟨by decide, by decide, fun c hc => (by cases hc), by decide, fun p hp => (by cases hp)⟩
section
variable {e : D.Env} {x : Int}
theorem Abb (hE : Cy e) (h0 : 0 ≤ x) (h1 : x < e.M.Exprs.length) : ZH e.M x (AD e.M x) := by
  have hxn : ((x.toNat : Nat) : Int) = x := by omega
  exact Aba (by have := hE.expr x.toNat (by omega); rwa [hxn] at this)
theorem JO (hE : Cy e) (h0 : 0 ≤ x) (h1 : x < e.M.Exprs.length) {ev : Evl} (h : (B5 e ev (AD e.M x)).2.2 = 0) : Mz e (B5 e ev (AD e.M x)).1 (B5 e ev (AD e.M x)).2.1 :=
  Uv hE (fun ho => Lo ((Abb hE h0 h1).var ho)) h
theorem Sb (hw : AN e.M) (v : Int) : Fit (A5 e x v).1 := by
  unfold A5
  cases c : decide (Ck e x ≠ 0) with
  | true => exact KD
  | false =>
    obtain ⟨hE, h0, h1⟩ := IF (x := x) hw (by simpa using c)
    rw [cond_false]
    cases c2 : decide ((B5 e (EA e) (AD e.M x)).2.2 ≠ 0) with
    | true => exact KD
    | false =>
      rw [cond_false]
      have hs := JO hE h0 h1 (ev := EA e) (by simpa using c2)
      show Fit (P8 _ _ _ _ _)
      unfold P8
      cases c3 : decide ((B5 e (EA e) (AD e.M x)).1 < 0) with
      | true => exact hE.fit.setG _ _ _
      | false =>
        have hn : 0 ≤ (B5 e (EA e) (AD e.M x)).1 := by have := of_decide_eq_false c3; omega
        exact hE.fit.setO _ _ _ _ (by have := hs.own hn; omega)
end
end Go.Proofs.YtiaebjpcgjkhoaaGreatDoor
namespace Go.Proofs.YtiaebjpcgjkhoaaGreatDoor
open Go.RowKit
abbrev P0 : AU := ⟨fun _ => False, fun _ => False⟩
theorem V.keep {w w' : World} {x : VV} {v : Value} (h : V w P0 none x v) (hb : Below w.heap.size w w') : V w' P0 none x v :=
  h.mono hb.size (fun k hk _ => ⟨hb.block k hk, fun h => h⟩) (fun k hk _ => ⟨hb.block k hk, fun h => h⟩) trivial
theorem Ae.at {P : Program} {f : FuncId} {xs : List VV} {r : VV} (h : Ae P f [] xs [] r) {w0 w : World} {vs : Array Value} (hL : EJ w0) (hB : ∀ k, k ∈ G4 → k < w0.heap.size) (hb : Below w0.heap.size w0 w) (hs : CY w P0 none xs vs) :
    Calls P f vs w fun e w' => ∃ v, e = .returned v ∧ Below w.heap.size w w' ∧ V w' P0 none r v :=
  h.start (hL.congr fun k hk => hb.block k (hB k hk)) (fun k hk => Nat.lt_of_lt_of_le (hB k hk) hb.size) hs
theorem LL {w : World} {E : AU} {x y : VV} {u v : Value} (h1 : V w E none x u) (h2 : V w E none y v) : CY w E none [x, y] #[u, v] := by
  refine ⟨rfl, fun j z hz => ?_⟩
  match j, hz with
  | 0, hz => simp only [List.getElem?_cons_zero, Option.some.injEq] at hz; subst hz; exact h1
  | 1, hz => simp only [List.getElem?_cons_succ, List.getElem?_cons_zero, Option.some.injEq] at hz; subst hz; exact h2
  | j + 2, hz => simp at hz
theorem Ls {w : World} {E : AU} {m : Option Phi} {a b c : Int} {v : Value} (h : V w E m (RZ (a, b, c)) v) : v = .tuple #[.int .i64 a, .int .i64 b, .int .i64 c] := by
  cases h with
  | @tup _ _ _ vs h1 h2 =>
    obtain ⟨l⟩ := vs
    match l, h1, h2 with
    | [u0, u1, u2], _, h2 =>
      have e0 : u0 = .int .i64 a := (h2 0 _ rfl).sc_inv
      have e1 : u1 = .int .i64 b := (h2 1 _ rfl).sc_inv
      have e2 : u2 = .int .i64 c := (h2 2 _ rfl).sc_inv
      rw [e0, e1, e2]
theorem AbQ {l : List Value} (h : l.length = 16) : ∃ a0 a1 a2 a3 a4 a5 a6 a7 a8 a9 a10 a11 a12 a13 a14 a15, l = [a0, a1, a2, a3, a4, a5, a6, a7, a8, a9, a10, a11, a12, a13, a14, a15] := by
  match l, h with
  | [a0, a1, a2, a3, a4, a5, a6, a7, a8, a9, a10, a11, a12, a13, a14, a15], _ => exact ⟨_, _, _, _, _, _, _, _, _, _, _, _, _, _, _, _, rfl⟩
def AtT (w : World) (ts : List D.Type) (v : Value) : Prop :=
  AtL w ts.length (fun b off i => w.cell? ⟨b, off + i * 2, none⟩ = some (.int .i64 (ts.getD i default).Bits) ∧ w.cell? ⟨b, off + i * 2 + 1, none⟩ = some (.bool (ts.getD i default).Signed)) v
def AtF (w : World) (ps : List D.Proc) (v : Value) : Prop :=
  AtL w ps.length (fun b off i => ∃ u, w.cell? ⟨b, off + i * 10 + 2, none⟩ = some u ∧ AtT w (ps.getD i default).Frame u) v
section
variable {w w' : World} {E : AU} {m : Option Phi} {v : Value} {fz : Bool}
theorem Ae2 {ts : List D.Type} (h : V w E m (Aj fz ts) v) : AtT w ts v := by
  obtain ⟨ao, cap, rfl, h1, h2, h3⟩ := V.sl_inv h
  refine ⟨ao, cap, rfl, h1, h2, fun hp => ?_⟩
  obtain ⟨b, off, rfl, hb, _, _, u, hc, hv⟩ := h3 hp
  refine ⟨b, off, rfl, hb, fun i hi => ⟨?_, ?_⟩⟩
  · have c1 := hc i 0 _ hi rfl
    have c2 := (hv i 0 _ hi rfl).sc_inv
    rw [c2] at c1
    simpa using c1
  · have c1 := hc i 1 _ hi rfl
    have c2 := (hv i 1 _ hi rfl).sc_inv
    rw [c2] at c1
    simpa using c1
theorem Agy {ps : List D.Proc} (h : V w E m (AA fz ps) v) : AtF w ps v := by
  obtain ⟨ao, cap, rfl, h1, h2, h3⟩ := V.sl_inv h
  refine ⟨ao, cap, rfl, h1, h2, fun hp => ?_⟩
  obtain ⟨b, off, rfl, hb, _, _, u, hc, hv⟩ := h3 hp
  exact ⟨b, off, rfl, hb, fun i hi => ⟨u i 2, hc i 2 _ hi rfl, Ae2 (hv i 2 _ hi rfl)⟩⟩
theorem AtT.below {ts : List D.Type} (h : AtT w ts v) (hb : Below w.heap.size w w') : AtT w' ts v :=
  AtL.map h hb.size fun b off i hl _ hc => ⟨by rw [hb.cell (p := ⟨b, off + i * 2, none⟩) hl]; exact hc.1, by rw [hb.cell (p := ⟨b, off + i * 2 + 1, none⟩) hl]; exact hc.2⟩
theorem AtF.below {ps : List D.Proc} (h : AtF w ps v) (hb : Below w.heap.size w w') : AtF w' ps v :=
  AtL.map h hb.size fun b off i hl _ ⟨u, h1, h2⟩ => ⟨u, by rw [hb.cell (p := ⟨b, off + i * 10 + 2, none⟩) hl]; exact h1, h2.below hb⟩
theorem AtQ.below {q : List (List Int)} (h : AtQ w q v) (hb : Below w.heap.size w w') : AtQ w' q v :=
  AtL.map h hb.size fun b off i hl _ ⟨u, h1, h2⟩ => ⟨u, by rw [hb.cell (p := ⟨b, off + i, none⟩) hl]; exact h1, h2.below hb⟩
theorem AtC.below {cs : List D.Chan} (h : AtC w cs v) (hb : Below w.heap.size w w') : AtC w' cs v :=
  AtL.map h hb.size fun b off i hl _ ⟨u, h0, h1, h2⟩ => ⟨u, by rw [hb.cell (p := ⟨b, off + i * 2, none⟩) hl]; exact h0, by rw [hb.cell (p := ⟨b, off + i * 2 + 1, none⟩) hl]; exact h1, h2.below hb⟩
theorem AtP.below {ps : List D.Process} (h : AtP w ps v) (hb : Below w.heap.size w w') : AtP w' ps v :=
  AtL.map h hb.size fun b off i hl _ ⟨u, h0, h1, h2, h3, h4⟩ => ⟨u, by rw [hb.cell (p := ⟨b, off + i * 4, none⟩) hl]; exact h0, by rw [hb.cell (p := ⟨b, off + i * 4 + 1, none⟩) hl]; exact h1,
    by rw [hb.cell (p := ⟨b, off + i * 4 + 2, none⟩) hl]; exact h2, by rw [hb.cell (p := ⟨b, off + i * 4 + 3, none⟩) hl]; exact h3, h4.below hb⟩
end
structure MA (w : World) (e : D.Env) (c0 c1 c2 c3 c4 c6 c7 c8 c9 c15 : Value) : Prop where
  t : AtT w e.M.Globals c0
  f : AtF w e.M.Procs c4
  g : AtI w e.S.Globals c7
  c : AtC w e.S.Chans c8
  p : AtP w e.S.Procs c9
abbrev IG (e : D.Env) (c0 c1 c2 c3 c4 c6 c7 c8 c9 c15 : Value) : Array Value :=
  #[c0, c1, c2, c3, c4, .int .i64 e.M.Claim, c6, c7, c8, c9, .int .i64 e.S.Last, .int .i64 e.S.Alone, .int .i64 e.S.Claim, .int .i64 e.Pid, .bool e.Timeout, c15]
theorem AaP {w : World} {E : AU} {m : Option Phi} {e : D.Env} {v : Value} (h : V w E m (.agg (Af e)) v) :
    ∃ c0 c1 c2 c3 c4 c6 c7 c8 c9 c15, v = .agg (IG e c0 c1 c2 c3 c4 c6 c7 c8 c9 c15) ∧ MA w e c0 c1 c2 c3 c4 c6 c7 c8 c9 c15 := by
  obtain ⟨vs, rfl, h1, h2⟩ := h.agg_inv
  obtain ⟨l⟩ := vs
  obtain ⟨a0, a1, a2, a3, a4, a5, a6, a7, a8, a9, a10, a11, a12, a13, a14, a15, rfl⟩ := AbQ (l := l) h1
  have e5 : a5 = .int .i64 e.M.Claim := (h2 5 _ rfl).sc_inv
  have e10 : a10 = .int .i64 e.S.Last := (h2 10 _ rfl).sc_inv
  have e11 : a11 = .int .i64 e.S.Alone := (h2 11 _ rfl).sc_inv
  have e12 : a12 = .int .i64 e.S.Claim := (h2 12 _ rfl).sc_inv
  have e13 : a13 = .int .i64 e.Pid := (h2 13 _ rfl).sc_inv
  have e14 : a14 = .bool e.Timeout := (h2 14 _ rfl).sc_inv
  subst e5 e10 e11 e12 e13 e14
  exact ⟨_, _, _, _, _, _, _, _, _, _, rfl, Ae2 (h2 0 _ rfl), Agy (h2 4 _ rfl), Ab7 (h2 7 _ rfl), Agz (h2 8 _ rfl), Agx (h2 9 _ rfl)⟩
end Go.Proofs.YtiaebjpcgjkhoaaGreatDoor
namespace Go.Proofs.YtiaebjpcgjkhoaaGreatDoor
open Go.RowKit
theorem TA {w : World} {b : Nat} {vs : Array Value} {t : TypeId} {cs : List VV} (hb : w.heap[b]? = some (.cells vs t (0, 0))) (h : V w P0 none (.agg cs) (.agg vs)) : V w P0 none (.tp cs) (.pointer (some ⟨b, 0, none⟩)) := by
  obtain ⟨vs', e, h1, h2⟩ := h.agg_inv
  obtain rfl : vs = vs' := by simpa using e
  refine .tp (fun j => vs.getD j undef) (C4 hb) (fun h => h) (fun j x hx => ?_) fun j x hx => h2 j x hx
  have hj : j < vs.size := by rw [h1]; exact (List.getElem?_eq_some_iff.1 hx).1
  rw [Nat.zero_add]
  exact AG hb (by simp [Array.getD, hj])
theorem JP {w : World} {b : Nat} {u0 u1 u2 u3 u4 u5 : Value} {t : TypeId} (h : w.heap[b]? = some (.cells #[u0, u1, u2, u3, u4, u5] t (0, 0))) :
    w.cell? ⟨b, 0, none⟩ = some u0 ∧ w.cell? ⟨b, 1, none⟩ = some u1 ∧ w.cell? ⟨b, 2, none⟩ = some u2 ∧ w.cell? ⟨b, 3, none⟩ = some u3 ∧ w.cell? ⟨b, 4, none⟩ = some u4 ∧ w.cell? ⟨b, 5, none⟩ = some u5 ∧
    w.frozen? ⟨b, 0, none⟩ = false ∧ w.frozen? ⟨b, 1, none⟩ = false ∧ w.frozen? ⟨b, 2, none⟩ = false ∧ w.frozen? ⟨b, 3, none⟩ = false ∧ w.frozen? ⟨b, 4, none⟩ = false ∧ w.frozen? ⟨b, 5, none⟩ = false :=
  ⟨AG h rfl, AG h rfl, AG h rfl, AG h rfl, AG h rfl, AG h rfl, BC h, BC h, BC h, BC h, BC h, BC h⟩
theorem Ge (w : World) (A Z : Obj) : ((w.alloc A).alloc Z).heap[w.heap.size]? = some A ∧ ((w.alloc A).alloc Z).heap[w.heap.size + 1]? = some Z ∧ ((w.alloc A).alloc Z).heap.size = w.heap.size + 1 + 1 ∧ Below w.heap.size w ((w.alloc A).alloc Z) := by
  refine ⟨?_, ?_, by simp, ((Below.refl _ w).alloc (Nat.le_refl _) _).alloc (by simp) _⟩
  · rw [Below.heap_alloc _ _ _ (by simp)]; exact heap_alloc_new w A
  · have := heap_alloc_new (w.alloc A) Z; simpa using this
def D2 (w : World) (n0 : Nat) (s : D.State) (vs : Array Value) : Prop :=
  ∃ vg vc vp qs fs, vs = #[vg, vc, vp, .int .i64 s.Last, .int .i64 s.Alone, .int .i64 s.Claim] ∧ Gz w n0 vg s.Globals ∧ EG w n0 vc qs s.Chans ∧ DL w n0 vp fs s.Procs
theorem D2.zero (w : World) (n0 : Nat) : D2 w n0 default #[.slice none 0 0, .slice none 0 0, .slice none 0 0, .int .i64 0, .int .i64 0, .int .i64 0] :=
  ⟨_, _, _, [], [], rfl, World.ownsRow_nil _ _ _ _, EG.nil _ _, DL.nil _ _⟩
theorem D2.base {w : World} {n0 n1 : Nat} {s : D.State} {vs : Array Value} (h : D2 w n0 s vs) (hb : n1 ≤ n0) : D2 w n1 s vs := by
  obtain ⟨vg, vc, vp, qs, fs, rfl, h1, h2, h3⟩ := h
  exact ⟨vg, vc, vp, qs, fs, rfl, BV h1 hb, ⟨BV h2.row hb, h2.len, fun i u c a b => let ⟨vs, hq⟩ := h2.each i u c a b; ⟨vs, hq.base hb⟩⟩, ⟨BV h3.row hb, h3.len, fun i u p a b => BV (h3.each i u p a b) hb, h3.apart⟩⟩
theorem D2.aside {w w' : World} {b B : Nat} {s : D.State} {vs : Array Value} (h : D2 w B s vs) (hb : b < B) (hT : BU w w' (fun k => k = b)) : D2 w' B s vs := by
  obtain ⟨vg, vc, vp, qs, fs, rfl, h1, h2, h3⟩ := h
  have hk : ∀ k, B ≤ k → k < w.heap.size → w'.heap[k]? = w.heap[k]? := fun k h0 h1 => hT.block k h1 fun e => by have e : k = b := e; omega
  exact ⟨vg, vc, vp, qs, fs, rfl, BS (ts := [Di]) h1 (B4.of hk) (by simp), h2.kept (ts := [Dg, Fc, Di]) (B4.of hk) (by simp) (by simp) (by simp), h3.kept (ts := [Dw, Di]) (B4.of hk) (by simp) (by simp)⟩
def IW (w : World) (e : D.Env) (x v : Int) (r : Ending) (w' : World) : Prop :=
  ∃ vs, r = .returned (.tuple #[.agg vs, .int .i64 (A5 e x v).2]) ∧ D2 w' w.heap.size (A5 e x v).1 vs ∧ Below w.heap.size w w'
theorem LG {e : D.Env} {x : Int} (hw : AN e.M) (h : Ck e x = 0) : Ae Tryz.prog 80 [] [.tp (Af e), Ad x] [] (RZ (B5 e (EA e) (AD e.M x))) := by
  obtain ⟨hE, hx⟩ := IF hw h
  exact Uw hE hx (Abb hE hx.1 hx.2) fun a h0 h1 => M7 hE hx.2 h0 h1
abbrev AaQ : TypeId := 36
set_option maxRecDepth 100000 in
set_option maxHeartbeats 4000000 in
theorem VN {w : World} {e : D.Env} {x v : Int} {c0 c1 c2 c3 c4 c6 c7 c8 c9 c15 : Value} (hw : AN e.M) (hs : Bl e.S) (hL : EJ w) (hB : ∀ k, k ∈ G4 → k < w.heap.size)
    (hV : V w P0 none (.agg (Af e)) (.agg (IG e c0 c1 c2 c3 c4 c6 c7 c8 c9 c15))) (hbad : Ck e x ≠ 0) :
    Calls Tryz.prog 63 #[.agg (IG e c0 c1 c2 c3 c4 c6 c7 c8 c9 c15), .int .i64 x, .int .i64 v] w (IW w e x v) := by
  have HQ : Hid (A5 e x v = (default, Ck e x)) := by unfold Hid A5; rw [decide_eq_true hbad, cond_true]
  have HC := Lib.hid (Ds hw hs x)
  have hne : (Ck e x == 0) = false := by simpa using hbad
  clear hbad
  unfold IG at hV ⊢
  go_enter Tryz.func63, Tryz.ntmps63
  obtain ⟨B0, B1, B2, BB⟩ := Ge w (.cells #[c0, c1, c2, c3, c4, .int .i64 e.M.Claim, c6, c7, c8, c9, .int .i64 e.S.Last, .int .i64 e.S.Alone, .int .i64 e.S.Claim, .int .i64 e.Pid, .bool e.Timeout, c15] AaQ (0, 0)) (.cells #[.slice none 0 0, .slice none 0 0, .slice none 0 0, .int .i64 0, .int .i64 0, .int .i64 0] BG (0, 0))
  go_wp2_with (go_at_call 51; refine (HC.out.at hL hB BB (LL (hV.keep BB) .sc)).mono ?_; rintro r w1 ⟨u, rfl, hb1, hu⟩; obtain rfl := hu.sc_inv; have Z1 := (hb1.block _ (by omega)).trans B1; obtain ⟨d0, d1, d2, d3, d4, d5, g0, g1, g2, g3, g4, g5⟩ := JP Z1)
  have hres := JC Z1 (.slice none 0 0) (.slice none 0 0) (.slice none 0 0) (.int .i64 0) (.int .i64 0) (.int .i64 0)
  have hT := FR (w := w1) (b := w.heap.size + 1) (.slice none 0 0) (.slice none 0 0) (.slice none 0 0) (.int .i64 0) (.int .i64 0) (.int .i64 0)
  refine Hy rfl rfl hres Tryz.underlying33 rfl (by kernel_rfl) rfl ?_
  generalize (((((((w1.setCell ⟨w.heap.size + 1, 0, none⟩ (.slice none 0 0)).setCell ⟨w.heap.size + 1, 1, none⟩ (.slice none 0 0)).setCell ⟨w.heap.size + 1, 2, none⟩ (.slice none 0 0)).setCell ⟨w.heap.size + 1, 3, none⟩ (.int .i64 0)).setCell ⟨w.heap.size + 1, 4, none⟩ (.int .i64 0)).setCell ⟨w.heap.size + 1, 5, none⟩ (.int .i64 0))) = wz at *
  have hBz : Below w.heap.size w w1 := BB.trans (hb1.mono (by omega))
  refine ⟨_, by rw [HQ.out]; rfl, by rw [HQ.out]; exact D2.zero _ _, hBz.trans (hT.below hBz.size fun j hj => by have hj : j = w.heap.size + 1 := hj; omega)⟩
set_option maxRecDepth 100000 in
set_option maxHeartbeats 4000000 in
theorem R7 {w : World} {e : D.Env} {x v : Int} {c0 c1 c2 c3 c4 c6 c7 c8 c9 c15 : Value} (hw : AN e.M) (hs : Bl e.S) (hL : EJ w) (hB : ∀ k, k ∈ G4 → k < w.heap.size)
    (hV : V w P0 none (.agg (Af e)) (.agg (IG e c0 c1 c2 c3 c4 c6 c7 c8 c9 c15))) (hgood : Ck e x = 0) (hbad : (B5 e (EA e) (AD e.M x)).2.2 ≠ 0) :
    Calls Tryz.prog 63 #[.agg (IG e c0 c1 c2 c3 c4 c6 c7 c8 c9 c15), .int .i64 x, .int .i64 v] w (IW w e x v) := by
  have HQ : Hid (A5 e x v = (default, (B5 e (EA e) (AD e.M x)).2.2)) := by unfold Hid A5; rw [decide_eq_false (by omega), cond_false, decide_eq_true hbad, cond_true]
  have HC := Lib.hid (Ds hw hs x)
  have HS := Lib.hid (LG hw hgood)
  generalize B5 e (EA e) (AD e.M x) = sv at HQ HS hbad
  obtain ⟨who, k, err⟩ := sv
  have hne : (err == 0) = false := by simpa using hbad
  change Hid (A5 e x v = (default, err)) at HQ
  clear hbad
  unfold IG at hV ⊢
  rw [hgood] at HC
  go_enter Tryz.func63, Tryz.ntmps63
  obtain ⟨B0, B1, B2, BB⟩ := Ge w (.cells #[c0, c1, c2, c3, c4, .int .i64 e.M.Claim, c6, c7, c8, c9, .int .i64 e.S.Last, .int .i64 e.S.Alone, .int .i64 e.S.Claim, .int .i64 e.Pid, .bool e.Timeout, c15] AaQ (0, 0)) (.cells #[.slice none 0 0, .slice none 0 0, .slice none 0 0, .int .i64 0, .int .i64 0, .int .i64 0] BG (0, 0))
  go_wp2_with (first
    | (go_at_call 51; refine (HC.out.at hL hB BB (LL (hV.keep BB) .sc)).mono ?_; rintro r w1 ⟨u, rfl, hb1, hu⟩; obtain rfl := hu.sc_inv; have Z0 := (hb1.block _ (by omega)).trans B0; have Z1 := (hb1.block _ (by omega)).trans B1; have BW := BB.trans (hb1.mono (by omega)))
    | (go_at_call 80; refine (HS.out.at hL hB BW (LL (TA Z0 (hV.keep BW)) .sc)).mono ?_; rintro r w2 ⟨u, rfl, hb2, hu⟩; obtain rfl := Ls hu; have Y1 := (hb2.block _ (C4 Z1)).trans Z1; obtain ⟨d0, d1, d2, d3, d4, d5, g0, g1, g2, g3, g4, g5⟩ := JP Y1))
  have hres := JC Y1 (.slice none 0 0) (.slice none 0 0) (.slice none 0 0) (.int .i64 0) (.int .i64 0) (.int .i64 0)
  have hT := FR (w := w2) (b := w.heap.size + 1) (.slice none 0 0) (.slice none 0 0) (.slice none 0 0) (.int .i64 0) (.int .i64 0) (.int .i64 0)
  refine Hy rfl rfl hres Tryz.underlying33 rfl (by kernel_rfl) rfl ?_
  generalize (((((((w2.setCell ⟨w.heap.size + 1, 0, none⟩ (.slice none 0 0)).setCell ⟨w.heap.size + 1, 1, none⟩ (.slice none 0 0)).setCell ⟨w.heap.size + 1, 2, none⟩ (.slice none 0 0)).setCell ⟨w.heap.size + 1, 3, none⟩ (.int .i64 0)).setCell ⟨w.heap.size + 1, 4, none⟩ (.int .i64 0)).setCell ⟨w.heap.size + 1, 5, none⟩ (.int .i64 0))) = wz at *
  have hBz : Below w.heap.size w w2 := BW.trans (hb2.mono BW.size)
  refine ⟨_, by rw [HQ.out]; rfl, by rw [HQ.out]; exact D2.zero _ _, hBz.trans (hT.below hBz.size fun j hj => by have hj : j = w.heap.size + 1 := hj; omega)⟩
end Go.Proofs.YtiaebjpcgjkhoaaGreatDoor
namespace Go.Proofs.YtiaebjpcgjkhoaaGreatDoor
open Go.RowKit
section
variable {w w4 w' w5 : World} {s : D.State} {vg vc vp : Value} {n1 g gcap kn : Nat} {qs fs : List Value}
theorem Rs.kept5 (h : Rs w w4 w' s vg vc vp n1 qs fs) (hk : ∀ k, w.heap.size ≤ k → k < w'.heap.size → w5.heap[k]? = w'.heap[k]?) (ts : List TypeId) : B4 w4 w5 n1 ts := fun k cur t h0 h1 hc _ => by
  have e := h.kept k h0 h1
  exact (hk k (Nat.le_trans h.n0 h0) (C4 (e.trans hc))).trans e
theorem Xo (h : Rs w w4 w' s (.slice (some ⟨g, 0, none⟩) s.Globals.length gcap) vc vp n1 qs fs) (hk : ∀ k, w.heap.size ≤ k → k < w'.heap.size → w5.heap[k]? = w'.heap[k]?) (x : Int) :
    D2 (w5.setCell ⟨g, kn, none⟩ (.int .i64 x)) w.heap.size { s with Globals := s.Globals.set kn x } #[.slice (some ⟨g, 0, none⟩) s.Globals.length gcap, vc, vp, .int .i64 s.Last, .int .i64 s.Alone, .int .i64 s.Claim] := by
  have hn0 := h.n0
  have hn2 := h.n2
  have hg := h.g1 g rfl
  have low : ∀ {qs : List Value} {v : Value} {cs : List D.Chan} {w' : World}, EG w' n1 v qs cs → EG w' w.heap.size v qs cs := fun h2 => ⟨BV h2.row hn0, h2.len, fun i u c a b => let ⟨vs, hq⟩ := h2.each i u c a b; ⟨vs, hq.base hn0⟩⟩
  have lowp : ∀ {fs : List Value} {v : Value} {ps : List D.Process} {w' : World}, DL w' w4.heap.size v fs ps → DL w' w.heap.size v fs ps := fun h3 => ⟨BV h3.row (by omega), h3.len, fun i u p a b => BV (h3.each i u p a b) (by omega), h3.apart⟩
  refine ⟨_, _, _, qs, fs, rfl, ?_, low ?_, lowp ?_⟩
  · have h1 := Uy (k := kn) (BS (ts := [Di]) h.g (B4.of hk) (by simp)) x
    rwa [List.length_set] at h1
  · exact ((h.c.kept (h.kept5 hk [Dg, Fc, Di]) (by simp) (by simp) (by simp)).kept (ts := [Dg, Fc, Di]) (B4.low hg) (by simp) (by simp) (by simp))
  · exact ((h.p.kept (ts := [Dw, Di]) (B4.of fun k h0 h1 => hk k (by omega) h1) (by simp) (by simp)).kept (ts := [Dw, Di]) (B4.low (by omega)) (by simp) (by simp))
theorem Xn {i : Nat} (h : Rs w w4 w' s vg vc vp n1 qs fs) (hi : i < s.Procs.length) (hf : fs[i]? = some (.slice (some ⟨g, 0, none⟩) (s.Procs.getD i default).Frame.length gcap)) (hk : ∀ k, w.heap.size ≤ k → k < w'.heap.size → w5.heap[k]? = w'.heap[k]?) (x : Int) :
    D2 (w5.setCell ⟨g, kn, none⟩ (.int .i64 x)) w.heap.size { s with Procs := s.Procs.set i { s.Procs.getD i default with Frame := (s.Procs.getD i default).Frame.set kn x } } #[vg, vc, vp, .int .i64 s.Last, .int .i64 s.Alone, .int .i64 s.Claim] := by
  have hn0 := h.n0
  have hn2 := h.n2
  have hP : DL w5 w4.heap.size vp fs s.Procs := h.p.kept (ts := [Dw, Di]) (B4.of fun k h0 h1 => hk k (by omega) h1) (by simp) (by simp)
  have hg := ((h.p.each i _ (s.Procs.getD i default) hf (by simp [List.getD, hi])).lt g rfl).1
  have low : ∀ {qs : List Value} {v : Value} {cs : List D.Chan} {w' : World}, EG w' n1 v qs cs → EG w' w.heap.size v qs cs := fun h2 => ⟨BV h2.row hn0, h2.len, fun i u c a b => let ⟨vs, hq⟩ := h2.each i u c a b; ⟨vs, hq.base hn0⟩⟩
  have lowp : ∀ {fs : List Value} {v : Value} {ps : List D.Process} {w' : World}, DL w' w4.heap.size v fs ps → DL w' w.heap.size v fs ps := fun h3 => ⟨BV h3.row (by omega), h3.len, fun i u p a b => BV (h3.each i u p a b) (by omega), h3.apart⟩
  refine ⟨_, _, _, qs, fs, rfl, ?_, low ?_, lowp ?_⟩
  · refine C3 (BS (ts := [Di]) h.g (B4.of hk) (by simp)) fun k e => Below.heap_setCell _ _ _ _ ?_
    have := h.g1 k e
    simp; omega
  · exact (h.c.kept (ts := [Dg, Fc, Di]) (fun k cur t h0 h1 hc ht => (Below.heap_setCell _ _ _ _ (by simp; omega)).trans (h.kept5 hk [Dg, Fc, Di] k cur t h0 h1 hc ht)) (by simp) (by simp) (by simp))
  · exact (DL.write hP hi hf x)
end
end Go.Proofs.YtiaebjpcgjkhoaaGreatDoor
namespace Go.Proofs.YtiaebjpcgjkhoaaGreatDoor
open Go.RowKit
theorem MA.below {w w' : World} {e : D.Env} {c0 c1 c2 c3 c4 c6 c7 c8 c9 c15 : Value} (h : MA w e c0 c1 c2 c3 c4 c6 c7 c8 c9 c15) (hb : Below w.heap.size w w') : MA w' e c0 c1 c2 c3 c4 c6 c7 c8 c9 c15 :=
  ⟨h.t.below hb, h.f.below hb, h.g.below hb, h.c.below hb, h.p.below hb⟩
theorem VM {w w2 w6 w7 : World} {e : D.Env} {x v : Int} {kn : Nat} {ty : D.Type} {vs : Array Value} (HQ : Hid (A5 e x v = (setG e.M e.S kn v, 0))) (HTY : Hid (e.M.Globals.getD kn default = ty))
    (HV : Hid (D2 w6 w2.heap.size { e.S with Globals := e.S.Globals.set kn (Ef ty.Bits ty.Signed v) } vs)) (HB : Below w.heap.size w w6)
    (hT : BU w6 w7 (fun k => k = w.heap.size + 1)) (hr : w.heap.size + 1 < w2.heap.size) : IW w e x v (.returned (.tuple #[.agg vs, .int .i64 0])) w7 := by
  refine ⟨vs, by rw [HQ.out], ?_, HB.trans (hT.below HB.size fun j hj => by have hj : j = w.heap.size + 1 := hj; omega)⟩
  rw [HQ.out]
  have e1 : setG e.M e.S kn v = { e.S with Globals := e.S.Globals.set kn (Ef ty.Bits ty.Signed v) } := by
    unfold setG OY
    rw [show ((kn : Nat) : Int).toNat = kn by omega, HTY.out]
  rw [e1]
  exact (D2.aside (b := w.heap.size + 1) (B := w2.heap.size) HV.out hr hT).base (by omega)
set_option maxRecDepth 100000 in
set_option maxHeartbeats 4000000 in
theorem R9 {w : World} {e : D.Env} {x v who k : Int} {c0 c1 c2 c3 c4 c6 c7 c8 c9 c15 : Value} (hw : AN e.M) (hs : Bl e.S) (hL : EJ w) (hB : ∀ k, k ∈ G4 → k < w.heap.size)
    (hV : V w P0 none (.agg (Af e)) (.agg (IG e c0 c1 c2 c3 c4 c6 c7 c8 c9 c15))) (hat : MA w e c0 c1 c2 c3 c4 c6 c7 c8 c9 c15) (hgood : Ck e x = 0) (hsl : B5 e (EA e) (AD e.M x) = (who, k, 0)) (hwho : who < 0) :
    Calls Tryz.prog 63 #[.agg (IG e c0 c1 c2 c3 c4 c6 c7 c8 c9 c15), .int .i64 x, .int .i64 v] w (IW w e x v) := by
  have HQ : Hid (A5 e x v = (setG e.M e.S k v, 0)) := by
    unfold Hid A5 P8
    rw [decide_eq_false (by omega), cond_false, hsl]
    show (bif decide ((0 : Int) ≠ 0) then _ else _) = _
    rw [decide_eq_false (by simp), cond_false, decide_eq_true hwho, cond_true]
  have HC := Lib.hid (Ds hw hs x)
  have HS := Lib.hid (LG hw hgood)
  obtain ⟨hE, hx0, hx1⟩ := IF hw hgood
  have hin := (JO hE hx0 hx1 (ev := EA e) (by rw [hsl])).glob (by rw [hsl]; exact hwho)
  have hfit := hE.fit
  have htl : e.S.Globals.length = e.M.Globals.length := EP hE.globals.2
  rw [hsl] at hin HS
  change 0 ≤ k ∧ k < e.S.Globals.length at hin
  obtain ⟨kn, rfl⟩ : ∃ kn : Nat, k = kn := ⟨k.toNat, by omega⟩
  have hkn : kn < e.S.Globals.length := by omega
  have hkt : kn < e.M.Globals.length := by omega
  obtain ⟨tb, toff, tcap, rfl, ht1, ht2, htb, htc⟩ : ∃ b off cap, c0 = .slice (some ⟨b, off, none⟩) e.M.Globals.length cap ∧ e.M.Globals.length ≤ cap ∧ cap ≤ maxLen ∧ b < w.heap.size ∧ ∀ i, i < e.M.Globals.length → w.cell? ⟨b, off + i * 2, none⟩ = some (.int .i64 (e.M.Globals.getD i default).Bits) ∧ w.cell? ⟨b, off + i * 2 + 1, none⟩ = some (.bool (e.M.Globals.getD i default).Signed) := by
    obtain ⟨ao, cap, rfl, h1, h2, h3⟩ := hat.t
    obtain ⟨b, off, rfl, h4, h5⟩ := h3 (by omega)
    exact ⟨b, off, cap, rfl, h1, h2, h4, h5⟩
  obtain ⟨ty0, ty1⟩ := htc kn hkt
  obtain ⟨ty, hty⟩ : ∃ ty, e.M.Globals.getD kn default = ty := ⟨_, rfl⟩
  rw [hty] at ty0 ty1
  have HTY := Lib.hid hty
  clear hty
  have HTL := Lib.hid htl
  clear htc htl
  clear hin hsl hE
  unfold IG at hV ⊢
  rw [hgood] at HC
  go_enter Tryz.func63, Tryz.ntmps63
  obtain ⟨B0, B1, B2, BB⟩ := Ge w (.cells #[.slice (some ⟨tb, toff, none⟩) e.M.Globals.length tcap, c1, c2, c3, c4, .int .i64 e.M.Claim, c6, c7, c8, c9, .int .i64 e.S.Last, .int .i64 e.S.Alone, .int .i64 e.S.Claim, .int .i64 e.Pid, .bool e.Timeout, c15] AaQ (0, 0)) (.cells #[.slice none 0 0, .slice none 0 0, .slice none 0 0, .int .i64 0, .int .i64 0, .int .i64 0] BG (0, 0))
  go_wp2_with (first
    | (go_at_call 51; refine (HC.out.at hL hB BB (LL (hV.keep BB) .sc)).mono ?_; rintro r w1 ⟨u, rfl, hb1, hu⟩; obtain rfl := hu.sc_inv; have Z0 := (hb1.block _ (by omega)).trans B0; have Z1 := (hb1.block _ (by omega)).trans B1; have BW := BB.trans (hb1.mono (by omega)))
    | (go_at_call 80; refine (HS.out.at hL hB BW (LL (TA Z0 (hV.keep BW)) .sc)).mono ?_; rintro r w2 ⟨u, rfl, hb2, hu⟩; obtain rfl := Ls hu; have Y0 := (hb2.block _ (C4 Z0)).trans Z0; have Y1 := (hb2.block _ (C4 Z1)).trans Z1; have BX := BW.trans (hb2.mono BW.size); have s7 : w2.cell? ⟨w.heap.size, 7, none⟩ = some c7 := AG Y0 rfl; have s8 : w2.cell? ⟨w.heap.size, 8, none⟩ = some c8 := AG Y0 rfl; have s9 : w2.cell? ⟨w.heap.size, 9, none⟩ = some c9 := AG Y0 rfl; have s10 : w2.cell? ⟨w.heap.size, 10, none⟩ = some (.int .i64 e.S.Last) := AG Y0 rfl; have s11 : w2.cell? ⟨w.heap.size, 11, none⟩ = some (.int .i64 e.S.Alone) := AG Y0 rfl; have s12 : w2.cell? ⟨w.heap.size, 12, none⟩ = some (.int .i64 e.S.Claim) := AG Y0 rfl)
    | (go_at_call 19; refine (Me hfit (hat.below BX).g (hat.below BX).c (hat.below BX).p).mono ?_; rintro r w3 ⟨vg, vc, vp, n1, qs, fs, w4, rfl, hcp⟩; obtain ⟨ag, gcap, rfl, hg1, hg2, hg3⟩ := CH hcp.g; obtain ⟨ac, ccap, rfl, _⟩ := CH hcp.c.row; obtain ⟨ap, pcap, rfl, _⟩ := CH hcp.p.row))
  have hz3 := hcp.below.size
  have hz2 := BX.size
  have hsz0 := C4 Y1
  obtain ⟨g, rfl, hgb, hgl, hgc⟩ := hg3 (by omega)
  obtain ⟨gcur, hgk⟩ := C1 hcp.g (k := g) rfl
  have hgn := hcp.g1 g rfl
  have K0 := (Below.heap_alloc w3 (.cells #[.slice (some ⟨g, 0, none⟩) e.S.Globals.length gcap, .slice ac e.S.Chans.length ccap, .slice ap e.S.Procs.length pcap, .int .i64 e.S.Last, .int .i64 e.S.Alone, .int .i64 e.S.Claim] BG (0, 0)) _ (by omega)).trans ((hcp.below.block _ (C4 Y0)).trans Y0)
  have K1 := (Below.heap_alloc w3 (.cells #[.slice (some ⟨g, 0, none⟩) e.S.Globals.length gcap, .slice ac e.S.Chans.length ccap, .slice ap e.S.Procs.length pcap, .int .i64 e.S.Last, .int .i64 e.S.Alone, .int .i64 e.S.Claim] BG (0, 0)) _ (by omega)).trans ((hcp.below.block _ (C4 Y1)).trans Y1)
  have K2 := heap_alloc_new w3 (.cells #[.slice (some ⟨g, 0, none⟩) e.S.Globals.length gcap, .slice ac e.S.Chans.length ccap, .slice ap e.S.Procs.length pcap, .int .i64 e.S.Last, .int .i64 e.S.Alone, .int .i64 e.S.Claim] BG (0, 0))
  have KB : Below w3.heap.size w3 (w3.alloc (.cells #[.slice (some ⟨g, 0, none⟩) e.S.Globals.length gcap, .slice ac e.S.Chans.length ccap, .slice ap e.S.Procs.length pcap, .int .i64 e.S.Last, .int .i64 e.S.Alone, .int .i64 e.S.Claim] BG (0, 0))) := (Below.refl _ w3).alloc (Nat.le_refl _) _
  have KZ : (w3.alloc (.cells #[.slice (some ⟨g, 0, none⟩) e.S.Globals.length gcap, .slice ac e.S.Chans.length ccap, .slice ap e.S.Procs.length pcap, .int .i64 e.S.Last, .int .i64 e.S.Alone, .int .i64 e.S.Claim] BG (0, 0))).heap.size = w3.heap.size + 1 := by simp
  generalize w3.alloc (.cells #[.slice (some ⟨g, 0, none⟩) e.S.Globals.length gcap, .slice ac e.S.Chans.length ccap, .slice ap e.S.Procs.length pcap, .int .i64 e.S.Last, .int .i64 e.S.Alone, .int .i64 e.S.Claim] BG (0, 0)) = wd at *
  have BD : Below w.heap.size w wd := (BX.trans (hcp.below.mono hz2)).trans (KB.mono (by omega))
  rw [← BD.cell (p := ⟨tb, toff + kn * 2, none⟩) htb] at ty0
  rw [← BD.cell (p := ⟨tb, toff + kn * 2 + 1, none⟩) htb] at ty1
  have x0 : wd.cell? ⟨w.heap.size, 0, none⟩ = some (.slice (some ⟨tb, toff, none⟩) e.M.Globals.length tcap) := AG K0 rfl
  have x1 : wd.cell? ⟨w3.heap.size, 0, none⟩ = some (.slice (some ⟨g, 0, none⟩) e.S.Globals.length gcap) := AG K2 rfl
  have hgw : wd.heap[g]? = some (.cells gcur Di (0, 0)) := (KB.block _ hgl).trans hgk
  have xg : wd.cell? ⟨g, kn, none⟩ = some (.int .i64 (e.S.Globals.getD kn 0)) := by
    rw [KB.cell (p := ⟨g, kn, none⟩) hgl, hgc kn (by omega)]; simp [List.getD, hkn]
  have hgd : g < wd.heap.size := by omega
  have hsd : w3.heap.size < wd.heap.size := by omega
  have hsg : w3.heap.size ≠ (⟨g, kn, none⟩ : Addr).block := by simp; omega
  have hrg : w.heap.size + 1 ≠ (⟨g, kn, none⟩ : Addr).block := by simp; omega
  have hrd : w.heap.size + 1 < wd.heap.size := by omega
  have hng : w.heap.size ≤ (⟨g, kn, none⟩ : Addr).block := by simp; omega
  have hrw : w.heap.size + 1 < w2.heap.size := hsz0
  clear s7 s8 s9 s10 s11 s12 hgc hg3
  have hg2' := hg2
  have ht2' := ht2
  unfold maxLen at hg2' ht2'
  go_region_with (go_at_call 91; (with_reducible refine (Abu _ _ _ _).mono ?_); rintro r w5 ⟨rfl, hb5⟩; have hb5' : Below wd.heap.size wd w5 := ⟨hb5.os, hb5.tape, hb5.output, hb5.size, hb5.block⟩; have x5 : w5.cell? ⟨g, kn, none⟩ = _ := (hb5'.cell (p := ⟨g, kn, none⟩) hgd).trans xg; have y1 : w5.cell? ⟨w3.heap.size, 0, none⟩ = _ := (hb5'.cell (p := ⟨w3.heap.size, 0, none⟩) hsd).trans x1; have f5 : w5.frozen? ⟨g, kn, none⟩ = false := BC ((hb5'.block _ hgd).trans hgw))
  all_goals
    have L0 : (w5.setCell ⟨g, kn, none⟩ (.int .i64 (Ef ty.Bits ty.Signed v))).heap[w3.heap.size]? = _ := (Below.heap_setCell _ _ _ _ hsg).trans ((hb5'.block _ hsd).trans K2)
    have L1 : (w5.setCell ⟨g, kn, none⟩ (.int .i64 (Ef ty.Bits ty.Signed v))).heap[w.heap.size + 1]? = _ := (Below.heap_setCell _ _ _ _ hrg).trans ((hb5'.block _ hrd).trans K1)
    have HV : Hid (D2 (w5.setCell ⟨g, kn, none⟩ (.int .i64 (Ef ty.Bits ty.Signed v))) w2.heap.size { e.S with Globals := e.S.Globals.set kn (Ef ty.Bits ty.Signed v) } #[.slice (some ⟨g, 0, none⟩) e.S.Globals.length gcap, .slice ac e.S.Chans.length ccap, .slice ap e.S.Procs.length pcap, .int .i64 e.S.Last, .int .i64 e.S.Alone, .int .i64 e.S.Claim]) :=
      Xo hcp (fun k h0 h1 => (hb5'.block k (by omega)).trans (KB.block k h1)) _
    have HB : Below w.heap.size w (w5.setCell ⟨g, kn, none⟩ (.int .i64 (Ef ty.Bits ty.Signed v))) := (BD.trans (hb5'.mono (by omega))).setCell (p := ⟨g, kn, none⟩) hng _
    obtain ⟨t0, t1, t2, t3, t4, t5, -⟩ := JP L0
    obtain ⟨d0, d1, d2, d3, d4, d5, g0, g1, g2, g3, g4, g5⟩ := JP L1
    clear x5 y1 f5 hb5 hb5'
    generalize w5.setCell ⟨g, kn, none⟩ (.int .i64 (Ef ty.Bits ty.Signed v)) = w6 at *
    go_wp2
    have hres := JC L1 (.slice (some ⟨g, 0, none⟩) e.S.Globals.length gcap) (.slice ac e.S.Chans.length ccap) (.slice ap e.S.Procs.length pcap) (.int .i64 e.S.Last) (.int .i64 e.S.Alone) (.int .i64 e.S.Claim)
    have hT := FR (w := w6) (b := w.heap.size + 1) (.slice (some ⟨g, 0, none⟩) e.S.Globals.length gcap) (.slice ac e.S.Chans.length ccap) (.slice ap e.S.Procs.length pcap) (.int .i64 e.S.Last) (.int .i64 e.S.Alone) (.int .i64 e.S.Claim)
    refine Hy rfl rfl hres Tryz.underlying33 rfl (by kernel_rfl) rfl ?_
    exact VM HQ HTY HV HB hT hrw
end Go.Proofs.YtiaebjpcgjkhoaaGreatDoor
namespace Go.Proofs.YtiaebjpcgjkhoaaGreatDoor
open Go.RowKit
theorem He {w : World} {g i b o : Nat} {u : Value} (h : b ≠ g) : (w.setCell ⟨g, i, none⟩ u).cell? ⟨b, o, none⟩ = w.cell? ⟨b, o, none⟩ := World.cell?_of_block (Below.heap_setCell _ _ _ _ h)
theorem Sa {w w2 w6 w7 : World} {e : D.Env} {x v : Int} {i kn : Nat} {p : D.Process} {ty : D.Type} {vs : Array Value} (HQ : Hid (A5 e x v = (setO e.M e.S i kn v, 0))) (HP : Hid (e.S.Procs.getD i default = p)) (HTY : Hid ((Bo e.M p.Type_).Frame.getD kn default = ty))
    (HV : Hid (D2 w6 w2.heap.size { e.S with Procs := e.S.Procs.set i { e.S.Procs.getD i default with Frame := (e.S.Procs.getD i default).Frame.set kn (Ef ty.Bits ty.Signed v) } } vs)) (HB : Below w.heap.size w w6)
    (hT : BU w6 w7 (fun k => k = w.heap.size + 1)) (hr : w.heap.size + 1 < w2.heap.size) : IW w e x v (.returned (.tuple #[.agg vs, .int .i64 0])) w7 := by
  refine ⟨vs, by rw [HQ.out], ?_, HB.trans (hT.below HB.size fun j hj => by have hj : j = w.heap.size + 1 := hj; omega)⟩
  rw [HQ.out]
  have e1 : setO e.M e.S i kn v = { e.S with Procs := e.S.Procs.set i { e.S.Procs.getD i default with Frame := (e.S.Procs.getD i default).Frame.set kn (Ef ty.Bits ty.Signed v) } } := by
    unfold setO AeN OY
    rw [show ((kn : Nat) : Int).toNat = kn by omega, show ((i : Nat) : Int).toNat = i by omega, HP.out, HTY.out]
  rw [e1]
  exact (D2.aside (b := w.heap.size + 1) (B := w2.heap.size) HV.out hr hT).base (by omega)
set_option maxRecDepth 100000 in
set_option maxHeartbeats 8000000 in
theorem VL {w : World} {e : D.Env} {x v who k : Int} {c0 c1 c2 c3 c4 c6 c7 c8 c9 c15 : Value} (hw : AN e.M) (hs : Bl e.S) (hL : EJ w) (hB : ∀ k, k ∈ G4 → k < w.heap.size)
    (hV : V w P0 none (.agg (Af e)) (.agg (IG e c0 c1 c2 c3 c4 c6 c7 c8 c9 c15))) (hat : MA w e c0 c1 c2 c3 c4 c6 c7 c8 c9 c15) (hgood : Ck e x = 0) (hsl : B5 e (EA e) (AD e.M x) = (who, k, 0)) (hwho : 0 ≤ who) :
    Calls Tryz.prog 63 #[.agg (IG e c0 c1 c2 c3 c4 c6 c7 c8 c9 c15), .int .i64 x, .int .i64 v] w (IW w e x v) := by
  have HQ0 : Hid (A5 e x v = (setO e.M e.S who k v, 0)) := by
    unfold Hid A5 P8
    rw [decide_eq_false (by omega), cond_false, hsl]
    show (bif decide ((0 : Int) ≠ 0) then _ else _) = _
    rw [decide_eq_false (by simp), cond_false, decide_eq_false (by omega), cond_false]
  have HC := Lib.hid (Ds hw hs x)
  have HS := Lib.hid (LG hw hgood)
  obtain ⟨hE, hx0, hx1⟩ := IF hw hgood
  have hin := (JO hE hx0 hx1 (ev := EA e) (by rw [hsl])).own (by rw [hsl]; exact hwho)
  have hfit := hE.fit
  rw [hsl] at hin HS
  obtain ⟨i, rfl⟩ : ∃ i : Nat, who = i := ⟨who.toNat, by omega⟩
  change (i : Int) < e.S.Procs.length ∧ 0 ≤ k ∧ k < (e.S.Procs.getD (i : Int).toNat default).Frame.length at hin
  rw [show ((i : Nat) : Int).toNat = i by omega] at hin
  obtain ⟨kn, rfl⟩ : ∃ kn : Nat, k = kn := ⟨k.toNat, by omega⟩
  have hi : i < e.S.Procs.length := by omega
  have HQ := HQ0
  have hpf := Iw (hE.proc (p := e.S.Procs.getD i default) (AF hi))
  obtain ⟨p, hp⟩ : ∃ p, e.S.Procs.getD i default = p := ⟨_, rfl⟩
  rw [hp] at hin hpf
  have HP := Lib.hid hp
  have hkn : kn < p.Frame.length := by omega
  obtain ⟨tn, htn⟩ : ∃ tn : Nat, p.Type_ = tn := ⟨p.Type_.toNat, by omega⟩
  have htm : tn < e.M.Procs.length := by omega
  have hfl := hpf.2.2.1
  have hpr : Bo e.M p.Type_ = e.M.Procs.getD tn default := by unfold Bo; rw [htn, show ((tn : Nat) : Int).toNat = tn by omega]
  rw [hpr] at hfl
  obtain ⟨mb, moff, mcap, tb, toff, tcap, rfl, hm1, hm2, hmb, hmc, ht1, ht2, htb, htc⟩ : ∃ mb moff mcap tb toff tcap, c4 = .slice (some ⟨mb, moff, none⟩) e.M.Procs.length mcap ∧ e.M.Procs.length ≤ mcap ∧ mcap ≤ maxLen ∧ mb < w.heap.size ∧
      w.cell? ⟨mb, moff + tn * 10 + 2, none⟩ = some (.slice (some ⟨tb, toff, none⟩) p.Frame.length tcap) ∧ p.Frame.length ≤ tcap ∧ tcap ≤ maxLen ∧ tb < w.heap.size ∧
      ∀ j, j < p.Frame.length → w.cell? ⟨tb, toff + j * 2, none⟩ = some (.int .i64 ((Bo e.M p.Type_).Frame.getD j default).Bits) ∧ w.cell? ⟨tb, toff + j * 2 + 1, none⟩ = some (.bool ((Bo e.M p.Type_).Frame.getD j default).Signed) := by
    obtain ⟨ao, cap, rfl, h1, h2, h3⟩ := hat.f
    obtain ⟨b, off, rfl, h4, h5⟩ := h3 (by omega)
    obtain ⟨u, h6, ao', cap', rfl, h7, h8, h9⟩ := h5 tn htm
    rw [← hfl] at h6 h7 h9
    obtain ⟨b', off', rfl, h10, h11⟩ := h9 (by omega)
    rw [hpr]
    exact ⟨b, off, cap, b', off', cap', rfl, h1, h2, h4, h6, h7, h8, h10, h11⟩
  obtain ⟨ty0, ty1⟩ := htc kn hkn
  obtain ⟨ty, hty⟩ : ∃ ty, (Bo e.M p.Type_).Frame.getD kn default = ty := ⟨_, rfl⟩
  rw [hty] at ty0 ty1
  have HTY := Lib.hid hty
  have hwi : ((i : Int) < 0) = False := by simp
  clear htc hty hp hpr hfl hpf hin hsl hE HQ0 hwho
  unfold IG at hV ⊢
  rw [hgood] at HC
  go_enter Tryz.func63, Tryz.ntmps63
  obtain ⟨B0, B1, B2, BB⟩ := Ge w (.cells #[c0, c1, c2, c3, .slice (some ⟨mb, moff, none⟩) e.M.Procs.length mcap, .int .i64 e.M.Claim, c6, c7, c8, c9, .int .i64 e.S.Last, .int .i64 e.S.Alone, .int .i64 e.S.Claim, .int .i64 e.Pid, .bool e.Timeout, c15] AaQ (0, 0)) (.cells #[.slice none 0 0, .slice none 0 0, .slice none 0 0, .int .i64 0, .int .i64 0, .int .i64 0] BG (0, 0))
  go_wp2_with (first
    | (go_at_call 51; refine (HC.out.at hL hB BB (LL (hV.keep BB) .sc)).mono ?_; rintro r w1 ⟨u, rfl, hb1, hu⟩; obtain rfl := hu.sc_inv; have Z0 := (hb1.block _ (by omega)).trans B0; have Z1 := (hb1.block _ (by omega)).trans B1; have BW := BB.trans (hb1.mono (by omega)))
    | (go_at_call 80; refine (HS.out.at hL hB BW (LL (TA Z0 (hV.keep BW)) .sc)).mono ?_; rintro r w2 ⟨u, rfl, hb2, hu⟩; obtain rfl := Ls hu; have Y0 := (hb2.block _ (C4 Z0)).trans Z0; have Y1 := (hb2.block _ (C4 Z1)).trans Z1; have BX := BW.trans (hb2.mono BW.size); have s7 : w2.cell? ⟨w.heap.size, 7, none⟩ = some c7 := AG Y0 rfl; have s8 : w2.cell? ⟨w.heap.size, 8, none⟩ = some c8 := AG Y0 rfl; have s9 : w2.cell? ⟨w.heap.size, 9, none⟩ = some c9 := AG Y0 rfl; have s10 : w2.cell? ⟨w.heap.size, 10, none⟩ = some (.int .i64 e.S.Last) := AG Y0 rfl; have s11 : w2.cell? ⟨w.heap.size, 11, none⟩ = some (.int .i64 e.S.Alone) := AG Y0 rfl; have s12 : w2.cell? ⟨w.heap.size, 12, none⟩ = some (.int .i64 e.S.Claim) := AG Y0 rfl)
    | (go_at_call 19; refine (Me hfit (hat.below BX).g (hat.below BX).c (hat.below BX).p).mono ?_; rintro r w3 ⟨vg, vc, vp, n1, qs, fs, w4, rfl, hcp⟩; obtain ⟨ag, ggcap, rfl, _⟩ := CH hcp.g; obtain ⟨ac, ccap, rfl, _⟩ := CH hcp.c.row; obtain ⟨ap, pcap, rfl, hp1, hp2, hp3⟩ := CH hcp.p.row))
  have hz3 := hcp.below.size
  have hz2 := BX.size
  have hsz0 := C4 Y1
  obtain ⟨pb, rfl, hpbb, hpbl, hpc⟩ := hp3 (by omega)
  obtain ⟨q0, -, -, q3⟩ := IJ hcp.p.len hi
  have hfi : i < fs.length := by rw [hcp.p.len]; exact hi
  have hpi : e.S.Procs[i]? = some p := by have := HP.out; simp [List.getD, hi] at this; simp [hi, this]
  obtain ⟨ag2, gcap, hu, hg1, hg2, hg3⟩ := CH (hcp.p.each i (fs[i]) p (by simp [hfi]) hpi)
  obtain ⟨g, rfl, hgb, hgl, hgc⟩ := hg3 (by omega)
  have hfu : fs[i]? = some (.slice (some ⟨g, 0, none⟩) p.Frame.length gcap) := by simp [hfi, hu]
  obtain ⟨gcur, hgk⟩ := C1 (hcp.p.each i _ p hfu hpi) (k := g) rfl
  have hn2 := hcp.n2
  have hn0 := hcp.n0
  rw [HP.out, htn] at q0
  rw [hfu] at q3
  have p0 : w3.cell? ⟨pb, i * 4, none⟩ = some (.int .i64 tn) := (hpc (i * 4) (by omega)).trans q0
  have p3 : w3.cell? ⟨pb, i * 4 + 3, none⟩ = some (.slice (some ⟨g, 0, none⟩) p.Frame.length gcap) := (hpc (i * 4 + 3) (by omega)).trans q3
  have K0 := (Below.heap_alloc w3 (.cells #[.slice ag e.S.Globals.length ggcap, .slice ac e.S.Chans.length ccap, .slice (some ⟨pb, 0, none⟩) e.S.Procs.length pcap, .int .i64 e.S.Last, .int .i64 e.S.Alone, .int .i64 e.S.Claim] BG (0, 0)) _ (by omega)).trans ((hcp.below.block _ (C4 Y0)).trans Y0)
  have K1 := (Below.heap_alloc w3 (.cells #[.slice ag e.S.Globals.length ggcap, .slice ac e.S.Chans.length ccap, .slice (some ⟨pb, 0, none⟩) e.S.Procs.length pcap, .int .i64 e.S.Last, .int .i64 e.S.Alone, .int .i64 e.S.Claim] BG (0, 0)) _ (by omega)).trans ((hcp.below.block _ (C4 Y1)).trans Y1)
  have K2 := heap_alloc_new w3 (.cells #[.slice ag e.S.Globals.length ggcap, .slice ac e.S.Chans.length ccap, .slice (some ⟨pb, 0, none⟩) e.S.Procs.length pcap, .int .i64 e.S.Last, .int .i64 e.S.Alone, .int .i64 e.S.Claim] BG (0, 0))
  have KB : Below w3.heap.size w3 (w3.alloc (.cells #[.slice ag e.S.Globals.length ggcap, .slice ac e.S.Chans.length ccap, .slice (some ⟨pb, 0, none⟩) e.S.Procs.length pcap, .int .i64 e.S.Last, .int .i64 e.S.Alone, .int .i64 e.S.Claim] BG (0, 0))) := (Below.refl _ w3).alloc (Nat.le_refl _) _
  have KZ : (w3.alloc (.cells #[.slice ag e.S.Globals.length ggcap, .slice ac e.S.Chans.length ccap, .slice (some ⟨pb, 0, none⟩) e.S.Procs.length pcap, .int .i64 e.S.Last, .int .i64 e.S.Alone, .int .i64 e.S.Claim] BG (0, 0))).heap.size = w3.heap.size + 1 := by simp
  generalize w3.alloc (.cells #[.slice ag e.S.Globals.length ggcap, .slice ac e.S.Chans.length ccap, .slice (some ⟨pb, 0, none⟩) e.S.Procs.length pcap, .int .i64 e.S.Last, .int .i64 e.S.Alone, .int .i64 e.S.Claim] BG (0, 0)) = wd at *
  have BD : Below w.heap.size w wd := (BX.trans (hcp.below.mono hz2)).trans (KB.mono (by omega))
  rw [← BD.cell (p := ⟨tb, toff + kn * 2, none⟩) htb] at ty0
  rw [← BD.cell (p := ⟨tb, toff + kn * 2 + 1, none⟩) htb] at ty1
  rw [← BD.cell (p := ⟨mb, moff + tn * 10 + 2, none⟩) hmb] at hmc
  rw [← KB.cell (p := ⟨pb, i * 4, none⟩) hpbl] at p0
  rw [← KB.cell (p := ⟨pb, i * 4 + 3, none⟩) hpbl] at p3
  have x0 : wd.cell? ⟨w.heap.size, 4, none⟩ = some (.slice (some ⟨mb, moff, none⟩) e.M.Procs.length mcap) := AG K0 rfl
  have x1 : wd.cell? ⟨w3.heap.size, 2, none⟩ = some (.slice (some ⟨pb, 0, none⟩) e.S.Procs.length pcap) := AG K2 rfl
  have hgw : wd.heap[g]? = some (.cells gcur Di (0, 0)) := (KB.block _ hgl).trans hgk
  have xg : wd.cell? ⟨g, kn, none⟩ = some (.int .i64 (p.Frame.getD kn 0)) := by
    rw [KB.cell (p := ⟨g, kn, none⟩) hgl, hgc kn (by omega)]; simp [List.getD, hkn]
  have hgd : g < wd.heap.size := by omega
  have hsd : w3.heap.size < wd.heap.size := by omega
  have hpd : pb < wd.heap.size := by omega
  have hsg : w3.heap.size ≠ (⟨g, kn, none⟩ : Addr).block := by simp; omega
  have hrg : w.heap.size + 1 ≠ (⟨g, kn, none⟩ : Addr).block := by simp; omega
  have hrd : w.heap.size + 1 < wd.heap.size := by omega
  have hng : w.heap.size ≤ (⟨g, kn, none⟩ : Addr).block := by simp; omega
  have hrw : w.heap.size + 1 < w2.heap.size := hsz0
  clear s7 s8 s9 s10 s11 s12 hgc hg3 hpc hp3 hu q0 q3
  have hg2' := hg2
  have ht2' := ht2
  have hm2' := hm2
  have hp2' := hp2
  unfold maxLen at hg2' ht2' hm2' hp2'
  obtain ⟨pcur, hpk⟩ := C1 hcp.p.row (k := pb) rfl
  have hpg : pb ≠ g := Mn hpk hgk (by decide)
  have hf1 : w3.heap.size ≠ g := by omega
  have hf2 : w.heap.size ≠ g := by omega
  have hf3 : mb ≠ g := by omega
  have hf4 : tb ≠ g := by omega
  have hbd0 : w.heap.size < wd.heap.size := by omega
  have htd : tb < wd.heap.size := by omega
  have hmd : mb < wd.heap.size := by omega
  have hkI : (0 : Int) ≤ (kn : Int) := by omega
  have hiI : (0 : Int) ≤ (i : Int) := by omega
  have htI : (0 : Int) ≤ (tn : Int) := by omega
  have hkF : (kn : Int) < (p.Frame.length : Int) := by omega
  have hiF : (i : Int) < (e.S.Procs.length : Int) := by omega
  have htF : (tn : Int) < (e.M.Procs.length : Int) := by omega
  go_region_held3 (fun w' => w'.cell? ⟨w3.heap.size, 2, none⟩ = some (.slice (some ⟨pb, 0, none⟩) e.S.Procs.length pcap) ∧ w'.cell? ⟨pb, i * 4 + 3, none⟩ = some (.slice (some ⟨g, 0, none⟩) p.Frame.length gcap) ∧ w'.cell? ⟨w.heap.size, 4, none⟩ = some (.slice (some ⟨mb, moff, none⟩) e.M.Procs.length mcap) ∧ w'.cell? ⟨pb, i * 4, none⟩ = some (.int .i64 tn) ∧ w'.cell? ⟨mb, moff + tn * 10 + 2, none⟩ = some (.slice (some ⟨tb, toff, none⟩) p.Frame.length tcap) ∧ w'.cell? ⟨tb, toff + kn * 2, none⟩ = some (.int .i64 ty.Bits) ∧ w'.cell? ⟨tb, toff + kn * 2 + 1, none⟩ = some (.bool ty.Signed)) (first | (refine ⟨?_, ?_, ?_, ?_, ?_, ?_, ?_⟩ <;> (first | (rw [He hf1]; assumption) | (rw [He hpg]; assumption) | (rw [He hf2]; assumption) | (rw [He hf3]; assumption) | (rw [He hf4]; assumption))) | go_keep)
    ((go_at_call 91; go_loud ((with_reducible refine (Abu _ _ _ _).mono ?_); rintro r w5 ⟨rfl, hb5⟩; have hb5' : Below wd.heap.size wd w5 := ⟨hb5.os, hb5.tape, hb5.output, hb5.size, hb5.block⟩; have x5 : w5.cell? ⟨g, kn, none⟩ = _ := (hb5'.cell (p := ⟨g, kn, none⟩) hgd).trans xg; have y1 : w5.cell? ⟨w3.heap.size, 2, none⟩ = _ := (hb5'.cell (p := ⟨w3.heap.size, 2, none⟩) hsd).trans x1; have y2 : w5.cell? ⟨pb, i * 4 + 3, none⟩ = _ := (hb5'.cell (p := ⟨pb, i * 4 + 3, none⟩) hpd).trans p3; have y3 : w5.cell? ⟨w.heap.size, 4, none⟩ = _ := (hb5'.cell (p := ⟨w.heap.size, 4, none⟩) hbd0).trans x0; have y4 : w5.cell? ⟨pb, i * 4, none⟩ = _ := (hb5'.cell (p := ⟨pb, i * 4, none⟩) hpd).trans p0; have y5 : w5.cell? ⟨mb, moff + tn * 10 + 2, none⟩ = _ := (hb5'.cell (p := ⟨mb, moff + tn * 10 + 2, none⟩) hmd).trans hmc; have y6 : w5.cell? ⟨tb, toff + kn * 2, none⟩ = _ := (hb5'.cell (p := ⟨tb, toff + kn * 2, none⟩) htd).trans ty0; have y7 : w5.cell? ⟨tb, toff + kn * 2 + 1, none⟩ = _ := (hb5'.cell (p := ⟨tb, toff + kn * 2 + 1, none⟩) htd).trans ty1; have f5 : w5.frozen? ⟨g, kn, none⟩ = false := BC ((hb5'.block _ hgd).trans hgw))))
  all_goals
    have L0 : (w5.setCell ⟨g, kn, none⟩ (.int .i64 (Ef ty.Bits ty.Signed v))).heap[w3.heap.size]? = _ := (Below.heap_setCell _ _ _ _ hsg).trans ((hb5'.block _ hsd).trans K2)
    have L1 : (w5.setCell ⟨g, kn, none⟩ (.int .i64 (Ef ty.Bits ty.Signed v))).heap[w.heap.size + 1]? = _ := (Below.heap_setCell _ _ _ _ hrg).trans ((hb5'.block _ hrd).trans K1)
    have HV : Hid (D2 (w5.setCell ⟨g, kn, none⟩ (.int .i64 (Ef ty.Bits ty.Signed v))) w2.heap.size { e.S with Procs := e.S.Procs.set i { e.S.Procs.getD i default with Frame := (e.S.Procs.getD i default).Frame.set kn (Ef ty.Bits ty.Signed v) } } #[.slice ag e.S.Globals.length ggcap, .slice ac e.S.Chans.length ccap, .slice (some ⟨pb, 0, none⟩) e.S.Procs.length pcap, .int .i64 e.S.Last, .int .i64 e.S.Alone, .int .i64 e.S.Claim]) :=
      Xn hcp hi (by rw [HP.out]; exact hfu) (fun k h0 h1 => (hb5'.block k (by omega)).trans (KB.block k h1)) _
    have HB : Below w.heap.size w (w5.setCell ⟨g, kn, none⟩ (.int .i64 (Ef ty.Bits ty.Signed v))) := (BD.trans (hb5'.mono (by omega))).setCell (p := ⟨g, kn, none⟩) hng _
    obtain ⟨t0, t1, t2, t3, t4, t5, -⟩ := JP L0
    obtain ⟨d0, d1, d2, d3, d4, d5, g0, g1, g2, g3, g4, g5⟩ := JP L1
    clear x5 y1 y2 y3 y4 y5 y6 y7 f5 hb5 hb5'
    generalize w5.setCell ⟨g, kn, none⟩ (.int .i64 (Ef ty.Bits ty.Signed v)) = w6 at *
    go_wp2
    have hres := JC L1 (.slice ag e.S.Globals.length ggcap) (.slice ac e.S.Chans.length ccap) (.slice (some ⟨pb, 0, none⟩) e.S.Procs.length pcap) (.int .i64 e.S.Last) (.int .i64 e.S.Alone) (.int .i64 e.S.Claim)
    have hT := FR (w := w6) (b := w.heap.size + 1) (.slice ag e.S.Globals.length ggcap) (.slice ac e.S.Chans.length ccap) (.slice (some ⟨pb, 0, none⟩) e.S.Procs.length pcap) (.int .i64 e.S.Last) (.int .i64 e.S.Alone) (.int .i64 e.S.Claim)
    refine Hy rfl rfl hres Tryz.underlying33 rfl (by kernel_rfl) rfl ?_
    exact Sa HQ HP HTY HV HB hT hrw
end Go.Proofs.YtiaebjpcgjkhoaaGreatDoor
namespace Go.Proofs.YtiaebjpcgjkhoaaGreatDoor
open Go.RowKit
def Lv (y x : VV) : Prop := ∀ (w : World) (E : AU) (v : Value), V w E none y v → ∀ B, V w ⟨fun _ => False, B⟩ none x v
def Lw : List VV → List VV → Prop
  | [], [] => True
  | y :: ys, x :: xs => Lv y x ∧ Lw ys xs
  | _, _ => False
theorem Hv : ∀ {ys xs : List VV}, Lw ys xs → ys.length = xs.length
  | [], [], _ => rfl
  | y :: ys, x :: xs, h => by simp [Hv h.2]
  | [], _ :: _, h => h.elim
  | _ :: _, [], h => h.elim
theorem GO : ∀ {ys xs : List VV}, Lw ys xs → ∀ (j : Nat) x, xs[j]? = some x → ∃ y, ys[j]? = some y ∧ Lv y x
  | y :: ys, x :: xs, h, 0, z, hz => by simp only [List.getElem?_cons_zero, Option.some.injEq] at hz; subst hz; exact ⟨y, rfl, h.1⟩
  | y :: ys, x :: xs, h, j + 1, z, hz => by simpa using GO h.2 j z (by simpa using hz)
  | [], _ :: _, h, _, _, _ => h.elim
  | _, [], _, _, _, hz => by simp at hz
theorem T1 {u : Value} : Lv (.sc u) (.sc u) := fun w E v h B => by
  obtain rfl := h.sc_inv
  exact .sc
theorem T0 {b : Bool} {n s : Nat} {f f' : Nat → List VV} (hr : ∀ i, i < n → Lw (f i) (f' i)) : Lv (.sl b n s f) (.sl true n s f') := fun w E v h B => by
  obtain ⟨a, cap, rfl, h1, h2, h3⟩ := V.sl_inv h
  refine V.sl_mk h1 h2 fun hp => ?_
  obtain ⟨g, off, rfl, hb, _, hl, u, hc, hv⟩ := h3 hp
  refine ⟨g, off, rfl, hb, fun h => h, fun i hi => by rw [← Hv (hr i hi)]; exact hl i hi, u, fun i j x hi hx => ?_, fun i j x hi hx => ?_⟩
  · obtain ⟨y, hy, _⟩ := GO (hr i hi) j x hx
    exact hc i j y hi hy
  · obtain ⟨y, hy, hle⟩ := GO (hr i hi) j x hx
    exact hle _ _ _ (hv i j y hi hy) _
theorem XX {ys xs : List VV} (hr : Lw ys xs) : Lv (.agg ys) (.agg xs) := fun w E v h B => by
  obtain ⟨vs, rfl, h1, h2⟩ := h.agg_inv
  refine .agg (h1.trans (Hv hr)) fun j x hx => ?_
  obtain ⟨y, hy, hle⟩ := GO hr j x hx
  exact hle _ _ _ (h2 j y hy) _
def Pb (r : VV) : Prop := ∀ (w : World) (E E' : AU) (m m' : Option Phi) (v : Value), V w E m r v → V w E' m' r v
theorem QB {u : Value} : Pb (.sc u) := fun w E E' m m' v h => by
  obtain rfl := h.sc_inv
  exact .sc
theorem Ns {xs : List VV} (h : ∀ x ∈ xs, Pb x) : Pb (.tup xs) := fun w E E' m m' v hv => by
  cases hv with
  | tup h1 h2 => exact .tup h1 fun j x hx => h x (List.mem_of_getElem? hx) _ _ _ _ _ _ (h2 j x hx)
theorem Ae.thaw {P : Program} {f : FuncId} {xs ys : List VV} {r : VV} (h : Ae P f [] xs [] r) (hr : Pb r) (hle : Lw ys xs) : Ae P f [] ys [] r := by
  refine Ae.hand h.callable fun w E vs hA hL hB hb hs => ?_
  refine (h.start hL hB ⟨hs.1.trans (Hv hle), fun j x hx => ?_⟩).mono ?_
  · obtain ⟨y, hy, hl⟩ := GO hle j x hx
    exact hl _ _ _ (hs.2 j y hy) _
  · rintro e w' ⟨v, rfl, hB', hv⟩
    exact ⟨v, rfl, hr _ _ _ _ _ _ hv, hB'⟩
end Go.Proofs.YtiaebjpcgjkhoaaGreatDoor
namespace Go.Proofs.YtiaebjpcgjkhoaaGreatDoor
open Go.RowKit
theorem VO {w : World} {e : D.Env} {x v : Int} {c0 c1 c2 c3 c4 c6 c7 c8 c9 c15 : Value} (hw : AN e.M) (hs : Bl e.S) (hL : EJ w) (hB : ∀ k, k ∈ G4 → k < w.heap.size)
    (hV : V w P0 none (.agg (Af e)) (.agg (IG e c0 c1 c2 c3 c4 c6 c7 c8 c9 c15))) (hat : MA w e c0 c1 c2 c3 c4 c6 c7 c8 c9 c15) :
    Calls Tryz.prog 63 #[.agg (IG e c0 c1 c2 c3 c4 c6 c7 c8 c9 c15), .int .i64 x, .int .i64 v] w (IW w e x v) := by
  by_cases h1 : Ck e x = 0
  · by_cases h2 : (B5 e (EA e) (AD e.M x)).2.2 = 0
    · have h3 : B5 e (EA e) (AD e.M x) = ((B5 e (EA e) (AD e.M x)).1, (B5 e (EA e) (AD e.M x)).2.1, 0) := by rw [← h2]
      by_cases h4 : (B5 e (EA e) (AD e.M x)).1 < 0
      · exact R9 hw hs hL hB hV hat h1 h3 h4
      · exact VL hw hs hL hB hV hat h1 h3 (by omega)
    · exact R7 hw hs hL hB hV h1 h2
  · exact VN hw hs hL hB hV h1
end Go.Proofs.YtiaebjpcgjkhoaaGreatDoor
namespace Go.Proofs.YtiaebjpcgjkhoaaGreatDoor
open Go.RowKit
def Es : Phi := fun _ => none
theorem Ae.handN {P : Program} {f : FuncId} {xs : List VV} {r : VV} {obs : List Ob} (hc : JH P f)
    (h : ∀ (w : World) (E : AU) (vs : Array Value), (∀ k, E.fz k → k < w.heap.size) → EJ w → (∀ k, k ∈ G4 → k < w.heap.size) → (∀ k, E.br k → E.fz k) → CY w E none xs vs →
      Calls P f vs w fun e w' => ∃ v pls, e = .returned v ∧ Dt w E Es 0 obs pls w' ∧ V w' (E.up (Ci Es 0 pls)) (some (Ci Es 0 pls)) r v) : Ae P f [] xs obs r := by
  refine ⟨hc, fun w E φ vs hz hH hφ hs => ?_⟩
  obtain rfl : φ = Es := funext fun id => Classical.byContradiction fun hn => by have := (hφ id).1 hn; simp at this
  have hnone : ∀ id, Es id = none := fun _ => rfl
  refine (h w E vs hz.lt hz.lib.at' hz.lib.lt hH.sub ⟨hs.1, fun j x hx => ?_⟩).mono ?_
  · exact ((hs.2 j x hx).unmap hnone).less (fun k hk => .inl hk) fun k hk => .inl hk
  · rintro e w' ⟨v, pls, rfl, hn, hv⟩
    have hidn : ∀ i, i < obs.length → Es (0 + i) = none := fun _ _ => rfl
    refine ⟨v, Ci Es 0 pls, rfl, hH.news hz.lt hn hidn (fun k hk => absurd rfl hk) fun i o ho => ?_, Fr.of_ext (hn.ext hidn), fun id => ?_, hv⟩
    · unfold BK
      rw [Nat.zero_add, List.getD_eq_getElem?_getD, ho]; rfl
    · rcases Nat.lt_or_ge id obs.length with h' | h'
      · have hl : id < pls.length := by rw [hn.len]; exact h'
        have := Dh (φ := Es) (nx := 0) (pls := pls) (i := id) (List.getElem?_eq_getElem hl)
        rw [Nat.zero_add] at this
        rw [this]; simp [h']
      · rw [CW (.inr (by rw [hn.len]; omega))]
        simp [Es]; omega
theorem Uz {w : World} {n0 sz n : Nat} {e : TypeId} {v : Value} {xs : List Value} (h : w.ownsRow n0 e sz v n xs) (hone : ∀ u ∈ xs, u.oneCell' = true) :
    ∃ hd, hdV hd n v ∧ (∀ k cap, hd = some (k, cap) → v.ownBlock = some k ∧ n0 ≤ k ∧ ∃ cur, w.heap[k]? = some (.cells cur e (0, 0))) ∧
      ∀ (E : AU) (φ : Phi) (f : Nat → List VV), (∀ i, i < n → (f i).length = sz) → (∀ i j x, i < n → (f i)[j]? = some x → V w (E.up φ).hold none x (xs.getD (i * sz + j) undef)) → H8 w E φ true n sz f hd := by
  obtain ⟨hl, ⟨rfl, rfl⟩ | ⟨g, cap, cur, rfl, hg, hb, h1, h2, h3, h4⟩⟩ := h
  · exact ⟨none, ⟨rfl, rfl⟩, (fun k cap h => by cases h), fun _ _ _ _ _ => rfl⟩
  · have hle : n * sz ≤ cur.size := by rw [h3]; exact Nat.mul_le_mul_right _ h1
    have cell : ∀ k, k < n * sz → cur.getD k undef = xs.getD k undef := fun k hk => by
      have hk2 : k < cur.size := by omega
      rw [← h4]
      simp [List.getD, Array.getD, hk2, hk]
    refine ⟨some (g, cap), ⟨rfl, h1⟩, fun k c hk => ?_, fun E φ f hlen hv => ⟨cur, e, hb, h3, h1, h2, hlen, fun i j x hi hx => ?_, fun k hk => ?_⟩⟩
    · simp only [Option.some.injEq, Prod.mk.injEq] at hk
      obtain ⟨rfl, rfl⟩ := hk
      exact ⟨rfl, hg, cur, hb⟩
    · have hj : j < sz := by rw [← hlen i hi]; exact (List.getElem?_eq_some_iff.1 hx).1
      have hk : i * sz + j < n * sz := by
        have : (i + 1) * sz ≤ n * sz := Nat.mul_le_mul_right _ hi
        rw [Nat.succ_mul] at this; omega
      show V w (E.up φ).hold none x _
      rw [cell _ hk]
      exact hv i j x hi hx
    · rw [cell k hk]
      refine hone _ ?_
      have : k < xs.length := by rw [hl]; exact hk
      simp [List.getD, this]
end Go.Proofs.YtiaebjpcgjkhoaaGreatDoor
namespace Go.Proofs.YtiaebjpcgjkhoaaGreatDoor
open Go.RowKit
structure Pn where
  pid : Int
  esc : Int
  way : Int
deriving DecidableEq
instance : Inhabited Pn := ⟨⟨0, 0, 0⟩⟩
structure Ab where
  is : Bool
  err : Int
  wth : List Pn
instance : Inhabited Ab := ⟨⟨false, 0, []⟩⟩
structure Wy where
  Esc : Int
  Way : Int
  With : Int
  WithEsc : Int
  WithWay : Int
  Err : Int
deriving DecidableEq
instance : Inhabited Wy := ⟨⟨0, 0, 0, 0, 0, 0⟩⟩
section
variable (e : D.Env)
def DJ : Int := bif decide (CG e.M e.S ≠ 0) then CG e.M e.S else bif decide (e.Pid < 0) || decide ((e.S.Procs.length : Int) ≤ e.Pid) then 42 else 0
def Dm : D.Proc := Bo e.M (Dz e e.Pid).Type_
def BZ : D.Loc := (Dm e).Locs.getD (Dz e e.Pid).Loc.toNat default
def Fx (x : Int) : Bool := decide (0 ≤ x) && decide ((AD e.M x).Op = 39)
def Rg : Nat → List (List D.Trans) → List (Int × List D.Trans)
  | _, [] => []
  | k, w :: r => ((k : Int), w) :: Rg (k + 1) r
def Ee (l : D.Loc) : List (Int × List D.Trans) := Rg 0 l.Esc ++ [(-1, l.Out)]
def IV (ev : Evl) : List Int → List Int → List Int × Int
  | out, [] => (out, 0)
  | out, x :: l => bif decide ((ev x).2 ≠ 0) then ([], (ev x).2) else IV ev (out ++ [(ev x).1]) l
def D4 (l : List Int) : List Int × Int := IV (B6 e) [] l
def Tt (f : List D.Type) (l : List Int) : List Int := (List.range l.length).map fun i => OY (f.getD i default) (l.getD i 0)
def BP (c : Int) : List D.Type := (CN e.M (Dy e c).Shape).Fields
def AM (s : D.Stmt) : Int × List Int × Int :=
  bif decide ((AL e s.A).2 ≠ 0) then (0, [], (AL e s.A).2)
  else bif decide ((BP e (AL e s.A).1).length ≠ s.Args.length) then (0, [], 49)
  else bif decide ((D4 e s.Args).2 ≠ 0) then (0, [], (D4 e s.Args).2)
  else ((AL e s.A).1, Tt (BP e (AL e s.A).1) (D4 e s.Args).1, 0)
def CA (s : D.Stmt) : List Int × Int :=
  bif decide (DO (B6 e) s.Args s.Match s.Args.length ≠ 0) then ([], DO (B6 e) s.Args s.Match s.Args.length) else (JJ (B6 e) s.Args s.Match, 0)
def FN (s : D.Stmt) : Int × Int × Int :=
  bif decide ((AL e s.A).2 ≠ 0) then (0, -1, (AL e s.A).2)
  else bif decide ((BP e (AL e s.A).1).length ≠ s.Args.length) then (0, -1, 49)
  else bif decide ((CA e s).2 ≠ 0) then (0, -1, (CA e s).2)
  else ((AL e s.A).1, G9 (Dy e (AL e s.A).1) (CA e s).1 s.Match (decide (s.N.tmod 2 = 1)), 0)
def EW (s : D.Stmt) (c : Int) (m : List Int) : Bool :=
  bif decide (s.Kind ≠ 6) || (decide (1 < s.N) || decide (s.Args.length ≠ m.length)) then false
  else bif decide ((AL e s.A).2 ≠ 0) || decide ((AL e s.A).1 ≠ c) then false
  else bif decide ((CA e s).2 ≠ 0) then false else decide (G9 ⟨0, [m]⟩ (CA e s).1 s.Match false = 0)
def LP : Ab := ⟨decide (e.S.Procs.length < 16), 0, []⟩
def Gi (mt : Int → List Int → List Pn) (s : D.Stmt) (self : Bool) : Ab :=
  bif decide ((AL e s.A).2 ≠ 0) then ⟨true, (AL e s.A).2, []⟩
  else bif decide ((BP e (AL e s.A).1).length ≠ s.Args.length) then ⟨true, 49, []⟩
  else bif decide (0 < (CN e.M (Dy e (AL e s.A).1).Shape).Room) then ⟨decide (((Dy e (AL e s.A).1).Queue.length : Int) < (CN e.M (Dy e (AL e s.A).1).Shape).Room), 0, []⟩
  else bif self then ⟨false, 0, []⟩
  else bif decide ((AM e s).2.2 ≠ 0) then ⟨true, (AM e s).2.2, []⟩
  else ⟨decide (0 < (mt (AL e s.A).1 (AM e s).2.1).length), 0, mt (AL e s.A).1 (AM e s).2.1⟩
def C0 (mt : Int → List Int → List Pn) (s : D.Stmt) (self : Bool) : Ab :=
  if s.Kind = 1 then (bif Fx e s.A then LP e else ⟨decide ((B6 e s.A).1 ≠ 0) || decide ((B6 e s.A).2 ≠ 0), (B6 e s.A).2, []⟩)
  else if s.Kind = 2 then (bif Fx e s.B then LP e else ⟨true, 0, []⟩)
  else if s.Kind = 9 then ⟨decide (e.S.Chans.length < 32), 0, []⟩
  else if s.Kind = 5 then Gi e mt s self
  else if s.Kind = 6 then ⟨decide (0 ≤ (FN e s).2.1) || decide ((FN e s).2.2 ≠ 0), (FN e s).2.2, []⟩
  else if s.Kind = 7 then ⟨false, 0, []⟩ else ⟨true, 0, []⟩
def Eo (mt : Int → List Int → List Pn) (ways : List D.Trans) (self : Bool) : Nat → Bool
  | 0 => false
  | n + 1 => Eo mt ways self n || (C0 e mt (ways.getD n default).S self).is
def Fj (mt : Int → List Int → List Pn) (ways : List D.Trans) (self : Bool) (i : Nat) : Ab :=
  let x := C0 e mt (ways.getD i default).S self
  bif decide ((ways.getD i default).S.Kind = 7) && !(Eo e mt ways self ways.length) then { x with is := true } else x
def Ch (mt : Int → List Int → List Pn) (ways : List D.Trans) (self : Bool) : List Ab := (List.range ways.length).map (Fj e mt ways self)
def Jq : Int → List Int → List Pn := fun _ _ => []
def isSome (l : List Ab) : Bool := l.any Ab.is
def Cj (c : Int) (m : List Int) (i : Int) : Nat → List D.Trans → List Pn
  | _, [] => []
  | k, t :: r => (bif EW e t.S c m then [⟨e.Pid, i, k⟩] else []) ++ Cj c m i (k + 1) r
def FT (c : Int) (m : List Int) : List (Int × List D.Trans) → List Pn
  | [] => []
  | (i, ws) :: r => bif decide (0 < (Cj e c m i 0 ws).length) || isSome (Ch e Jq ws true) then Cj e c m i 0 ws else FT c m r
def Bm : Bool × Int := bif decide ((Dm e).Provided < 0) then (true, 0) else (decide ((B6 e (Dm e).Provided).1 ≠ 0), (B6 e (Dm e).Provided).2)
def E7 (c : Int) (m : List Int) : List Pn := bif !(Bm e).1 || decide ((Bm e).2 ≠ 0) then [] else FT e c m (Ee (BZ e))
def Cf (q : Int) : D.Env := { e with Pid := q }
def De (c : Int) (m : List Int) : Nat → List Pn
  | 0 => []
  | n + 1 => De c m n ++ bif decide ((n : Int) ≠ e.Pid) then E7 (Cf e n) c m else []
def BF (c : Int) (m : List Int) : List Pn := De e c m e.S.Procs.length
def Ic (err : Int) : Wy := ⟨-1, -1, -1, -1, -1, err⟩
def GJ (i : Int) (k : Nat) (err : Int) (p : Pn) : Wy := ⟨i, k, p.pid, p.esc, p.way, err⟩
def GA (i : Int) (k : Nat) (x : Ab) : List Wy := (bif x.is && decide (x.wth.length = 0) then [⟨i, k, -1, -1, -1, x.err⟩] else []) ++ x.wth.map (GJ i k x.err)
def CX (i : Int) : Nat → List Ab → List Wy
  | _, [] => []
  | k, x :: r => GA i k x ++ CX i (k + 1) r
def FC : List (Int × List D.Trans) → List Wy
  | [] => []
  | (i, ws) :: r => bif decide (0 < (CX i 0 (Ch e (BF e) ws false)).length) then CX i 0 (Ch e (BF e) ws false) else FC r
def BH : List Wy :=
  bif decide ((Dz e e.Pid).Loc = (Dm e).Final) then (bif decide (e.Pid = (e.S.Procs.length : Int) - 1) then [Ic 0] else [])
  else bif decide ((Bm e).2 ≠ 0) then [Ic (Bm e).2]
  else bif !(Bm e).1 then [] else FC e (Ee (BZ e))
def GK : List Wy × Int := bif decide (DJ e ≠ 0) then ([], DJ e) else (BH e, 0)
end
end Go.Proofs.YtiaebjpcgjkhoaaGreatDoor
namespace Go.Proofs.YtiaebjpcgjkhoaaGreatDoor
open Go.RowKit
def YR : Value → Value → Bool
  | .int k a, .int l b => decide (k = l) && decide (a = b)
  | .bool a, .bool b => a == b
  | .string a, .string b => decide (a = b)
  | _, _ => false
theorem YQ {u v : Value} (h : YR u v = true) : u = v := by
  unfold YR at h
  split at h
  · simp only [Bool.and_eq_true, decide_eq_true_eq] at h; rw [h.1, h.2]
  · simp only [beq_iff_eq] at h; rw [h]
  · simp only [decide_eq_true_eq] at h; rw [h]
  · cases h
end Go.Proofs.YtiaebjpcgjkhoaaGreatDoor
namespace Go.Proofs.YtiaebjpcgjkhoaaGreatDoor
open Go.RowKit
section
variable {P : Program} {w : World} {E : AU} {φ : Phi} {hs hs' hs1 : List Ob} {xs : List VV} {r : VV} {f : FuncId}
theorem Aa5 (hH : HRel E (BK hs) φ w) (hφ : ∀ id, φ id ≠ none ↔ id < hs.length) (hz : ∀ k, E.fz k → k < w.heap.size) (sz : Nat) (g : Nat → List VV) :
    HRel E (BK (hs ++ [.arr true 0 0 sz g])) (Ci φ hs.length [Pl.arr 0 0 none]) w ∧ Ext w φ w (Ci φ hs.length [Pl.arr 0 0 none]) ∧
      (∀ id, Ci φ hs.length [Pl.arr 0 0 none] id ≠ none ↔ id < (hs ++ [Ob.arr true 0 0 sz g]).length) ∧ Ci φ hs.length [Pl.arr 0 0 none] hs.length = some (.arr 0 0 none) := by
  have hnone : φ hs.length = none := Classical.byContradiction fun hn => by have := (hφ _).1 hn; omega
  have hroom : Room w [Pl.arr 0 0 none] w := Room.one (Below.refl _ _) fun k hk => by obtain ⟨_, e'⟩ := hk; cases e'
  have hidn : ∀ i, i < [Ob.arr true 0 0 sz g].length → φ (hs.length + i) = none := fun i hi => by
    simp only [List.length_cons, List.length_nil, Nat.zero_add, Nat.lt_one_iff] at hi
    subst hi; exact hnone
  have hnews : Dt w E φ hs.length [Ob.arr true 0 0 sz g] [Pl.arr 0 0 none] w := Dt.one hroom ⟨rfl, rfl, rfl⟩
  have hat : Ci φ hs.length [Pl.arr 0 0 none] hs.length = some (.arr 0 0 none) := Dh (i := 0) rfl
  refine ⟨hH.news hz hnews hidn (fun k hk => ?_) fun i o ho => ?_, hnews.ext hidn, fun id => ?_, hat⟩
  · have := (hφ k).1 hk
    show BK (hs ++ _) k = BK hs k
    simp [BK, List.getElem?_append_left this]
  · show BK (hs ++ _) (hs.length + i) = o
    unfold BK
    rw [List.getD_eq_getElem?_getD, List.getElem?_append_right (by omega), show hs.length + i - hs.length = i by omega, ho]
    rfl
  · simp only [List.length_append, List.length_cons, List.length_nil]
    by_cases he : id = hs.length
    · subst he; rw [hat]; simp
    · rw [CW (by simp; omega)]
      rw [hφ id]; omega
theorem Ae.conv {r2 : VV} {hs2 : List Ob} (h : Ae P f hs xs hs1 r)
    (hc : ∀ (w : World) (E : AU) (φ : Phi) (v : Value), HRel E (BK hs1) φ w → (∀ id, φ id ≠ none ↔ id < hs1.length) → (∀ k, E.fz k → k < w.heap.size) → V w (E.up φ) (some φ) r v →
      ∃ φ', HRel E (BK hs2) φ' w ∧ Ext w φ w φ' ∧ (∀ id, φ' id ≠ none ↔ id < hs2.length) ∧ V w (E.up φ') (some φ') r2 v) : Ae P f hs xs hs2 r2 := by
  refine ⟨h.callable, fun w E φ vs hz hH hφ hs0 => (h.call w E φ vs hz hH hφ hs0).mono ?_⟩
  rintro e w' ⟨v, φ', rfl, h1, h2, h3, h4⟩
  obtain ⟨φ2, k1, k2, k3, k4⟩ := hc w' E φ' v h1 h3 (fun k hk => Nat.lt_of_lt_of_le (hz.lt k hk) h2.size) h4
  exact ⟨v, φ2, rfl, k1, h2.trans (Fr.of_ext k2), k3, k4⟩
theorem Ae.ownR {ys : List VV} (h : Ae P f hs xs hs1 (.tup ys)) (j : Nat) (hj : ys[j]? = some .nl) (sz : Nat) (g : Nat → List VV) : Ae P f hs xs (hs1 ++ [.arr true 0 0 sz g]) (.tup (ys.set j (.ow hs1.length 0 0))) := by
  refine h.conv fun w E φ v hH hφ hz hv => ?_
  obtain ⟨h1, h2, h3, h4⟩ := Aa5 hH hφ hz sz g
  refine ⟨_, h1, h2, h3, ?_⟩
  cases hv with
  | tup k1 k2 =>
    refine .tup (by simp [k1]) fun i x hx => ?_
    rw [List.getElem?_set] at hx
    split at hx
    · rename_i hij
      subst hij
      split at hx
      · simp only [Option.some.injEq] at hx
        subst hx
        rw [(k2 j _ hj).nl_inv]
        exact .ow h4 (Nat.le_refl _) (hd0 := none) ⟨rfl, rfl⟩ fun _ => ⟨rfl, Nat.le_refl _⟩
      · cases hx
    · exact (k2 i x hx).ext h2
theorem Fr.less {b b' : Nat} {w w' : World} {φ φ' : Phi} (h : Fr b w φ w' φ') (hb : b' ≤ b) : Fr b' w φ w' φ' :=
  ⟨h.os, h.tape, h.output, h.size, h.block, h.new, fun id p hi e => h.kind id p (Nat.lt_of_lt_of_le hi hb) e⟩
theorem Ae.ownB {i j : Nat} {cs : List VV} (hi : hs[i]? = some (.box cs)) (hj : cs[j]? = some .nl) (sz : Nat) (g : Nat → List VV)
    (h : Ae P f (hs.set i (.box (cs.set j (.ow hs.length 0 0))) ++ [.arr true 0 0 sz g]) xs hs' r) : Ae P f hs xs hs' r := by
  refine ⟨h.callable, fun w E φ vs hz hH hφ hs0 => ?_⟩
  obtain ⟨h1, h2, h3, h4⟩ := Aa5 hH hφ hz.lt sz g
  have hil : i < hs.length := (List.getElem?_eq_some_iff.1 hi).1
  refine (h.call w E _ vs (hz.ext h2) ⟨h1.sub, fun id p e => ?_, h1.inj, h1.free⟩ (fun id => by rw [h3 id]; simp) ⟨hs0.1, fun k x hx => (hs0.2 k x hx).ext h2⟩).mono ?_
  · have hob := h1.ob id p e
    show ObV w E _ (BK (hs.set i _ ++ _) id) p
    by_cases he : id = i
    · subst he
      have e1 : BK (hs ++ [Ob.arr true 0 0 sz g]) id = .box cs := by simp [BK, List.getElem?_append_left hil, hi]
      have e2 : BK (hs.set id (.box (cs.set j (.ow hs.length 0 0))) ++ [Ob.arr true 0 0 sz g]) id = .box (cs.set j (.ow hs.length 0 0)) := by
        simp [BK, List.getElem?_append_left, hil]
      rw [e1] at hob
      rw [e2]
      cases p with
      | arr => exact hob.elim
      | box b =>
        obtain ⟨c, ty, k1, k2⟩ := hob
        refine ⟨c, ty, k1, by simp [k2.1], fun k x hx => ?_⟩
        rw [List.getElem?_set] at hx
        split at hx
        · rename_i hjk
          subst hjk
          split at hx
          · simp only [Option.some.injEq] at hx
            subst hx
            rw [(k2.2 j _ hj).nl_inv]
            exact .ow h4 (Nat.le_refl _) (hd0 := none) ⟨rfl, rfl⟩ fun _ => ⟨rfl, Nat.le_refl _⟩
          · cases hx
        · exact k2.2 k x hx
    · have e1 : BK (hs.set i (.box (cs.set j (.ow hs.length 0 0))) ++ [Ob.arr true 0 0 sz g]) id = BK (hs ++ [Ob.arr true 0 0 sz g]) id := by
        rcases Nat.lt_or_ge id hs.length with h' | h'
        · simp [BK, List.getElem?_append_left, h', List.getElem_set_ne (Ne.symm he)]
        · simp [BK, List.getElem?_append_right, h']
      rw [e1]; exact hob
  · rintro e w' ⟨v, φ', rfl, k1, k2, k3, k4⟩
    refine ⟨v, φ', rfl, k1, (Fr.of_ext h2).trans (k2.less (by simp)), k3, k4⟩
end
end Go.Proofs.YtiaebjpcgjkhoaaGreatDoor
namespace Go.Proofs.YtiaebjpcgjkhoaaGreatDoor
open Go.RowKit
def Co (x : Pn) : List VV := [Ad x.pid, Ad x.esc, Ad x.way]
def EB (l : List Pn) : Nat → List VV := fun i => Co (l.getD i default)
def BY (fz : Bool) (l : List Pn) : VV := .sl fz l.length 3 fun i => Co (l.getD i default)
def Bj (x : Ab) : List VV := [Ai x.is, Ad x.err, BY true x.wth]
def E5 (l : List Ab) : Nat → List VV := fun i => Bj (l.getD i default)
def Bz (fz : Bool) (l : List Ab) : VV := .sl fz l.length 3 fun i => Bj (l.getD i default)
def AX (x : Wy) : List VV := [Ad x.Esc, Ad x.Way, Ad x.With, Ad x.WithEsc, Ad x.WithWay, Ad x.Err]
def GS (l : List Wy) : Nat → List VV := fun i => AX (l.getD i default)
def Bf (fz : Bool) (l : List Wy) : VV := .sl fz l.length 6 fun i => AX (l.getD i default)
def Bu (x : D.Env) : List VV := [Aj true x.M.Globals, Aa true x.M.Init, Aw true x.M.Shapes, Aa true x.M.Chans, AA true x.M.Procs, Ad x.M.Claim, AC true x.M.Exprs, Aa true x.S.Globals, Br false x.S.Chans, A1 false x.S.Procs, Ad x.S.Last, Ad x.S.Alone, Ad x.S.Claim, Ad x.Pid, Ai x.Timeout, Ay true x.Able]
def AeH : Shp := { α := List Pn, enc := fun y => ([], BY true y) }
def AeM : Shp := { α := Ab, enc := fun y => ([], .agg (Bj y)) }
def AbF : Shp := { α := List Ab, enc := fun y => ([], Bz true y) }
def AeC : Shp := { α := Wy, enc := fun y => ([], .agg (AX y)) }
def Aby : Shp := { α := List Wy, enc := fun y => ([], Bf true y) }
def AbA : Shp := { α := D.Loc, enc := fun y => ([], .agg (AY y)) }
def Aad : Shp := { α := D.Proc, enc := fun y => ([], .agg (AB y)) }
def Yi : Shp := { α := D.Trans, enc := fun y => ([], .agg (Cs y)) }
def AeL : Shp := { α := Bool × Int, enc := fun y => ([], .tup [Ai y.1, Ad y.2]) }
def Yl : Shp := { α := Int × List Int × Int, enc := fun y => ([], .tup [Ad y.1, Aa true y.2.1, Ad y.2.2]) }
def AeI : Shp := { α := List Int × Int, enc := fun y => ([], .tup [Aa true y.1, Ad y.2]) }
def AeD : Shp := { α := List Wy × Int, enc := fun y => ([], .tup [Bf true y.1, Ad y.2]) }
def AbE : Shp := { α := List Int × Int, enc := fun y => ([.arr true 0 y.1.length 1 (A7 y.1)], .tup [.ow 0 0 y.1.length, Ad y.2]) }
def Cd (f : FuncId) : Shp :=
  bif Nat.beq f 15 || Nat.beq f 33 || Nat.beq f 176 then VY
  else bif Nat.beq f 21 then AbA
  else bif Nat.beq f 27 then Aad
  else bif Nat.beq f 20 then Yi
  else bif Nat.beq f 36 || Nat.beq f 166 || Nat.beq f 167 || Nat.beq f 17 || Nat.beq f 168 then Aag
  else bif Nat.beq f 40 then AbE
  else bif Nat.beq f 64 then Yl
  else bif Nat.beq f 99 then AeI
  else bif Nat.beq f 67 then Ot
  else bif Nat.beq f 145 || Nat.beq f 115 then AeH
  else bif Nat.beq f 29 then AeL
  else bif Nat.beq f 77 || Nat.beq f 49 || Nat.beq f 78 then AeM
  else bif Nat.beq f 32 then AbF
  else bif Nat.beq f 28 then AeC
  else bif Nat.beq f 16 then Aby
  else bif Nat.beq f 8 then AeD
  else CD f
def hsR (e : D.Env) (c : Int) (m : List Int) (out : List Pn) : List Ob := [.box (Af e), .box [Ad c], .box [Aa true m], .box [.ow 4 0 out.length], .arr true 0 out.length 3 (EB out)]
def Ab5 : VV := .fn (.func 165) [.bp 0 0, .bp 1 0, .bp 2 0, .bp 3 0]
def shR (e : D.Env) (c : Int) (m : List Int) (f : FuncId) : Shp :=
  bif Nat.beq f 165 then { α := List Pn × Bool, enc := fun y => (hsR e c m y.1, Ai y.2), lend := true }
  else bif Nat.beq f 30 then { α := List Pn, enc := fun y => (hsR e c m y, .tup []), lend := true }
  else Cd f
def hsW (e : D.Env) (out : List Wy) : List Ob := [.box (Af e), .box [.ow 2 0 out.length], .arr true 0 out.length 6 (GS out)]
def Ab4 : VV := .fn (.func 31) [.bp 0 0, .bp 1 0]
def shW (e : D.Env) (f : FuncId) : Shp :=
  bif Nat.beq f 31 then { α := List Wy × Bool, enc := fun y => (hsW e y.1, Ai y.2), lend := true }
  else bif Nat.beq f 30 then { α := List Wy, enc := fun y => (hsW e y, .tup []), lend := true }
  else Cd f
end Go.Proofs.YtiaebjpcgjkhoaaGreatDoor
namespace Go.Proofs.YtiaebjpcgjkhoaaGreatDoor
open Go.RowKit
def Ms : Ann := { keep := fun
  | [0, 1, 0, 1, 1] => [2, 6, 11, 12, 13]
  | _ => [] }
def Mr : Ann := { keep := fun
  | [0, 1, 0, 1, 1, 1, 1, 1, 1, 1] => [7, 9, 10, 53, 54, 55]
  | _ => [] }
def Gw : Ann := { keep := fun
  | [0, 1, 0, 1, 1] => [2, 3, 6, 16, 17, 18]
  | _ => [] }
def IL : Ann := { keep := fun
  | [0, 1, 0, 1, 1] => [1, 2, 3, 7, 13, 14]
  | _ => [] }
def Ex : Ann := { cut := (fun | [1, 1, 0, 0, 1, 1, 0, 0, 1, 0, 1, 1, 1] => true | _ => false), keep := fun
  | [0, 1, 0, 1, 1, 1] => [1, 2, 3, 7, 8, 16, 17, 18]
  | [0, 1, 0, 1, 1, 1, 1] => [7, 8, 40, 41, 42]
  | [1, 1, 0, 0, 1, 1, 0, 0, 1, 0, 1, 1, 1] => [1, 2, 3, 7, 8, 9, 16, 17, 18]
  | _ => [] }
def J7 : Ann := { keep := fun
  | [0, 1, 0, 1] => [0, 1, 7, 8]
  | _ => [] }
def J6 : Ann := { keep := fun
  | [0, 1, 0, 1] => [0, 3, 7, 8]
  | _ => [] }
def Hj : Ann := { base := 5, keep := fun
  | [0, 1, 0, 1] => [1, 2, 7, 8, 9]
  | _ => [] }
def Hi : Ann := { base := 3, keep := fun
  | [0, 1, 0, 1] => [1, 2, 7, 8, 9]
  | _ => [] }
def Mq : Ann := { base := 5, keep := fun
  | [0, 1, 0, 1] => [0, 1, 2, 3, 4, 5, 11, 12, 13]
  | _ => [] }
def Fm : Ann := { base := 3, keep := fun
  | [0, 1, 0, 1] => [0, 3, 14, 15, 16]
  | [0, 1, 1, 1, 1, 0, 0, 1, 1, 0, 0, 1, 0, 1] => [0, 3, 9, 14, 15, 16, 39, 40, 41]
  | _ => [] }
def Oe (e : D.Env) (l out : List Int) (k : Int) : St := Ao [(2, .bp 0 0), (6, .ow 1 0 out.length), (11, Aa true l), (12, Ad l.length), (13, Ad k)] [.box (Bu e), .arr true 0 out.length 1 (A7 out)]
def Oa (c : Int) (f : List D.Type) (l : List Int) (k : Int) : St := Ao [(7, Ad c), (9, Aj true f), (10, .ow 0 0 l.length), (53, .ow 0 0 l.length), (54, Ad l.length), (55, Ad k)] [.arr true 0 l.length 1 (A7 l)]
def PR (e : D.Env) (s : D.Stmt) (want : List Int) (k : Int) : St := Ao [(2, .bp 0 0), (3, .bp 1 0), (6, .ow 2 0 want.length), (16, Aa true s.Args), (17, Ad s.Args.length), (18, Ad k)] [.box (Af e), .box (Av s), .arr true 0 want.length 1 (A7 want)]
def LB (e : D.Env) (c : Int) (m : List Int) (out : List Pn) (k : Int) : St := Ao [(1, Ad c), (2, Aa true m), (3, .bp 0 0), (7, .ow 1 0 out.length), (13, Ad e.S.Procs.length), (14, Ad k)] [.box (Af e), .arr true 0 out.length 3 (EB out)]
def Od (e : D.Env) (ws : List D.Trans) (self : Bool) (n : Nat) (F : Nat → List VV) (some : Bool) (k : Int) : St := Ao [(1, Aq true ws), (2, Ai self), (3, .bp 0 0), (7, .ow 1 0 n), (8, Ai some), (16, Aq true ws), (17, Ad ws.length), (18, Ad k)] [.box (Af e), .arr true 0 n 3 F]
def Oc (e : D.Env) (ws : List D.Trans) (self : Bool) (l : List Ab) (some : Bool) (i k : Int) : St := Ao [(1, Aq true ws), (2, Ai self), (3, .bp 0 0), (7, .ow 1 0 l.length), (8, Ai some), (9, Ad i), (16, Aq true ws), (17, Ad ws.length), (18, Ad k)] [.box (Af e), .arr true 0 l.length 3 (E5 l)]
def KM (ws : List D.Trans) (l : List Ab) (some : Bool) (k : Int) : St := Ao [(7, .ow 0 0 l.length), (8, Ai some), (40, Aq true ws), (41, Ad ws.length), (42, Ad k)] [.arr true 0 l.length 3 (E5 l)]
def T7 (l : List Ab) (k : Int) : St := Ao [(0, Bz true l), (1, .fn (.func 168) []), (7, Ad l.length), (8, Ad k)] []
def T6 (l : List Wy) (w : Wy) (k : Int) : St := Ao [(0, Bf true l), (3, .bp 0 0), (7, Ad l.length), (8, Ad k)] [.box (AX w)]
def M9 (e : D.Env) (c : Int) (m : List Int) (out : List Pn) (l : D.Loc) (k : Int) : St := Ao [(1, Ab5), (2, .bp 5 0), (7, AE true l.Esc), (8, Ad l.Esc.length), (9, Ad k)] (hsR e c m out ++ [.box (AY l)])
def M8 (e : D.Env) (out : List Wy) (l : D.Loc) (k : Int) : St := Ao [(1, Ab4), (2, .bp 3 0), (7, AE true l.Esc), (8, Ad l.Esc.length), (9, Ad k)] (hsW e out ++ [.box (AY l)])
def Sd (e : D.Env) (c : Int) (m : List Int) (out : List Pn) (i : Int) (ws : List D.Trans) (k : Int) : St := Ao [(0, Ad i), (1, Aq true ws), (2, .bp 0 0), (3, .bp 1 0), (4, .bp 2 0), (5, .bp 3 0), (11, Aq true ws), (12, Ad ws.length), (13, Ad k)] (hsR e c m out)
def Jb (e : D.Env) (out : List Wy) (i : Int) (l : List Ab) (k : Int) : St := Ao [(0, Ad i), (3, .bp 1 0), (14, Bz true l), (15, Ad l.length), (16, Ad k)] (hsW e out)
def Ja (e : D.Env) (out : List Wy) (i : Int) (l : List Ab) (k : Int) (w : Wy) (ps : List Pn) (j : Int) : St := Ao [(0, Ad i), (3, .bp 1 0), (9, .bp 3 0), (14, Bz true l), (15, Ad l.length), (16, Ad k), (39, BY true ps), (40, Ad ps.length), (41, Ad j)] (hsW e out ++ [.box (AX w)])
end Go.Proofs.YtiaebjpcgjkhoaaGreatDoor
namespace Go.Proofs.YtiaebjpcgjkhoaaGreatDoor
open Go.RowKit
set_option maxRecDepth 100000
theorem ZJ (r : Int) (e : D.Env) : (Ag Tryz.prog tb Cd Bd true Tryz.f15 [] (Ad r)).goal (St.init [] [.agg (Af e)]) =
    (∃ (y : Int), Ae Tryz.prog 25 [] [VV.agg (Ac e.M), VV.agg (Ax e.S)] [] (Ad y) ∧ ((y != (0 : Int)) = true → leO [] [] ∧ (Ad y).le (Ad r)) ∧ ((y != (0 : Int)) = false → ((bif decide (e.Pid < (0 : Int)) then true else decide (e.Pid ≥ (↑e.S.Procs.length : Int))) = true → leO [] [] ∧ (Ad (42 : Int)).le (Ad r)) ∧ ((bif decide (e.Pid < (0 : Int)) then true else decide (e.Pid ≥ (↑e.S.Procs.length : Int))) = false → leO [] [] ∧ (Ad (0 : Int)).le (Ad r)))) := by kernel_rfl
theorem XH (l : D.Loc) (e : D.Env) : (Ag Tryz.prog tb Cd Bd true Tryz.f21 [] (.agg (AY l))).goal (St.init [] [.agg (Af e)]) =
    (((0 : Int) ≤ e.Pid ∧ e.Pid < (↑e.S.Procs.length : Int)) ∧ ((0 : Int) ≤ (e.S.Procs.getD e.Pid.toNat default).Type_ ∧ (e.S.Procs.getD e.Pid.toNat default).Type_ < (↑e.M.Procs.length : Int)) ∧ ((0 : Int) ≤ (e.S.Procs.getD e.Pid.toNat default).Loc ∧ (e.S.Procs.getD e.Pid.toNat default).Loc < (↑(e.M.Procs.getD (e.S.Procs.getD e.Pid.toNat default).Type_.toNat default).Locs.length : Int)) ∧ leO [] [] ∧ (VV.agg (AY ((e.M.Procs.getD (e.S.Procs.getD e.Pid.toNat default).Type_.toNat default).Locs.getD (e.S.Procs.getD e.Pid.toNat default).Loc.toNat default))).le (VV.agg (AY l))) := by kernel_rfl
theorem Vb (p : D.Proc) (e : D.Env) : (Ag Tryz.prog tb Cd Bd true Tryz.f27 [] (.agg (AB p))).goal (St.init [] [.agg (Af e)]) =
    (((0 : Int) ≤ e.Pid ∧ e.Pid < (↑e.S.Procs.length : Int)) ∧ ((0 : Int) ≤ (e.S.Procs.getD e.Pid.toNat default).Type_ ∧ (e.S.Procs.getD e.Pid.toNat default).Type_ < (↑e.M.Procs.length : Int)) ∧ leO [] [] ∧ (VV.agg (AB (e.M.Procs.getD (e.S.Procs.getD e.Pid.toNat default).Type_.toNat default))).le (VV.agg (AB p))) := by kernel_rfl
theorem U6 (b : Bool) (m : D.Model) (x : Int) : (Ag Tryz.prog tb Cd Bd true Tryz.f36 [] (Ai b)).goal (St.init [] [.agg (Ac m), Ad x]) =
    (((true && decide (x ≥ (0 : Int)) == true) = true → (0 : Int) ≤ x ∧ x < (↑m.Exprs.length : Int)) ∧ leO [] [] ∧ (Ai (bif decide (x ≥ (0 : Int)) then (m.Exprs.getD x.toNat default).Op == 39 else false)).le (Ai b)) := by kernel_rfl
theorem XJ (hs' : List Ob) (r : VV) (e : D.Env) (l : List Int) : (Ag Tryz.prog tb Cd Ms false Tryz.f40 hs' (r)).goal (St.init [] [.agg (Bu e), Aa true l]) =
    (AH (Ag Tryz.prog tb Cd Ms false Tryz.f40 hs' r) [1, 1, 0, 1, 0] (Ao [(2, VV.bp 0 0), (6, VV.nl), (11, Aa true l), (12, Ad (↑l.length : Int)), (13, Ad (0 : Int))] [Ob.box (Bu e)])) := by kernel_rfl
theorem XG (r : Int × List Int × Int) (e : D.Env) (s : D.Stmt) : (Ag Tryz.prog tb Cd Mr true Tryz.f64 [] (.tup [Ad r.1, Aa true r.2.1, Ad r.2.2])).goal (St.init [] [.agg (Bu e), .agg (Av s)]) =
    (∃ (y : Int × Int), Ae Tryz.prog 92 [] [VV.agg (Bu e), Ad s.A] [] (VV.tup [Ad y.fst, Ad y.snd]) ∧ ((y.snd != (0 : Int)) = true → leO [] [] ∧ (VV.tup [Ad (0 : Int), VV.nl, Ad y.snd]).le (VV.tup [Ad r.fst, Aa true r.snd.fst, Ad r.snd.snd])) ∧ ((y.snd != (0 : Int)) = false → ((0 : Int) ≤ IntKind.i64.wrap (y.fst - (1 : Int)) ∧ IntKind.i64.wrap (y.fst - (1 : Int)) < (↑e.S.Chans.length : Int)) ∧ ((0 : Int) ≤ (e.S.Chans.getD (IntKind.i64.wrap (y.fst - (1 : Int))).toNat default).Shape ∧ (e.S.Chans.getD (IntKind.i64.wrap (y.fst - (1 : Int))).toNat default).Shape < (↑e.M.Shapes.length : Int)) ∧ (((↑(e.M.Shapes.getD (e.S.Chans.getD (IntKind.i64.wrap (y.fst - (1 : Int))).toNat default).Shape.toNat default).Fields.length : Int) != (↑s.Args.length : Int)) = true → leO [] [] ∧ (VV.tup [Ad (0 : Int), VV.nl, Ad (49 : Int)]).le (VV.tup [Ad r.fst, Aa true r.snd.fst, Ad r.snd.snd])) ∧ (((↑(e.M.Shapes.getD (e.S.Chans.getD (IntKind.i64.wrap (y.fst - (1 : Int))).toNat default).Shape.toNat default).Fields.length : Int) != (↑s.Args.length : Int)) = false → ∃ (y_1 : List Int × Int), Ae Tryz.prog 40 [] [VV.agg (Bu e), Aa true s.Args] [Ob.arr true 0 y_1.fst.length 1 fun (i : Nat) => [Ad (y_1.fst.getD i (0 : Int))]] (VV.tup [VV.ow 0 0 y_1.fst.length, Ad y_1.snd]) ∧ ((y_1.snd != (0 : Int)) = true → leO [] [] ∧ (VV.tup [Ad (0 : Int), VV.nl, Ad y_1.snd]).le (VV.tup [Ad r.fst, Aa true r.snd.fst, Ad r.snd.snd])) ∧ ((y_1.snd != (0 : Int)) = false → AH (Ag Tryz.prog tb Cd Mr true Tryz.f64 [] (VV.tup [Ad r.fst, Aa true r.snd.fst, Ad r.snd.snd])) [1, 1, 1, 1, 1, 1, 1, 0, 1, 0] (Ao [(7, Ad y.fst), (9, Aj true (e.M.Shapes.getD (e.S.Chans.getD (IntKind.i64.wrap (y.fst - (1 : Int))).toNat default).Shape.toNat default).Fields), (10, VV.ow 0 0 y_1.fst.length), (53, VV.ow 0 0 y_1.fst.length), (54, Ad (↑y_1.fst.length : Int)), (55, Ad (0 : Int))] [Ob.arr true 0 y_1.fst.length 1 fun (i : Nat) => [Ad (y_1.fst.getD i (0 : Int))]]))))) := by kernel_rfl
theorem Rt (r : List Int × Int) (e : D.Env) (s : D.Stmt) : (Ag Tryz.prog tb Cd Gw true Tryz.f99 [] (.tup [Aa true r.1, Ad r.2])).goal (St.init [] [.agg (Af e), .agg (Av s)]) =
    (((0 : Int) ≤ (↑s.Args.length : Int) ∧ (↑s.Args.length : Int) ≤ (↑s.Args.length : Int) ∧ (↑s.Args.length : Int) * (↑8 : Int) ≤ (140737488355328 : Int)) ∧ AH (Ag Tryz.prog tb Cd Gw true Tryz.f99 [] (VV.tup [Aa true r.fst, Ad r.snd])) [1, 1, 0, 1, 0] (Ao [(2, VV.bp 0 0), (3, VV.bp 1 0), (6, VV.ow 2 0 (↑s.Args.length : Int).toNat), (16, Aa true s.Args), (17, Ad (↑s.Args.length : Int)), (18, Ad (0 : Int))] [Ob.box (Af e), Ob.box (Av s), Ob.arr true 0 (↑s.Args.length : Int).toNat 1 fun (_ : Nat) => ((Ag Tryz.prog tb Cd Gw true Tryz.f99 [] (VV.tup [Aa true r.fst, Ad r.snd])).T (2 : TypeId)).zero])) := by kernel_rfl
theorem RJ (r : Int × Int × Int) (e : D.Env) (s : D.Stmt) : (Ag Tryz.prog tb Cd Bd true Tryz.f67 [] (.tup [Ad r.1, Ad r.2.1, Ad r.2.2])).goal (St.init [] [.agg (Af e), .agg (Av s)]) =
    (∃ (y : Int × Int), Ae Tryz.prog 92 [] [VV.agg (Af e), Ad s.A] [] (VV.tup [Ad y.fst, Ad y.snd]) ∧ ((y.snd != (0 : Int)) = true → leO [] [] ∧ (VV.tup [Ad (0 : Int), Ad (-1 : Int), Ad y.snd]).le (VV.tup [Ad r.fst, Ad r.snd.fst, Ad r.snd.snd])) ∧ ((y.snd != (0 : Int)) = false → ((0 : Int) ≤ IntKind.i64.wrap (y.fst - (1 : Int)) ∧ IntKind.i64.wrap (y.fst - (1 : Int)) < (↑e.S.Chans.length : Int)) ∧ ((0 : Int) ≤ (e.S.Chans.getD (IntKind.i64.wrap (y.fst - (1 : Int))).toNat default).Shape ∧ (e.S.Chans.getD (IntKind.i64.wrap (y.fst - (1 : Int))).toNat default).Shape < (↑e.M.Shapes.length : Int)) ∧ (((↑(e.M.Shapes.getD (e.S.Chans.getD (IntKind.i64.wrap (y.fst - (1 : Int))).toNat default).Shape.toNat default).Fields.length : Int) != (↑s.Args.length : Int)) = true → leO [] [] ∧ (VV.tup [Ad (0 : Int), Ad (-1 : Int), Ad (49 : Int)]).le (VV.tup [Ad r.fst, Ad r.snd.fst, Ad r.snd.snd])) ∧ (((↑(e.M.Shapes.getD (e.S.Chans.getD (IntKind.i64.wrap (y.fst - (1 : Int))).toNat default).Shape.toNat default).Fields.length : Int) != (↑s.Args.length : Int)) = false → ∃ (y_1 : List Int × Int), Ae Tryz.prog 99 [] [VV.agg (Af e), VV.agg (Av s)] [] (VV.tup [Aa true y_1.fst, Ad y_1.snd]) ∧ ((y_1.snd != (0 : Int)) = true → leO [] [] ∧ (VV.tup [Ad (0 : Int), Ad (-1 : Int), Ad y_1.snd]).le (VV.tup [Ad r.fst, Ad r.snd.fst, Ad r.snd.snd])) ∧ ((y_1.snd != (0 : Int)) = false → ((0 : Int) ≤ IntKind.i64.wrap (y.fst - (1 : Int)) ∧ IntKind.i64.wrap (y.fst - (1 : Int)) < (↑e.S.Chans.length : Int)) ∧ (2 : Int) ≠ (0 : Int) ∧ ∃ (y_2 : Int), Ae Tryz.prog 100 [] [VV.agg [Ad (e.S.Chans.getD (IntKind.i64.wrap (y.fst - (1 : Int))).toNat default).Shape, BA true (e.S.Chans.getD (IntKind.i64.wrap (y.fst - (1 : Int))).toNat default).Queue], Aa true y_1.fst, Aa true s.Match, Ai (s.N.tmod (2 : Int) == 1)] [] (Ad y_2) ∧ leO [] [] ∧ (VV.tup [Ad y.fst, Ad y_2, Ad (0 : Int)]).le (VV.tup [Ad r.fst, Ad r.snd.fst, Ad r.snd.snd]))))) := by kernel_rfl
theorem Ru (b : Bool) (e : D.Env) (s : D.Stmt) (c : Int) (m : List Int) : (Ag Tryz.prog tb Cd Bd true Tryz.f166 [] (Ai b)).goal (St.init [] [.agg (Af e), .agg (Av s), Ad c, Aa true m]) =
    (((bif bif s.Kind != (6 : Int) then true else decide (s.N > (1 : Int)) then true else (↑s.Args.length : Int) != (↑m.length : Int)) = true → leO [] [] ∧ (Ai false).le (Ai b)) ∧ ((bif bif s.Kind != (6 : Int) then true else decide (s.N > (1 : Int)) then true else (↑s.Args.length : Int) != (↑m.length : Int)) = false → ∃ (y : Int × Int), Ae Tryz.prog 92 [] [VV.agg (Af e), Ad s.A] [] (VV.tup [Ad y.fst, Ad y.snd]) ∧ ((bif y.snd != (0 : Int) then true else y.fst != c) = true → leO [] [] ∧ (Ai false).le (Ai b)) ∧ ((bif y.snd != (0 : Int) then true else y.fst != c) = false → ∃ (y : List Int × Int), Ae Tryz.prog 99 [] [VV.agg (Af e), VV.agg (Av s)] [] (VV.tup [Aa true y.fst, Ad y.snd]) ∧ ∃ (y_1 : Int), ((true && (y.snd == 0) == true) = true → Ae Tryz.prog 100 [] [VV.agg [Ad (0 : Int), VV.sl true 1 1 fun (i : Nat) => List.take 1 (List.drop (i * 1) [Aa true m])], Aa true y.fst, Aa true s.Match, Ai false] [] (Ad y_1)) ∧ leO [] [] ∧ (Ai (bif y.snd == 0 then y_1 == 0 else false)).le (Ai b)))) := by kernel_rfl
theorem RA (r : List Pn) (e : D.Env) (c : Int) (m : List Int) : (Ag Tryz.prog tb Cd IL true Tryz.f115 [] (BY true r)).goal (St.init [] [.agg (Af e), Ad c, Aa true m]) =
    (AH (Ag Tryz.prog tb Cd IL true Tryz.f115 [] (BY true r)) [1, 1, 0, 1, 0] (Ao [(1, Ad c), (2, Aa true m), (3, VV.bp 0 0), (7, VV.nl), (13, Ad (↑e.S.Procs.length : Int)), (14, Ad (0 : Int))] [Ob.box (Af e)])) := by kernel_rfl
theorem Va (r : Bool × Int) (e : D.Env) : (Ag Tryz.prog tb Cd Bd true Tryz.f29 [] (.tup [Ai r.1, Ad r.2])).goal (St.init [] [.agg (Af e)]) =
    (∃ (y : D.Proc), Ae Tryz.prog 27 [] [VV.agg (Af e)] [] (VV.agg (AB y)) ∧ (decide (y.Provided < (0 : Int)) = true → leO [] [] ∧ (VV.tup [Ai true, Ad (0 : Int)]).le (VV.tup [Ai r.fst, Ad r.snd])) ∧ (decide (y.Provided < (0 : Int)) = false → ∃ (y_1 : Int × Int), Ae Tryz.prog 39 [] [VV.agg (Af e), Ad y.Provided] [] (VV.tup [Ad y_1.fst, Ad y_1.snd]) ∧ leO [] [] ∧ (VV.tup [Ai (y_1.fst != (0 : Int)), Ad y_1.snd]).le (VV.tup [Ai r.fst, Ad r.snd]))) := by kernel_rfl
theorem U7 (r : Ab) (e : D.Env) : (Ag Tryz.prog tb Cd Bd true Tryz.f77 [] (.agg (Bj r))).goal (St.init [] [.agg (Af e)]) =
    (leO [] [] ∧ (VV.agg [Ai (decide ((↑e.S.Procs.length : Int) < (16 : Int))), Ad (0 : Int), VV.nl]).le (VV.agg (Bj r))) := by kernel_rfl
theorem U4 (r : Ab) (e : D.Env) (s : D.Stmt) (self : Bool) : (Ag Tryz.prog tb Cd Bd true Tryz.f49 [] (.agg (Bj r))).goal (St.init [] [.agg (Af e), .agg (Av s), Ai self]) =
    (((s.Kind == 1) = true → ∃ (y : Bool), Ae Tryz.prog 36 [] [VV.agg (Ac e.M), Ad s.A] [] (Ai y) ∧ (y = true → ∃ (y : Ab), Ae Tryz.prog 77 [] [VV.agg (Af e)] [] (VV.agg (Bj y)) ∧ leO [] [] ∧ (VV.agg (Bj y)).le (VV.agg (Bj r))) ∧ (y = false → ∃ (y : Int × Int), Ae Tryz.prog 39 [] [VV.agg (Af e), Ad s.A] [] (VV.tup [Ad y.fst, Ad y.snd]) ∧ leO [] [] ∧ (VV.agg [Ai (bif y.fst != (0 : Int) then true else y.snd != (0 : Int)), Ad y.snd, VV.nl]).le (VV.agg (Bj r)))) ∧ ((s.Kind == 1) = false → ((s.Kind == 2) = true → ∃ (y : Bool), Ae Tryz.prog 36 [] [VV.agg (Ac e.M), Ad s.B] [] (Ai y) ∧ (y = true → ∃ (y : Ab), Ae Tryz.prog 77 [] [VV.agg (Af e)] [] (VV.agg (Bj y)) ∧ leO [] [] ∧ (VV.agg (Bj y)).le (VV.agg (Bj r))) ∧ (y = false → leO [] [] ∧ (VV.agg [Ai true, Ad (0 : Int), VV.nl]).le (VV.agg (Bj r)))) ∧ ((s.Kind == 2) = false → ((s.Kind == 9) = true → leO [] [] ∧ (VV.agg [Ai (decide ((↑e.S.Chans.length : Int) < (32 : Int))), Ad (0 : Int), VV.nl]).le (VV.agg (Bj r))) ∧ ((s.Kind == 9) = false → ((s.Kind == 5) = true → ∃ (y : Ab), Ae Tryz.prog 78 [] [VV.agg (Af e), VV.agg (Av s), Ai self] [] (VV.agg (Bj y)) ∧ leO [] [] ∧ (VV.agg (Bj y)).le (VV.agg (Bj r))) ∧ ((s.Kind == 5) = false → ((s.Kind == 6) = true → ∃ (y : Int × Int × Int), Ae Tryz.prog 67 [] [VV.agg (Af e), VV.agg (Av s)] [] (VV.tup [Ad y.fst, Ad y.snd.fst, Ad y.snd.snd]) ∧ leO [] [] ∧ (VV.agg [Ai (bif decide (y.snd.fst ≥ (0 : Int)) then true else y.snd.snd != (0 : Int)), Ad y.snd.snd, VV.nl]).le (VV.agg (Bj r))) ∧ ((s.Kind == 6) = false → ((s.Kind == 7) = true → leO [] [] ∧ (VV.agg [Ai false, Ad (0 : Int), VV.nl]).le (VV.agg (Bj r))) ∧ ((s.Kind == 7) = false → leO [] [] ∧ (VV.agg [Ai true, Ad (0 : Int), VV.nl]).le (VV.agg (Bj r))))))))) := by kernel_rfl
theorem Rx (r : Ab) (e : D.Env) (s : D.Stmt) (self : Bool) : (Ag Tryz.prog tb Cd Bd true Tryz.f78 [] (.agg (Bj r))).goal (St.init [] [.agg (Af e), .agg (Av s), Ai self]) =
    (∃ (y : Int × Int), Ae Tryz.prog 92 [] [VV.agg (Af e), Ad s.A] [] (VV.tup [Ad y.fst, Ad y.snd]) ∧ ((y.snd != (0 : Int)) = true → leO [] [] ∧ (VV.agg [Ai true, Ad y.snd, VV.nl]).le (VV.agg (Bj r))) ∧ ((y.snd != (0 : Int)) = false → ((0 : Int) ≤ IntKind.i64.wrap (y.fst - (1 : Int)) ∧ IntKind.i64.wrap (y.fst - (1 : Int)) < (↑e.S.Chans.length : Int)) ∧ ((0 : Int) ≤ (e.S.Chans.getD (IntKind.i64.wrap (y.fst - (1 : Int))).toNat default).Shape ∧ (e.S.Chans.getD (IntKind.i64.wrap (y.fst - (1 : Int))).toNat default).Shape < (↑e.M.Shapes.length : Int)) ∧ (((↑(e.M.Shapes.getD (e.S.Chans.getD (IntKind.i64.wrap (y.fst - (1 : Int))).toNat default).Shape.toNat default).Fields.length : Int) != (↑s.Args.length : Int)) = true → leO [] [] ∧ (VV.agg [Ai true, Ad (49 : Int), VV.nl]).le (VV.agg (Bj r))) ∧ (((↑(e.M.Shapes.getD (e.S.Chans.getD (IntKind.i64.wrap (y.fst - (1 : Int))).toNat default).Shape.toNat default).Fields.length : Int) != (↑s.Args.length : Int)) = false → (decide ((e.M.Shapes.getD (e.S.Chans.getD (IntKind.i64.wrap (y.fst - (1 : Int))).toNat default).Shape.toNat default).Room > (0 : Int)) = true → leO [] [] ∧ (VV.agg [Ai (decide ((↑(e.S.Chans.getD (IntKind.i64.wrap (y.fst - (1 : Int))).toNat default).Queue.length : Int) < (e.M.Shapes.getD (e.S.Chans.getD (IntKind.i64.wrap (y.fst - (1 : Int))).toNat default).Shape.toNat default).Room)), Ad (0 : Int), VV.nl]).le (VV.agg (Bj r))) ∧ (decide ((e.M.Shapes.getD (e.S.Chans.getD (IntKind.i64.wrap (y.fst - (1 : Int))).toNat default).Shape.toNat default).Room > (0 : Int)) = false → (self = true → leO [] [] ∧ (VV.agg [Ai false, Ad (0 : Int), VV.nl]).le (VV.agg (Bj r))) ∧ (self = false → ∃ (y_1 : Int × List Int × Int), Ae Tryz.prog 64 [] [VV.agg (Af e), VV.agg (Av s)] [] (VV.tup [Ad y_1.fst, Aa true y_1.snd.fst, Ad y_1.snd.snd]) ∧ ((y_1.snd.snd != (0 : Int)) = true → leO [] [] ∧ (VV.agg [Ai true, Ad y_1.snd.snd, VV.nl]).le (VV.agg (Bj r))) ∧ ((y_1.snd.snd != (0 : Int)) = false → ∃ (y_2 : List Pn), Ae Tryz.prog 115 [] [VV.agg (Af e), Ad y.fst, Aa true y_1.snd.fst] [] (BY true y_2) ∧ leO [] [] ∧ (VV.agg [Ai (decide ((↑y_2.length : Int) > (0 : Int))), Ad (0 : Int), BY true y_2]).le (VV.agg (Bj r)))))))) := by kernel_rfl
theorem XI (r : List Ab) (e : D.Env) (ws : List D.Trans) (self : Bool) : (Ag Tryz.prog tb Cd Ex true Tryz.f32 [] (Bz true r)).goal (St.init [] [.agg (Af e), Aq true ws, Ai self]) =
    (((0 : Int) ≤ (↑ws.length : Int) ∧ (↑ws.length : Int) ≤ (↑ws.length : Int) ∧ (↑ws.length : Int) * (↑40 : Int) ≤ (140737488355328 : Int)) ∧ AH (Ag Tryz.prog tb Cd Ex true Tryz.f32 [] (Bz true r)) [1, 1, 1, 0, 1, 0] (Ao [(1, Aq true ws), (2, Ai self), (3, VV.bp 0 0), (7, VV.ow 1 0 (↑ws.length : Int).toNat), (8, Ai false), (16, Aq true ws), (17, Ad (↑ws.length : Int)), (18, Ad (0 : Int))] [Ob.box (Af e), Ob.arr true 0 (↑ws.length : Int).toNat 3 fun (_ : Nat) => ((Ag Tryz.prog tb Cd Ex true Tryz.f32 [] (Bz true r)).T (95 : TypeId)).zero])) := by kernel_rfl
theorem Ve (r : Wy) (err : Int) : (Ag Tryz.prog tb Cd Bd true Tryz.f28 [] (.agg (AX r))).goal (St.init [] [Ad err]) =
    (leO [] [] ∧ (VV.agg [Ad (-1 : Int), Ad (-1 : Int), Ad (-1 : Int), Ad (-1 : Int), Ad (-1 : Int), Ad err]).le (VV.agg (AX r))) := by kernel_rfl
theorem Vt (r : List Wy × Int) (e : D.Env) : (Ag Tryz.prog tb Cd Bd true Tryz.f8 [] (.tup [Bf true r.1, Ad r.2])).goal (St.init [] [.agg (Af e)]) =
    (∃ (y : Int), Ae Tryz.prog 15 [] [VV.agg (Af e)] [] (Ad y) ∧ ((y != (0 : Int)) = true → leO [] [] ∧ (VV.tup [VV.nl, Ad y]).le (VV.tup [Bf true r.fst, Ad r.snd])) ∧ ((y != (0 : Int)) = false → ∃ (y : List Wy), Ae Tryz.prog 16 [] [VV.agg (Af e)] [] (Bf true y) ∧ leO [] [] ∧ (VV.tup [Bf true y, Ad (0 : Int)]).le (VV.tup [Bf true r.fst, Ad r.snd]))) := by kernel_rfl
theorem XD (t : D.Trans) (l : D.Loc) (esc i : Int) : (Ag Tryz.prog tb Cd Bd true Tryz.f20 [] (.agg (Cs t))).goal (St.init [] [.agg (AY l), Ad esc, Ad i]) =
    ((decide (esc < (0 : Int)) = true → ((0 : Int) ≤ i ∧ i < (↑l.Out.length : Int)) ∧ leO [] [] ∧ (VV.agg (Cs (l.Out.getD i.toNat default))).le (VV.agg (Cs t))) ∧ (decide (esc < (0 : Int)) = false → ((0 : Int) ≤ esc ∧ esc < (↑l.Esc.length : Int)) ∧ ((0 : Int) ≤ i ∧ i < (↑(l.Esc.getD esc.toNat []).length : Int)) ∧ leO [] [] ∧ (VV.agg (Cs ((l.Esc.getD esc.toNat []).getD i.toNat default))).le (VV.agg (Cs t)))) := by kernel_rfl
theorem RO (b : Bool) (l : List Ab) : (Ag Tryz.prog tb Cd Bd true Tryz.f167 [] (Ai b)).goal (St.init [] [Bz true l, .fn (.func 168) []]) =
    (∃ (y : Int), Ae Tryz.prog 176 [] [Bz true l, VV.fn (Fn.func (nat_lit 168)) []] [] (Ad y) ∧ leO [] [] ∧ (Ai (decide (y ≥ (0 : Int)))).le (Ai b)) := by kernel_rfl
theorem Vk (r : Int) (l : List Ab) : (Ag Tryz.prog tb Cd J7 true Tryz.f176 [] (Ad r)).goal (St.init [] [Bz true l, .fn (.func 168) []]) =
    (AH (Ag Tryz.prog tb Cd J7 true Tryz.f176 [] (Ad r)) [1, 0, 1, 0] (Ao [(0, Bz true l), (1, VV.fn (Fn.func (nat_lit 168)) []), (7, Ad (↑l.length : Int)), (8, Ad (0 : Int))] [])) := by kernel_rfl
theorem Vi (b : Bool) (x : Ab) : (Ag Tryz.prog tb Cd Bd true Tryz.f168 [] (Ai b)).goal (St.init [] [.agg (Bj x)]) =
    (leO [] [] ∧ (Ai x.is).le (Ai b)) := by kernel_rfl
theorem RN (b : Bool) (l : List Wy) (w : Wy) : (Ag Tryz.prog tb Cd Bd true Tryz.f17 [] (Ai b)).goal (St.init [] [Bf true l, .agg (AX w)]) =
    (∃ (y : Int), Ae Tryz.prog 33 [] [Bf true l, VV.agg (AX w)] [] (Ad y) ∧ leO [] [] ∧ (Ai (decide (y ≥ (0 : Int)))).le (Ai b)) := by kernel_rfl
theorem Vj (r : Int) (l : List Wy) (w : Wy) : (Ag Tryz.prog tb Cd J6 true Tryz.f33 [] (Ad r)).goal (St.init [] [Bf true l, .agg (AX w)]) =
    (AH (Ag Tryz.prog tb Cd J6 true Tryz.f33 [] (Ad r)) [1, 0, 1, 0] (Ao [(0, Bf true l), (3, VV.bp 0 0), (7, Ad (↑l.length : Int)), (8, Ad (0 : Int))] [Ob.box (AX w)])) := by kernel_rfl
theorem U8 (r : List Pn) (e : D.Env) (c : Int) (m : List Int) : (Ag Tryz.prog tb (shR e c m) Bd true Tryz.f145 [] (BY true r)).goal (St.init [] [.agg (Af e), Ad c, Aa true m]) =
    (∃ (y : Bool × Int), Ae Tryz.prog 29 [] [VV.agg (Af e)] [] (VV.tup [Ai y.fst, Ad y.snd]) ∧ ((bif !y.fst then true else y.snd != (0 : Int)) = true → leO [] [] ∧ VV.nl.le (BY true r)) ∧ ((bif !y.fst then true else y.snd != (0 : Int)) = false → ∃ (y : D.Loc), Ae Tryz.prog 21 [] [VV.agg (Af e)] [] (VV.agg (AY y)) ∧ ∃ (y_1 : List Pn), Ae Tryz.prog 30 [Ob.box (Af e), Ob.box [Ad c], Ob.box [Aa true m], Ob.box [VV.nl]] [VV.agg (AY y), VV.fn (Fn.func (nat_lit 165)) [VV.bp 0 0, VV.bp 1 0, VV.bp 2 0, VV.bp 3 0]] [Ob.box (Af e), Ob.box [Ad c], Ob.box [Aa true m], Ob.box [VV.ow 4 0 y_1.length], Ob.arr true 0 y_1.length 3 fun (i : Nat) => Co (y_1.getD i default)] (VV.tup []) ∧ leO [] [] ∧ (BY true y_1).le (BY true r))) := by kernel_rfl
theorem Pj (r out : List Pn) (e : D.Env) (c : Int) (m : List Int) (l : D.Loc) : (Ag Tryz.prog tb (shR e c m) Hj true Tryz.f30 (hsR e c m r) (.tup [])).goal (St.init (hsR e c m out) [.agg (AY l), Ab5]) =
    (AH (Ag Tryz.prog tb (shR e c m) Hj true Tryz.f30 (hsR e c m r) (VV.tup [])) [1, 0, 1, 0] (Ao [(1, VV.fn (Fn.func (nat_lit 165)) [VV.bp 0 0, VV.bp 1 0, VV.bp 2 0, VV.bp 3 0]), (2, VV.bp 5 0), (7, AE true l.Esc), (8, Ad (↑l.Esc.length : Int)), (9, Ad (0 : Int))] [Ob.box (Af e), Ob.box [Ad c], Ob.box [Aa true m], Ob.box [VV.ow 4 0 out.length], Ob.arr true 0 out.length 3 fun (i : Nat) => Co (out.getD i default), Ob.box (AY l)])) := by kernel_rfl
theorem Pi (r out : List Wy) (e : D.Env) (l : D.Loc) : (Ag Tryz.prog tb (shW e) Hi true Tryz.f30 (hsW e r) (.tup [])).goal (St.init (hsW e out) [.agg (AY l), Ab4]) =
    (AH (Ag Tryz.prog tb (shW e) Hi true Tryz.f30 (hsW e r) (VV.tup [])) [1, 0, 1, 0] (Ao [(1, VV.fn (Fn.func (nat_lit 31)) [VV.bp 0 0, VV.bp 1 0]), (2, VV.bp 3 0), (7, AE true l.Esc), (8, Ad (↑l.Esc.length : Int)), (9, Ad (0 : Int))] [Ob.box (Af e), Ob.box [VV.ow 2 0 out.length], Ob.arr true 0 out.length 6 fun (i : Nat) => AX (out.getD i default), Ob.box (AY l)])) := by kernel_rfl
theorem XE (r out : List Pn) (b : Bool) (e : D.Env) (c : Int) (m : List Int) (i : Int) (ws : List D.Trans) : (Ag Tryz.prog tb Cd Mq true Tryz.f165 (hsR e c m r) (Ai b)).goal (St.init (hsR e c m out) [Ad i, Aq true ws, .bp 0 0, .bp 1 0, .bp 2 0, .bp 3 0]) =
    (AH (Ag Tryz.prog tb Cd Mq true Tryz.f165 (hsR e c m r) (Ai b)) [1, 0, 1, 0] (Ao [(0, Ad i), (1, Aq true ws), (2, VV.bp 0 0), (3, VV.bp 1 0), (4, VV.bp 2 0), (5, VV.bp 3 0), (11, Aq true ws), (12, Ad (↑ws.length : Int)), (13, Ad (0 : Int))] [Ob.box (Af e), Ob.box [Ad c], Ob.box [Aa true m], Ob.box [VV.ow 4 0 out.length], Ob.arr true 0 out.length 3 fun (i : Nat) => Co (out.getD i default)])) := by kernel_rfl
theorem XF (r out : List Wy) (b : Bool) (e : D.Env) (i : Int) (ws : List D.Trans) : (Ag Tryz.prog tb Cd Fm true Tryz.f31 (hsW e r) (Ai b)).goal (St.init (hsW e out) [Ad i, Aq true ws, .bp 0 0, .bp 1 0]) =
    (∃ (y : List Ab), Ae Tryz.prog 32 [] [VV.agg (Af e), Aq true ws, Ai false] [] (Bz true y) ∧ AH (Ag Tryz.prog tb Cd Fm true Tryz.f31 (hsW e r) (Ai b)) [1, 0, 1, 0] (Ao [(0, Ad i), (3, VV.bp 1 0), (14, Bz true y), (15, Ad (↑y.length : Int)), (16, Ad (0 : Int))] [Ob.box (Af e), Ob.box [VV.ow 2 0 out.length], Ob.arr true 0 out.length 6 fun (i : Nat) => AX (out.getD i default)])) := by kernel_rfl
theorem Rz (r : List Wy) (e : D.Env) : (Ag Tryz.prog tb (shW e) Bd true Tryz.f16 [] (Bf true r)).goal (St.init [] [.agg (Af e)]) =
    (((0 : Int) ≤ e.Pid ∧ e.Pid < (↑e.S.Procs.length : Int)) ∧ ∃ (y : D.Proc), Ae Tryz.prog 27 [] [VV.agg (Af e)] [] (VV.agg (AB y)) ∧ (((e.S.Procs.getD e.Pid.toNat default).Loc == y.Final) = true → ((e.Pid == IntKind.i64.wrap ((↑e.S.Procs.length : Int) - (1 : Int))) = true → ∃ (y : Wy), Ae Tryz.prog 28 [] [Ad (0 : Int)] [] (VV.agg (AX y)) ∧ leO [] [] ∧ (VV.sl true 1 6 fun (i : Nat) => List.take 6 (List.drop (i * 6) [Ad y.Esc, Ad y.Way, Ad y.With, Ad y.WithEsc, Ad y.WithWay, Ad y.Err])).le (Bf true r)) ∧ ((e.Pid == IntKind.i64.wrap ((↑e.S.Procs.length : Int) - (1 : Int))) = false → leO [] [] ∧ VV.nl.le (Bf true r))) ∧ (((e.S.Procs.getD e.Pid.toNat default).Loc == y.Final) = false → ∃ (y : Bool × Int), Ae Tryz.prog 29 [] [VV.agg (Af e)] [] (VV.tup [Ai y.fst, Ad y.snd]) ∧ ((y.snd != (0 : Int)) = true → ∃ (y_1 : Wy), Ae Tryz.prog 28 [] [Ad y.snd] [] (VV.agg (AX y_1)) ∧ leO [] [] ∧ (VV.sl true 1 6 fun (i : Nat) => List.take 6 (List.drop (i * 6) [Ad y_1.Esc, Ad y_1.Way, Ad y_1.With, Ad y_1.WithEsc, Ad y_1.WithWay, Ad y_1.Err])).le (Bf true r)) ∧ ((y.snd != (0 : Int)) = false → ((!y.fst) = true → leO [] [] ∧ VV.nl.le (Bf true r)) ∧ ((!y.fst) = false → ∃ (y : D.Loc), Ae Tryz.prog 21 [] [VV.agg (Af e)] [] (VV.agg (AY y)) ∧ ∃ (y_1 : List Wy), Ae Tryz.prog 30 [Ob.box (Af e), Ob.box [VV.nl]] [VV.agg (AY y), VV.fn (Fn.func (nat_lit 31)) [VV.bp 0 0, VV.bp 1 0]] [Ob.box (Af e), Ob.box [VV.ow 2 0 y_1.length], Ob.arr true 0 y_1.length 6 fun (i : Nat) => AX (y_1.getD i default)] (VV.tup []) ∧ leO [] [] ∧ (Bf true y_1).le (Bf true r))))) := by kernel_rfl
theorem Vr (hs' : List Ob) (r : VV) (e : D.Env) (l out : List Int) (k : Int) (J : St → Prop) : ((Ag Tryz.prog tb Cd Ms false Tryz.f40 hs' (r)).loop [1, 1, 0, 1, 0] J).goal (Oe e l out k) =
    ((decide (k < (↑l.length : Int)) = true → ((0 : Int) ≤ k ∧ k < (↑l.length : Int)) ∧ ∃ (y : Int × Int), Ae Tryz.prog 39 [] [VV.agg (Bu e), Ad (l.getD k.toNat (0 : Int))] [] (VV.tup [Ad y.fst, Ad y.snd]) ∧ ((y.snd != (0 : Int)) = true → leO [] hs' ∧ (VV.tup [VV.nl, Ad y.snd]).le r) ∧ ((y.snd != (0 : Int)) = false → (out.length + 1) * 8 ≤ 140737488355328 ∧ J (Ao [(2, VV.bp 0 0), (6, VV.ow 1 0 (out.length + 1)), (11, Aa true l), (12, Ad (↑l.length : Int)), (13, Ad (IntKind.i64.wrap (k + (1 : Int))))] [Ob.box (Bu e), Ob.arr true 0 (out.length + 1) 1 fun (i : Nat) => bif i.blt out.length then [Ad (out.getD i (0 : Int))] else (fun (i : Nat) => List.take 1 (List.drop (i * 1) [Ad y.fst])) (i - out.length)]))) ∧ (decide (k < (↑l.length : Int)) = false → leO [Ob.arr true 0 out.length 1 fun (i : Nat) => [Ad (out.getD i (0 : Int))]] hs' ∧ (VV.tup [VV.ow 0 0 out.length, Ad (0 : Int)]).le r)) := by kernel_rfl
theorem Vg (r : Int × List Int × Int) (c : Int) (f : List D.Type) (l : List Int) (k : Int) (J : St → Prop) : ((Ag Tryz.prog tb Cd Mr true Tryz.f64 [] (.tup [Ad r.1, Aa true r.2.1, Ad r.2.2])).loop [1, 1, 1, 1, 1, 1, 1, 0, 1, 0] J).goal (Oa c f l k) =
    ((decide (k < (↑l.length : Int)) = true → ((0 : Int) ≤ k ∧ k < (↑l.length : Int)) ∧ ((0 : Int) ≤ k ∧ k < (↑f.length : Int)) ∧ ∃ (y : Int), Ae Tryz.prog 91 [] [VV.agg (AR (f.getD k.toNat default)), Ad (l.getD k.toNat (0 : Int))] [] (Ad y) ∧ ((0 : Int) ≤ k ∧ k < (↑l.length : Int)) ∧ J (Ao [(7, Ad c), (9, Aj true f), (10, VV.ow 0 0 l.length), (53, VV.ow 0 0 l.length), (54, Ad (↑l.length : Int)), (55, Ad (IntKind.i64.wrap (k + (1 : Int))))] [Ob.arr true 0 l.length 1 fun (j : Nat) => bif j.beq k.toNat then [Ad y] else [Ad (l.getD j (0 : Int))]])) ∧ (decide (k < (↑l.length : Int)) = false → leO [] [] ∧ (VV.tup [Ad c, Aa true l, Ad (0 : Int)]).le (VV.tup [Ad r.fst, Aa true r.snd.fst, Ad r.snd.snd]))) := by kernel_rfl
theorem Pc (r : List Int × Int) (e : D.Env) (s : D.Stmt) (want : List Int) (k : Int) (J : St → Prop) : ((Ag Tryz.prog tb Cd Gw true Tryz.f99 [] (.tup [Aa true r.1, Ad r.2])).loop [1, 1, 0, 1, 0] J).goal (PR e s want k) =
    ((decide (k < (↑s.Args.length : Int)) = true → ((0 : Int) ≤ k ∧ k < (↑s.Args.length : Int)) ∧ ((0 : Int) ≤ k ∧ k < (↑s.Match.length : Int)) ∧ ((s.Match.getD k.toNat (0 : Int) != (1 : Int)) = true → J (Ao [(2, VV.bp 0 0), (3, VV.bp 1 0), (6, VV.ow 2 0 want.length), (16, Aa true s.Args), (17, Ad (↑s.Args.length : Int)), (18, Ad (IntKind.i64.wrap (k + (1 : Int))))] [Ob.box (Af e), Ob.box (Av s), Ob.arr true 0 want.length 1 fun (i : Nat) => [Ad (want.getD i (0 : Int))]])) ∧ ((s.Match.getD k.toNat (0 : Int) != (1 : Int)) = false → ∃ (y : Int × Int), Ae Tryz.prog 39 [] [VV.agg (Af e), Ad (s.Args.getD k.toNat (0 : Int))] [] (VV.tup [Ad y.fst, Ad y.snd]) ∧ ((y.snd != (0 : Int)) = true → leO [] [] ∧ (VV.tup [VV.nl, Ad y.snd]).le (VV.tup [Aa true r.fst, Ad r.snd])) ∧ ((y.snd != (0 : Int)) = false → ((0 : Int) ≤ k ∧ k < (↑want.length : Int)) ∧ J (Ao [(2, VV.bp 0 0), (3, VV.bp 1 0), (6, VV.ow 2 0 want.length), (16, Aa true s.Args), (17, Ad (↑s.Args.length : Int)), (18, Ad (IntKind.i64.wrap (k + (1 : Int))))] [Ob.box (Af e), Ob.box (Av s), Ob.arr true 0 want.length 1 fun (j : Nat) => bif j.beq k.toNat then [Ad y.fst] else [Ad (want.getD j (0 : Int))]])))) ∧ (decide (k < (↑s.Args.length : Int)) = false → leO [] [] ∧ (VV.tup [Aa true want, Ad (0 : Int)]).le (VV.tup [Aa true r.fst, Ad r.snd]))) := by kernel_rfl
theorem Ph (r : List Pn) (e : D.Env) (c : Int) (m : List Int) (out : List Pn) (k : Int) (J : St → Prop) : ((Ag Tryz.prog tb Cd IL true Tryz.f115 [] (BY true r)).loop [1, 1, 0, 1, 0] J).goal (LB e c m out k) =
    ((decide (k < (↑e.S.Procs.length : Int)) = true → ((k != e.Pid) = true → ∃ (y : List Pn), Ae Tryz.prog 145 [] [VV.agg [Aj true e.M.Globals, Aa true e.M.Init, Aw true e.M.Shapes, Aa true e.M.Chans, AA true e.M.Procs, Ad e.M.Claim, AC true e.M.Exprs, Aa true e.S.Globals, Br true e.S.Chans, A1 true e.S.Procs, Ad e.S.Last, Ad e.S.Alone, Ad e.S.Claim, Ad k, Ai e.Timeout, Ay true e.Able], Ad c, Aa true m] [] (BY true y) ∧ (out.length + y.length) * 24 ≤ 140737488355328 ∧ (∀ (i : Nat), i < y.length → ((fun (i : Nat) => Co (y.getD i default)) i).all VV.mem1 = true) ∧ J (Ao [(1, Ad c), (2, Aa true m), (3, VV.bp 0 0), (7, VV.ow 1 0 (out.length + y.length)), (13, Ad (↑e.S.Procs.length : Int)), (14, Ad (IntKind.i64.wrap (k + (1 : Int))))] [Ob.box (Af e), Ob.arr true 0 (out.length + y.length) 3 fun (i : Nat) => bif i.blt out.length then EB out i else (fun (i : Nat) => Co (y.getD i default)) (i - out.length)])) ∧ ((k != e.Pid) = false → J (Ao [(1, Ad c), (2, Aa true m), (3, VV.bp 0 0), (7, VV.ow 1 0 out.length), (13, Ad (↑e.S.Procs.length : Int)), (14, Ad (IntKind.i64.wrap (k + (1 : Int))))] [Ob.box (Af e), Ob.arr true 0 out.length 3 fun (i : Nat) => Co (out.getD i default)]))) ∧ (decide (k < (↑e.S.Procs.length : Int)) = false → leO [] [] ∧ (BY true out).le (BY true r))) := by kernel_rfl
theorem Vp (r : List Ab) (e : D.Env) (ws : List D.Trans) (self : Bool) (n : Nat) (F : Nat → List VV) (some : Bool) (k : Int) (J : St → Prop) : ((Ag Tryz.prog tb Cd Ex true Tryz.f32 [] (Bz true r)).loop [1, 1, 1, 0, 1, 0] J).goal (Od e ws self n F some k) =
    ((decide (k < (↑ws.length : Int)) = true → ((0 : Int) ≤ k ∧ k < (↑ws.length : Int)) ∧ ∃ (y : Ab), Ae Tryz.prog 49 [] [VV.agg (Af e), VV.agg (Av (ws.getD k.toNat default).S), Ai self] [] (VV.agg (Bj y)) ∧ ((0 : Int) ≤ k ∧ k < (↑n : Int)) ∧ AH ((Ag Tryz.prog tb Cd Ex true Tryz.f32 [] (Bz true r)).loop [1, 1, 1, 0, 1, 0] J) [1, 1, 0, 0, 1, 1] (Ao [(1, Aq true ws), (2, Ai self), (3, VV.bp 0 0), (7, VV.ow 1 0 n), (8, Ai some), (9, Ad k), (16, Aq true ws), (17, Ad (↑ws.length : Int)), (18, Ad k)] [Ob.box (Af e), Ob.arr true 0 n 3 fun (j : Nat) => bif j.beq k.toNat then [Ai y.is, Ad y.err, BY true y.wth] else F j])) ∧ (decide (k < (↑ws.length : Int)) = false → AH (Ag Tryz.prog tb Cd Ex true Tryz.f32 [] (Bz true r)) [1, 1, 1, 1, 0, 1, 0] (Ao [(7, VV.ow 0 0 n), (8, Ai some), (40, Aq true ws), (41, Ad (↑ws.length : Int)), (42, Ad (0 : Int))] [Ob.arr true 0 n 3 F]))) := by kernel_rfl
theorem Vn (r : List Ab) (e : D.Env) (ws : List D.Trans) (self : Bool) (l : List Ab) (some : Bool) (i k : Int) (J : St → Prop) : (((Ag Tryz.prog tb Cd Ex true Tryz.f32 [] (Bz true r)).loop [1, 1, 1, 0, 1, 0] J).cut [1, 1, 0, 0, 1, 1]).goal (Oc e ws self l some i k) =
    (((true && some == false) = true → (0 : Int) ≤ i ∧ i < (↑l.length : Int)) ∧ J (Ao [(1, Aq true ws), (2, Ai self), (3, VV.bp 0 0), (7, VV.ow 1 0 l.length), (8, Ai (bif some then true else (l.getD i.toNat default).is)), (16, Aq true ws), (17, Ad (↑ws.length : Int)), (18, Ad (IntKind.i64.wrap (k + (1 : Int))))] [Ob.box (Af e), Ob.arr true 0 l.length 3 fun (i : Nat) => Bj (l.getD i default)])) := by kernel_rfl
theorem Vo (r : List Ab) (ws : List D.Trans) (l : List Ab) (some : Bool) (k : Int) (J : St → Prop) : ((Ag Tryz.prog tb Cd Ex true Tryz.f32 [] (Bz true r)).loop [1, 1, 1, 1, 0, 1, 0] J).goal (KM ws l some k) =
    ((decide (k < (↑ws.length : Int)) = true → ((0 : Int) ≤ k ∧ k < (↑ws.length : Int)) ∧ ((bif (ws.getD k.toNat default).S.Kind == 7 then !some else false) = true → ((0 : Int) ≤ k ∧ k < (↑l.length : Int)) ∧ J (Ao [(7, VV.ow 0 0 l.length), (8, Ai some), (40, Aq true ws), (41, Ad (↑ws.length : Int)), (42, Ad (IntKind.i64.wrap (k + (1 : Int))))] [Ob.arr true 0 l.length 3 fun (j : Nat) => bif j.beq k.toNat then [Ai true, Ad (l.getD k.toNat default).err, BY true (l.getD k.toNat default).wth] else [Ai (l.getD j default).is, Ad (l.getD j default).err, BY true (l.getD j default).wth]])) ∧ ((bif (ws.getD k.toNat default).S.Kind == 7 then !some else false) = false → J (Ao [(7, VV.ow 0 0 l.length), (8, Ai some), (40, Aq true ws), (41, Ad (↑ws.length : Int)), (42, Ad (IntKind.i64.wrap (k + (1 : Int))))] [Ob.arr true 0 l.length 3 fun (i : Nat) => Bj (l.getD i default)]))) ∧ (decide (k < (↑ws.length : Int)) = false → leO [] [] ∧ (Bz true l).le (Bz true r))) := by kernel_rfl
theorem RG (r : Int) (l : List Ab) (k : Int) (J : St → Prop) : ((Ag Tryz.prog tb Cd J7 true Tryz.f176 [] (Ad r)).loop [1, 0, 1, 0] J).goal (T7 l k) =
    ((decide (k < (↑l.length : Int)) = true → ((0 : Int) ≤ k ∧ k < (↑l.length : Int)) ∧ ∃ (y : Bool), Ae Tryz.prog 168 [] [VV.agg (Bj (l.getD k.toNat default))] [] (Ai y) ∧ (y = true → leO [] [] ∧ (Ad k).le (Ad r)) ∧ (y = false → J (Ao [(0, Bz true l), (1, VV.fn (Fn.func (nat_lit 168)) []), (7, Ad (↑l.length : Int)), (8, Ad (IntKind.i64.wrap (k + (1 : Int))))] []))) ∧ (decide (k < (↑l.length : Int)) = false → leO [] [] ∧ (Ad (-1 : Int)).le (Ad r))) := by kernel_rfl
theorem RE (r : Int) (l : List Wy) (w : Wy) (k : Int) (J : St → Prop) : ((Ag Tryz.prog tb Cd J6 true Tryz.f33 [] (Ad r)).loop [1, 0, 1, 0] J).goal (T6 l w k) =
    ((decide (k < (↑l.length : Int)) = true → ((0 : Int) ≤ k ∧ k < (↑l.length : Int)) ∧ ((w.Esc == (l.getD k.toNat default).Esc && (w.Way == (l.getD k.toNat default).Way && (w.With == (l.getD k.toNat default).With && (w.WithEsc == (l.getD k.toNat default).WithEsc && (w.WithWay == (l.getD k.toNat default).WithWay && (w.Err == (l.getD k.toNat default).Err && true)))))) = true → leO [] [] ∧ (Ad k).le (Ad r)) ∧ ((w.Esc == (l.getD k.toNat default).Esc && (w.Way == (l.getD k.toNat default).Way && (w.With == (l.getD k.toNat default).With && (w.WithEsc == (l.getD k.toNat default).WithEsc && (w.WithWay == (l.getD k.toNat default).WithWay && (w.Err == (l.getD k.toNat default).Err && true)))))) = false → J (Ao [(0, Bf true l), (3, VV.bp 0 0), (7, Ad (↑l.length : Int)), (8, Ad (IntKind.i64.wrap (k + (1 : Int))))] [Ob.box (AX w)]))) ∧ (decide (k < (↑l.length : Int)) = false → leO [] [] ∧ (Ad (-1 : Int)).le (Ad r))) := by kernel_rfl
theorem NW (r : List Pn) (e : D.Env) (c : Int) (m : List Int) (out : List Pn) (l : D.Loc) (k : Int) (J : St → Prop) : ((Ag Tryz.prog tb (shR e c m) Hj true Tryz.f30 (hsR e c m r) (.tup [])).loop [1, 0, 1, 0] J).goal (M9 e c m out l k) =
    ((decide (k < (↑l.Esc.length : Int)) = true → ((0 : Int) ≤ k ∧ k < (↑l.Esc.length : Int)) ∧ ∃ (y : List Pn × Bool), Ae Tryz.prog 165 [Ob.box (Af e), Ob.box [Ad c], Ob.box [Aa true m], Ob.box [VV.ow 4 0 out.length], Ob.arr true 0 out.length 3 fun (i : Nat) => Co (out.getD i default)] [Ad k, Aq true (l.Esc.getD k.toNat []), VV.bp 0 0, VV.bp 1 0, VV.bp 2 0, VV.bp 3 0] [Ob.box (Af e), Ob.box [Ad c], Ob.box [Aa true m], Ob.box [VV.ow 4 0 y.fst.length], Ob.arr true 0 y.fst.length 3 fun (i : Nat) => Co (y.fst.getD i default)] (Ai y.snd) ∧ (y.snd = true → leO [Ob.box (Af e), Ob.box [Ad c], Ob.box [Aa true m], Ob.box [VV.ow 4 0 y.fst.length], Ob.arr true 0 y.fst.length 3 fun (i : Nat) => Co (y.fst.getD i default)] [Ob.box (Af e), Ob.box [Ad c], Ob.box [Aa true m], Ob.box [VV.ow 4 0 r.length], Ob.arr true 0 r.length 3 fun (i : Nat) => Co (r.getD i default)] ∧ (VV.tup []).le (VV.tup [])) ∧ (y.snd = false → J (Ao [(1, VV.fn (Fn.func (nat_lit 165)) [VV.bp 0 0, VV.bp 1 0, VV.bp 2 0, VV.bp 3 0]), (2, VV.bp 5 0), (7, AE true l.Esc), (8, Ad (↑l.Esc.length : Int)), (9, Ad (IntKind.i64.wrap (k + (1 : Int))))] [Ob.box (Af e), Ob.box [Ad c], Ob.box [Aa true m], Ob.box [VV.ow 4 0 y.fst.length], Ob.arr true 0 y.fst.length 3 fun (i : Nat) => Co (y.fst.getD i default), Ob.box (AY l)]))) ∧ (decide (k < (↑l.Esc.length : Int)) = false → ∃ (y : List Pn × Bool), Ae Tryz.prog 165 [Ob.box (Af e), Ob.box [Ad c], Ob.box [Aa true m], Ob.box [VV.ow 4 0 out.length], Ob.arr true 0 out.length 3 fun (i : Nat) => Co (out.getD i default)] [Ad (-1 : Int), Aq true l.Out, VV.bp 0 0, VV.bp 1 0, VV.bp 2 0, VV.bp 3 0] [Ob.box (Af e), Ob.box [Ad c], Ob.box [Aa true m], Ob.box [VV.ow 4 0 y.fst.length], Ob.arr true 0 y.fst.length 3 fun (i : Nat) => Co (y.fst.getD i default)] (Ai y.snd) ∧ leO [Ob.box (Af e), Ob.box [Ad c], Ob.box [Aa true m], Ob.box [VV.ow 4 0 y.fst.length], Ob.arr true 0 y.fst.length 3 fun (i : Nat) => Co (y.fst.getD i default)] [Ob.box (Af e), Ob.box [Ad c], Ob.box [Aa true m], Ob.box [VV.ow 4 0 r.length], Ob.arr true 0 r.length 3 fun (i : Nat) => Co (r.getD i default)] ∧ (VV.tup []).le (VV.tup []))) := by kernel_rfl
theorem NU (r : List Wy) (e : D.Env) (out : List Wy) (l : D.Loc) (k : Int) (J : St → Prop) : ((Ag Tryz.prog tb (shW e) Hi true Tryz.f30 (hsW e r) (.tup [])).loop [1, 0, 1, 0] J).goal (M8 e out l k) =
    ((decide (k < (↑l.Esc.length : Int)) = true → ((0 : Int) ≤ k ∧ k < (↑l.Esc.length : Int)) ∧ ∃ (y : List Wy × Bool), Ae Tryz.prog 31 [Ob.box (Af e), Ob.box [VV.ow 2 0 out.length], Ob.arr true 0 out.length 6 fun (i : Nat) => AX (out.getD i default)] [Ad k, Aq true (l.Esc.getD k.toNat []), VV.bp 0 0, VV.bp 1 0] [Ob.box (Af e), Ob.box [VV.ow 2 0 y.fst.length], Ob.arr true 0 y.fst.length 6 fun (i : Nat) => AX (y.fst.getD i default)] (Ai y.snd) ∧ (y.snd = true → leO [Ob.box (Af e), Ob.box [VV.ow 2 0 y.fst.length], Ob.arr true 0 y.fst.length 6 fun (i : Nat) => AX (y.fst.getD i default)] [Ob.box (Af e), Ob.box [VV.ow 2 0 r.length], Ob.arr true 0 r.length 6 fun (i : Nat) => AX (r.getD i default)] ∧ (VV.tup []).le (VV.tup [])) ∧ (y.snd = false → J (Ao [(1, VV.fn (Fn.func (nat_lit 31)) [VV.bp 0 0, VV.bp 1 0]), (2, VV.bp 3 0), (7, AE true l.Esc), (8, Ad (↑l.Esc.length : Int)), (9, Ad (IntKind.i64.wrap (k + (1 : Int))))] [Ob.box (Af e), Ob.box [VV.ow 2 0 y.fst.length], Ob.arr true 0 y.fst.length 6 fun (i : Nat) => AX (y.fst.getD i default), Ob.box (AY l)]))) ∧ (decide (k < (↑l.Esc.length : Int)) = false → ∃ (y : List Wy × Bool), Ae Tryz.prog 31 [Ob.box (Af e), Ob.box [VV.ow 2 0 out.length], Ob.arr true 0 out.length 6 fun (i : Nat) => AX (out.getD i default)] [Ad (-1 : Int), Aq true l.Out, VV.bp 0 0, VV.bp 1 0] [Ob.box (Af e), Ob.box [VV.ow 2 0 y.fst.length], Ob.arr true 0 y.fst.length 6 fun (i : Nat) => AX (y.fst.getD i default)] (Ai y.snd) ∧ leO [Ob.box (Af e), Ob.box [VV.ow 2 0 y.fst.length], Ob.arr true 0 y.fst.length 6 fun (i : Nat) => AX (y.fst.getD i default)] [Ob.box (Af e), Ob.box [VV.ow 2 0 r.length], Ob.arr true 0 r.length 6 fun (i : Nat) => AX (r.getD i default)] ∧ (VV.tup []).le (VV.tup []))) := by kernel_rfl
theorem U9 (r : List Pn) (b : Bool) (e : D.Env) (c : Int) (m : List Int) (out : List Pn) (i : Int) (ws : List D.Trans) (k : Int) (J : St → Prop) : ((Ag Tryz.prog tb Cd Mq true Tryz.f165 (hsR e c m r) (Ai b)).loop [1, 0, 1, 0] J).goal (Sd e c m out i ws k) =
    ((decide (k < (↑ws.length : Int)) = true → ((0 : Int) ≤ k ∧ k < (↑ws.length : Int)) ∧ ∃ (y : Bool), Ae Tryz.prog 166 [] [VV.agg (Af e), VV.agg (Av (ws.getD k.toNat default).S), Ad c, Aa true m] [] (Ai y) ∧ (y = true → (out.length + 1) * 24 ≤ 140737488355328 ∧ J (Ao [(0, Ad i), (1, Aq true ws), (2, VV.bp 0 0), (3, VV.bp 1 0), (4, VV.bp 2 0), (5, VV.bp 3 0), (11, Aq true ws), (12, Ad (↑ws.length : Int)), (13, Ad (IntKind.i64.wrap (k + (1 : Int))))] [Ob.box (Af e), Ob.box [Ad c], Ob.box [Aa true m], Ob.box [VV.ow 4 0 (out.length + 1)], Ob.arr true 0 (out.length + 1) 3 fun (i_1 : Nat) => bif i_1.blt out.length then [Ad (out.getD i_1 default).pid, Ad (out.getD i_1 default).esc, Ad (out.getD i_1 default).way] else (fun (i_2 : Nat) => List.take 3 (List.drop (i_2 * 3) [Ad e.Pid, Ad i, Ad k])) (i_1 - out.length)])) ∧ (y = false → J (Ao [(0, Ad i), (1, Aq true ws), (2, VV.bp 0 0), (3, VV.bp 1 0), (4, VV.bp 2 0), (5, VV.bp 3 0), (11, Aq true ws), (12, Ad (↑ws.length : Int)), (13, Ad (IntKind.i64.wrap (k + (1 : Int))))] [Ob.box (Af e), Ob.box [Ad c], Ob.box [Aa true m], Ob.box [VV.ow 4 0 out.length], Ob.arr true 0 out.length 3 fun (i : Nat) => Co (out.getD i default)]))) ∧ (decide (k < (↑ws.length : Int)) = false → ∃ (y : List Ab), ((true && decide ((↑out.length : Int) > (0 : Int)) == false) = true → Ae Tryz.prog 32 [] [VV.agg (Af e), Aq true ws, Ai true] [] (Bz true y)) ∧ ∃ (y_1 : Bool), ((true && decide ((↑out.length : Int) > (0 : Int)) == false) = true → Ae Tryz.prog 167 [] [Bz true y, VV.fn (Fn.func (nat_lit 168)) []] [] (Ai y_1)) ∧ leO [Ob.box (Af e), Ob.box [Ad c], Ob.box [Aa true m], Ob.box [VV.ow 4 0 out.length], Ob.arr true 0 out.length 3 fun (i : Nat) => Co (out.getD i default)] [Ob.box (Af e), Ob.box [Ad c], Ob.box [Aa true m], Ob.box [VV.ow 4 0 r.length], Ob.arr true 0 r.length 3 fun (i : Nat) => Co (r.getD i default)] ∧ (Ai (bif decide ((↑out.length : Int) > (0 : Int)) then true else y_1)).le (Ai b))) := by kernel_rfl
theorem Vd (r : List Wy) (b : Bool) (e : D.Env) (out : List Wy) (i : Int) (l : List Ab) (k : Int) (J : St → Prop) : ((Ag Tryz.prog tb Cd Fm true Tryz.f31 (hsW e r) (Ai b)).loop [1, 0, 1, 0] J).goal (Jb e out i l k) =
    ((decide (k < (↑l.length : Int)) = true → ((0 : Int) ≤ k ∧ k < (↑l.length : Int)) ∧ ((bif (l.getD k.toNat default).is then (↑(l.getD k.toNat default).wth.length : Int) == 0 else false) = true → (out.length + 1) * 48 ≤ 140737488355328 ∧ AH ((Ag Tryz.prog tb Cd Fm true Tryz.f31 (hsW e r) (Ai b)).loop [1, 0, 1, 0] J) [1, 1, 0, 0, 1, 1, 1, 1, 0] (Ao [(0, Ad i), (3, VV.bp 1 0), (9, VV.bp 3 0), (14, Bz true l), (15, Ad (↑l.length : Int)), (16, Ad k), (39, BY true (l.getD k.toNat default).wth), (40, Ad (↑(l.getD k.toNat default).wth.length : Int)), (41, Ad (0 : Int))] [Ob.box (Af e), Ob.box [VV.ow 2 0 (out.length + 1)], Ob.arr true 0 (out.length + 1) 6 fun (i_1 : Nat) => bif i_1.blt out.length then [Ad (out.getD i_1 default).Esc, Ad (out.getD i_1 default).Way, Ad (out.getD i_1 default).With, Ad (out.getD i_1 default).WithEsc, Ad (out.getD i_1 default).WithWay, Ad (out.getD i_1 default).Err] else (fun (i_2 : Nat) => List.take 6 (List.drop (i_2 * 6) [Ad i, Ad k, Ad (-1 : Int), Ad (-1 : Int), Ad (-1 : Int), Ad (l.getD k.toNat default).err])) (i_1 - out.length), Ob.box [Ad i, Ad k, Ad (-1 : Int), Ad (-1 : Int), Ad (-1 : Int), Ad (l.getD k.toNat default).err]])) ∧ ((bif (l.getD k.toNat default).is then (↑(l.getD k.toNat default).wth.length : Int) == 0 else false) = false → AH ((Ag Tryz.prog tb Cd Fm true Tryz.f31 (hsW e r) (Ai b)).loop [1, 0, 1, 0] J) [1, 1, 0, 0, 1, 1, 1, 1, 0] (Ao [(0, Ad i), (3, VV.bp 1 0), (9, VV.bp 3 0), (14, Bz true l), (15, Ad (↑l.length : Int)), (16, Ad k), (39, BY true (l.getD k.toNat default).wth), (40, Ad (↑(l.getD k.toNat default).wth.length : Int)), (41, Ad (0 : Int))] [Ob.box (Af e), Ob.box [VV.ow 2 0 out.length], Ob.arr true 0 out.length 6 fun (i : Nat) => AX (out.getD i default), Ob.box [Ad i, Ad k, Ad (-1 : Int), Ad (-1 : Int), Ad (-1 : Int), Ad (l.getD k.toNat default).err]]))) ∧ (decide (k < (↑l.length : Int)) = false → leO [Ob.box (Af e), Ob.box [VV.ow 2 0 out.length], Ob.arr true 0 out.length 6 fun (i : Nat) => AX (out.getD i default)] [Ob.box (Af e), Ob.box [VV.ow 2 0 r.length], Ob.arr true 0 r.length 6 fun (i : Nat) => AX (r.getD i default)] ∧ (Ai (decide ((↑out.length : Int) > (0 : Int)))).le (Ai b))) := by kernel_rfl
theorem Vc (r : List Wy) (b : Bool) (e : D.Env) (out : List Wy) (i : Int) (l : List Ab) (k : Int) (w : Wy) (ps : List Pn) (j : Int) (J J2 : St → Prop) : (((Ag Tryz.prog tb Cd Fm true Tryz.f31 (hsW e r) (Ai b)).loop [1, 0, 1, 0] J).loop [1, 1, 0, 0, 1, 1, 1, 1, 0] J2).goal (Ja e out i l k w ps j) =
    ((decide (j < (↑ps.length : Int)) = true → ((0 : Int) ≤ j ∧ j < (↑ps.length : Int)) ∧ (out.length + 1) * 48 ≤ 140737488355328 ∧ J2 (Ao [(0, Ad i), (3, VV.bp 1 0), (9, VV.bp 3 0), (14, Bz true l), (15, Ad (↑l.length : Int)), (16, Ad k), (39, BY true ps), (40, Ad (↑ps.length : Int)), (41, Ad (IntKind.i64.wrap (j + (1 : Int))))] [Ob.box (Af e), Ob.box [VV.ow 2 0 (out.length + 1)], Ob.arr true 0 (out.length + 1) 6 fun (i : Nat) => bif i.blt out.length then [Ad (out.getD i default).Esc, Ad (out.getD i default).Way, Ad (out.getD i default).With, Ad (out.getD i default).WithEsc, Ad (out.getD i default).WithWay, Ad (out.getD i default).Err] else (fun (i : Nat) => List.take 6 (List.drop (i * 6) [Ad w.Esc, Ad w.Way, Ad (ps.getD j.toNat default).pid, Ad (ps.getD j.toNat default).esc, Ad (ps.getD j.toNat default).way, Ad w.Err])) (i - out.length), Ob.box [Ad w.Esc, Ad w.Way, Ad (ps.getD j.toNat default).pid, Ad (ps.getD j.toNat default).esc, Ad (ps.getD j.toNat default).way, Ad w.Err]])) ∧ (decide (j < (↑ps.length : Int)) = false → J (Ao [(0, Ad i), (3, VV.bp 1 0), (14, Bz true l), (15, Ad (↑l.length : Int)), (16, Ad (IntKind.i64.wrap (k + (1 : Int))))] [Ob.box (Af e), Ob.box [VV.ow 2 0 out.length], Ob.arr true 0 out.length 6 fun (i : Nat) => AX (out.getD i default)]))) := by kernel_rfl
end Go.Proofs.YtiaebjpcgjkhoaaGreatDoor
namespace Go.Proofs.YtiaebjpcgjkhoaaGreatDoor
open Go.RowKit
structure Cp (e : D.Env) : Prop where
  ok : Cy e
  p0 : 0 ≤ e.Pid
section
variable {e : D.Env}
theorem J0 (hw : AN e.M) (h : DJ e = 0) : Cp e := by
  unfold DJ at h
  cases c1 : decide (CG e.M e.S ≠ 0) with
  | true => rw [c1, cond_true] at h; exact absurd h (of_decide_eq_true c1)
  | false =>
    rw [c1, cond_false] at h
    obtain ⟨h1, h2⟩ := IH (show CG e.M e.S = 0 by simpa using c1)
    cases c2 : (decide (e.Pid < 0) || decide ((e.S.Procs.length : Int) ≤ e.Pid)) with
    | true => rw [c2, cond_true] at h; simp at h
    | false =>
      simp only [Bool.or_eq_false_iff, decide_eq_false_iff_not] at c2
      exact ⟨⟨h2, h1, hw, by omega, by omega⟩, by omega⟩
theorem Cp.small (h : Cp e) : Bl e.S := h.ok.fit.small
theorem Cp.lt (h : Cp e) : e.Pid.toNat < e.S.Procs.length := by have := h.ok.pid; have := h.p0; omega
theorem Cp.mem (h : Cp e) : Dz e e.Pid ∈ e.S.Procs := AF h.lt
theorem Cp.facts (h : Cp e) : (0 ≤ (Dz e e.Pid).Type_ ∧ (Dz e e.Pid).Type_ < e.M.Procs.length) ∧ (0 ≤ (Dz e e.Pid).Loc ∧ (Dz e e.Pid).Loc < (Dm e).Locs.length) :=
  let hp := Iw (h.ok.proc h.mem); ⟨hp.1, hp.2.1⟩
theorem Cp.wproc (h : Cp e) : Fw (Dm e) := h.ok.wf.Procs.2 _ (AF (by have := h.facts.1; omega))
theorem Cp.wloc (h : Cp e) : NY (BZ e) := h.wproc.Locs.2 _ (AF (by have := h.facts.2; omega))
theorem IY (hw : AN e.M) (hs : Bl e.S) : Ae Tryz.prog 15 [] [.agg (Af e)] [] (Ad (DJ e)) := by
  refine Ah Am An Tryz.func15 (by kernel_rfl) rfl (ZJ _ e) ⟨_, Gf hw hs (fun h => (OT h).clp), fun h => BJ (ct (by simpa using h) rfl), fun h => ⟨fun h1 => BJ (cf (by simpa using h) (ct ?_ rfl)), fun h1 => BJ (cf (by simpa using h) (cf ?_ rfl))⟩⟩
  · simp only [Bc, ge_iff_le] at h1; exact h1
  · simp only [Bc, ge_iff_le] at h1; exact h1
theorem FP (h : Cp e) : Ae Tryz.prog 21 [] [.agg (Af e)] [] (.agg (AY (BZ e))) :=
  Ah Am An Tryz.func21 (by kernel_rfl) rfl (XH _ e) ⟨⟨h.p0, h.ok.pid.2⟩, h.facts.1, h.facts.2, trivial, VV.le_refl _⟩
theorem K9 (h : Cp e) : Ae Tryz.prog 27 [] [.agg (Af e)] [] (.agg (AB (Dm e))) :=
  Ah Am An Tryz.func27 (by kernel_rfl) rfl (Vb _ e) ⟨⟨h.p0, h.ok.pid.2⟩, h.facts.1, trivial, VV.le_refl _⟩
theorem K6 {x : Int} (h : 0 ≤ x → x < e.M.Exprs.length) : Ae Tryz.prog 36 [] [.agg (Ac e.M), Ad x] [] (Ai (Fx e x)) := by
  refine Ah Am An Tryz.func36 (by kernel_rfl) rfl (U6 _ e.M x) ⟨fun hx => ?_, As ?_⟩
  · have hx : 0 ≤ x := by simpa using hx
    exact ⟨hx, h hx⟩
  · unfold Fx AD
    rw [AS, ieq]
theorem K7 : Ae Tryz.prog 77 [] [.agg (Af e)] [] (.agg (Bj (LP e))) := by
  refine Ah Am An Tryz.func77 (by kernel_rfl) rfl (U7 _ e) ⟨trivial, VV.le_agg ⟨VV.le_eq ?_, VV.le_refl _, VV.le_nil, trivial⟩⟩
  have : decide ((e.S.Procs.length : Int) < 16) = decide (e.S.Procs.length < 16) := by rw [Bool.eq_iff_iff, decide_eq_true_eq, decide_eq_true_eq]; omega
  rw [this]; rfl
theorem La {err : Int} : Ae Tryz.prog 28 [] [Ad err] [] (.agg (AX (Ic err))) :=
  Ah Am An Tryz.func28 (by kernel_rfl) rfl (Ve _ err) ⟨trivial, VV.le_refl _⟩
theorem MQ {l : D.Loc} {esc i : Int} (h1 : esc < 0 → 0 ≤ i ∧ i < l.Out.length) (h2 : 0 ≤ esc → esc < l.Esc.length ∧ 0 ≤ i ∧ i < (l.Esc.getD esc.toNat []).length) :
    Ae Tryz.prog 20 [] [.agg (AY l), Ad esc, Ad i] [] (.agg (Cs ((bif decide (esc < 0) then l.Out else l.Esc.getD esc.toNat []).getD i.toNat default))) := by
  refine Ah Am An Tryz.func20 (by kernel_rfl) rfl (XD _ l esc i) ⟨fun h => ⟨h1 (by simpa using h), trivial, ?_⟩, fun h => ?_⟩
  · rw [h, cond_true]; exact VV.le_refl _
  · have h0 : 0 ≤ esc := by simpa using h
    refine ⟨⟨h0, (h2 h0).1⟩, (h2 h0).2, trivial, ?_⟩
    rw [h, cond_false]; exact VV.le_refl _
theorem Kh {ev : Evl} {out : List Int} {x : Int} {l : List Int} : IV ev out (x :: l) = bif decide ((ev x).2 ≠ 0) then ([], (ev x).2) else IV ev (out ++ [(ev x).1]) l := rfl
theorem Pq {l : List Int} {hs' : List Ob} {r : VV} (hev : ∀ x ∈ l, Ae Tryz.prog 39 [] [.agg (Bu e), Ad x] [] (vII (B6 e x))) (hl : l.length ≤ 1048576)
    (h1 : ∀ er, D4 e l = ([], er) → er ≠ 0 → leO [] hs' ∧ VV.le (.tup [.nl, Ad er]) r) (h2 : ∀ out, D4 e l = (out, 0) → leO [.arr true 0 out.length 1 (A7 out)] hs' ∧ VV.le (.tup [.ow 0 0 out.length, Ad 0]) r) :
    Ae Tryz.prog 40 [] [.agg (Bu e), Aa true l] hs' r := by
  refine Ah Am An Tryz.func40 (by kernel_rfl) rfl (XJ hs' r e l) ?_
  refine AH.own 1 6 1 (A7 []) rfl ?_
  change AH _ _ (Oe e l [] 0)
  refine Bh Am An (fun g st => ∃ (k : Nat) (out : List Int), k ≤ l.length ∧ g = l.length - k ∧ out.length ≤ k ∧ IV (B6 e) out (l.drop k) = D4 e l ∧ st = Oe e l out k) (by kernel_rfl) (by kernel_rfl) ⟨_, Up.of ⟨0, [], Nat.zero_le _, rfl, Nat.zero_le _, rfl, rfl⟩⟩ ?_
  rintro g st ⟨k, out, hk, rfl, ho, hq, rfl⟩
  refine A9.raw (Vr hs' r e l out k _) ⟨fun hlt => ?_, fun hge => ?_⟩
  · have hlt' : k < l.length := by have := AQ hlt; omega
    have hto : (k : Int).toNat = k := by omega
    rw [hto]
    rw [BQ (d := 0) hlt', Kh] at hq
    refine ⟨⟨by omega, by omega⟩, B6 e (l.getD k 0), hev _ (AF hlt'), fun he => ?_, fun he => ⟨by omega, l.length - (k + 1), by omega, Up.mk (hs' := [.box (Bu e), .arr true 0 (out.length + 1) 1 (A7 (out ++ [(B6 e (l.getD k 0)).1]))]) (AZ _) ⟨Ob.le_refl _, Ob.le_arr fun i hi => A8 (B8 (f := fun n => [Ad n]) (d := 0) (l := out) (r := [(B6 e (l.getD k 0)).1]) (F := fun i => [.sc (.int .i64 (out.getD i 0))]) (fun _ _ => rfl) DW (by simp; omega)), trivial⟩ ⟨k + 1, out ++ [(B6 e (l.getD k 0)).1], by omega, rfl, by simp; omega, ?_, ?_⟩⟩⟩
    · rw [show decide ((B6 e (l.getD k 0)).2 ≠ 0) = true by simpa using he, cond_true] at hq
      exact h1 _ hq.symm (by simpa using he)
    · rw [show decide ((B6 e (l.getD k 0)).2 ≠ 0) = false by simpa using he, cond_false] at hq
      exact hq
    · rw [Ap (by omega)]
      unfold Oe
      rw [List.length_append]; rfl
  · have hge' : l.length ≤ k := by have := AV hge; omega
    rw [List.drop_of_length_le hge'] at hq
    exact h2 out hq.symm
theorem Vq {l : List Int} (hev : ∀ x ∈ l, Ae Tryz.prog 39 [] [.agg (Bu e), Ad x] [] (vII (B6 e x))) (hl : l.length ≤ 1048576) :
    Ae Tryz.prog 40 [] [.agg (Bu e), Aa true l] [.arr true 0 (D4 e l).1.length 1 (A7 (D4 e l).1)] (.tup [.ow 0 0 (D4 e l).1.length, Ad (D4 e l).2]) := by
  rcases hq : D4 e l with ⟨out, er⟩
  by_cases he : er = 0
  · subst he
    refine Pq hev hl (fun er' h h' => ?_) fun out' h => ?_
    · rw [hq] at h; exact absurd (congrArg Prod.snd h).symm h'
    · rw [hq] at h
      obtain rfl : out = out' := congrArg Prod.fst h
      exact ⟨⟨Ob.le_refl _, trivial⟩, VV.le_refl _⟩
  · have hout : out = [] := by
      have key : ∀ (l : List Int) (o : List Int), (IV (B6 e) o l).2 ≠ 0 → (IV (B6 e) o l).1 = [] := by
        intro l
        induction l with
        | nil => intro o h; exact absurd rfl h
        | cons x l ih =>
          intro o h
          rw [Kh] at h ⊢
          cases c : decide ((B6 e x).2 ≠ 0) with
          | true => rfl
          | false => rw [c, cond_false] at h; exact ih _ h
      have := key l [] (by have : IV (B6 e) [] l = (out, er) := hq; rw [this]; exact he)
      have e2 : IV (B6 e) [] l = (out, er) := hq
      rw [e2] at this; exact this
    subst hout
    have h := Pq (hs' := []) (r := .tup [.nl, Ad er]) hev hl (fun er' h h' => ?_) fun out' h => ?_
    · exact h.ownR 0 rfl 1 (A7 [])
    · rw [hq] at h
      obtain rfl : er = er' := congrArg Prod.snd h
      exact ⟨trivial, VV.le_refl _⟩
    · rw [hq] at h; exact absurd (congrArg Prod.snd h) he
end
end Go.Proofs.YtiaebjpcgjkhoaaGreatDoor
