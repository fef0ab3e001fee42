/-
  The walk of expr.Store, III: a global one.
-/
import Derived.Test.YthmhbmikcdfkcaaDoorGpJ
namespace Go.Proofs.YthmhbmikcdfkcaaDoor
open Go.RowKit
theorem EnvAt.below {w w' : World} {e : D.Env} {c0 c1 c2 c3 c4 c6 c7 c8 c9 c15 : Value} (h : EnvAt w e c0 c1 c2 c3 c4 c6 c7 c8 c9 c15) (hb : Below w.heap.size w w') : EnvAt w' e c0 c1 c2 c3 c4 c6 c7 c8 c9 c15 :=
  ⟨h.t.below hb, h.f.below hb, h.g.below hb, h.c.below hb, h.p.below hb⟩
theorem store_end {w w2 w6 w7 : World} {e : D.Env} {x v : Int} {kn : Nat} {ty : D.Type} {vs : Array Value} (HQ : Hid (storeP e x v = (setG e.M e.S kn v, 0))) (HTY : Hid (e.M.Globals.getD kn default = ty))
    (HV : Hid (∀ E : Prot, (∀ k, E.fz k → k < w2.heap.size) → V w6 E none (.agg (enc_State { e.S with Globals := e.S.Globals.set kn (fitP ty.Bits ty.Signed v) })) (.agg vs))) (HB : Below w.heap.size w w6)
    (hT : Touch w6 w7 (fun k => k = w.heap.size + 1)) (hr : w.heap.size + 1 < w2.heap.size) : StoreQ w e x v (.returned (.tuple #[.agg vs, .int .i64 0])) w7 := by
  refine ⟨vs, by rw [HQ.out], fun E hE => ?_, HB.trans (hT.below HB.size fun j hj => by have hj : j = w.heap.size + 1 := hj; omega)⟩
  rw [HQ.out]
  have e1 : setG e.M e.S kn v = { e.S with Globals := e.S.Globals.set kn (fitP ty.Bits ty.Signed v) } := by
    unfold setG fitT
    rw [show ((kn : Nat) : Int).toNat = kn by omega, HTY.out]
  rw [e1]
  exact V.aside (b := w.heap.size + 1) (B := w2.heap.size) HV.out hr hT E fun k hk => by have := hE k hk; omega
set_option maxRecDepth 100000 in
set_option maxHeartbeats 4000000 in
theorem store_glob {w : World} {e : D.Env} {x v who k : Int} {c0 c1 c2 c3 c4 c6 c7 c8 c9 c15 : Value} (hw : wf_Model e.M) (hs : SmallS' e.S) (hL : LibAt w) (hB : ∀ k, k ∈ libB → k < w.heap.size)
    (hV : V w P0 none (.agg (enc_Env e)) (.agg (envA e c0 c1 c2 c3 c4 c6 c7 c8 c9 c15))) (hat : EnvAt w e c0 c1 c2 c3 c4 c6 c7 c8 c9 c15) (hgood : exCheck e x = 0) (hsl : slotV e (subP e) (exAt e.M x) = (who, k, 0)) (hwho : who < 0) :
    Calls Tryd.prog 10 #[.agg (envA e c0 c1 c2 c3 c4 c6 c7 c8 c9 c15), .int .i64 x, .int .i64 v] w (StoreQ w e x v) := by
  have HQ : Hid (storeP e x v = (setG e.M e.S k v, 0)) := by
    unfold Hid storeP setS
    rw [decide_eq_false (by omega), cond_false, hsl]
    show (bif decide ((0 : Int) ≠ 0) then _ else _) = _
    rw [decide_eq_false (by simp), cond_false, decide_eq_true hwho, cond_true]
  have HC := Lib.hid (excheck_spec hw hs x)
  have HS := Lib.hid (slotv_at hw hgood)
  obtain ⟨hE, hx0, hx1⟩ := env_ok hw hgood
  have hin := (slotIn_at hE hx0 hx1 (ev := subP e) (by rw [hsl])).glob (by rw [hsl]; exact hwho)
  have hfit := hE.fit
  have htl : e.S.Globals.length = e.M.Globals.length := typed_len hE.globals.2
  rw [hsl] at hin HS
  change 0 ≤ k ∧ k < e.S.Globals.length at hin
  obtain ⟨kn, rfl⟩ : ∃ kn : Nat, k = kn := ⟨k.toNat, by omega⟩
  have hkn : kn < e.S.Globals.length := by omega
  have hkt : kn < e.M.Globals.length := by omega
  obtain ⟨tb, toff, tcap, rfl, ht1, ht2, htb, htc⟩ : ∃ b off cap, c0 = .slice (some ⟨b, off, none⟩) e.M.Globals.length cap ∧ e.M.Globals.length ≤ cap ∧ cap ≤ maxLen ∧ b < w.heap.size ∧ ∀ i, i < e.M.Globals.length → w.cell? ⟨b, off + i * 2, none⟩ = some (.int .i64 (e.M.Globals.getD i default).Bits) ∧ w.cell? ⟨b, off + i * 2 + 1, none⟩ = some (.bool (e.M.Globals.getD i default).Signed) := by
    obtain ⟨ao, cap, rfl, h1, h2, h3⟩ := hat.t
    obtain ⟨b, off, rfl, h4, h5⟩ := h3 (by omega)
    exact ⟨b, off, cap, rfl, h1, h2, h4, h5⟩
  obtain ⟨ty0, ty1⟩ := htc kn hkt
  obtain ⟨ty, hty⟩ : ∃ ty, e.M.Globals.getD kn default = ty := ⟨_, rfl⟩
  rw [hty] at ty0 ty1
  have HTY := Lib.hid hty
  clear hty
  have HTL := Lib.hid htl
  clear htc htl
  clear hin hsl hE
  unfold envA at hV ⊢
  rw [hgood] at HC
  go_enter Tryd.func10, Tryd.ntmps10
  obtain ⟨B0, B1, B2, BB⟩ := two_blocks w (.cells #[.slice (some ⟨tb, toff, none⟩) e.M.Globals.length tcap, c1, c2, c3, c4, .int .i64 e.M.Claim, c6, c7, c8, c9, .int .i64 e.S.Last, .int .i64 e.S.Alone, .int .i64 e.S.Claim, .int .i64 e.Pid, .bool e.Timeout, c15] envT (0, 0)) (.cells #[.slice none 0 0, .slice none 0 0, .slice none 0 0, .int .i64 0, .int .i64 0, .int .i64 0] stateT (0, 0))
  go_wp2_with (first
    | (go_at_call 24; refine (HC.out.at hL hB BB (says2 (hV.keep BB) .sc)).mono ?_; rintro r w1 ⟨u, rfl, hb1, hu⟩; obtain rfl := hu.sc_inv; have Z0 := (hb1.block _ (by omega)).trans B0; have Z1 := (hb1.block _ (by omega)).trans B1; have BW := BB.trans (hb1.mono (by omega)))
    | (go_at_call 26; refine (HS.out.at hL hB BW (says2 (env_tp Z0 (hV.keep BW)) .sc)).mono ?_; rintro r w2 ⟨u, rfl, hb2, hu⟩; obtain rfl := tup3_inv hu; have Y0 := (hb2.block _ (blk_lt Z0)).trans Z0; have Y1 := (hb2.block _ (blk_lt Z1)).trans Z1; have BX := BW.trans (hb2.mono BW.size); have s7 : w2.cell? ⟨w.heap.size, 7, none⟩ = some c7 := cell_of_blk Y0 rfl; have s8 : w2.cell? ⟨w.heap.size, 8, none⟩ = some c8 := cell_of_blk Y0 rfl; have s9 : w2.cell? ⟨w.heap.size, 9, none⟩ = some c9 := cell_of_blk Y0 rfl; have s10 : w2.cell? ⟨w.heap.size, 10, none⟩ = some (.int .i64 e.S.Last) := cell_of_blk Y0 rfl; have s11 : w2.cell? ⟨w.heap.size, 11, none⟩ = some (.int .i64 e.S.Alone) := cell_of_blk Y0 rfl; have s12 : w2.cell? ⟨w.heap.size, 12, none⟩ = some (.int .i64 e.S.Claim) := cell_of_blk Y0 rfl)
    | (go_at_call 27; refine (copy_calls hfit (hat.below BX).g (hat.below BX).c (hat.below BX).p).mono ?_; rintro r w3 ⟨vg, vc, vp, n1, qs, fs, w4, rfl, hcp⟩; obtain ⟨ag, gcap, rfl, hg1, hg2, hg3⟩ := own_any hcp.g; obtain ⟨ac, ccap, rfl, _⟩ := own_any hcp.c.row; obtain ⟨ap, pcap, rfl, _⟩ := own_any hcp.p.row))
  have hz3 := hcp.below.size
  have hz2 := BX.size
  have hsz0 := blk_lt Y1
  obtain ⟨g, rfl, hgb, hgl, hgc⟩ := hg3 (by omega)
  obtain ⟨gcur, hgk⟩ := ownsRow_blk hcp.g (k := g) rfl
  have hgn := hcp.g1 g rfl
  have K0 := (Below.heap_alloc w3 (.cells #[.slice (some ⟨g, 0, none⟩) e.S.Globals.length gcap, .slice ac e.S.Chans.length ccap, .slice ap e.S.Procs.length pcap, .int .i64 e.S.Last, .int .i64 e.S.Alone, .int .i64 e.S.Claim] stateT (0, 0)) _ (by omega)).trans ((hcp.below.block _ (blk_lt Y0)).trans Y0)
  have K1 := (Below.heap_alloc w3 (.cells #[.slice (some ⟨g, 0, none⟩) e.S.Globals.length gcap, .slice ac e.S.Chans.length ccap, .slice ap e.S.Procs.length pcap, .int .i64 e.S.Last, .int .i64 e.S.Alone, .int .i64 e.S.Claim] stateT (0, 0)) _ (by omega)).trans ((hcp.below.block _ (blk_lt Y1)).trans Y1)
  have K2 := heap_alloc_new w3 (.cells #[.slice (some ⟨g, 0, none⟩) e.S.Globals.length gcap, .slice ac e.S.Chans.length ccap, .slice ap e.S.Procs.length pcap, .int .i64 e.S.Last, .int .i64 e.S.Alone, .int .i64 e.S.Claim] stateT (0, 0))
  have KB : Below w3.heap.size w3 (w3.alloc (.cells #[.slice (some ⟨g, 0, none⟩) e.S.Globals.length gcap, .slice ac e.S.Chans.length ccap, .slice ap e.S.Procs.length pcap, .int .i64 e.S.Last, .int .i64 e.S.Alone, .int .i64 e.S.Claim] stateT (0, 0))) := (Below.refl _ w3).alloc (Nat.le_refl _) _
  have KZ : (w3.alloc (.cells #[.slice (some ⟨g, 0, none⟩) e.S.Globals.length gcap, .slice ac e.S.Chans.length ccap, .slice ap e.S.Procs.length pcap, .int .i64 e.S.Last, .int .i64 e.S.Alone, .int .i64 e.S.Claim] stateT (0, 0))).heap.size = w3.heap.size + 1 := by simp
  generalize w3.alloc (.cells #[.slice (some ⟨g, 0, none⟩) e.S.Globals.length gcap, .slice ac e.S.Chans.length ccap, .slice ap e.S.Procs.length pcap, .int .i64 e.S.Last, .int .i64 e.S.Alone, .int .i64 e.S.Claim] stateT (0, 0)) = wd at *
  have BD : Below w.heap.size w wd := (BX.trans (hcp.below.mono hz2)).trans (KB.mono (by omega))
  rw [← BD.cell (p := ⟨tb, toff + kn * 2, none⟩) htb] at ty0
  rw [← BD.cell (p := ⟨tb, toff + kn * 2 + 1, none⟩) htb] at ty1
  have x0 : wd.cell? ⟨w.heap.size, 0, none⟩ = some (.slice (some ⟨tb, toff, none⟩) e.M.Globals.length tcap) := cell_of_blk K0 rfl
  have x1 : wd.cell? ⟨w3.heap.size, 0, none⟩ = some (.slice (some ⟨g, 0, none⟩) e.S.Globals.length gcap) := cell_of_blk K2 rfl
  have hgw : wd.heap[g]? = some (.cells gcur i64T (0, 0)) := (KB.block _ hgl).trans hgk
  have xg : wd.cell? ⟨g, kn, none⟩ = some (.int .i64 (e.S.Globals.getD kn 0)) := by
    rw [KB.cell (p := ⟨g, kn, none⟩) hgl, hgc kn (by omega)]; simp [List.getD, hkn]
  have hgd : g < wd.heap.size := by omega
  have hsd : w3.heap.size < wd.heap.size := by omega
  have hsg : w3.heap.size ≠ (⟨g, kn, none⟩ : Addr).block := by simp; omega
  have hrg : w.heap.size + 1 ≠ (⟨g, kn, none⟩ : Addr).block := by simp; omega
  have hrd : w.heap.size + 1 < wd.heap.size := by omega
  have hng : w.heap.size ≤ (⟨g, kn, none⟩ : Addr).block := by simp; omega
  have hrw : w.heap.size + 1 < w2.heap.size := hsz0
  clear s7 s8 s9 s10 s11 s12 hgc hg3
  have hg2' := hg2
  have ht2' := ht2
  unfold maxLen at hg2' ht2'
  go_region_with (go_at_call 28; (with_reducible refine (vfit _ _ _ _).mono ?_); rintro r w5 ⟨rfl, hb5⟩; have hb5' : Below wd.heap.size wd w5 := ⟨hb5.os, hb5.tape, hb5.output, hb5.size, hb5.block⟩; have x5 : w5.cell? ⟨g, kn, none⟩ = _ := (hb5'.cell (p := ⟨g, kn, none⟩) hgd).trans xg; have y1 : w5.cell? ⟨w3.heap.size, 0, none⟩ = _ := (hb5'.cell (p := ⟨w3.heap.size, 0, none⟩) hsd).trans x1; have f5 : w5.frozen? ⟨g, kn, none⟩ = false := free_of_blk ((hb5'.block _ hgd).trans hgw))
  all_goals
    have L0 : (w5.setCell ⟨g, kn, none⟩ (.int .i64 (fitP ty.Bits ty.Signed v))).heap[w3.heap.size]? = _ := (Below.heap_setCell _ _ _ _ hsg).trans ((hb5'.block _ hsd).trans K2)
    have L1 : (w5.setCell ⟨g, kn, none⟩ (.int .i64 (fitP ty.Bits ty.Signed v))).heap[w.heap.size + 1]? = _ := (Below.heap_setCell _ _ _ _ hrg).trans ((hb5'.block _ hrd).trans K1)
    have HV : Hid (∀ E : Prot, (∀ k, E.fz k → k < w2.heap.size) → V (w5.setCell ⟨g, kn, none⟩ (.int .i64 (fitP ty.Bits ty.Signed v))) E none (.agg (enc_State { e.S with Globals := e.S.Globals.set kn (fitP ty.Bits ty.Signed v) })) (.agg #[.slice (some ⟨g, 0, none⟩) e.S.Globals.length gcap, .slice ac e.S.Chans.length ccap, .slice ap e.S.Procs.length pcap, .int .i64 e.S.Last, .int .i64 e.S.Alone, .int .i64 e.S.Claim])) :=
      fun E hE => copy_setg hcp (fun k h0 h1 => (hb5'.block k (by omega)).trans (KB.block k h1)) _ E hE
    have HB : Below w.heap.size w (w5.setCell ⟨g, kn, none⟩ (.int .i64 (fitP ty.Bits ty.Signed v))) := (BD.trans (hb5'.mono (by omega))).setCell (p := ⟨g, kn, none⟩) hng _
    obtain ⟨t0, t1, t2, t3, t4, t5, -⟩ := six_at L0
    obtain ⟨d0, d1, d2, d3, d4, d5, g0, g1, g2, g3, g4, g5⟩ := six_at L1
    clear x5 y1 f5 hb5 hb5'
    generalize w5.setCell ⟨g, kn, none⟩ (.int .i64 (fitP ty.Bits ty.Signed v)) = w6 at *
    go_wp2
    have hres := blk_six L1 (.slice (some ⟨g, 0, none⟩) e.S.Globals.length gcap) (.slice ac e.S.Chans.length ccap) (.slice ap e.S.Procs.length pcap) (.int .i64 e.S.Last) (.int .i64 e.S.Alone) (.int .i64 e.S.Claim)
    have hT := touch_six (w := w6) (b := w.heap.size + 1) (.slice (some ⟨g, 0, none⟩) e.S.Globals.length gcap) (.slice ac e.S.Chans.length ccap) (.slice ap e.S.Procs.length pcap) (.int .i64 e.S.Last) (.int .i64 e.S.Alone) (.int .i64 e.S.Claim)
    refine ret_cell2 rfl rfl hres Tryd.underlying36 rfl (by kernel_rfl) rfl ?_
    exact store_end HQ HTY HV HB hT hrw
end Go.Proofs.YthmhbmikcdfkcaaDoor
