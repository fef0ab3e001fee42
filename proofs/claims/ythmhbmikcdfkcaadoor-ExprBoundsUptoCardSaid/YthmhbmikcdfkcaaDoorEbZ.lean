/-
  The walk of expr.Store, IV: one of a process.
-/
import Derived.Test.YthmhbmikcdfkcaaDoorEbY
import Derived.Deep.RegionHeld3
namespace Go.Proofs.YthmhbmikcdfkcaaDoor
open Go.RowKit
theorem cell_far {w : World} {g i b o : Nat} {u : Value} (h : b ≠ g) : (w.setCell ⟨g, i, none⟩ u).cell? ⟨b, o, none⟩ = w.cell? ⟨b, o, none⟩ := World.cell?_of_block (Below.heap_setCell _ _ _ _ h)
theorem store_end2 {w w2 w6 w7 : World} {e : D.Env} {x v : Int} {i kn : Nat} {p : D.Process} {ty : D.Type} {vs : Array Value} (HQ : Hid (storeP e x v = (setO e.M e.S i kn v, 0))) (HP : Hid (e.S.Procs.getD i default = p)) (HTY : Hid ((prAt e.M p.Type_).Frame.getD kn default = ty))
    (HV : Hid (∀ E : Prot, (∀ k, E.fz k → k < w2.heap.size) → V w6 E none (.agg (enc_State { e.S with Procs := e.S.Procs.set i { e.S.Procs.getD i default with Frame := (e.S.Procs.getD i default).Frame.set kn (fitP ty.Bits ty.Signed v) } })) (.agg vs))) (HB : Below w.heap.size w w6)
    (hT : Touch w6 w7 (fun k => k = w.heap.size + 1)) (hr : w.heap.size + 1 < w2.heap.size) : StoreQ w e x v (.returned (.tuple #[.agg vs, .int .i64 0])) w7 := by
  refine ⟨vs, by rw [HQ.out], fun E hE => ?_, HB.trans (hT.below HB.size fun j hj => by have hj : j = w.heap.size + 1 := hj; omega)⟩
  rw [HQ.out]
  have e1 : setO e.M e.S i kn v = { e.S with Procs := e.S.Procs.set i { e.S.Procs.getD i default with Frame := (e.S.Procs.getD i default).Frame.set kn (fitP ty.Bits ty.Signed v) } } := by
    unfold setO setF fitT
    rw [show ((kn : Nat) : Int).toNat = kn by omega, show ((i : Nat) : Int).toNat = i by omega, HP.out, HTY.out]
  rw [e1]
  exact V.aside (b := w.heap.size + 1) (B := w2.heap.size) HV.out hr hT E fun k hk => by have := hE k hk; omega
set_option maxRecDepth 100000 in
set_option maxHeartbeats 8000000 in
theorem store_own {w : World} {e : D.Env} {x v who k : Int} {c0 c1 c2 c3 c4 c6 c7 c8 c9 c15 : Value} (hw : wf_Model e.M) (hs : SmallS' e.S) (hL : LibAt w) (hB : ∀ k, k ∈ libB → k < w.heap.size)
    (hV : V w P0 none (.agg (enc_Env e)) (.agg (envA e c0 c1 c2 c3 c4 c6 c7 c8 c9 c15))) (hat : EnvAt w e c0 c1 c2 c3 c4 c6 c7 c8 c9 c15) (hgood : exCheck e x = 0) (hsl : slotV e (subP e) (exAt e.M x) = (who, k, 0)) (hwho : 0 ≤ who) :
    Calls Tryd.prog 10 #[.agg (envA e c0 c1 c2 c3 c4 c6 c7 c8 c9 c15), .int .i64 x, .int .i64 v] w (StoreQ w e x v) := by
  have HQ0 : Hid (storeP e x v = (setO e.M e.S who k v, 0)) := by
    unfold Hid storeP setS
    rw [decide_eq_false (by omega), cond_false, hsl]
    show (bif decide ((0 : Int) ≠ 0) then _ else _) = _
    rw [decide_eq_false (by simp), cond_false, decide_eq_false (by omega), cond_false]
  have HC := Lib.hid (excheck_spec hw hs x)
  have HS := Lib.hid (slotv_at hw hgood)
  obtain ⟨hE, hx0, hx1⟩ := env_ok hw hgood
  have hin := (slotIn_at hE hx0 hx1 (ev := subP e) (by rw [hsl])).own (by rw [hsl]; exact hwho)
  have hfit := hE.fit
  rw [hsl] at hin HS
  obtain ⟨i, rfl⟩ : ∃ i : Nat, who = i := ⟨who.toNat, by omega⟩
  change (i : Int) < e.S.Procs.length ∧ 0 ≤ k ∧ k < (e.S.Procs.getD (i : Int).toNat default).Frame.length at hin
  rw [show ((i : Nat) : Int).toNat = i by omega] at hin
  obtain ⟨kn, rfl⟩ : ∃ kn : Nat, k = kn := ⟨k.toNat, by omega⟩
  have hi : i < e.S.Procs.length := by omega
  have HQ := HQ0
  have hpf := proc_facts (hE.proc (p := e.S.Procs.getD i default) (getD_mem hi))
  obtain ⟨p, hp⟩ : ∃ p, e.S.Procs.getD i default = p := ⟨_, rfl⟩
  rw [hp] at hin hpf
  have HP := Lib.hid hp
  have hkn : kn < p.Frame.length := by omega
  obtain ⟨tn, htn⟩ : ∃ tn : Nat, p.Type_ = tn := ⟨p.Type_.toNat, by omega⟩
  have htm : tn < e.M.Procs.length := by omega
  have hfl := hpf.2.2.1
  have hpr : prAt e.M p.Type_ = e.M.Procs.getD tn default := by unfold prAt; rw [htn, show ((tn : Nat) : Int).toNat = tn by omega]
  rw [hpr] at hfl
  obtain ⟨mb, moff, mcap, tb, toff, tcap, rfl, hm1, hm2, hmb, hmc, ht1, ht2, htb, htc⟩ : ∃ mb moff mcap tb toff tcap, c4 = .slice (some ⟨mb, moff, none⟩) e.M.Procs.length mcap ∧ e.M.Procs.length ≤ mcap ∧ mcap ≤ maxLen ∧ mb < w.heap.size ∧
      w.cell? ⟨mb, moff + tn * 10 + 2, none⟩ = some (.slice (some ⟨tb, toff, none⟩) p.Frame.length tcap) ∧ p.Frame.length ≤ tcap ∧ tcap ≤ maxLen ∧ tb < w.heap.size ∧
      ∀ j, j < p.Frame.length → w.cell? ⟨tb, toff + j * 2, none⟩ = some (.int .i64 ((prAt e.M p.Type_).Frame.getD j default).Bits) ∧ w.cell? ⟨tb, toff + j * 2 + 1, none⟩ = some (.bool ((prAt e.M p.Type_).Frame.getD j default).Signed) := by
    obtain ⟨ao, cap, rfl, h1, h2, h3⟩ := hat.f
    obtain ⟨b, off, rfl, h4, h5⟩ := h3 (by omega)
    obtain ⟨u, h6, ao', cap', rfl, h7, h8, h9⟩ := h5 tn htm
    rw [← hfl] at h6 h7 h9
    obtain ⟨b', off', rfl, h10, h11⟩ := h9 (by omega)
    rw [hpr]
    exact ⟨b, off, cap, b', off', cap', rfl, h1, h2, h4, h6, h7, h8, h10, h11⟩
  obtain ⟨ty0, ty1⟩ := htc kn hkn
  obtain ⟨ty, hty⟩ : ∃ ty, (prAt e.M p.Type_).Frame.getD kn default = ty := ⟨_, rfl⟩
  rw [hty] at ty0 ty1
  have HTY := Lib.hid hty
  have hwi : ((i : Int) < 0) = False := by simp
  clear htc hty hp hpr hfl hpf hin hsl hE HQ0 hwho
  unfold envA at hV ⊢
  rw [hgood] at HC
  go_enter Tryd.func10, Tryd.ntmps10
  obtain ⟨B0, B1, B2, BB⟩ := two_blocks w (.cells #[c0, c1, c2, c3, .slice (some ⟨mb, moff, none⟩) e.M.Procs.length mcap, .int .i64 e.M.Claim, c6, c7, c8, c9, .int .i64 e.S.Last, .int .i64 e.S.Alone, .int .i64 e.S.Claim, .int .i64 e.Pid, .bool e.Timeout, c15] envT (0, 0)) (.cells #[.slice none 0 0, .slice none 0 0, .slice none 0 0, .int .i64 0, .int .i64 0, .int .i64 0] stateT (0, 0))
  go_wp2_with (first
    | (go_at_call 24; refine (HC.out.at hL hB BB (says2 (hV.keep BB) .sc)).mono ?_; rintro r w1 ⟨u, rfl, hb1, hu⟩; obtain rfl := hu.sc_inv; have Z0 := (hb1.block _ (by omega)).trans B0; have Z1 := (hb1.block _ (by omega)).trans B1; have BW := BB.trans (hb1.mono (by omega)))
    | (go_at_call 26; refine (HS.out.at hL hB BW (says2 (env_tp Z0 (hV.keep BW)) .sc)).mono ?_; rintro r w2 ⟨u, rfl, hb2, hu⟩; obtain rfl := tup3_inv hu; have Y0 := (hb2.block _ (blk_lt Z0)).trans Z0; have Y1 := (hb2.block _ (blk_lt Z1)).trans Z1; have BX := BW.trans (hb2.mono BW.size); have s7 : w2.cell? ⟨w.heap.size, 7, none⟩ = some c7 := cell_of_blk Y0 rfl; have s8 : w2.cell? ⟨w.heap.size, 8, none⟩ = some c8 := cell_of_blk Y0 rfl; have s9 : w2.cell? ⟨w.heap.size, 9, none⟩ = some c9 := cell_of_blk Y0 rfl; have s10 : w2.cell? ⟨w.heap.size, 10, none⟩ = some (.int .i64 e.S.Last) := cell_of_blk Y0 rfl; have s11 : w2.cell? ⟨w.heap.size, 11, none⟩ = some (.int .i64 e.S.Alone) := cell_of_blk Y0 rfl; have s12 : w2.cell? ⟨w.heap.size, 12, none⟩ = some (.int .i64 e.S.Claim) := cell_of_blk Y0 rfl)
    | (go_at_call 27; refine (copy_calls hfit (hat.below BX).g (hat.below BX).c (hat.below BX).p).mono ?_; rintro r w3 ⟨vg, vc, vp, n1, qs, fs, w4, rfl, hcp⟩; obtain ⟨ag, ggcap, rfl, _⟩ := own_any hcp.g; obtain ⟨ac, ccap, rfl, _⟩ := own_any hcp.c.row; obtain ⟨ap, pcap, rfl, hp1, hp2, hp3⟩ := own_any hcp.p.row))
  have hz3 := hcp.below.size
  have hz2 := BX.size
  have hsz0 := blk_lt Y1
  obtain ⟨pb, rfl, hpbb, hpbl, hpc⟩ := hp3 (by omega)
  obtain ⟨q0, -, -, q3⟩ := cellsP_get hcp.p.len hi
  have hfi : i < fs.length := by rw [hcp.p.len]; exact hi
  have hpi : e.S.Procs[i]? = some p := by have := HP.out; simp [List.getD, hi] at this; simp [hi, this]
  obtain ⟨ag2, gcap, hu, hg1, hg2, hg3⟩ := own_any (hcp.p.each i (fs[i]) p (by simp [hfi]) hpi)
  obtain ⟨g, rfl, hgb, hgl, hgc⟩ := hg3 (by omega)
  have hfu : fs[i]? = some (.slice (some ⟨g, 0, none⟩) p.Frame.length gcap) := by simp [hfi, hu]
  obtain ⟨gcur, hgk⟩ := ownsRow_blk (hcp.p.each i _ p hfu hpi) (k := g) rfl
  have hn2 := hcp.n2
  have hn0 := hcp.n0
  rw [HP.out, htn] at q0
  rw [hfu] at q3
  have p0 : w3.cell? ⟨pb, i * 4, none⟩ = some (.int .i64 tn) := (hpc (i * 4) (by omega)).trans q0
  have p3 : w3.cell? ⟨pb, i * 4 + 3, none⟩ = some (.slice (some ⟨g, 0, none⟩) p.Frame.length gcap) := (hpc (i * 4 + 3) (by omega)).trans q3
  have K0 := (Below.heap_alloc w3 (.cells #[.slice ag e.S.Globals.length ggcap, .slice ac e.S.Chans.length ccap, .slice (some ⟨pb, 0, none⟩) e.S.Procs.length pcap, .int .i64 e.S.Last, .int .i64 e.S.Alone, .int .i64 e.S.Claim] stateT (0, 0)) _ (by omega)).trans ((hcp.below.block _ (blk_lt Y0)).trans Y0)
  have K1 := (Below.heap_alloc w3 (.cells #[.slice ag e.S.Globals.length ggcap, .slice ac e.S.Chans.length ccap, .slice (some ⟨pb, 0, none⟩) e.S.Procs.length pcap, .int .i64 e.S.Last, .int .i64 e.S.Alone, .int .i64 e.S.Claim] stateT (0, 0)) _ (by omega)).trans ((hcp.below.block _ (blk_lt Y1)).trans Y1)
  have K2 := heap_alloc_new w3 (.cells #[.slice ag e.S.Globals.length ggcap, .slice ac e.S.Chans.length ccap, .slice (some ⟨pb, 0, none⟩) e.S.Procs.length pcap, .int .i64 e.S.Last, .int .i64 e.S.Alone, .int .i64 e.S.Claim] stateT (0, 0))
  have KB : Below w3.heap.size w3 (w3.alloc (.cells #[.slice ag e.S.Globals.length ggcap, .slice ac e.S.Chans.length ccap, .slice (some ⟨pb, 0, none⟩) e.S.Procs.length pcap, .int .i64 e.S.Last, .int .i64 e.S.Alone, .int .i64 e.S.Claim] stateT (0, 0))) := (Below.refl _ w3).alloc (Nat.le_refl _) _
  have KZ : (w3.alloc (.cells #[.slice ag e.S.Globals.length ggcap, .slice ac e.S.Chans.length ccap, .slice (some ⟨pb, 0, none⟩) e.S.Procs.length pcap, .int .i64 e.S.Last, .int .i64 e.S.Alone, .int .i64 e.S.Claim] stateT (0, 0))).heap.size = w3.heap.size + 1 := by simp
  generalize w3.alloc (.cells #[.slice ag e.S.Globals.length ggcap, .slice ac e.S.Chans.length ccap, .slice (some ⟨pb, 0, none⟩) e.S.Procs.length pcap, .int .i64 e.S.Last, .int .i64 e.S.Alone, .int .i64 e.S.Claim] stateT (0, 0)) = wd at *
  have BD : Below w.heap.size w wd := (BX.trans (hcp.below.mono hz2)).trans (KB.mono (by omega))
  rw [← BD.cell (p := ⟨tb, toff + kn * 2, none⟩) htb] at ty0
  rw [← BD.cell (p := ⟨tb, toff + kn * 2 + 1, none⟩) htb] at ty1
  rw [← BD.cell (p := ⟨mb, moff + tn * 10 + 2, none⟩) hmb] at hmc
  rw [← KB.cell (p := ⟨pb, i * 4, none⟩) hpbl] at p0
  rw [← KB.cell (p := ⟨pb, i * 4 + 3, none⟩) hpbl] at p3
  have x0 : wd.cell? ⟨w.heap.size, 4, none⟩ = some (.slice (some ⟨mb, moff, none⟩) e.M.Procs.length mcap) := cell_of_blk K0 rfl
  have x1 : wd.cell? ⟨w3.heap.size, 2, none⟩ = some (.slice (some ⟨pb, 0, none⟩) e.S.Procs.length pcap) := cell_of_blk K2 rfl
  have hgw : wd.heap[g]? = some (.cells gcur i64T (0, 0)) := (KB.block _ hgl).trans hgk
  have xg : wd.cell? ⟨g, kn, none⟩ = some (.int .i64 (p.Frame.getD kn 0)) := by
    rw [KB.cell (p := ⟨g, kn, none⟩) hgl, hgc kn (by omega)]; simp [List.getD, hkn]
  have hgd : g < wd.heap.size := by omega
  have hsd : w3.heap.size < wd.heap.size := by omega
  have hpd : pb < wd.heap.size := by omega
  have hsg : w3.heap.size ≠ (⟨g, kn, none⟩ : Addr).block := by simp; omega
  have hrg : w.heap.size + 1 ≠ (⟨g, kn, none⟩ : Addr).block := by simp; omega
  have hrd : w.heap.size + 1 < wd.heap.size := by omega
  have hng : w.heap.size ≤ (⟨g, kn, none⟩ : Addr).block := by simp; omega
  have hrw : w.heap.size + 1 < w2.heap.size := hsz0
  clear s7 s8 s9 s10 s11 s12 hgc hg3 hpc hp3 hu q0 q3
  have hg2' := hg2
  have ht2' := ht2
  have hm2' := hm2
  have hp2' := hp2
  unfold maxLen at hg2' ht2' hm2' hp2'
  obtain ⟨pcur, hpk⟩ := ownsRow_blk hcp.p.row (k := pb) rfl
  have hpg : pb ≠ g := blk_ne hpk hgk (by decide)
  have hf1 : w3.heap.size ≠ g := by omega
  have hf2 : w.heap.size ≠ g := by omega
  have hf3 : mb ≠ g := by omega
  have hf4 : tb ≠ g := by omega
  have hbd0 : w.heap.size < wd.heap.size := by omega
  have htd : tb < wd.heap.size := by omega
  have hmd : mb < wd.heap.size := by omega
  have hkI : (0 : Int) ≤ (kn : Int) := by omega
  have hiI : (0 : Int) ≤ (i : Int) := by omega
  have htI : (0 : Int) ≤ (tn : Int) := by omega
  have hkF : (kn : Int) < (p.Frame.length : Int) := by omega
  have hiF : (i : Int) < (e.S.Procs.length : Int) := by omega
  have htF : (tn : Int) < (e.M.Procs.length : Int) := by omega
  go_region_held3 (fun w' => w'.cell? ⟨w3.heap.size, 2, none⟩ = some (.slice (some ⟨pb, 0, none⟩) e.S.Procs.length pcap) ∧ w'.cell? ⟨pb, i * 4 + 3, none⟩ = some (.slice (some ⟨g, 0, none⟩) p.Frame.length gcap) ∧ w'.cell? ⟨w.heap.size, 4, none⟩ = some (.slice (some ⟨mb, moff, none⟩) e.M.Procs.length mcap) ∧ w'.cell? ⟨pb, i * 4, none⟩ = some (.int .i64 tn) ∧ w'.cell? ⟨mb, moff + tn * 10 + 2, none⟩ = some (.slice (some ⟨tb, toff, none⟩) p.Frame.length tcap) ∧ w'.cell? ⟨tb, toff + kn * 2, none⟩ = some (.int .i64 ty.Bits) ∧ w'.cell? ⟨tb, toff + kn * 2 + 1, none⟩ = some (.bool ty.Signed)) (first | (refine ⟨?_, ?_, ?_, ?_, ?_, ?_, ?_⟩ <;> (first | (rw [cell_far hf1]; assumption) | (rw [cell_far hpg]; assumption) | (rw [cell_far hf2]; assumption) | (rw [cell_far hf3]; assumption) | (rw [cell_far hf4]; assumption))) | go_keep)
    ((go_at_call 28; go_loud ((with_reducible refine (vfit _ _ _ _).mono ?_); rintro r w5 ⟨rfl, hb5⟩; have hb5' : Below wd.heap.size wd w5 := ⟨hb5.os, hb5.tape, hb5.output, hb5.size, hb5.block⟩; have x5 : w5.cell? ⟨g, kn, none⟩ = _ := (hb5'.cell (p := ⟨g, kn, none⟩) hgd).trans xg; have y1 : w5.cell? ⟨w3.heap.size, 2, none⟩ = _ := (hb5'.cell (p := ⟨w3.heap.size, 2, none⟩) hsd).trans x1; have y2 : w5.cell? ⟨pb, i * 4 + 3, none⟩ = _ := (hb5'.cell (p := ⟨pb, i * 4 + 3, none⟩) hpd).trans p3; have y3 : w5.cell? ⟨w.heap.size, 4, none⟩ = _ := (hb5'.cell (p := ⟨w.heap.size, 4, none⟩) hbd0).trans x0; have y4 : w5.cell? ⟨pb, i * 4, none⟩ = _ := (hb5'.cell (p := ⟨pb, i * 4, none⟩) hpd).trans p0; have y5 : w5.cell? ⟨mb, moff + tn * 10 + 2, none⟩ = _ := (hb5'.cell (p := ⟨mb, moff + tn * 10 + 2, none⟩) hmd).trans hmc; have y6 : w5.cell? ⟨tb, toff + kn * 2, none⟩ = _ := (hb5'.cell (p := ⟨tb, toff + kn * 2, none⟩) htd).trans ty0; have y7 : w5.cell? ⟨tb, toff + kn * 2 + 1, none⟩ = _ := (hb5'.cell (p := ⟨tb, toff + kn * 2 + 1, none⟩) htd).trans ty1; have f5 : w5.frozen? ⟨g, kn, none⟩ = false := free_of_blk ((hb5'.block _ hgd).trans hgw))))
  all_goals
    have L0 : (w5.setCell ⟨g, kn, none⟩ (.int .i64 (fitP ty.Bits ty.Signed v))).heap[w3.heap.size]? = _ := (Below.heap_setCell _ _ _ _ hsg).trans ((hb5'.block _ hsd).trans K2)
    have L1 : (w5.setCell ⟨g, kn, none⟩ (.int .i64 (fitP ty.Bits ty.Signed v))).heap[w.heap.size + 1]? = _ := (Below.heap_setCell _ _ _ _ hrg).trans ((hb5'.block _ hrd).trans K1)
    have HV : Hid (∀ E : Prot, (∀ k, E.fz k → k < w2.heap.size) → V (w5.setCell ⟨g, kn, none⟩ (.int .i64 (fitP ty.Bits ty.Signed v))) E none (.agg (enc_State { e.S with Procs := e.S.Procs.set i { e.S.Procs.getD i default with Frame := (e.S.Procs.getD i default).Frame.set kn (fitP ty.Bits ty.Signed v) } })) (.agg #[.slice ag e.S.Globals.length ggcap, .slice ac e.S.Chans.length ccap, .slice (some ⟨pb, 0, none⟩) e.S.Procs.length pcap, .int .i64 e.S.Last, .int .i64 e.S.Alone, .int .i64 e.S.Claim])) :=
      fun E hE => copy_seto hcp hi (by rw [HP.out]; exact hfu) (fun k h0 h1 => (hb5'.block k (by omega)).trans (KB.block k h1)) _ E hE
    have HB : Below w.heap.size w (w5.setCell ⟨g, kn, none⟩ (.int .i64 (fitP ty.Bits ty.Signed v))) := (BD.trans (hb5'.mono (by omega))).setCell (p := ⟨g, kn, none⟩) hng _
    obtain ⟨t0, t1, t2, t3, t4, t5, -⟩ := six_at L0
    obtain ⟨d0, d1, d2, d3, d4, d5, g0, g1, g2, g3, g4, g5⟩ := six_at L1
    clear x5 y1 y2 y3 y4 y5 y6 y7 f5 hb5 hb5'
    generalize w5.setCell ⟨g, kn, none⟩ (.int .i64 (fitP ty.Bits ty.Signed v)) = w6 at *
    go_wp2
    have hres := blk_six L1 (.slice ag e.S.Globals.length ggcap) (.slice ac e.S.Chans.length ccap) (.slice (some ⟨pb, 0, none⟩) e.S.Procs.length pcap) (.int .i64 e.S.Last) (.int .i64 e.S.Alone) (.int .i64 e.S.Claim)
    have hT := touch_six (w := w6) (b := w.heap.size + 1) (.slice ag e.S.Globals.length ggcap) (.slice ac e.S.Chans.length ccap) (.slice (some ⟨pb, 0, none⟩) e.S.Procs.length pcap) (.int .i64 e.S.Last) (.int .i64 e.S.Alone) (.int .i64 e.S.Claim)
    refine ret_cell2 rfl rfl hres Tryd.underlying36 rfl (by kernel_rfl) rfl ?_
    exact store_end2 HQ HP HTY HV HB hT hrw
end Go.Proofs.YthmhbmikcdfkcaaDoor
