/-
  Texts, joined: EbV, EbY, EbZ, VjThaw, EbT, EgS, EcP, VjThawF, VjOwn, EcE, EcA, EcH, EcW1, EcW2, EcW3, EcW4, EcW5, EcW6, EcW7, RfS, RfA, RfH, RfW1, RfW2, RfW3, RfW4, RfW5, EgE, EgT, EgU, EgA.
-/
import Derived.Test.YtiaebjpcgjkhoaaGreatDoorWkC
import Derived.Deep.RegionHeld3
import Derived.KernelRfl
namespace Go.Proofs.YtiaebjpcgjkhoaaGreatDoor
open Go.RowKit
section
variable {w w4 w' w5:World} {s:D.State} {vg vc vp:Value} {n1 g gcap kn:Nat} {qs fs:List Value}
theorem U9.kept5 (h:U9 w w4 w' s vg vc vp n1 qs fs) (hk:∀ k,w.heap.size<=k->k<w'.heap.size->w5.heap[k]?=w'.heap[k]?) (ts:List TypeId):B9 w4 w5 n1 ts:=fun k cur t h0 h1 hc _=>by
 have e:=h.kept k h0 h1
 exact (hk k (Nat.le_trans h.n0 h0) (BQ (e.trans hc))).trans e
theorem Abu (h:U9 w w4 w' s (.slice (some ⟨g,0,none⟩) s.Globals.length gcap) vc vp n1 qs fs) (hk:∀ k,w.heap.size<=k->k<w'.heap.size->w5.heap[k]?=w'.heap[k]?) (x:Int) :
  D1 (w5.setCell ⟨g,kn,none⟩ (.int .i64 x)) w.heap.size { s with Globals:=s.Globals.set kn x } #[.slice (some ⟨g,0,none⟩) s.Globals.length gcap,vc,vp,.int .i64 s.Last,.int .i64 s.Alone,.int .i64 s.Claim]:=by
 have hn0:=h.n0
 have hn2:=h.n2
 have hg:=h.g1 g rfl
 have low:∀ {qs:List Value} {v:Value} {cs:List D.Chan} {w':World},Fp w' n1 v qs cs->Fp w' w.heap.size v qs cs:=fun h2=>⟨Cb h2.row hn0,h2.len,fun i u c a b=>let ⟨vs,hq⟩:=h2.each i u c a b;⟨vs,hq.base hn0⟩⟩
 have lowp:∀ {fs:List Value} {v:Value} {ps:List D.Process} {w':World},D9 w' w4.heap.size v fs ps->D9 w' w.heap.size v fs ps:=fun h3=>⟨Cb h3.row (by omega),h3.len,fun i u p a b=>Cb (h3.each i u p a b) (by omega),h3.apart⟩
 refine ⟨_,_,_,qs,fs,rfl,?_,low ?_,lowp ?_⟩
 ·have h1:=Yd (k:=kn) (B6 (ts:=[DI]) h.g (B9.of hk) (by simp)) x
  rwa [List.length_set] at h1
 ·exact ((h.c.kept (h.kept5 hk [DH,Gj,DI]) (by simp) (by simp) (by simp)).kept (ts:=[DH,Gj,DI]) (B9.low hg) (by simp) (by simp) (by simp))
 ·exact ((h.p.kept (ts:=[DX,DI]) (B9.of fun k h0 h1=>hk k (by omega) h1) (by simp) (by simp)).kept (ts:=[DX,DI]) (B9.low (by omega)) (by simp) (by simp))
theorem Abt {i:Nat} (h:U9 w w4 w' s vg vc vp n1 qs fs) (hi:i<s.Procs.length) (hf:fs[i]?=some (.slice (some ⟨g,0,none⟩) (s.Procs.getD i default).Frame.length gcap)) (hk:∀ k,w.heap.size<=k->k<w'.heap.size->w5.heap[k]?=w'.heap[k]?) (x:Int) :
  D1 (w5.setCell ⟨g,kn,none⟩ (.int .i64 x)) w.heap.size { s with Procs:=s.Procs.set i { s.Procs.getD i default with Frame:=(s.Procs.getD i default).Frame.set kn x } } #[vg,vc,vp,.int .i64 s.Last,.int .i64 s.Alone,.int .i64 s.Claim]:=by
 have hn0:=h.n0
 have hn2:=h.n2
 have hP:D9 w5 w4.heap.size vp fs s.Procs:=h.p.kept (ts:=[DX,DI]) (B9.of fun k h0 h1=>hk k (by omega) h1) (by simp) (by simp)
 have hg:=((h.p.each i _ (s.Procs.getD i default) hf (by simp [List.getD,hi])).lt g rfl).1
 have low:∀ {qs:List Value} {v:Value} {cs:List D.Chan} {w':World},Fp w' n1 v qs cs->Fp w' w.heap.size v qs cs:=fun h2=>⟨Cb h2.row hn0,h2.len,fun i u c a b=>let ⟨vs,hq⟩:=h2.each i u c a b;⟨vs,hq.base hn0⟩⟩
 have lowp:∀ {fs:List Value} {v:Value} {ps:List D.Process} {w':World},D9 w' w4.heap.size v fs ps->D9 w' w.heap.size v fs ps:=fun h3=>⟨Cb h3.row (by omega),h3.len,fun i u p a b=>Cb (h3.each i u p a b) (by omega),h3.apart⟩
 refine ⟨_,_,_,qs,fs,rfl,?_,low ?_,lowp ?_⟩
 ·refine Cy (B6 (ts:=[DI]) h.g (B9.of hk) (by simp)) fun k e=>Below.heap_setCell _ _ _ _ ?_
  have:=h.g1 k e
  simp;omega
 ·exact (h.c.kept (ts:=[DH,Gj,DI]) (fun k cur t h0 h1 hc ht=>(Below.heap_setCell _ _ _ _ (by simp;omega)).trans (h.kept5 hk [DH,Gj,DI] k cur t h0 h1 hc ht)) (by simp) (by simp) (by simp))
 ·exact (D9.write hP hi hf x)
end
end Go.Proofs.YtiaebjpcgjkhoaaGreatDoor
namespace Go.Proofs.YtiaebjpcgjkhoaaGreatDoor
open Go.RowKit
theorem PN.below {w w':World} {e:D.Env} {c0 c1 c2 c3 c4 c6 c7 c8 c9 c15:Value} (h:PN w e c0 c1 c2 c3 c4 c6 c7 c8 c9 c15) (hb:Below w.heap.size w w'):PN w' e c0 c1 c2 c3 c4 c6 c7 c8 c9 c15 :=
 ⟨h.t.below hb,h.f.below hb,h.g.below hb,h.c.below hb,h.p.below hb⟩
theorem ZF {w w2 w6 w7:World} {e:D.Env} {x v:Int} {kn:Nat} {ty:D.Type} {vs:Array Value} (HQ:Hid (AV e x v=(setG e.M e.S kn v,0))) (HTY:Hid (e.M.Globals.getD kn default=ty))
  (HV:Hid (D1 w6 w2.heap.size { e.S with Globals:=e.S.Globals.set kn (DS ty.Bits ty.Signed v) } vs)) (HB:Below w.heap.size w w6)
  (hT:BI w6 w7 (fun k=>k=w.heap.size+1)) (hr:w.heap.size+1<w2.heap.size):KW w e x v (.returned (.tuple #[.agg vs,.int .i64 0])) w7:=by
 refine ⟨vs,by rw [HQ.out],?_,HB.trans (hT.below HB.size fun j hj=>by have hj:j=w.heap.size+1:=hj;omega)⟩
 rw [HQ.out]
 have e1:setG e.M e.S kn v={ e.S with Globals:=e.S.Globals.set kn (DS ty.Bits ty.Signed v) }:=by
  unfold setG H7
  rw [show ((kn:Nat):Int).toNat=kn by omega,HTY.out]
 rw [e1]
 exact (D1.aside (b:=w.heap.size+1) (B:=w2.heap.size) HV.out hr hT).base (by omega)
set_option maxRecDepth 100000 in
set_option maxHeartbeats 4000000 in
theorem VW {w:World} {e:D.Env} {x v who k:Int} {c0 c1 c2 c3 c4 c6 c7 c8 c9 c15:Value} (hw:Ay e.M) (hs:A4 e.S) (hL:Cq w) (hB:∀ k,k∈Fy->k<w.heap.size)
  (hV:V w P0 none (.agg (Af e)) (.agg (KH e c0 c1 c2 c3 c4 c6 c7 c8 c9 c15))) (hat:PN w e c0 c1 c2 c3 c4 c6 c7 c8 c9 c15) (hgood:CA e x=0) (hsl:BH e (EO e) (Ar e.M x)=(who,k,0)) (hwho:who<0) :
  Calls Tryz.prog 63 #[.agg (KH e c0 c1 c2 c3 c4 c6 c7 c8 c9 c15),.int .i64 x,.int .i64 v] w (KW w e x v):=by
 have HQ:Hid (AV e x v=(setG e.M e.S k v,0)):=by
  unfold Hid AV Nl
  rw [decide_eq_false (by omega),cond_false,hsl]
  show (bif decide ((0:Int)≠0) then _ else _)=_
  rw [decide_eq_false (by simp),cond_false,decide_eq_true hwho,cond_true]
 have HC:=Lib.hid (DT hw hs x)
 have HS:=Lib.hid (OM hw hgood)
 obtain ⟨hE,hx0,hx1⟩:=H8 hw hgood
 have hin:=(JD hE hx0 hx1 (ev:=EO e) (by rw [hsl])).glob (by rw [hsl];exact hwho)
 have hfit:=hE.fit
 have htl:e.S.Globals.length=e.M.Globals.length:=Ea hE.globals.2
 rw [hsl] at hin HS
 change 0<=k/\k<e.S.Globals.length at hin
 obtain ⟨kn,rfl⟩:∃ kn:Nat,k=kn:=⟨k.toNat,by omega⟩
 have hkn:kn<e.S.Globals.length:=by omega
 have hkt:kn<e.M.Globals.length:=by omega
 obtain ⟨tb,toff,tcap,rfl,ht1,ht2,htb,htc⟩:∃ b off cap,c0=.slice (some ⟨b,off,none⟩) e.M.Globals.length cap/\e.M.Globals.length<=cap/\cap<=maxLen/\b<w.heap.size/\∀ i,i<e.M.Globals.length->w.cell? ⟨b,off+i*2,none⟩=some (.int .i64 (e.M.Globals.getD i default).Bits)/\w.cell? ⟨b,off+i*2+1,none⟩=some (.bool (e.M.Globals.getD i default).Signed):=by
  obtain ⟨ao,cap,rfl,h1,h2,h3⟩:=hat.t
  obtain ⟨b,off,rfl,h4,h5⟩:=h3 (by omega)
  exact ⟨b,off,cap,rfl,h1,h2,h4,h5⟩
 obtain ⟨ty0,ty1⟩:=htc kn hkt
 obtain ⟨ty,hty⟩:∃ ty,e.M.Globals.getD kn default=ty:=⟨_,rfl⟩
 rw [hty] at ty0 ty1
 have HTY:=Lib.hid hty
 clear hty
 have HTL:=Lib.hid htl
 clear htc htl
 clear hin hsl hE
 unfold KH at hV ⊢
 rw [hgood] at HC
 go_enter Tryz.func63,Tryz.ntmps63
 obtain ⟨B0,B1,B2,BB⟩:=Hs w (.cells #[.slice (some ⟨tb,toff,none⟩) e.M.Globals.length tcap,c1,c2,c3,c4,.int .i64 e.M.Claim,c6,c7,c8,c9,.int .i64 e.S.Last,.int .i64 e.S.Alone,.int .i64 e.S.Claim,.int .i64 e.Pid,.bool e.Timeout,c15] Ae9 (0,0)) (.cells #[.slice none 0 0,.slice none 0 0,.slice none 0 0,.int .i64 0,.int .i64 0,.int .i64 0] BK (0,0))
 go_wp2_with (first
  | (go_at_call 51;refine (HC.out.at hL hB BB (OP (hV.keep BB) .sc)).mono ?_;rintro r w1 ⟨u,rfl,hb1,hu⟩;obtain rfl:=hu.sc_inv;have Z0:=(hb1.block _ (by omega)).trans B0;have Z1:=(hb1.block _ (by omega)).trans B1;have BW:=BB.trans (hb1.mono (by omega)))
  | (go_at_call 80;refine (HS.out.at hL hB BW (OP (Xw Z0 (hV.keep BW)) .sc)).mono ?_;rintro r w2 ⟨u,rfl,hb2,hu⟩;obtain rfl:=Ot hu;have Y0:=(hb2.block _ (BQ Z0)).trans Z0;have Y1:=(hb2.block _ (BQ Z1)).trans Z1;have BX:=BW.trans (hb2.mono BW.size);have s7:w2.cell? ⟨w.heap.size,7,none⟩=some c7:=Ah Y0 rfl;have s8:w2.cell? ⟨w.heap.size,8,none⟩=some c8:=Ah Y0 rfl;have s9:w2.cell? ⟨w.heap.size,9,none⟩=some c9:=Ah Y0 rfl;have s10:w2.cell? ⟨w.heap.size,10,none⟩=some (.int .i64 e.S.Last):=Ah Y0 rfl;have s11:w2.cell? ⟨w.heap.size,11,none⟩=some (.int .i64 e.S.Alone):=Ah Y0 rfl;have s12:w2.cell? ⟨w.heap.size,12,none⟩=some (.int .i64 e.S.Claim):=Ah Y0 rfl)
  | (go_at_call 19;refine (Pq hfit (hat.below BX).g (hat.below BX).c (hat.below BX).p).mono ?_;rintro r w3 ⟨vg,vc,vp,n1,qs,fs,w4,rfl,hcp⟩;obtain ⟨ag,gcap,rfl,hg1,hg2,hg3⟩:=CF hcp.g;obtain ⟨ac,ccap,rfl,_⟩:=CF hcp.c.row;obtain ⟨ap,pcap,rfl,_⟩:=CF hcp.p.row))
 have hz3:=hcp.below.size
 have hz2:=BX.size
 have hsz0:=BQ Y1
 obtain ⟨g,rfl,hgb,hgl,hgc⟩:=hg3 (by omega)
 obtain ⟨gcur,hgk⟩:=AU hcp.g (k:=g) rfl
 have hgn:=hcp.g1 g rfl
 have K0:=(Below.heap_alloc w3 (.cells #[.slice (some ⟨g,0,none⟩) e.S.Globals.length gcap,.slice ac e.S.Chans.length ccap,.slice ap e.S.Procs.length pcap,.int .i64 e.S.Last,.int .i64 e.S.Alone,.int .i64 e.S.Claim] BK (0,0)) _ (by omega)).trans ((hcp.below.block _ (BQ Y0)).trans Y0)
 have K1:=(Below.heap_alloc w3 (.cells #[.slice (some ⟨g,0,none⟩) e.S.Globals.length gcap,.slice ac e.S.Chans.length ccap,.slice ap e.S.Procs.length pcap,.int .i64 e.S.Last,.int .i64 e.S.Alone,.int .i64 e.S.Claim] BK (0,0)) _ (by omega)).trans ((hcp.below.block _ (BQ Y1)).trans Y1)
 have K2:=heap_alloc_new w3 (.cells #[.slice (some ⟨g,0,none⟩) e.S.Globals.length gcap,.slice ac e.S.Chans.length ccap,.slice ap e.S.Procs.length pcap,.int .i64 e.S.Last,.int .i64 e.S.Alone,.int .i64 e.S.Claim] BK (0,0))
 have KB:Below w3.heap.size w3 (w3.alloc (.cells #[.slice (some ⟨g,0,none⟩) e.S.Globals.length gcap,.slice ac e.S.Chans.length ccap,.slice ap e.S.Procs.length pcap,.int .i64 e.S.Last,.int .i64 e.S.Alone,.int .i64 e.S.Claim] BK (0,0))):=(Below.refl _ w3).alloc (Nat.le_refl _) _
 have KZ:(w3.alloc (.cells #[.slice (some ⟨g,0,none⟩) e.S.Globals.length gcap,.slice ac e.S.Chans.length ccap,.slice ap e.S.Procs.length pcap,.int .i64 e.S.Last,.int .i64 e.S.Alone,.int .i64 e.S.Claim] BK (0,0))).heap.size=w3.heap.size+1:=by simp
 generalize w3.alloc (.cells #[.slice (some ⟨g,0,none⟩) e.S.Globals.length gcap,.slice ac e.S.Chans.length ccap,.slice ap e.S.Procs.length pcap,.int .i64 e.S.Last,.int .i64 e.S.Alone,.int .i64 e.S.Claim] BK (0,0))=wd at *
 have BD:Below w.heap.size w wd:=(BX.trans (hcp.below.mono hz2)).trans (KB.mono (by omega))
 rw [← BD.cell (p:=⟨tb,toff+kn*2,none⟩) htb] at ty0
 rw [← BD.cell (p:=⟨tb,toff+kn*2+1,none⟩) htb] at ty1
 have x0:wd.cell? ⟨w.heap.size,0,none⟩=some (.slice (some ⟨tb,toff,none⟩) e.M.Globals.length tcap):=Ah K0 rfl
 have x1:wd.cell? ⟨w3.heap.size,0,none⟩=some (.slice (some ⟨g,0,none⟩) e.S.Globals.length gcap):=Ah K2 rfl
 have hgw:wd.heap[g]?=some (.cells gcur DI (0,0)):=(KB.block _ hgl).trans hgk
 have xg:wd.cell? ⟨g,kn,none⟩=some (.int .i64 (e.S.Globals.getD kn 0)):=by
  rw [KB.cell (p:=⟨g,kn,none⟩) hgl,hgc kn (by omega)];simp [List.getD,hkn]
 have hgd:g<wd.heap.size:=by omega
 have hsd:w3.heap.size<wd.heap.size:=by omega
 have hsg:w3.heap.size≠(⟨g,kn,none⟩:Addr).block:=by simp;omega
 have hrg:w.heap.size+1≠(⟨g,kn,none⟩:Addr).block:=by simp;omega
 have hrd:w.heap.size+1<wd.heap.size:=by omega
 have hng:w.heap.size<=(⟨g,kn,none⟩:Addr).block:=by simp;omega
 have hrw:w.heap.size+1<w2.heap.size:=hsz0
 clear s7 s8 s9 s10 s11 s12 hgc hg3
 have hg2':=hg2
 have ht2':=ht2
 unfold maxLen at hg2' ht2'
 go_region_with (go_at_call 91;(with_reducible refine (Aeh _ _ _ _).mono ?_);rintro r w5 ⟨rfl,hb5⟩;have hb5':Below wd.heap.size wd w5:=⟨hb5.os,hb5.tape,hb5.output,hb5.size,hb5.block⟩;have x5:w5.cell? ⟨g,kn,none⟩=_:=(hb5'.cell (p:=⟨g,kn,none⟩) hgd).trans xg;have y1:w5.cell? ⟨w3.heap.size,0,none⟩=_:=(hb5'.cell (p:=⟨w3.heap.size,0,none⟩) hsd).trans x1;have f5:w5.frozen? ⟨g,kn,none⟩=false:=Aw ((hb5'.block _ hgd).trans hgw))
 all_goals
  have L0:(w5.setCell ⟨g,kn,none⟩ (.int .i64 (DS ty.Bits ty.Signed v))).heap[w3.heap.size]?=_:=(Below.heap_setCell _ _ _ _ hsg).trans ((hb5'.block _ hsd).trans K2)
  have L1:(w5.setCell ⟨g,kn,none⟩ (.int .i64 (DS ty.Bits ty.Signed v))).heap[w.heap.size+1]?=_:=(Below.heap_setCell _ _ _ _ hrg).trans ((hb5'.block _ hrd).trans K1)
  have HV:Hid (D1 (w5.setCell ⟨g,kn,none⟩ (.int .i64 (DS ty.Bits ty.Signed v))) w2.heap.size { e.S with Globals:=e.S.Globals.set kn (DS ty.Bits ty.Signed v) } #[.slice (some ⟨g,0,none⟩) e.S.Globals.length gcap,.slice ac e.S.Chans.length ccap,.slice ap e.S.Procs.length pcap,.int .i64 e.S.Last,.int .i64 e.S.Alone,.int .i64 e.S.Claim]) :=
   Abu hcp (fun k h0 h1=>(hb5'.block k (by omega)).trans (KB.block k h1)) _
  have HB:Below w.heap.size w (w5.setCell ⟨g,kn,none⟩ (.int .i64 (DS ty.Bits ty.Signed v))):=(BD.trans (hb5'.mono (by omega))).setCell (p:=⟨g,kn,none⟩) hng _
  obtain ⟨t0,t1,t2,t3,t4,t5,-⟩:=Mn L0
  obtain ⟨d0,d1,d2,d3,d4,d5,g0,g1,g2,g3,g4,g5⟩:=Mn L1
  clear x5 y1 f5 hb5 hb5'
  generalize w5.setCell ⟨g,kn,none⟩ (.int .i64 (DS ty.Bits ty.Signed v))=w6 at *
  go_wp2
  have hres:=Mc L1 (.slice (some ⟨g,0,none⟩) e.S.Globals.length gcap) (.slice ac e.S.Chans.length ccap) (.slice ap e.S.Procs.length pcap) (.int .i64 e.S.Last) (.int .i64 e.S.Alone) (.int .i64 e.S.Claim)
  have hT:=GY (w:=w6) (b:=w.heap.size+1) (.slice (some ⟨g,0,none⟩) e.S.Globals.length gcap) (.slice ac e.S.Chans.length ccap) (.slice ap e.S.Procs.length pcap) (.int .i64 e.S.Last) (.int .i64 e.S.Alone) (.int .i64 e.S.Claim)
  refine Dx rfl rfl hres Tryz.underlying33 rfl (by kernel_rfl) rfl ?_
  exact ZF HQ HTY HV HB hT hrw
end Go.Proofs.YtiaebjpcgjkhoaaGreatDoor
namespace Go.Proofs.YtiaebjpcgjkhoaaGreatDoor
open Go.RowKit
theorem I9 {w:World} {g i b o:Nat} {u:Value} (h:b≠g):(w.setCell ⟨g,i,none⟩ u).cell? ⟨b,o,none⟩=w.cell? ⟨b,o,none⟩:=World.cell?_of_block (Below.heap_setCell _ _ _ _ h)
theorem VX {w w2 w6 w7:World} {e:D.Env} {x v:Int} {i kn:Nat} {p:D.Process} {ty:D.Type} {vs:Array Value} (HQ:Hid (AV e x v=(setO e.M e.S i kn v,0))) (HP:Hid (e.S.Procs.getD i default=p)) (HTY:Hid ((AK e.M p.Type_).Frame.getD kn default=ty))
  (HV:Hid (D1 w6 w2.heap.size { e.S with Procs:=e.S.Procs.set i { e.S.Procs.getD i default with Frame:=(e.S.Procs.getD i default).Frame.set kn (DS ty.Bits ty.Signed v) } } vs)) (HB:Below w.heap.size w w6)
  (hT:BI w6 w7 (fun k=>k=w.heap.size+1)) (hr:w.heap.size+1<w2.heap.size):KW w e x v (.returned (.tuple #[.agg vs,.int .i64 0])) w7:=by
 refine ⟨vs,by rw [HQ.out],?_,HB.trans (hT.below HB.size fun j hj=>by have hj:j=w.heap.size+1:=hj;omega)⟩
 rw [HQ.out]
 have e1:setO e.M e.S i kn v={ e.S with Procs:=e.S.Procs.set i { e.S.Procs.getD i default with Frame:=(e.S.Procs.getD i default).Frame.set kn (DS ty.Bits ty.Signed v) } }:=by
  unfold setO Acz H7
  rw [show ((kn:Nat):Int).toNat=kn by omega,show ((i:Nat):Int).toNat=i by omega,HP.out,HTY.out]
 rw [e1]
 exact (D1.aside (b:=w.heap.size+1) (B:=w2.heap.size) HV.out hr hT).base (by omega)
set_option maxRecDepth 100000 in
set_option maxHeartbeats 8000000 in
theorem ZE {w:World} {e:D.Env} {x v who k:Int} {c0 c1 c2 c3 c4 c6 c7 c8 c9 c15:Value} (hw:Ay e.M) (hs:A4 e.S) (hL:Cq w) (hB:∀ k,k∈Fy->k<w.heap.size)
  (hV:V w P0 none (.agg (Af e)) (.agg (KH e c0 c1 c2 c3 c4 c6 c7 c8 c9 c15))) (hat:PN w e c0 c1 c2 c3 c4 c6 c7 c8 c9 c15) (hgood:CA e x=0) (hsl:BH e (EO e) (Ar e.M x)=(who,k,0)) (hwho:0<=who) :
  Calls Tryz.prog 63 #[.agg (KH e c0 c1 c2 c3 c4 c6 c7 c8 c9 c15),.int .i64 x,.int .i64 v] w (KW w e x v):=by
 have HQ0:Hid (AV e x v=(setO e.M e.S who k v,0)):=by
  unfold Hid AV Nl
  rw [decide_eq_false (by omega),cond_false,hsl]
  show (bif decide ((0:Int)≠0) then _ else _)=_
  rw [decide_eq_false (by simp),cond_false,decide_eq_false (by omega),cond_false]
 have HC:=Lib.hid (DT hw hs x)
 have HS:=Lib.hid (OM hw hgood)
 obtain ⟨hE,hx0,hx1⟩:=H8 hw hgood
 have hin:=(JD hE hx0 hx1 (ev:=EO e) (by rw [hsl])).own (by rw [hsl];exact hwho)
 have hfit:=hE.fit
 rw [hsl] at hin HS
 obtain ⟨i,rfl⟩:∃ i:Nat,who=i:=⟨who.toNat,by omega⟩
 change (i:Int)<e.S.Procs.length/\0<=k/\k<(e.S.Procs.getD (i:Int).toNat default).Frame.length at hin
 rw [show ((i:Nat):Int).toNat=i by omega] at hin
 obtain ⟨kn,rfl⟩:∃ kn:Nat,k=kn:=⟨k.toNat,by omega⟩
 have hi:i<e.S.Procs.length:=by omega
 have HQ:=HQ0
 have hpf:=D4 (hE.proc (p:=e.S.Procs.getD i default) (Au hi))
 obtain ⟨p,hp⟩:∃ p,e.S.Procs.getD i default=p:=⟨_,rfl⟩
 rw [hp] at hin hpf
 have HP:=Lib.hid hp
 have hkn:kn<p.Frame.length:=by omega
 obtain ⟨tn,htn⟩:∃ tn:Nat,p.Type_=tn:=⟨p.Type_.toNat,by omega⟩
 have htm:tn<e.M.Procs.length:=by omega
 have hfl:=hpf.2.2.1
 have hpr:AK e.M p.Type_=e.M.Procs.getD tn default:=by unfold AK;rw [htn,show ((tn:Nat):Int).toNat=tn by omega]
 rw [hpr] at hfl
 obtain ⟨mb,moff,mcap,tb,toff,tcap,rfl,hm1,hm2,hmb,hmc,ht1,ht2,htb,htc⟩:∃ mb moff mcap tb toff tcap,c4=.slice (some ⟨mb,moff,none⟩) e.M.Procs.length mcap/\e.M.Procs.length<=mcap/\mcap<=maxLen/\mb<w.heap.size /\
   w.cell? ⟨mb,moff+tn*10+2,none⟩=some (.slice (some ⟨tb,toff,none⟩) p.Frame.length tcap)/\p.Frame.length<=tcap/\tcap<=maxLen/\tb<w.heap.size /\
   ∀ j,j<p.Frame.length->w.cell? ⟨tb,toff+j*2,none⟩=some (.int .i64 ((AK e.M p.Type_).Frame.getD j default).Bits)/\w.cell? ⟨tb,toff+j*2+1,none⟩=some (.bool ((AK e.M p.Type_).Frame.getD j default).Signed):=by
  obtain ⟨ao,cap,rfl,h1,h2,h3⟩:=hat.f
  obtain ⟨b,off,rfl,h4,h5⟩:=h3 (by omega)
  obtain ⟨u,h6,ao',cap',rfl,h7,h8,h9⟩:=h5 tn htm
  rw [← hfl] at h6 h7 h9
  obtain ⟨b',off',rfl,h10,h11⟩:=h9 (by omega)
  rw [hpr]
  exact ⟨b,off,cap,b',off',cap',rfl,h1,h2,h4,h6,h7,h8,h10,h11⟩
 obtain ⟨ty0,ty1⟩:=htc kn hkn
 obtain ⟨ty,hty⟩:∃ ty,(AK e.M p.Type_).Frame.getD kn default=ty:=⟨_,rfl⟩
 rw [hty] at ty0 ty1
 have HTY:=Lib.hid hty
 have hwi:((i:Int)<0)=False:=by simp
 clear htc hty hp hpr hfl hpf hin hsl hE HQ0 hwho
 unfold KH at hV ⊢
 rw [hgood] at HC
 go_enter Tryz.func63,Tryz.ntmps63
 obtain ⟨B0,B1,B2,BB⟩:=Hs w (.cells #[c0,c1,c2,c3,.slice (some ⟨mb,moff,none⟩) e.M.Procs.length mcap,.int .i64 e.M.Claim,c6,c7,c8,c9,.int .i64 e.S.Last,.int .i64 e.S.Alone,.int .i64 e.S.Claim,.int .i64 e.Pid,.bool e.Timeout,c15] Ae9 (0,0)) (.cells #[.slice none 0 0,.slice none 0 0,.slice none 0 0,.int .i64 0,.int .i64 0,.int .i64 0] BK (0,0))
 go_wp2_with (first
  | (go_at_call 51;refine (HC.out.at hL hB BB (OP (hV.keep BB) .sc)).mono ?_;rintro r w1 ⟨u,rfl,hb1,hu⟩;obtain rfl:=hu.sc_inv;have Z0:=(hb1.block _ (by omega)).trans B0;have Z1:=(hb1.block _ (by omega)).trans B1;have BW:=BB.trans (hb1.mono (by omega)))
  | (go_at_call 80;refine (HS.out.at hL hB BW (OP (Xw Z0 (hV.keep BW)) .sc)).mono ?_;rintro r w2 ⟨u,rfl,hb2,hu⟩;obtain rfl:=Ot hu;have Y0:=(hb2.block _ (BQ Z0)).trans Z0;have Y1:=(hb2.block _ (BQ Z1)).trans Z1;have BX:=BW.trans (hb2.mono BW.size);have s7:w2.cell? ⟨w.heap.size,7,none⟩=some c7:=Ah Y0 rfl;have s8:w2.cell? ⟨w.heap.size,8,none⟩=some c8:=Ah Y0 rfl;have s9:w2.cell? ⟨w.heap.size,9,none⟩=some c9:=Ah Y0 rfl;have s10:w2.cell? ⟨w.heap.size,10,none⟩=some (.int .i64 e.S.Last):=Ah Y0 rfl;have s11:w2.cell? ⟨w.heap.size,11,none⟩=some (.int .i64 e.S.Alone):=Ah Y0 rfl;have s12:w2.cell? ⟨w.heap.size,12,none⟩=some (.int .i64 e.S.Claim):=Ah Y0 rfl)
  | (go_at_call 19;refine (Pq hfit (hat.below BX).g (hat.below BX).c (hat.below BX).p).mono ?_;rintro r w3 ⟨vg,vc,vp,n1,qs,fs,w4,rfl,hcp⟩;obtain ⟨ag,ggcap,rfl,_⟩:=CF hcp.g;obtain ⟨ac,ccap,rfl,_⟩:=CF hcp.c.row;obtain ⟨ap,pcap,rfl,hp1,hp2,hp3⟩:=CF hcp.p.row))
 have hz3:=hcp.below.size
 have hz2:=BX.size
 have hsz0:=BQ Y1
 obtain ⟨pb,rfl,hpbb,hpbl,hpc⟩:=hp3 (by omega)
 obtain ⟨q0,-,-,q3⟩:=Ig hcp.p.len hi
 have hfi:i<fs.length:=by rw [hcp.p.len];exact hi
 have hpi:e.S.Procs[i]?=some p:=by have:=HP.out;simp [List.getD,hi] at this;simp [hi,this]
 obtain ⟨ag2,gcap,hu,hg1,hg2,hg3⟩:=CF (hcp.p.each i (fs[i]) p (by simp [hfi]) hpi)
 obtain ⟨g,rfl,hgb,hgl,hgc⟩:=hg3 (by omega)
 have hfu:fs[i]?=some (.slice (some ⟨g,0,none⟩) p.Frame.length gcap):=by simp [hfi,hu]
 obtain ⟨gcur,hgk⟩:=AU (hcp.p.each i _ p hfu hpi) (k:=g) rfl
 have hn2:=hcp.n2
 have hn0:=hcp.n0
 rw [HP.out,htn] at q0
 rw [hfu] at q3
 have p0:w3.cell? ⟨pb,i*4,none⟩=some (.int .i64 tn):=(hpc (i*4) (by omega)).trans q0
 have p3:w3.cell? ⟨pb,i*4+3,none⟩=some (.slice (some ⟨g,0,none⟩) p.Frame.length gcap):=(hpc (i*4+3) (by omega)).trans q3
 have K0:=(Below.heap_alloc w3 (.cells #[.slice ag e.S.Globals.length ggcap,.slice ac e.S.Chans.length ccap,.slice (some ⟨pb,0,none⟩) e.S.Procs.length pcap,.int .i64 e.S.Last,.int .i64 e.S.Alone,.int .i64 e.S.Claim] BK (0,0)) _ (by omega)).trans ((hcp.below.block _ (BQ Y0)).trans Y0)
 have K1:=(Below.heap_alloc w3 (.cells #[.slice ag e.S.Globals.length ggcap,.slice ac e.S.Chans.length ccap,.slice (some ⟨pb,0,none⟩) e.S.Procs.length pcap,.int .i64 e.S.Last,.int .i64 e.S.Alone,.int .i64 e.S.Claim] BK (0,0)) _ (by omega)).trans ((hcp.below.block _ (BQ Y1)).trans Y1)
 have K2:=heap_alloc_new w3 (.cells #[.slice ag e.S.Globals.length ggcap,.slice ac e.S.Chans.length ccap,.slice (some ⟨pb,0,none⟩) e.S.Procs.length pcap,.int .i64 e.S.Last,.int .i64 e.S.Alone,.int .i64 e.S.Claim] BK (0,0))
 have KB:Below w3.heap.size w3 (w3.alloc (.cells #[.slice ag e.S.Globals.length ggcap,.slice ac e.S.Chans.length ccap,.slice (some ⟨pb,0,none⟩) e.S.Procs.length pcap,.int .i64 e.S.Last,.int .i64 e.S.Alone,.int .i64 e.S.Claim] BK (0,0))):=(Below.refl _ w3).alloc (Nat.le_refl _) _
 have KZ:(w3.alloc (.cells #[.slice ag e.S.Globals.length ggcap,.slice ac e.S.Chans.length ccap,.slice (some ⟨pb,0,none⟩) e.S.Procs.length pcap,.int .i64 e.S.Last,.int .i64 e.S.Alone,.int .i64 e.S.Claim] BK (0,0))).heap.size=w3.heap.size+1:=by simp
 generalize w3.alloc (.cells #[.slice ag e.S.Globals.length ggcap,.slice ac e.S.Chans.length ccap,.slice (some ⟨pb,0,none⟩) e.S.Procs.length pcap,.int .i64 e.S.Last,.int .i64 e.S.Alone,.int .i64 e.S.Claim] BK (0,0))=wd at *
 have BD:Below w.heap.size w wd:=(BX.trans (hcp.below.mono hz2)).trans (KB.mono (by omega))
 rw [← BD.cell (p:=⟨tb,toff+kn*2,none⟩) htb] at ty0
 rw [← BD.cell (p:=⟨tb,toff+kn*2+1,none⟩) htb] at ty1
 rw [← BD.cell (p:=⟨mb,moff+tn*10+2,none⟩) hmb] at hmc
 rw [← KB.cell (p:=⟨pb,i*4,none⟩) hpbl] at p0
 rw [← KB.cell (p:=⟨pb,i*4+3,none⟩) hpbl] at p3
 have x0:wd.cell? ⟨w.heap.size,4,none⟩=some (.slice (some ⟨mb,moff,none⟩) e.M.Procs.length mcap):=Ah K0 rfl
 have x1:wd.cell? ⟨w3.heap.size,2,none⟩=some (.slice (some ⟨pb,0,none⟩) e.S.Procs.length pcap):=Ah K2 rfl
 have hgw:wd.heap[g]?=some (.cells gcur DI (0,0)):=(KB.block _ hgl).trans hgk
 have xg:wd.cell? ⟨g,kn,none⟩=some (.int .i64 (p.Frame.getD kn 0)):=by
  rw [KB.cell (p:=⟨g,kn,none⟩) hgl,hgc kn (by omega)];simp [List.getD,hkn]
 have hgd:g<wd.heap.size:=by omega
 have hsd:w3.heap.size<wd.heap.size:=by omega
 have hpd:pb<wd.heap.size:=by omega
 have hsg:w3.heap.size≠(⟨g,kn,none⟩:Addr).block:=by simp;omega
 have hrg:w.heap.size+1≠(⟨g,kn,none⟩:Addr).block:=by simp;omega
 have hrd:w.heap.size+1<wd.heap.size:=by omega
 have hng:w.heap.size<=(⟨g,kn,none⟩:Addr).block:=by simp;omega
 have hrw:w.heap.size+1<w2.heap.size:=hsz0
 clear s7 s8 s9 s10 s11 s12 hgc hg3 hpc hp3 hu q0 q3
 have hg2':=hg2
 have ht2':=ht2
 have hm2':=hm2
 have hp2':=hp2
 unfold maxLen at hg2' ht2' hm2' hp2'
 obtain ⟨pcur,hpk⟩:=AU hcp.p.row (k:=pb) rfl
 have hpg:pb≠g:=DN hpk hgk (by decide)
 have hf1:w3.heap.size≠g:=by omega
 have hf2:w.heap.size≠g:=by omega
 have hf3:mb≠g:=by omega
 have hf4:tb≠g:=by omega
 have hbd0:w.heap.size<wd.heap.size:=by omega
 have htd:tb<wd.heap.size:=by omega
 have hmd:mb<wd.heap.size:=by omega
 have hkI:(0:Int)<=(kn:Int):=by omega
 have hiI:(0:Int)<=(i:Int):=by omega
 have htI:(0:Int)<=(tn:Int):=by omega
 have hkF:(kn:Int)<(p.Frame.length:Int):=by omega
 have hiF:(i:Int)<(e.S.Procs.length:Int):=by omega
 have htF:(tn:Int)<(e.M.Procs.length:Int):=by omega
 go_region_held3 (fun w'=>w'.cell? ⟨w3.heap.size,2,none⟩=some (.slice (some ⟨pb,0,none⟩) e.S.Procs.length pcap)/\w'.cell? ⟨pb,i*4+3,none⟩=some (.slice (some ⟨g,0,none⟩) p.Frame.length gcap)/\w'.cell? ⟨w.heap.size,4,none⟩=some (.slice (some ⟨mb,moff,none⟩) e.M.Procs.length mcap)/\w'.cell? ⟨pb,i*4,none⟩=some (.int .i64 tn)/\w'.cell? ⟨mb,moff+tn*10+2,none⟩=some (.slice (some ⟨tb,toff,none⟩) p.Frame.length tcap)/\w'.cell? ⟨tb,toff+kn*2,none⟩=some (.int .i64 ty.Bits)/\w'.cell? ⟨tb,toff+kn*2+1,none⟩=some (.bool ty.Signed)) (first | (refine ⟨?_,?_,?_,?_,?_,?_,?_⟩<;>(first | (rw [I9 hf1];assumption) | (rw [I9 hpg];assumption) | (rw [I9 hf2];assumption) | (rw [I9 hf3];assumption) | (rw [I9 hf4];assumption))) | go_keep)
  ((go_at_call 91;go_loud ((with_reducible refine (Aeh _ _ _ _).mono ?_);rintro r w5 ⟨rfl,hb5⟩;have hb5':Below wd.heap.size wd w5:=⟨hb5.os,hb5.tape,hb5.output,hb5.size,hb5.block⟩;have x5:w5.cell? ⟨g,kn,none⟩=_:=(hb5'.cell (p:=⟨g,kn,none⟩) hgd).trans xg;have y1:w5.cell? ⟨w3.heap.size,2,none⟩=_:=(hb5'.cell (p:=⟨w3.heap.size,2,none⟩) hsd).trans x1;have y2:w5.cell? ⟨pb,i*4+3,none⟩=_:=(hb5'.cell (p:=⟨pb,i*4+3,none⟩) hpd).trans p3;have y3:w5.cell? ⟨w.heap.size,4,none⟩=_:=(hb5'.cell (p:=⟨w.heap.size,4,none⟩) hbd0).trans x0;have y4:w5.cell? ⟨pb,i*4,none⟩=_:=(hb5'.cell (p:=⟨pb,i*4,none⟩) hpd).trans p0;have y5:w5.cell? ⟨mb,moff+tn*10+2,none⟩=_:=(hb5'.cell (p:=⟨mb,moff+tn*10+2,none⟩) hmd).trans hmc;have y6:w5.cell? ⟨tb,toff+kn*2,none⟩=_:=(hb5'.cell (p:=⟨tb,toff+kn*2,none⟩) htd).trans ty0;have y7:w5.cell? ⟨tb,toff+kn*2+1,none⟩=_:=(hb5'.cell (p:=⟨tb,toff+kn*2+1,none⟩) htd).trans ty1;have f5:w5.frozen? ⟨g,kn,none⟩=false:=Aw ((hb5'.block _ hgd).trans hgw))))
 all_goals
  have L0:(w5.setCell ⟨g,kn,none⟩ (.int .i64 (DS ty.Bits ty.Signed v))).heap[w3.heap.size]?=_:=(Below.heap_setCell _ _ _ _ hsg).trans ((hb5'.block _ hsd).trans K2)
  have L1:(w5.setCell ⟨g,kn,none⟩ (.int .i64 (DS ty.Bits ty.Signed v))).heap[w.heap.size+1]?=_:=(Below.heap_setCell _ _ _ _ hrg).trans ((hb5'.block _ hrd).trans K1)
  have HV:Hid (D1 (w5.setCell ⟨g,kn,none⟩ (.int .i64 (DS ty.Bits ty.Signed v))) w2.heap.size { e.S with Procs:=e.S.Procs.set i { e.S.Procs.getD i default with Frame:=(e.S.Procs.getD i default).Frame.set kn (DS ty.Bits ty.Signed v) } } #[.slice ag e.S.Globals.length ggcap,.slice ac e.S.Chans.length ccap,.slice (some ⟨pb,0,none⟩) e.S.Procs.length pcap,.int .i64 e.S.Last,.int .i64 e.S.Alone,.int .i64 e.S.Claim]) :=
   Abt hcp hi (by rw [HP.out];exact hfu) (fun k h0 h1=>(hb5'.block k (by omega)).trans (KB.block k h1)) _
  have HB:Below w.heap.size w (w5.setCell ⟨g,kn,none⟩ (.int .i64 (DS ty.Bits ty.Signed v))):=(BD.trans (hb5'.mono (by omega))).setCell (p:=⟨g,kn,none⟩) hng _
  obtain ⟨t0,t1,t2,t3,t4,t5,-⟩:=Mn L0
  obtain ⟨d0,d1,d2,d3,d4,d5,g0,g1,g2,g3,g4,g5⟩:=Mn L1
  clear x5 y1 y2 y3 y4 y5 y6 y7 f5 hb5 hb5'
  generalize w5.setCell ⟨g,kn,none⟩ (.int .i64 (DS ty.Bits ty.Signed v))=w6 at *
  go_wp2
  have hres:=Mc L1 (.slice ag e.S.Globals.length ggcap) (.slice ac e.S.Chans.length ccap) (.slice (some ⟨pb,0,none⟩) e.S.Procs.length pcap) (.int .i64 e.S.Last) (.int .i64 e.S.Alone) (.int .i64 e.S.Claim)
  have hT:=GY (w:=w6) (b:=w.heap.size+1) (.slice ag e.S.Globals.length ggcap) (.slice ac e.S.Chans.length ccap) (.slice (some ⟨pb,0,none⟩) e.S.Procs.length pcap) (.int .i64 e.S.Last) (.int .i64 e.S.Alone) (.int .i64 e.S.Claim)
  refine Dx rfl rfl hres Tryz.underlying33 rfl (by kernel_rfl) rfl ?_
  exact VX HQ HP HTY HV HB hT hrw
end Go.Proofs.YtiaebjpcgjkhoaaGreatDoor
namespace Go.Proofs.YtiaebjpcgjkhoaaGreatDoor
open Go.RowKit
def Ox (y x:VV):Prop:=∀ (w:World) (E:AR) (v:Value),V w E none y v->∀ B,V w ⟨fun _=>False,B⟩ none x v
def Oy : List VV->List VV->Prop
 | [],[]=>True
 | y::ys,x::xs=>Ox y x/\Oy ys xs
 | _,_=>False
theorem Js : ∀ {ys xs:List VV},Oy ys xs->ys.length=xs.length
 | [],[],_=>rfl
 | y::ys,x::xs,h=>by simp [Js h.2]
 | [],_::_,h=>h.elim
 | _::_,[],h=>h.elim
theorem IG : ∀ {ys xs:List VV},Oy ys xs->∀ (j:Nat) x,xs[j]?=some x->∃ y,ys[j]?=some y/\Ox y x
 | y::ys,x::xs,h,0,z,hz=>by simp only [List.getElem?_cons_zero,Option.some.injEq] at hz;subst hz;exact ⟨y,rfl,h.1⟩
 | y::ys,x::xs,h,j+1,z,hz=>by simpa using IG h.2 j z (by simpa using hz)
 | [],_::_,h,_,_,_=>h.elim
 | _,[],_,_,_,hz=>by simp at hz
theorem XY {u:Value}:Ox (.sc u) (.sc u):=fun w E v h B=>by
 obtain rfl:=h.sc_inv
 exact .sc
theorem XX {b:Bool} {n s:Nat} {f f':Nat->List VV} (hr:∀ i,i<n->Oy (f i) (f' i)):Ox (.sl b n s f) (.sl true n s f'):=fun w E v h B=>by
 obtain ⟨a,cap,rfl,h1,h2,h3⟩:=V.sl_inv h
 refine V.sl_mk h1 h2 fun hp=>?_
 obtain ⟨g,off,rfl,hb,_,hl,u,hc,hv⟩:=h3 hp
 refine ⟨g,off,rfl,hb,fun h=>h,fun i hi=>by rw [← Js (hr i hi)];exact hl i hi,u,fun i j x hi hx=>?_,fun i j x hi hx=>?_⟩
 ·obtain ⟨y,hy,_⟩:=IG (hr i hi) j x hx
  exact hc i j y hi hy
 ·obtain ⟨y,hy,hle⟩:=IG (hr i hi) j x hx
  exact hle _ _ _ (hv i j y hi hy) _
theorem Tc {ys xs:List VV} (hr:Oy ys xs):Ox (.agg ys) (.agg xs):=fun w E v h B=>by
 obtain ⟨vs,rfl,h1,h2⟩:=h.agg_inv
 refine .agg (h1.trans (Js hr)) fun j x hx=>?_
 obtain ⟨y,hy,hle⟩:=IG hr j x hx
 exact hle _ _ _ (h2 j y hy) _
def SI (r:VV):Prop:=∀ (w:World) (E E':AR) (m m':Option Phi) (v:Value),V w E m r v->V w E' m' r v
theorem O4 {u:Value}:SI (.sc u):=fun w E E' m m' v h=>by
 obtain rfl:=h.sc_inv
 exact .sc
theorem Mr {xs:List VV} (h:∀ x∈xs,SI x):SI (.tup xs):=fun w E E' m m' v hv=>by
 cases hv with
 | tup h1 h2=>exact .tup h1 fun j x hx=>h x (List.mem_of_getElem? hx) _ _ _ _ _ _ (h2 j x hx)
theorem Ai.thaw {P:Program} {f:FuncId} {xs ys:List VV} {r:VV} (h:Ai P f [] xs [] r) (hr:SI r) (hle:Oy ys xs):Ai P f [] ys [] r:=by
 refine Ai.hand h.callable fun w E vs hA hL hB hb hs=>?_
 refine (h.start hL hB ⟨hs.1.trans (Js hle),fun j x hx=>?_⟩).mono ?_
 ·obtain ⟨y,hy,hl⟩:=IG hle j x hx
  exact hl _ _ _ (hs.2 j y hy) _
 ·rintro e w' ⟨v,rfl,hB',hv⟩
  exact ⟨v,rfl,hr _ _ _ _ _ _ hv,hB'⟩
end Go.Proofs.YtiaebjpcgjkhoaaGreatDoor
namespace Go.Proofs.YtiaebjpcgjkhoaaGreatDoor
open Go.RowKit
theorem ZH {w:World} {e:D.Env} {x v:Int} {c0 c1 c2 c3 c4 c6 c7 c8 c9 c15:Value} (hw:Ay e.M) (hs:A4 e.S) (hL:Cq w) (hB:∀ k,k∈Fy->k<w.heap.size)
  (hV:V w P0 none (.agg (Af e)) (.agg (KH e c0 c1 c2 c3 c4 c6 c7 c8 c9 c15))) (hat:PN w e c0 c1 c2 c3 c4 c6 c7 c8 c9 c15) :
  Calls Tryz.prog 63 #[.agg (KH e c0 c1 c2 c3 c4 c6 c7 c8 c9 c15),.int .i64 x,.int .i64 v] w (KW w e x v):=by
 by_cases h1:CA e x=0
 ·by_cases h2:(BH e (EO e) (Ar e.M x)).2.2=0
  ·have h3:BH e (EO e) (Ar e.M x)=((BH e (EO e) (Ar e.M x)).1,(BH e (EO e) (Ar e.M x)).2.1,0):=by rw [← h2]
   by_cases h4:(BH e (EO e) (Ar e.M x)).1<0
   ·exact VW hw hs hL hB hV hat h1 h3 h4
   ·exact ZE hw hs hL hB hV hat h1 h3 (by omega)
  ·exact VT hw hs hL hB hV h1 h2
 ·exact ZG hw hs hL hB hV h1
end Go.Proofs.YtiaebjpcgjkhoaaGreatDoor
namespace Go.Proofs.YtiaebjpcgjkhoaaGreatDoor
open Go.RowKit
def EG : Phi:=fun _=>none
theorem Ai.handN {P:Program} {f:FuncId} {xs:List VV} {r:VV} {obs:List Ob} (hc:Mg P f)
  (h:∀ (w:World) (E:AR) (vs:Array Value),(∀ k,E.fz k->k<w.heap.size)->Cq w->(∀ k,k∈Fy->k<w.heap.size)->(∀ k,E.br k->E.fz k)->Dj w E none xs vs ->
   Calls P f vs w fun e w'=>∃ v pls,e=.returned v/\DO w E EG 0 obs pls w'/\V w' (E.up (addP EG 0 pls)) (some (addP EG 0 pls)) r v):Ai P f [] xs obs r:=by
 refine ⟨hc,fun w E φ vs hz hH hφ hs=>?_⟩
 obtain rfl:φ=EG:=funext fun id=>Classical.byContradiction fun hn=>by have:=(hφ id).1 hn;simp at this
 have hnone:∀ id,EG id=none:=fun _=>rfl
 refine (h w E vs hz.lt hz.lib.at' hz.lib.lt hH.sub ⟨hs.1,fun j x hx=>?_⟩).mono ?_
 ·exact ((hs.2 j x hx).unmap hnone).less (fun k hk=>.inl hk) fun k hk=>.inl hk
 ·rintro e w' ⟨v,pls,rfl,hn,hv⟩
  have hidn:∀ i,i<obs.length->EG (0+i)=none:=fun _ _=>rfl
  refine ⟨v,addP EG 0 pls,rfl,hH.news hz.lt hn hidn (fun k hk=>absurd rfl hk) fun i o ho=>?_,Fr.of_ext (hn.ext hidn),fun id=>?_,hv⟩
  ·unfold BN
   rw [Nat.zero_add,List.getD_eq_getElem?_getD,ho];rfl
  ·rcases Nat.lt_or_ge id obs.length with h' | h'
   ·have hl:id<pls.length:=by rw [hn.len];exact h'
    have:=Dr (φ:=EG) (nx:=0) (pls:=pls) (i:=id) (List.getElem?_eq_getElem hl)
    rw [Nat.zero_add] at this
    rw [this];simp [h']
   ·rw [Di (.inr (by rw [hn.len];omega))]
    simp [EG];omega
theorem RV {w:World} {n0 sz n:Nat} {e:TypeId} {v:Value} {xs:List Value} (h:w.ownsRow n0 e sz v n xs) (hone:∀ u∈xs,u.oneCell'=true) :
  ∃ hd,hdV hd n v/\(∀ k cap,hd=some (k,cap)->v.ownBlock=some k/\n0<=k/\∃ cur,w.heap[k]?=some (.cells cur e (0,0))) /\
   ∀ (E:AR) (φ:Phi) (f:Nat->List VV),(∀ i,i<n->(f i).length=sz)->(∀ i j x,i<n->(f i)[j]?=some x->V w (E.up φ).hold none x (xs.getD (i*sz+j) undef))->J7 w E φ true n sz f hd:=by
 obtain ⟨hl,⟨rfl,rfl⟩ | ⟨g,cap,cur,rfl,hg,hb,h1,h2,h3,h4⟩⟩:=h
 ·exact ⟨none,⟨rfl,rfl⟩,(fun k cap h=>by cases h),fun _ _ _ _ _=>rfl⟩
 ·have hle:n*sz<=cur.size:=by rw [h3];exact Nat.mul_le_mul_right _ h1
  have cell:∀ k,k<n*sz->cur.getD k undef=xs.getD k undef:=fun k hk=>by
   have hk2:k<cur.size:=by omega
   rw [← h4]
   simp [List.getD,Array.getD,hk2,hk]
  refine ⟨some (g,cap),⟨rfl,h1⟩,fun k c hk=>?_,fun E φ f hlen hv=>⟨cur,e,hb,h3,h1,h2,hlen,fun i j x hi hx=>?_,fun k hk=>?_⟩⟩
  ·simp only [Option.some.injEq,Prod.mk.injEq] at hk
   obtain ⟨rfl,rfl⟩:=hk
   exact ⟨rfl,hg,cur,hb⟩
  ·have hj:j<sz:=by rw [← hlen i hi];exact (List.getElem?_eq_some_iff.1 hx).1
   have hk:i*sz+j<n*sz:=by
    have:(i+1)*sz<=n*sz:=Nat.mul_le_mul_right _ hi
    rw [Nat.succ_mul] at this;omega
   show V w (E.up φ).hold none x _
   rw [cell _ hk]
   exact hv i j x hi hx
  ·rw [cell k hk]
   refine hone _ ?_
   have:k<xs.length:=by rw [hl];exact hk
   simp [List.getD,this]
end Go.Proofs.YtiaebjpcgjkhoaaGreatDoor
namespace Go.Proofs.YtiaebjpcgjkhoaaGreatDoor
open Go.RowKit
structure Pn where
 pid:Int
 esc:Int
 way:Int
deriving DecidableEq
instance : Inhabited Pn:=⟨⟨0,0,0⟩⟩
structure Ab where
 is:Bool
 err:Int
 wth:List Pn
instance : Inhabited Ab:=⟨⟨false,0,[]⟩⟩
structure Wy where
 Esc:Int
 Way:Int
 With:Int
 WithEsc:Int
 WithWay:Int
 Err:Int
deriving DecidableEq
instance : Inhabited Wy:=⟨⟨0,0,0,0,0,0⟩⟩
section
variable (e : D.Env)
def Ee : Int:=bif decide (CY e.M e.S≠0) then CY e.M e.S else bif decide (e.Pid<0)||decide ((e.S.Procs.length:Int)<=e.Pid) then 42 else 0
def DF : D.Proc:=AK e.M (Dp e e.Pid).Type_
def Ct : D.Loc:=(DF e).Locs.getD (Dp e e.Pid).Loc.toNat default
def DE (x:Int):Bool:=decide (0<=x)&&decide ((Ar e.M x).Op=39)
def UM : Nat->List (List D.Trans)->List (Int × List D.Trans)
 | _,[]=>[]
 | k,w::r=>((k:Int),w)::UM (k+1) r
def ET (l:D.Loc):List (Int × List D.Trans):=UM 0 l.Esc++[(-1,l.Out)]
def Iw (ev:Evl):List Int->List Int->List Int × Int
 | out,[]=>(out,0)
 | out,x::l=>bif decide ((ev x).2≠0) then ([],(ev x).2) else Iw ev (out++[(ev x).1]) l
def B8 (l:List Int):List Int × Int:=Iw (Ba e) [] l
def Nm (f:List D.Type) (l:List Int):List Int:=(List.range l.length).map fun i=>H7 (f.getD i default) (l.getD i 0)
def A8 (c:Int):List D.Type:=(BC e.M (Cl e c).Shape).Fields
def Ax (s:D.Stmt):Int × List Int × Int :=
 bif decide ((AC e s.A).2≠0) then (0,[],(AC e s.A).2)
 else bif decide ((A8 e (AC e s.A).1).length≠s.Args.length) then (0,[],49)
 else bif decide ((B8 e s.Args).2≠0) then (0,[],(B8 e s.Args).2)
 else ((AC e s.A).1,Nm (A8 e (AC e s.A).1) (B8 e s.Args).1,0)
def CP (s:D.Stmt):List Int × Int :=
 bif decide (Ei (Ba e) s.Args s.Match s.Args.length≠0) then ([],Ei (Ba e) s.Args s.Match s.Args.length) else (Mj (Ba e) s.Args s.Match,0)
def A6 (s:D.Stmt):Int × Int × Int :=
 bif decide ((AC e s.A).2≠0) then (0,-1,(AC e s.A).2)
 else bif decide ((A8 e (AC e s.A).1).length≠s.Args.length) then (0,-1,49)
 else bif decide ((CP e s).2≠0) then (0,-1,(CP e s).2)
 else ((AC e s.A).1,I4 (Cl e (AC e s.A).1) (CP e s).1 s.Match (decide (s.N.tmod 2=1)),0)
def F7 (s:D.Stmt) (c:Int) (m:List Int):Bool :=
 bif decide (s.Kind≠6)||(decide (1<s.N)||decide (s.Args.length≠m.length)) then false
 else bif decide ((AC e s.A).2≠0)||decide ((AC e s.A).1≠c) then false
 else bif decide ((CP e s).2≠0) then false else decide (I4 ⟨0,[m]⟩ (CP e s).1 s.Match false=0)
def M7 : Ab:=⟨decide (e.S.Procs.length<16),0,[]⟩
def HH (mt:Int->List Int->List Pn) (s:D.Stmt) (self:Bool):Ab :=
 bif decide ((AC e s.A).2≠0) then ⟨true,(AC e s.A).2,[]⟩
 else bif decide ((A8 e (AC e s.A).1).length≠s.Args.length) then ⟨true,49,[]⟩
 else bif decide (0<(BC e.M (Cl e (AC e s.A).1).Shape).Room) then ⟨decide (((Cl e (AC e s.A).1).Queue.length:Int)<(BC e.M (Cl e (AC e s.A).1).Shape).Room),0,[]⟩
 else bif self then ⟨false,0,[]⟩
 else bif decide ((Ax e s).2.2≠0) then ⟨true,(Ax e s).2.2,[]⟩
 else ⟨decide (0<(mt (AC e s.A).1 (Ax e s).2.1).length),0,mt (AC e s.A).1 (Ax e s).2.1⟩
def CX (mt:Int->List Int->List Pn) (s:D.Stmt) (self:Bool):Ab :=
 if s.Kind=1 then (bif DE e s.A then M7 e else ⟨decide ((Ba e s.A).1≠0)||decide ((Ba e s.A).2≠0),(Ba e s.A).2,[]⟩)
 else if s.Kind=2 then (bif DE e s.B then M7 e else ⟨true,0,[]⟩)
 else if s.Kind=9 then ⟨decide (e.S.Chans.length<32),0,[]⟩
 else if s.Kind=5 then HH e mt s self
 else if s.Kind=6 then ⟨decide (0<=(A6 e s).2.1)||decide ((A6 e s).2.2≠0),(A6 e s).2.2,[]⟩
 else if s.Kind=7 then ⟨false,0,[]⟩ else ⟨true,0,[]⟩
def E9 (mt:Int->List Int->List Pn) (ways:List D.Trans) (self:Bool):Nat->Bool
 | 0=>false
 | n+1=>E9 mt ways self n||(CX e mt (ways.getD n default).S self).is
def Fi (mt:Int->List Int->List Pn) (ways:List D.Trans) (self:Bool) (i:Nat):Ab :=
 let x:=CX e mt (ways.getD i default).S self
 bif decide ((ways.getD i default).S.Kind=7)&&!(E9 e mt ways self ways.length) then { x with is:=true } else x
def Cx (mt:Int->List Int->List Pn) (ways:List D.Trans) (self:Bool):List Ab:=(List.range ways.length).map (Fi e mt ways self)
def LS : Int->List Int->List Pn:=fun _ _=>[]
def isSome (l:List Ab):Bool:=l.any Ab.is
def CE (c:Int) (m:List Int) (i:Int):Nat->List D.Trans->List Pn
 | _,[]=>[]
 | k,t::r=>(bif F7 e t.S c m then [⟨e.Pid,i,k⟩] else [])++CE c m i (k+1) r
def G7 (c:Int) (m:List Int):List (Int × List D.Trans)->List Pn
 | []=>[]
 | (i,ws)::r=>bif decide (0<(CE e c m i 0 ws).length)||isSome (Cx e LS ws true) then CE e c m i 0 ws else G7 c m r
def Bf : Bool × Int:=bif decide ((DF e).Provided<0) then (true,0) else (decide ((Ba e (DF e).Provided).1≠0),(Ba e (DF e).Provided).2)
def Ge (c:Int) (m:List Int):List Pn:=bif !(Bf e).1||decide ((Bf e).2≠0) then [] else G7 e c m (ET (Ct e))
def CI (q:Int):D.Env:={ e with Pid:=q }
def DD (c:Int) (m:List Int):Nat->List Pn
 | 0=>[]
 | n+1=>DD c m n++bif decide ((n:Int)≠e.Pid) then Ge (CI e n) c m else []
def Bm (c:Int) (m:List Int):List Pn:=DD e c m e.S.Procs.length
def Kc (err:Int):Wy:=⟨-1,-1,-1,-1,-1,err⟩
def IA (i:Int) (k:Nat) (err:Int) (p:Pn):Wy:=⟨i,k,p.pid,p.esc,p.way,err⟩
def F6 (i:Int) (k:Nat) (x:Ab):List Wy:=(bif x.is&&decide (x.wth.length=0) then [⟨i,k,-1,-1,-1,x.err⟩] else [])++x.wth.map (IA i k x.err)
def CT (i:Int):Nat->List Ab->List Wy
 | _,[]=>[]
 | k,x::r=>F6 i k x++CT i (k+1) r
def Fc : List (Int × List D.Trans)->List Wy
 | []=>[]
 | (i,ws)::r=>bif decide (0<(CT i 0 (Cx e (Bm e) ws false)).length) then CT i 0 (Cx e (Bm e) ws false) else Fc r
def A5 : List Wy :=
 bif decide ((Dp e e.Pid).Loc=(DF e).Final) then (bif decide (e.Pid=(e.S.Procs.length:Int) - 1) then [Kc 0] else [])
 else bif decide ((Bf e).2≠0) then [Kc (Bf e).2]
 else bif !(Bf e).1 then [] else Fc e (ET (Ct e))
def IB : List Wy × Int:=bif decide (Ee e≠0) then ([],Ee e) else (A5 e,0)
end
end Go.Proofs.YtiaebjpcgjkhoaaGreatDoor
namespace Go.Proofs.YtiaebjpcgjkhoaaGreatDoor
open Go.RowKit
def Adf : Value->Value->Bool
 | .int k a,.int l b=>decide (k=l)&&decide (a=b)
 | .bool a,.bool b=>a==b
 | .string a,.string b=>decide (a=b)
 | _,_=>false
theorem Ade {u v:Value} (h:Adf u v=true):u=v:=by
 unfold Adf at h
 split at h
 ·simp only [Bool.and_eq_true,decide_eq_true_eq] at h;rw [h.1,h.2]
 ·simp only [beq_iff_eq] at h;rw [h]
 ·simp only [decide_eq_true_eq] at h;rw [h]
 ·cases h
end Go.Proofs.YtiaebjpcgjkhoaaGreatDoor
namespace Go.Proofs.YtiaebjpcgjkhoaaGreatDoor
open Go.RowKit
section
variable {P : Program} {w:World} {E:AR} {φ:Phi} {hs hs' hs1:List Ob} {xs:List VV} {r:VV} {f:FuncId}
theorem Aft (hH:HRel E (BN hs) φ w) (hφ:∀ id,φ id≠none ↔ id<hs.length) (hz:∀ k,E.fz k->k<w.heap.size) (sz:Nat) (g:Nat->List VV) :
  HRel E (BN (hs++[.arr true 0 0 sz g])) (addP φ hs.length [Pl.arr 0 0 none]) w/\Ext w φ w (addP φ hs.length [Pl.arr 0 0 none]) /\
   (∀ id,addP φ hs.length [Pl.arr 0 0 none] id≠none ↔ id<(hs++[Ob.arr true 0 0 sz g]).length)/\addP φ hs.length [Pl.arr 0 0 none] hs.length=some (.arr 0 0 none):=by
 have hnone:φ hs.length=none:=Classical.byContradiction fun hn=>by have:=(hφ _).1 hn;omega
 have hroom:Room w [Pl.arr 0 0 none] w:=Room.one (Below.refl _ _) fun k hk=>by obtain ⟨_,e'⟩:=hk;cases e'
 have hidn:∀ i,i<[Ob.arr true 0 0 sz g].length->φ (hs.length+i)=none:=fun i hi=>by
  simp only [List.length_cons,List.length_nil,Nat.zero_add,Nat.lt_one_iff] at hi
  subst hi;exact hnone
 have hnews:DO w E φ hs.length [Ob.arr true 0 0 sz g] [Pl.arr 0 0 none] w:=DO.one hroom ⟨rfl,rfl,rfl⟩
 have hat:addP φ hs.length [Pl.arr 0 0 none] hs.length=some (.arr 0 0 none):=Dr (i:=0) rfl
 refine ⟨hH.news hz hnews hidn (fun k hk=>?_) fun i o ho=>?_,hnews.ext hidn,fun id=>?_,hat⟩
 ·have:=(hφ k).1 hk
  show BN (hs++_) k=BN hs k
  simp [BN,List.getElem?_append_left this]
 ·show BN (hs++_) (hs.length+i)=o
  unfold BN
  rw [List.getD_eq_getElem?_getD,List.getElem?_append_right (by omega),show hs.length+i - hs.length=i by omega,ho]
  rfl
 ·simp only [List.length_append,List.length_cons,List.length_nil]
  by_cases he:id=hs.length
  ·subst he;rw [hat];simp
  ·rw [Di (by simp;omega)]
   rw [hφ id];omega
theorem Ai.conv {r2:VV} {hs2:List Ob} (h:Ai P f hs xs hs1 r)
  (hc:∀ (w:World) (E:AR) (φ:Phi) (v:Value),HRel E (BN hs1) φ w->(∀ id,φ id≠none ↔ id<hs1.length)->(∀ k,E.fz k->k<w.heap.size)->V w (E.up φ) (some φ) r v ->
   ∃ φ',HRel E (BN hs2) φ' w/\Ext w φ w φ'/\(∀ id,φ' id≠none ↔ id<hs2.length)/\V w (E.up φ') (some φ') r2 v):Ai P f hs xs hs2 r2:=by
 refine ⟨h.callable,fun w E φ vs hz hH hφ hs0=>(h.call w E φ vs hz hH hφ hs0).mono ?_⟩
 rintro e w' ⟨v,φ',rfl,h1,h2,h3,h4⟩
 obtain ⟨φ2,k1,k2,k3,k4⟩:=hc w' E φ' v h1 h3 (fun k hk=>Nat.lt_of_lt_of_le (hz.lt k hk) h2.size) h4
 exact ⟨v,φ2,rfl,k1,h2.trans (Fr.of_ext k2),k3,k4⟩
theorem Ai.ownR {ys:List VV} (h:Ai P f hs xs hs1 (.tup ys)) (j:Nat) (hj:ys[j]?=some .nl) (sz:Nat) (g:Nat->List VV):Ai P f hs xs (hs1++[.arr true 0 0 sz g]) (.tup (ys.set j (.ow hs1.length 0 0))):=by
 refine h.conv fun w E φ v hH hφ hz hv=>?_
 obtain ⟨h1,h2,h3,h4⟩:=Aft hH hφ hz sz g
 refine ⟨_,h1,h2,h3,?_⟩
 cases hv with
 | tup k1 k2 =>
  refine .tup (by simp [k1]) fun i x hx=>?_
  rw [List.getElem?_set] at hx
  split at hx
  ·rename_i hij
   subst hij
   split at hx
   ·simp only [Option.some.injEq] at hx
    subst hx
    rw [(k2 j _ hj).nl_inv]
    exact .ow h4 (Nat.le_refl _) (hd0:=none) ⟨rfl,rfl⟩ fun _=>⟨rfl,Nat.le_refl _⟩
   ·cases hx
  ·exact (k2 i x hx).ext h2
theorem Fr.less {b b':Nat} {w w':World} {φ φ':Phi} (h:Fr b w φ w' φ') (hb:b'<=b):Fr b' w φ w' φ' :=
 ⟨h.os,h.tape,h.output,h.size,h.block,h.new,fun id p hi e=>h.kind id p (Nat.lt_of_lt_of_le hi hb) e⟩
theorem Ai.ownB {i j:Nat} {cs:List VV} (hi:hs[i]?=some (.box cs)) (hj:cs[j]?=some .nl) (sz:Nat) (g:Nat->List VV)
  (h:Ai P f (hs.set i (.box (cs.set j (.ow hs.length 0 0)))++[.arr true 0 0 sz g]) xs hs' r):Ai P f hs xs hs' r:=by
 refine ⟨h.callable,fun w E φ vs hz hH hφ hs0=>?_⟩
 obtain ⟨h1,h2,h3,h4⟩:=Aft hH hφ hz.lt sz g
 have hil:i<hs.length:=(List.getElem?_eq_some_iff.1 hi).1
 refine (h.call w E _ vs (hz.ext h2) ⟨h1.sub,fun id p e=>?_,h1.inj,h1.free⟩ (fun id=>by rw [h3 id];simp) ⟨hs0.1,fun k x hx=>(hs0.2 k x hx).ext h2⟩).mono ?_
 ·have hob:=h1.ob id p e
  show ObV w E _ (BN (hs.set i _++_) id) p
  by_cases he:id=i
  ·subst he
   have e1:BN (hs++[Ob.arr true 0 0 sz g]) id=.box cs:=by simp [BN,List.getElem?_append_left hil,hi]
   have e2:BN (hs.set id (.box (cs.set j (.ow hs.length 0 0)))++[Ob.arr true 0 0 sz g]) id=.box (cs.set j (.ow hs.length 0 0)):=by
    simp [BN,List.getElem?_append_left,hil]
   rw [e1] at hob
   rw [e2]
   cases p with
   | arr=>exact hob.elim
   | box b =>
    obtain ⟨c,ty,k1,k2⟩:=hob
    refine ⟨c,ty,k1,by simp [k2.1],fun k x hx=>?_⟩
    rw [List.getElem?_set] at hx
    split at hx
    ·rename_i hjk
     subst hjk
     split at hx
     ·simp only [Option.some.injEq] at hx
      subst hx
      rw [(k2.2 j _ hj).nl_inv]
      exact .ow h4 (Nat.le_refl _) (hd0:=none) ⟨rfl,rfl⟩ fun _=>⟨rfl,Nat.le_refl _⟩
     ·cases hx
    ·exact k2.2 k x hx
  ·have e1:BN (hs.set i (.box (cs.set j (.ow hs.length 0 0)))++[Ob.arr true 0 0 sz g]) id=BN (hs++[Ob.arr true 0 0 sz g]) id:=by
    rcases Nat.lt_or_ge id hs.length with h' | h'
    ·simp [BN,List.getElem?_append_left,h',List.getElem_set_ne (Ne.symm he)]
    ·simp [BN,List.getElem?_append_right,h']
   rw [e1];exact hob
 ·rintro e w' ⟨v,φ',rfl,k1,k2,k3,k4⟩
  refine ⟨v,φ',rfl,k1,(Fr.of_ext h2).trans (k2.less (by simp)),k3,k4⟩
end
end Go.Proofs.YtiaebjpcgjkhoaaGreatDoor
namespace Go.Proofs.YtiaebjpcgjkhoaaGreatDoor
open Go.RowKit
def KI (x:Pn):List VV:=[Aa x.pid,Aa x.esc,Aa x.way]
def Eo (l:List Pn):Nat->List VV:=fun i=>KI (l.getD i default)
def Cr (fz:Bool) (l:List Pn):VV:=.sl fz l.length 3 fun i=>KI (l.getD i default)
def Bq (x:Ab):List VV:=[Ac x.is,Aa x.err,Cr true x.wth]
def Fu (l:List Ab):Nat->List VV:=fun i=>Bq (l.getD i default)
def BZ (fz:Bool) (l:List Ab):VV:=.sl fz l.length 3 fun i=>Bq (l.getD i default)
def Bu (x:Wy):List VV:=[Aa x.Esc,Aa x.Way,Aa x.With,Aa x.WithEsc,Aa x.WithWay,Aa x.Err]
def HU (l:List Wy):Nat->List VV:=fun i=>Bu (l.getD i default)
def BF (fz:Bool) (l:List Wy):VV:=.sl fz l.length 6 fun i=>Bu (l.getD i default)
def Bk (x:D.Env):List VV:=[AE true x.M.Globals,Ad true x.M.Init,Cj true x.M.Shapes,Ad true x.M.Chans,Cw true x.M.Procs,Aa x.M.Claim,CO true x.M.Exprs,Ad true x.S.Globals,Bg false x.S.Chans,AW false x.S.Procs,Aa x.S.Last,Aa x.S.Alone,Aa x.S.Claim,Aa x.Pid,Ac x.Timeout,BG true x.Able]
def Ag2 : Shp:={ α:=List Pn,enc:=fun y=>([],Cr true y) }
def Ag7 : Shp:={ α:=Ab,enc:=fun y=>([],.agg (Bq y)) }
def Af2 : Shp:={ α:=List Ab,enc:=fun y=>([],BZ true y) }
def AgW : Shp:={ α:=Wy,enc:=fun y=>([],.agg (Bu y)) }
def AfU : Shp:={ α:=List Wy,enc:=fun y=>([],BF true y) }
def AfX : Shp:={ α:=D.Loc,enc:=fun y=>([],.agg (A9 y)) }
def Aer : Shp:={ α:=D.Proc,enc:=fun y=>([],.agg (AZ y)) }
def Acp : Shp:={ α:=D.Trans,enc:=fun y=>([],.agg (CN y)) }
def Ag6 : Shp:={ α:=Bool × Int,enc:=fun y=>([],.tup [Ac y.1,Aa y.2]) }
def Acs : Shp:={ α:=Int × List Int × Int,enc:=fun y=>([],.tup [Aa y.1,Ad true y.2.1,Aa y.2.2]) }
def Ag3 : Shp:={ α:=List Int × Int,enc:=fun y=>([],.tup [Ad true y.1,Aa y.2]) }
def AgX : Shp:={ α:=List Wy × Int,enc:=fun y=>([],.tup [BF true y.1,Aa y.2]) }
def Af1 : Shp:={ α:=List Int × Int,enc:=fun y=>([.arr true 0 y.1.length 1 (AG y.1)],.tup [.ow 0 0 y.1.length,Aa y.2]) }
def Cs (f:FuncId):Shp :=
 bif Nat.beq f 15||Nat.beq f 33||Nat.beq f 176 then ZR
 else bif Nat.beq f 21 then AfX
 else bif Nat.beq f 27 then Aer
 else bif Nat.beq f 20 then Acp
 else bif Nat.beq f 36||Nat.beq f 166||Nat.beq f 167||Nat.beq f 17||Nat.beq f 168 then Aev
 else bif Nat.beq f 40 then Af1
 else bif Nat.beq f 64 then Acs
 else bif Nat.beq f 99 then Ag3
 else bif Nat.beq f 67 then RO
 else bif Nat.beq f 145||Nat.beq f 115 then Ag2
 else bif Nat.beq f 29 then Ag6
 else bif Nat.beq f 77||Nat.beq f 49||Nat.beq f 78 then Ag7
 else bif Nat.beq f 32 then Af2
 else bif Nat.beq f 28 then AgW
 else bif Nat.beq f 16 then AfU
 else bif Nat.beq f 8 then AgX
 else CU f
def hsR (e:D.Env) (c:Int) (m:List Int) (out:List Pn):List Ob:=[.box (Af e),.box [Aa c],.box [Ad true m],.box [.ow 4 0 out.length],.arr true 0 out.length 3 (Eo out)]
def AgH : VV:=.fn (.func 165) [.bp 0 0,.bp 1 0,.bp 2 0,.bp 3 0]
def shR (e:D.Env) (c:Int) (m:List Int) (f:FuncId):Shp :=
 bif Nat.beq f 165 then { α:=List Pn × Bool,enc:=fun y=>(hsR e c m y.1,Ac y.2),lend:=true }
 else bif Nat.beq f 30 then { α:=List Pn,enc:=fun y=>(hsR e c m y,.tup []),lend:=true }
 else Cs f
def hsW (e:D.Env) (out:List Wy):List Ob:=[.box (Af e),.box [.ow 2 0 out.length],.arr true 0 out.length 6 (HU out)]
def AgG : VV:=.fn (.func 31) [.bp 0 0,.bp 1 0]
def shW (e:D.Env) (f:FuncId):Shp :=
 bif Nat.beq f 31 then { α:=List Wy × Bool,enc:=fun y=>(hsW e y.1,Ac y.2),lend:=true }
 else bif Nat.beq f 30 then { α:=List Wy,enc:=fun y=>(hsW e y,.tup []),lend:=true }
 else Cs f
end Go.Proofs.YtiaebjpcgjkhoaaGreatDoor
namespace Go.Proofs.YtiaebjpcgjkhoaaGreatDoor
open Go.RowKit
def PC : Ann:={ keep:=fun
  | [0,1,0,1,1]=>[2,6,11,12,13]
  | _=>[] }
def PB : Ann:={ keep:=fun
  | [0,1,0,1,1,1,1,1,1,1]=>[7,9,10,53,54,55]
  | _=>[] }
def Ii : Ann:={ keep:=fun
  | [0,1,0,1,1]=>[2,3,6,16,17,18]
  | _=>[] }
def KO : Ann:={ keep:=fun
  | [0,1,0,1,1]=>[1,2,3,7,13,14]
  | _=>[] }
def Fk : Ann:={ cut:=(fun | [1,1,0,0,1,1,0,0,1,0,1,1,1]=>true | _=>false),keep:=fun
  | [0,1,0,1,1,1]=>[1,2,3,7,8,16,17,18]
  | [0,1,0,1,1,1,1]=>[7,8,40,41,42]
  | [1,1,0,0,1,1,0,0,1,0,1,1,1]=>[1,2,3,7,8,9,16,17,18]
  | _=>[] }
def MI : Ann:={ keep:=fun
  | [0,1,0,1]=>[0,1,7,8]
  | _=>[] }
def MH : Ann:={ keep:=fun
  | [0,1,0,1]=>[0,3,7,8]
  | _=>[] }
def Je : Ann:={ base:=5,keep:=fun
  | [0,1,0,1]=>[1,2,7,8,9]
  | _=>[] }
def Jd : Ann:={ base:=3,keep:=fun
  | [0,1,0,1]=>[1,2,7,8,9]
  | _=>[] }
def PA : Ann:={ base:=5,keep:=fun
  | [0,1,0,1]=>[0,1,2,3,4,5,11,12,13]
  | _=>[] }
def Gu : Ann:={ base:=3,keep:=fun
  | [0,1,0,1]=>[0,3,14,15,16]
  | [0,1,1,1,1,0,0,1,1,0,0,1,0,1]=>[0,3,9,14,15,16,39,40,41]
  | _=>[] }
def RC (e:D.Env) (l out:List Int) (k:Int):St:=AB [(2,.bp 0 0),(6,.ow 1 0 out.length),(11,Ad true l),(12,Aa l.length),(13,Aa k)] [.box (Bk e),.arr true 0 out.length 1 (AG out)]
def OG (c:Int) (f:List D.Type) (l:List Int) (k:Int):St:=AB [(7,Aa c),(9,AE true f),(10,.ow 0 0 l.length),(53,.ow 0 0 l.length),(54,Aa l.length),(55,Aa k)] [.arr true 0 l.length 1 (AG l)]
def OE (e:D.Env) (s:D.Stmt) (want:List Int) (k:Int):St:=AB [(2,.bp 0 0),(3,.bp 1 0),(6,.ow 2 0 want.length),(16,Ad true s.Args),(17,Aa s.Args.length),(18,Aa k)] [.box (Af e),.box (Ap s),.arr true 0 want.length 1 (AG want)]
def Lj (e:D.Env) (c:Int) (m:List Int) (out:List Pn) (k:Int):St:=AB [(1,Aa c),(2,Ad true m),(3,.bp 0 0),(7,.ow 1 0 out.length),(13,Aa e.S.Procs.length),(14,Aa k)] [.box (Af e),.arr true 0 out.length 3 (Eo out)]
def RB (e:D.Env) (ws:List D.Trans) (self:Bool) (n:Nat) (F:Nat->List VV) (some:Bool) (k:Int):St:=AB [(1,Av true ws),(2,Ac self),(3,.bp 0 0),(7,.ow 1 0 n),(8,Ac some),(16,Av true ws),(17,Aa ws.length),(18,Aa k)] [.box (Af e),.arr true 0 n 3 F]
def RA (e:D.Env) (ws:List D.Trans) (self:Bool) (l:List Ab) (some:Bool) (i k:Int):St:=AB [(1,Av true ws),(2,Ac self),(3,.bp 0 0),(7,.ow 1 0 l.length),(8,Ac some),(9,Aa i),(16,Av true ws),(17,Aa ws.length),(18,Aa k)] [.box (Af e),.arr true 0 l.length 3 (Fu l)]
def Lk (ws:List D.Trans) (l:List Ab) (some:Bool) (k:Int):St:=AB [(7,.ow 0 0 l.length),(8,Ac some),(40,Av true ws),(41,Aa ws.length),(42,Aa k)] [.arr true 0 l.length 3 (Fu l)]
def Nr (l:List Ab) (k:Int):St:=AB [(0,BZ true l),(1,.fn (.func 168) []),(7,Aa l.length),(8,Aa k)] []
def Nq (l:List Wy) (w:Wy) (k:Int):St:=AB [(0,BF true l),(3,.bp 0 0),(7,Aa l.length),(8,Aa k)] [.box (Bu w)]
def Ju (e:D.Env) (c:Int) (m:List Int) (out:List Pn) (l:D.Loc) (k:Int):St:=AB [(1,AgH),(2,.bp 5 0),(7,A0 true l.Esc),(8,Aa l.Esc.length),(9,Aa k)] (hsR e c m out++[.box (A9 l)])
def Jt (e:D.Env) (out:List Wy) (l:D.Loc) (k:Int):St:=AB [(1,AgG),(2,.bp 3 0),(7,A0 true l.Esc),(8,Aa l.Esc.length),(9,Aa k)] (hsW e out++[.box (A9 l)])
def OF (e:D.Env) (c:Int) (m:List Int) (out:List Pn) (i:Int) (ws:List D.Trans) (k:Int):St:=AB [(0,Aa i),(1,Av true ws),(2,.bp 0 0),(3,.bp 1 0),(4,.bp 2 0),(5,.bp 3 0),(11,Av true ws),(12,Aa ws.length),(13,Aa k)] (hsR e c m out)
def Hw (e:D.Env) (out:List Wy) (i:Int) (l:List Ab) (k:Int):St:=AB [(0,Aa i),(3,.bp 1 0),(14,BZ true l),(15,Aa l.length),(16,Aa k)] (hsW e out)
def Li (e:D.Env) (out:List Wy) (i:Int) (l:List Ab) (k:Int) (w:Wy) (ps:List Pn) (j:Int):St:=AB [(0,Aa i),(3,.bp 1 0),(9,.bp 3 0),(14,BZ true l),(15,Aa l.length),(16,Aa k),(39,Cr true ps),(40,Aa ps.length),(41,Aa j)] (hsW e out++[.box (Bu w)])
end Go.Proofs.YtiaebjpcgjkhoaaGreatDoor
namespace Go.Proofs.YtiaebjpcgjkhoaaGreatDoor
open Go.RowKit
set_option maxRecDepth 100000
theorem Aea (r:Int) (e:D.Env):(fc Cs Bl Tryz.f15 [] (Aa r)).goal (St.init [] [.agg (Af e)]) =
  (∃ (y:Int),VC 25 [VV.agg (Ae e.M),VV.agg (An e.S)] (Aa y)/\BB (y != 0) (LQ (Aa y) (Aa r)) (BB (bif decide (e.Pid<0) then true else decide (e.Pid>=(↑e.S.Procs.length:Int))) (LQ (Aa 42) (Aa r)) (LQ (Aa 0) (Aa r)))):=by kernel_rfl
theorem AbQ (l:D.Loc) (e:D.Env):(fc Cs Bl Tryz.f21 [] (.agg (A9 l))).goal (St.init [] [.agg (Af e)]) =
  (inX e.Pid e.S.Procs.length/\inX (e.S.Procs.getD e.Pid.toNat default).Type_ e.M.Procs.length/\inX (e.S.Procs.getD e.Pid.toNat default).Loc (e.M.Procs.getD (e.S.Procs.getD e.Pid.toNat default).Type_.toNat default).Locs.length/\LQ (VV.agg (A9 ((e.M.Procs.getD (e.S.Procs.getD e.Pid.toNat default).Type_.toNat default).Locs.getD (e.S.Procs.getD e.Pid.toNat default).Loc.toNat default))) (VV.agg (A9 l))):=by kernel_rfl
theorem YZ (p:D.Proc) (e:D.Env):(fc Cs Bl Tryz.f27 [] (.agg (AZ p))).goal (St.init [] [.agg (Af e)]) =
  (inX e.Pid e.S.Procs.length/\inX (e.S.Procs.getD e.Pid.toNat default).Type_ e.M.Procs.length/\LQ (VV.agg (AZ (e.M.Procs.getD (e.S.Procs.getD e.Pid.toNat default).Type_.toNat default))) (VV.agg (AZ p))):=by kernel_rfl
theorem YU (b:Bool) (m:D.Model) (x:Int):(fc Cs Bl Tryz.f36 [] (Ac b)).goal (St.init [] [.agg (Ae m),Aa x]) =
  (((true&&decide (x>=0)==true)=true->inX x m.Exprs.length)/\LQ (Ac (bif decide (x>=0) then (m.Exprs.getD x.toNat default).Op==39 else false)) (Ac b)):=by kernel_rfl
theorem AbS (hs':List Ob) (r:VV) (e:D.Env) (l:List Int):(BP Tryz.prog tb Cs PC false Tryz.f40 hs' (r)).goal (St.init [] [.agg (Bk e),Ad true l]) =
  (AA (BP Tryz.prog tb Cs PC false Tryz.f40 hs' r) [1,1,0,1,0] (AB [(2,VV.bp 0 0),(6,VV.nl),(11,Ad true l),(12,Aa (↑l.length:Int)),(13,Aa 0)] [Ob.box (Bk e)])):=by kernel_rfl
theorem AbP (r:Int × List Int × Int) (e:D.Env) (s:D.Stmt):(fc Cs PB Tryz.f64 [] (.tup [Aa r.1,Ad true r.2.1,Aa r.2.2])).goal (St.init [] [.agg (Bk e),.agg (Ap s)]) =
  (∃ (y:Int × Int),VC 92 [VV.agg (Bk e),Aa s.A] (vII y)/\BB (y.snd != 0) (LQ (VV.tup [Aa 0,VV.nl,Aa y.snd]) (VV.tup [Aa r.fst,Ad true r.snd.fst,Aa r.snd.snd])) (inX (IntKind.i64.wrap (y.fst - (1:Int))) e.S.Chans.length/\inX (e.S.Chans.getD (IntKind.i64.wrap (y.fst - (1:Int))).toNat default).Shape e.M.Shapes.length/\BB ((↑(e.M.Shapes.getD (e.S.Chans.getD (IntKind.i64.wrap (y.fst - (1:Int))).toNat default).Shape.toNat default).Fields.length:Int) != (↑s.Args.length:Int)) (LQ (VV.tup [Aa 0,VV.nl,Aa 49]) (VV.tup [Aa r.fst,Ad true r.snd.fst,Aa r.snd.snd])) (∃ (y_1:List Int × Int),Ai Tryz.prog 40 [] [VV.agg (Bk e),Ad true s.Args] [Ob.arr true 0 y_1.fst.length 1 (AG y_1.fst)] (VV.tup [VV.ow 0 0 y_1.fst.length,Aa y_1.snd])/\BB (y_1.snd != 0) (LQ (VV.tup [Aa 0,VV.nl,Aa y_1.snd]) (VV.tup [Aa r.fst,Ad true r.snd.fst,Aa r.snd.snd])) (AA (fc Cs PB Tryz.f64 [] (VV.tup [Aa r.fst,Ad true r.snd.fst,Aa r.snd.snd])) [1,1,1,1,1,1,1,0,1,0] (OG y.fst (e.M.Shapes.getD (e.S.Chans.getD (IntKind.i64.wrap (y.fst - (1:Int))).toNat default).Shape.toNat default).Fields y_1.fst (0:Int)))))):=by kernel_rfl
theorem Va (r:List Int × Int) (e:D.Env) (s:D.Stmt):(fc Cs Ii Tryz.f99 [] (.tup [Ad true r.1,Aa r.2])).goal (St.init [] [.agg (Af e),.agg (Ap s)]) =
  (((0:Int)<=(↑s.Args.length:Int)/\(↑s.Args.length:Int)<=(↑s.Args.length:Int)/\(↑s.Args.length:Int)*(↑8:Int)<=140737488355328)/\AA (fc Cs Ii Tryz.f99 [] (VV.tup [Ad true r.fst,Aa r.snd])) [1,1,0,1,0] (AB [(2,VV.bp 0 0),(3,VV.bp 1 0),(6,VV.ow 2 0 (↑s.Args.length:Int).toNat),(16,Ad true s.Args),(17,Aa (↑s.Args.length:Int)),(18,Aa 0)] [Ob.box (Af e),Ob.box (Ap s),Ob.arr true 0 (↑s.Args.length:Int).toNat 1 fun (_:Nat)=>((fc Cs Ii Tryz.f99 [] (VV.tup [Ad true r.fst,Aa r.snd])).T (2:TypeId)).zero])):=by kernel_rfl
theorem Vr (r:Int × Int × Int) (e:D.Env) (s:D.Stmt):(fc Cs Bl Tryz.f67 [] (.tup [Aa r.1,Aa r.2.1,Aa r.2.2])).goal (St.init [] [.agg (Af e),.agg (Ap s)]) =
  (∃ (y:Int × Int),VC 92 [VV.agg (Af e),Aa s.A] (vII y)/\BB (y.snd != 0) (LQ (VV.tup [Aa 0,Aa (-1),Aa y.snd]) (Lb r)) (inX (IntKind.i64.wrap (y.fst - (1:Int))) e.S.Chans.length/\inX (e.S.Chans.getD (IntKind.i64.wrap (y.fst - (1:Int))).toNat default).Shape e.M.Shapes.length/\BB ((↑(e.M.Shapes.getD (e.S.Chans.getD (IntKind.i64.wrap (y.fst - (1:Int))).toNat default).Shape.toNat default).Fields.length:Int) != (↑s.Args.length:Int)) (LQ (VV.tup [Aa 0,Aa (-1),Aa 49]) (Lb r)) (∃ (y_1:List Int × Int),VC 99 [VV.agg (Af e),VV.agg (Ap s)] (VV.tup [Ad true y_1.fst,Aa y_1.snd])/\BB (y_1.snd != 0) (LQ (VV.tup [Aa 0,Aa (-1),Aa y_1.snd]) (Lb r)) (inX (IntKind.i64.wrap (y.fst - (1:Int))) e.S.Chans.length/\(2:Int)≠(0:Int)/\∃ (y_2:Int),VC 100 [VV.agg (AF (e.S.Chans.getD (IntKind.i64.wrap (y.fst - (1:Int))).toNat default)),Ad true y_1.fst,Ad true s.Match,Ac (s.N.tmod (2:Int)==1)] (Aa y_2)/\LQ (VV.tup [Aa y.fst,Aa y_2,Aa 0]) (Lb r))))):=by kernel_rfl
theorem Vb (b:Bool) (e:D.Env) (s:D.Stmt) (c:Int) (m:List Int):(fc Cs Bl Tryz.f166 [] (Ac b)).goal (St.init [] [.agg (Af e),.agg (Ap s),Aa c,Ad true m]) =
  (BB (bif bif s.Kind != 6 then true else decide (s.N > 1) then true else (↑s.Args.length:Int) != (↑m.length:Int)) (LQ (Ac false) (Ac b)) (∃ (y:Int × Int),VC 92 [VV.agg (Af e),Aa s.A] (vII y)/\BB (bif y.snd != 0 then true else y.fst != c) (LQ (Ac false) (Ac b)) (∃ (y:List Int × Int),VC 99 [VV.agg (Af e),VV.agg (Ap s)] (VV.tup [Ad true y.fst,Aa y.snd])/\∃ (y_1:Int),((true&&(y.snd==0)==true)=true->VC 100 [VV.agg [Aa 0,VV.sl true 1 1 fun (i:Nat)=>List.take 1 (List.drop (i*1) [Ad true m])],Ad true y.fst,Ad true s.Match,Ac false] (Aa y_1))/\LQ (Ac (bif y.snd==0 then y_1==0 else false)) (Ac b)))):=by kernel_rfl
theorem Vj (r:List Pn) (e:D.Env) (c:Int) (m:List Int):(fc Cs KO Tryz.f115 [] (Cr true r)).goal (St.init [] [.agg (Af e),Aa c,Ad true m]) =
  (AA (fc Cs KO Tryz.f115 [] (Cr true r)) [1,1,0,1,0] (AB [(1,Aa c),(2,Ad true m),(3,VV.bp 0 0),(7,VV.nl),(13,Aa (↑e.S.Procs.length:Int)),(14,Aa 0)] [Ob.box (Af e)])):=by kernel_rfl
theorem YY (r:Bool × Int) (e:D.Env):(fc Cs Bl Tryz.f29 [] (.tup [Ac r.1,Aa r.2])).goal (St.init [] [.agg (Af e)]) =
  (∃ (y:D.Proc),VC 27 [VV.agg (Af e)] (VV.agg (AZ y))/\BB (decide (y.Provided<0)) (LQ (VV.tup [Ac true,Aa 0]) (VV.tup [Ac r.fst,Aa r.snd])) (∃ (y_1:Int × Int),VC 39 [VV.agg (Af e),Aa y.Provided] (vII y_1)/\LQ (VV.tup [Ac (y_1.fst != 0),Aa y_1.snd]) (VV.tup [Ac r.fst,Aa r.snd]))):=by kernel_rfl
theorem YV (r:Ab) (e:D.Env):(fc Cs Bl Tryz.f77 [] (.agg (Bq r))).goal (St.init [] [.agg (Af e)]) =
  (LQ (VV.agg [Ac (decide ((↑e.S.Procs.length:Int)<16)),Aa 0,VV.nl]) (VV.agg (Bq r))):=by kernel_rfl
theorem YR (r:Ab) (e:D.Env) (s:D.Stmt) (self:Bool):(fc Cs Bl Tryz.f49 [] (.agg (Bq r))).goal (St.init [] [.agg (Af e),.agg (Ap s),Ac self]) =
  (BB (s.Kind==1) (∃ (y:Bool),VC 36 [VV.agg (Ae e.M),Aa s.A] (Ac y)/\BB y (∃ (y:Ab),VC 77 [VV.agg (Af e)] (VV.agg (Bq y))/\LQ (VV.agg (Bq y)) (VV.agg (Bq r))) (∃ (y:Int × Int),VC 39 [VV.agg (Af e),Aa s.A] (vII y)/\LQ (VV.agg [Ac (bif y.fst != 0 then true else y.snd != 0),Aa y.snd,VV.nl]) (VV.agg (Bq r)))) (BB (s.Kind==2) (∃ (y:Bool),VC 36 [VV.agg (Ae e.M),Aa s.B] (Ac y)/\BB y (∃ (y:Ab),VC 77 [VV.agg (Af e)] (VV.agg (Bq y))/\LQ (VV.agg (Bq y)) (VV.agg (Bq r))) (LQ (VV.agg [Ac true,Aa 0,VV.nl]) (VV.agg (Bq r)))) (BB (s.Kind==9) (LQ (VV.agg [Ac (decide ((↑e.S.Chans.length:Int)<32)),Aa 0,VV.nl]) (VV.agg (Bq r))) (BB (s.Kind==5) (∃ (y:Ab),VC 78 [VV.agg (Af e),VV.agg (Ap s),Ac self] (VV.agg (Bq y))/\LQ (VV.agg (Bq y)) (VV.agg (Bq r))) (BB (s.Kind==6) (∃ (y:Int × Int × Int),VC 67 [VV.agg (Af e),VV.agg (Ap s)] (Lb y)/\LQ (VV.agg [Ac (bif decide (y.snd.fst>=0) then true else y.snd.snd != 0),Aa y.snd.snd,VV.nl]) (VV.agg (Bq r))) (BB (s.Kind==7) (LQ (VV.agg [Ac false,Aa 0,VV.nl]) (VV.agg (Bq r))) (LQ (VV.agg [Ac true,Aa 0,VV.nl]) (VV.agg (Bq r))))))))):=by kernel_rfl
theorem Vf (r:Ab) (e:D.Env) (s:D.Stmt) (self:Bool):(fc Cs Bl Tryz.f78 [] (.agg (Bq r))).goal (St.init [] [.agg (Af e),.agg (Ap s),Ac self]) =
  (∃ (y:Int × Int),VC 92 [VV.agg (Af e),Aa s.A] (vII y)/\BB (y.snd != 0) (LQ (VV.agg [Ac true,Aa y.snd,VV.nl]) (VV.agg (Bq r))) (inX (IntKind.i64.wrap (y.fst - (1:Int))) e.S.Chans.length/\inX (e.S.Chans.getD (IntKind.i64.wrap (y.fst - (1:Int))).toNat default).Shape e.M.Shapes.length/\BB ((↑(e.M.Shapes.getD (e.S.Chans.getD (IntKind.i64.wrap (y.fst - (1:Int))).toNat default).Shape.toNat default).Fields.length:Int) != (↑s.Args.length:Int)) (LQ (VV.agg [Ac true,Aa 49,VV.nl]) (VV.agg (Bq r))) (BB (decide ((e.M.Shapes.getD (e.S.Chans.getD (IntKind.i64.wrap (y.fst - (1:Int))).toNat default).Shape.toNat default).Room > 0)) (LQ (VV.agg [Ac (decide ((↑(e.S.Chans.getD (IntKind.i64.wrap (y.fst - (1:Int))).toNat default).Queue.length:Int)<(e.M.Shapes.getD (e.S.Chans.getD (IntKind.i64.wrap (y.fst - (1:Int))).toNat default).Shape.toNat default).Room)),Aa 0,VV.nl]) (VV.agg (Bq r))) (BB self (LQ (VV.agg [Ac false,Aa 0,VV.nl]) (VV.agg (Bq r))) (∃ (y_1:Int × List Int × Int),VC 64 [VV.agg (Af e),VV.agg (Ap s)] (VV.tup [Aa y_1.fst,Ad true y_1.snd.fst,Aa y_1.snd.snd])/\BB (y_1.snd.snd != 0) (LQ (VV.agg [Ac true,Aa y_1.snd.snd,VV.nl]) (VV.agg (Bq r))) (∃ (y_2:List Pn),VC 115 [VV.agg (Af e),Aa y.fst,Ad true y_1.snd.fst] (Cr true y_2)/\LQ (VV.agg [Ac (decide ((↑y_2.length:Int) > 0)),Aa 0,Cr true y_2]) (VV.agg (Bq r)))))))):=by kernel_rfl
theorem AbR (r:List Ab) (e:D.Env) (ws:List D.Trans) (self:Bool):(fc Cs Fk Tryz.f32 [] (BZ true r)).goal (St.init [] [.agg (Af e),Av true ws,Ac self]) =
  (((0:Int)<=(↑ws.length:Int)/\(↑ws.length:Int)<=(↑ws.length:Int)/\(↑ws.length:Int)*(↑40:Int)<=140737488355328)/\AA (fc Cs Fk Tryz.f32 [] (BZ true r)) [1,1,1,0,1,0] (AB [(1,Av true ws),(2,Ac self),(3,VV.bp 0 0),(7,VV.ow 1 0 (↑ws.length:Int).toNat),(8,Ac false),(16,Av true ws),(17,Aa (↑ws.length:Int)),(18,Aa 0)] [Ob.box (Af e),Ob.arr true 0 (↑ws.length:Int).toNat 3 fun (_:Nat)=>((fc Cs Fk Tryz.f32 [] (BZ true r)).T (95:TypeId)).zero])):=by kernel_rfl
theorem Y4 (r:Wy) (err:Int):(fc Cs Bl Tryz.f28 [] (.agg (Bu r))).goal (St.init [] [Aa err]) =
  (LQ (VV.agg [Aa (-1),Aa (-1),Aa (-1),Aa (-1),Aa (-1),Aa err]) (VV.agg (Bu r))):=by kernel_rfl
theorem Zj (r:List Wy × Int) (e:D.Env):(fc Cs Bl Tryz.f8 [] (.tup [BF true r.1,Aa r.2])).goal (St.init [] [.agg (Af e)]) =
  (∃ (y:Int),VC 15 [VV.agg (Af e)] (Aa y)/\BB (y != 0) (LQ (VV.tup [VV.nl,Aa y]) (VV.tup [BF true r.fst,Aa r.snd])) (∃ (y:List Wy),VC 16 [VV.agg (Af e)] (BF true y)/\LQ (VV.tup [BF true y,Aa 0]) (VV.tup [BF true r.fst,Aa r.snd]))):=by kernel_rfl
theorem AbM (t:D.Trans) (l:D.Loc) (esc i:Int):(fc Cs Bl Tryz.f20 [] (.agg (CN t))).goal (St.init [] [.agg (A9 l),Aa esc,Aa i]) =
  (BB (decide (esc<0)) (inX i l.Out.length/\LQ (VV.agg (CN (l.Out.getD i.toNat default))) (VV.agg (CN t))) (inX esc l.Esc.length/\inX i (l.Esc.getD esc.toNat []).length/\LQ (VV.agg (CN ((l.Esc.getD esc.toNat []).getD i.toNat default))) (VV.agg (CN t)))):=by kernel_rfl
theorem Vx (b:Bool) (l:List Ab):(fc Cs Bl Tryz.f167 [] (Ac b)).goal (St.init [] [BZ true l,.fn (.func 168) []]) =
  (∃ (y:Int),VC 176 [BZ true l,VV.fn (Fn.func (nat_lit 168)) []] (Aa y)/\LQ (Ac (decide (y>=0))) (Ac b)):=by kernel_rfl
theorem Za (r:Int) (l:List Ab):(fc Cs MI Tryz.f176 [] (Aa r)).goal (St.init [] [BZ true l,.fn (.func 168) []]) =
  (AA (fc Cs MI Tryz.f176 [] (Aa r)) [1,0,1,0] (Nr l (0:Int))):=by kernel_rfl
theorem Y8 (b:Bool) (x:Ab):(fc Cs Bl Tryz.f168 [] (Ac b)).goal (St.init [] [.agg (Bq x)]) =
  (LQ (Ac x.is) (Ac b)):=by kernel_rfl
theorem Vw (b:Bool) (l:List Wy) (w:Wy):(fc Cs Bl Tryz.f17 [] (Ac b)).goal (St.init [] [BF true l,.agg (Bu w)]) =
  (∃ (y:Int),VC 33 [BF true l,VV.agg (Bu w)] (Aa y)/\LQ (Ac (decide (y>=0))) (Ac b)):=by kernel_rfl
theorem Y9 (r:Int) (l:List Wy) (w:Wy):(fc Cs MH Tryz.f33 [] (Aa r)).goal (St.init [] [BF true l,.agg (Bu w)]) =
  (AA (fc Cs MH Tryz.f33 [] (Aa r)) [1,0,1,0] (Nq l w (0:Int))):=by kernel_rfl
theorem YW (r:List Pn) (e:D.Env) (c:Int) (m:List Int):(BP Tryz.prog tb (shR e c m) Bl true Tryz.f145 [] (Cr true r)).goal (St.init [] [.agg (Af e),Aa c,Ad true m]) =
  (∃ (y:Bool × Int),VC 29 [VV.agg (Af e)] (VV.tup [Ac y.fst,Aa y.snd])/\BB (bif !y.fst then true else y.snd != 0) (LQ VV.nl (Cr true r)) (∃ (y:D.Loc),VC 21 [VV.agg (Af e)] (VV.agg (A9 y))/\∃ (y_1:List Pn),Ai Tryz.prog 30 [Ob.box (Af e),Ob.box [Aa c],Ob.box [Ad true m],Ob.box [VV.nl]] [VV.agg (A9 y),VV.fn (Fn.func (nat_lit 165)) [VV.bp 0 0,VV.bp 1 0,VV.bp 2 0,VV.bp 3 0]] (hsR e c m y_1) (VV.tup [])/\LQ (Cr true y_1) (Cr true r))):=by kernel_rfl
theorem SQ (r out:List Pn) (e:D.Env) (c:Int) (m:List Int) (l:D.Loc):(BP Tryz.prog tb (shR e c m) Je true Tryz.f30 (hsR e c m r) (.tup [])).goal (St.init (hsR e c m out) [.agg (A9 l),AgH]) =
  (AA (fc (shR e c m) Je Tryz.f30 (hsR e c m r) (VV.tup [])) [1,0,1,0] (Ju e c m out l (0:Int))):=by kernel_rfl
theorem SP (r out:List Wy) (e:D.Env) (l:D.Loc):(BP Tryz.prog tb (shW e) Jd true Tryz.f30 (hsW e r) (.tup [])).goal (St.init (hsW e out) [.agg (A9 l),AgG]) =
  (AA (fc (shW e) Jd Tryz.f30 (hsW e r) (VV.tup [])) [1,0,1,0] (Jt e out l (0:Int))):=by kernel_rfl
theorem AbN (r out:List Pn) (b:Bool) (e:D.Env) (c:Int) (m:List Int) (i:Int) (ws:List D.Trans):(fc Cs PA Tryz.f165 (hsR e c m r) (Ac b)).goal (St.init (hsR e c m out) [Aa i,Av true ws,.bp 0 0,.bp 1 0,.bp 2 0,.bp 3 0]) =
  (AA (fc Cs PA Tryz.f165 (hsR e c m r) (Ac b)) [1,0,1,0] (OF e c m out i ws (0:Int))):=by kernel_rfl
theorem AbO (r out:List Wy) (b:Bool) (e:D.Env) (i:Int) (ws:List D.Trans):(fc Cs Gu Tryz.f31 (hsW e r) (Ac b)).goal (St.init (hsW e out) [Aa i,Av true ws,.bp 0 0,.bp 1 0]) =
  (∃ (y:List Ab),VC 32 [VV.agg (Af e),Av true ws,Ac false] (BZ true y)/\AA (fc Cs Gu Tryz.f31 (hsW e r) (Ac b)) [1,0,1,0] (Hw e out i y (0:Int))):=by kernel_rfl
theorem Vi (r:List Wy) (e:D.Env):(BP Tryz.prog tb (shW e) Bl true Tryz.f16 [] (BF true r)).goal (St.init [] [.agg (Af e)]) =
  (inX e.Pid e.S.Procs.length/\∃ (y:D.Proc),VC 27 [VV.agg (Af e)] (VV.agg (AZ y))/\BB ((e.S.Procs.getD e.Pid.toNat default).Loc==y.Final) (BB (e.Pid==IntKind.i64.wrap ((↑e.S.Procs.length:Int) - (1:Int))) (∃ (y:Wy),VC 28 [Aa 0] (VV.agg (Bu y))/\LQ (VV.sl true 1 6 fun (i:Nat)=>List.take 6 (List.drop (i*6) (Bu y))) (BF true r)) (LQ VV.nl (BF true r))) (∃ (y:Bool × Int),VC 29 [VV.agg (Af e)] (VV.tup [Ac y.fst,Aa y.snd])/\BB (y.snd != 0) (∃ (y_1:Wy),VC 28 [Aa y.snd] (VV.agg (Bu y_1))/\LQ (VV.sl true 1 6 fun (i:Nat)=>List.take 6 (List.drop (i*6) (Bu y_1))) (BF true r)) (BB (!y.fst) (LQ VV.nl (BF true r)) (∃ (y:D.Loc),VC 21 [VV.agg (Af e)] (VV.agg (A9 y))/\∃ (y_1:List Wy),Ai Tryz.prog 30 [Ob.box (Af e),Ob.box [VV.nl]] [VV.agg (A9 y),VV.fn (Fn.func (nat_lit 31)) [VV.bp 0 0,VV.bp 1 0]] (hsW e y_1) (VV.tup [])/\LQ (BF true y_1) (BF true r))))):=by kernel_rfl
theorem Zh (hs':List Ob) (r:VV) (e:D.Env) (l out:List Int) (k:Int) (J:St->Prop):((BP Tryz.prog tb Cs PC false Tryz.f40 hs' (r)).loop [1,1,0,1,0] J).goal (RC e l out k) =
  (BB (decide (k<(↑l.length:Int))) (inX k l.length/\∃ (y:Int × Int),VC 39 [VV.agg (Bk e),Aa (l.getD k.toNat 0)] (vII y)/\BB (y.snd != 0) (leO [] hs'/\(VV.tup [VV.nl,Aa y.snd]).le r) ((out.length+1)*8<=140737488355328/\J (AB [(2,VV.bp 0 0),(6,VV.ow 1 0 (out.length+1)),(11,Ad true l),(12,Aa (↑l.length:Int)),(13,Aa (IntKind.i64.wrap (k+(1:Int))))] [Ob.box (Bk e),Ob.arr true 0 (out.length+1) 1 fun (i:Nat)=>bif i.blt out.length then [Aa (out.getD i 0)] else (fun (i:Nat)=>List.take 1 (List.drop (i*1) [Aa y.fst])) (i - out.length)]))) (leO [Ob.arr true 0 out.length 1 (AG out)] hs'/\(VV.tup [VV.ow 0 0 out.length,Aa 0]).le r)):=by kernel_rfl
theorem Y6 (r:Int × List Int × Int) (c:Int) (f:List D.Type) (l:List Int) (k:Int) (J:St->Prop):((fc Cs PB Tryz.f64 [] (.tup [Aa r.1,Ad true r.2.1,Aa r.2.2])).loop [1,1,1,1,1,1,1,0,1,0] J).goal (OG c f l k) =
  (BB (decide (k<(↑l.length:Int))) (inX k l.length/\inX k f.length/\∃ (y:Int),VC 91 [VV.agg (BU (f.getD k.toNat default)),Aa (l.getD k.toNat 0)] (Aa y)/\inX k l.length/\J (AB [(7,Aa c),(9,AE true f),(10,VV.ow 0 0 l.length),(53,VV.ow 0 0 l.length),(54,Aa (↑l.length:Int)),(55,Aa (IntKind.i64.wrap (k+(1:Int))))] [Ob.arr true 0 l.length 1 fun (j:Nat)=>bif j.beq k.toNat then [Aa y] else [Aa (l.getD j 0)]])) (LQ (VV.tup [Aa c,Ad true l,Aa 0]) (VV.tup [Aa r.fst,Ad true r.snd.fst,Aa r.snd.snd]))):=by kernel_rfl
theorem SJ (r:List Int × Int) (e:D.Env) (s:D.Stmt) (want:List Int) (k:Int) (J:St->Prop):((fc Cs Ii Tryz.f99 [] (.tup [Ad true r.1,Aa r.2])).loop [1,1,0,1,0] J).goal (OE e s want k) =
  (BB (decide (k<(↑s.Args.length:Int))) (inX k s.Args.length/\inX k s.Match.length/\BB (s.Match.getD k.toNat 0 != 1) (J (OE e s want (IntKind.i64.wrap (k+(1:Int))))) (∃ (y:Int × Int),VC 39 [VV.agg (Af e),Aa (s.Args.getD k.toNat 0)] (vII y)/\BB (y.snd != 0) (LQ (VV.tup [VV.nl,Aa y.snd]) (VV.tup [Ad true r.fst,Aa r.snd])) (inX k want.length/\J (AB [(2,VV.bp 0 0),(3,VV.bp 1 0),(6,VV.ow 2 0 want.length),(16,Ad true s.Args),(17,Aa (↑s.Args.length:Int)),(18,Aa (IntKind.i64.wrap (k+(1:Int))))] [Ob.box (Af e),Ob.box (Ap s),Ob.arr true 0 want.length 1 fun (j:Nat)=>bif j.beq k.toNat then [Aa y.fst] else [Aa (want.getD j 0)]])))) (LQ (VV.tup [Ad true want,Aa 0]) (VV.tup [Ad true r.fst,Aa r.snd]))):=by kernel_rfl
theorem SO (r:List Pn) (e:D.Env) (c:Int) (m:List Int) (out:List Pn) (k:Int) (J:St->Prop):((fc Cs KO Tryz.f115 [] (Cr true r)).loop [1,1,0,1,0] J).goal (Lj e c m out k) =
  (BB (decide (k<(↑e.S.Procs.length:Int))) (BB (k != e.Pid) (∃ (y:List Pn),VC 145 [VV.agg [AE true e.M.Globals,Ad true e.M.Init,Cj true e.M.Shapes,Ad true e.M.Chans,Cw true e.M.Procs,Aa e.M.Claim,CO true e.M.Exprs,Ad true e.S.Globals,Bg true e.S.Chans,AW true e.S.Procs,Aa e.S.Last,Aa e.S.Alone,Aa e.S.Claim,Aa k,Ac e.Timeout,BG true e.Able],Aa c,Ad true m] (Cr true y)/\(out.length+y.length)*24<=140737488355328/\(∀ (i:Nat),i<y.length->(Eo y i).all VV.mem1=true)/\J (AB [(1,Aa c),(2,Ad true m),(3,VV.bp 0 0),(7,VV.ow 1 0 (out.length+y.length)),(13,Aa (↑e.S.Procs.length:Int)),(14,Aa (IntKind.i64.wrap (k+(1:Int))))] [Ob.box (Af e),Ob.arr true 0 (out.length+y.length) 3 fun (i:Nat)=>bif i.blt out.length then Eo out i else Eo y (i - out.length)])) (J (Lj e c m out (IntKind.i64.wrap (k+(1:Int)))))) (LQ (Cr true out) (Cr true r))):=by kernel_rfl
theorem Zg (r:List Ab) (e:D.Env) (ws:List D.Trans) (self:Bool) (n:Nat) (F:Nat->List VV) (some:Bool) (k:Int) (J:St->Prop):((fc Cs Fk Tryz.f32 [] (BZ true r)).loop [1,1,1,0,1,0] J).goal (RB e ws self n F some k) =
  (BB (decide (k<(↑ws.length:Int))) (inX k ws.length/\∃ (y:Ab),VC 49 [VV.agg (Af e),VV.agg (Ap (ws.getD k.toNat default).S),Ac self] (VV.agg (Bq y))/\inX k n/\AA ((fc Cs Fk Tryz.f32 [] (BZ true r)).loop [1,1,1,0,1,0] J) [1,1,0,0,1,1] (AB [(1,Av true ws),(2,Ac self),(3,VV.bp 0 0),(7,VV.ow 1 0 n),(8,Ac some),(9,Aa k),(16,Av true ws),(17,Aa (↑ws.length:Int)),(18,Aa k)] [Ob.box (Af e),Ob.arr true 0 n 3 fun (j:Nat)=>bif j.beq k.toNat then Bq y else F j])) (AA (fc Cs Fk Tryz.f32 [] (BZ true r)) [1,1,1,1,0,1,0] (AB [(7,VV.ow 0 0 n),(8,Ac some),(40,Av true ws),(41,Aa (↑ws.length:Int)),(42,Aa 0)] [Ob.arr true 0 n 3 F]))):=by kernel_rfl
theorem Ze (r:List Ab) (e:D.Env) (ws:List D.Trans) (self:Bool) (l:List Ab) (some:Bool) (i k:Int) (J:St->Prop):(((fc Cs Fk Tryz.f32 [] (BZ true r)).loop [1,1,1,0,1,0] J).cut [1,1,0,0,1,1]).goal (RA e ws self l some i k) =
  (((true&&some==false)=true->inX i l.length)/\J (AB [(1,Av true ws),(2,Ac self),(3,VV.bp 0 0),(7,VV.ow 1 0 l.length),(8,Ac (bif some then true else (l.getD i.toNat default).is)),(16,Av true ws),(17,Aa (↑ws.length:Int)),(18,Aa (IntKind.i64.wrap (k+(1:Int))))] [Ob.box (Af e),Ob.arr true 0 l.length 3 (Fu l)])):=by kernel_rfl
theorem Zf (r:List Ab) (ws:List D.Trans) (l:List Ab) (some:Bool) (k:Int) (J:St->Prop):((fc Cs Fk Tryz.f32 [] (BZ true r)).loop [1,1,1,1,0,1,0] J).goal (Lk ws l some k) =
  (BB (decide (k<(↑ws.length:Int))) (inX k ws.length/\BB (bif (ws.getD k.toNat default).S.Kind==7 then !some else false) (inX k l.length/\J (AB [(7,VV.ow 0 0 l.length),(8,Ac some),(40,Av true ws),(41,Aa (↑ws.length:Int)),(42,Aa (IntKind.i64.wrap (k+(1:Int))))] [Ob.arr true 0 l.length 3 fun (j:Nat)=>bif j.beq k.toNat then [Ac true,Aa (l.getD k.toNat default).err,Cr true (l.getD k.toNat default).wth] else Bq (l.getD j default)])) (J (Lk ws l some (IntKind.i64.wrap (k+(1:Int)))))) (LQ (BZ true l) (BZ true r))):=by kernel_rfl
theorem Vp (r:Int) (l:List Ab) (k:Int) (J:St->Prop):((fc Cs MI Tryz.f176 [] (Aa r)).loop [1,0,1,0] J).goal (Nr l k) =
  (BB (decide (k<(↑l.length:Int))) (inX k l.length/\∃ (y:Bool),VC 168 [VV.agg (Bq (l.getD k.toNat default))] (Ac y)/\BB y (LQ (Aa k) (Aa r)) (J (Nr l (IntKind.i64.wrap (k+(1:Int)))))) (LQ (Aa (-1)) (Aa r))):=by kernel_rfl
theorem Vn (r:Int) (l:List Wy) (w:Wy) (k:Int) (J:St->Prop):((fc Cs MH Tryz.f33 [] (Aa r)).loop [1,0,1,0] J).goal (Nq l w k) =
  (BB (decide (k<(↑l.length:Int))) (inX k l.length/\BB (w.Esc==(l.getD k.toNat default).Esc&&(w.Way==(l.getD k.toNat default).Way&&(w.With==(l.getD k.toNat default).With&&(w.WithEsc==(l.getD k.toNat default).WithEsc&&(w.WithWay==(l.getD k.toNat default).WithWay&&(w.Err==(l.getD k.toNat default).Err&&true)))))) (LQ (Aa k) (Aa r)) (J (Nq l w (IntKind.i64.wrap (k+(1:Int)))))) (LQ (Aa (-1)) (Aa r))):=by kernel_rfl
theorem Rk (r:List Pn) (e:D.Env) (c:Int) (m:List Int) (out:List Pn) (l:D.Loc) (k:Int) (J:St->Prop):((BP Tryz.prog tb (shR e c m) Je true Tryz.f30 (hsR e c m r) (.tup [])).loop [1,0,1,0] J).goal (Ju e c m out l k) =
  (BB (decide (k<(↑l.Esc.length:Int))) (inX k l.Esc.length/\∃ (y:List Pn × Bool),Ai Tryz.prog 165 (hsR e c m out) [Aa k,Av true (l.Esc.getD k.toNat []),VV.bp 0 0,VV.bp 1 0,VV.bp 2 0,VV.bp 3 0] (hsR e c m y.fst) (Ac y.snd)/\BB y.snd (leO (hsR e c m y.fst) (hsR e c m r)/\(VV.tup []).le (VV.tup [])) (J (Ju e c m y.fst l (IntKind.i64.wrap (k+(1:Int)))))) (∃ (y:List Pn × Bool),Ai Tryz.prog 165 (hsR e c m out) [Aa (-1),Av true l.Out,VV.bp 0 0,VV.bp 1 0,VV.bp 2 0,VV.bp 3 0] (hsR e c m y.fst) (Ac y.snd)/\leO (hsR e c m y.fst) (hsR e c m r)/\(VV.tup []).le (VV.tup []))):=by kernel_rfl
theorem Ri (r:List Wy) (e:D.Env) (out:List Wy) (l:D.Loc) (k:Int) (J:St->Prop):((BP Tryz.prog tb (shW e) Jd true Tryz.f30 (hsW e r) (.tup [])).loop [1,0,1,0] J).goal (Jt e out l k) =
  (BB (decide (k<(↑l.Esc.length:Int))) (inX k l.Esc.length/\∃ (y:List Wy × Bool),Ai Tryz.prog 31 (hsW e out) [Aa k,Av true (l.Esc.getD k.toNat []),VV.bp 0 0,VV.bp 1 0] (hsW e y.fst) (Ac y.snd)/\BB y.snd (leO (hsW e y.fst) (hsW e r)/\(VV.tup []).le (VV.tup [])) (J (Jt e y.fst l (IntKind.i64.wrap (k+(1:Int)))))) (∃ (y:List Wy × Bool),Ai Tryz.prog 31 (hsW e out) [Aa (-1),Av true l.Out,VV.bp 0 0,VV.bp 1 0] (hsW e y.fst) (Ac y.snd)/\leO (hsW e y.fst) (hsW e r)/\(VV.tup []).le (VV.tup []))):=by kernel_rfl
theorem YX (r:List Pn) (b:Bool) (e:D.Env) (c:Int) (m:List Int) (out:List Pn) (i:Int) (ws:List D.Trans) (k:Int) (J:St->Prop):((fc Cs PA Tryz.f165 (hsR e c m r) (Ac b)).loop [1,0,1,0] J).goal (OF e c m out i ws k) =
  (BB (decide (k<(↑ws.length:Int))) (inX k ws.length/\∃ (y:Bool),VC 166 [VV.agg (Af e),VV.agg (Ap (ws.getD k.toNat default).S),Aa c,Ad true m] (Ac y)/\BB y ((out.length+1)*24<=140737488355328/\J (AB [(0,Aa i),(1,Av true ws),(2,VV.bp 0 0),(3,VV.bp 1 0),(4,VV.bp 2 0),(5,VV.bp 3 0),(11,Av true ws),(12,Aa (↑ws.length:Int)),(13,Aa (IntKind.i64.wrap (k+(1:Int))))] [Ob.box (Af e),Ob.box [Aa c],Ob.box [Ad true m],Ob.box [VV.ow 4 0 (out.length+1)],Ob.arr true 0 (out.length+1) 3 fun (i_1:Nat)=>bif i_1.blt out.length then KI (out.getD i_1 default) else (fun (i_2:Nat)=>List.take 3 (List.drop (i_2*3) [Aa e.Pid,Aa i,Aa k])) (i_1 - out.length)])) (J (OF e c m out i ws (IntKind.i64.wrap (k+(1:Int)))))) (∃ (y:List Ab),((true&&decide ((↑out.length:Int) > 0)==false)=true->VC 32 [VV.agg (Af e),Av true ws,Ac true] (BZ true y))/\∃ (y_1:Bool),((true&&decide ((↑out.length:Int) > 0)==false)=true->VC 167 [BZ true y,VV.fn (Fn.func (nat_lit 168)) []] (Ac y_1))/\leO (hsR e c m out) (hsR e c m r)/\(Ac (bif decide ((↑out.length:Int) > 0) then true else y_1)).le (Ac b))):=by kernel_rfl
theorem Y3 (r:List Wy) (b:Bool) (e:D.Env) (out:List Wy) (i:Int) (l:List Ab) (k:Int) (J:St->Prop):((fc Cs Gu Tryz.f31 (hsW e r) (Ac b)).loop [1,0,1,0] J).goal (Hw e out i l k) =
  (BB (decide (k<(↑l.length:Int))) (inX k l.length/\BB (bif (l.getD k.toNat default).is then (↑(l.getD k.toNat default).wth.length:Int)==0 else false) ((out.length+1)*48<=140737488355328/\AA ((fc Cs Gu Tryz.f31 (hsW e r) (Ac b)).loop [1,0,1,0] J) [1,1,0,0,1,1,1,1,0] (AB [(0,Aa i),(3,VV.bp 1 0),(9,VV.bp 3 0),(14,BZ true l),(15,Aa (↑l.length:Int)),(16,Aa k),(39,Cr true (l.getD k.toNat default).wth),(40,Aa (↑(l.getD k.toNat default).wth.length:Int)),(41,Aa 0)] [Ob.box (Af e),Ob.box [VV.ow 2 0 (out.length+1)],Ob.arr true 0 (out.length+1) 6 fun (i_1:Nat)=>bif i_1.blt out.length then Bu (out.getD i_1 default) else (fun (i_2:Nat)=>List.take 6 (List.drop (i_2*6) [Aa i,Aa k,Aa (-1),Aa (-1),Aa (-1),Aa (l.getD k.toNat default).err])) (i_1 - out.length),Ob.box [Aa i,Aa k,Aa (-1),Aa (-1),Aa (-1),Aa (l.getD k.toNat default).err]])) (AA ((fc Cs Gu Tryz.f31 (hsW e r) (Ac b)).loop [1,0,1,0] J) [1,1,0,0,1,1,1,1,0] (AB [(0,Aa i),(3,VV.bp 1 0),(9,VV.bp 3 0),(14,BZ true l),(15,Aa (↑l.length:Int)),(16,Aa k),(39,Cr true (l.getD k.toNat default).wth),(40,Aa (↑(l.getD k.toNat default).wth.length:Int)),(41,Aa 0)] [Ob.box (Af e),Ob.box [VV.ow 2 0 out.length],Ob.arr true 0 out.length 6 (HU out),Ob.box [Aa i,Aa k,Aa (-1),Aa (-1),Aa (-1),Aa (l.getD k.toNat default).err]]))) (leO (hsW e out) (hsW e r)/\(Ac (decide ((↑out.length:Int) > 0))).le (Ac b))):=by kernel_rfl
theorem Y2 (r:List Wy) (b:Bool) (e:D.Env) (out:List Wy) (i:Int) (l:List Ab) (k:Int) (w:Wy) (ps:List Pn) (j:Int) (J J2:St->Prop):(((fc Cs Gu Tryz.f31 (hsW e r) (Ac b)).loop [1,0,1,0] J).loop [1,1,0,0,1,1,1,1,0] J2).goal (Li e out i l k w ps j) =
  (BB (decide (j<(↑ps.length:Int))) (inX j ps.length/\(out.length+1)*48<=140737488355328/\J2 (AB [(0,Aa i),(3,VV.bp 1 0),(9,VV.bp 3 0),(14,BZ true l),(15,Aa (↑l.length:Int)),(16,Aa k),(39,Cr true ps),(40,Aa (↑ps.length:Int)),(41,Aa (IntKind.i64.wrap (j+(1:Int))))] [Ob.box (Af e),Ob.box [VV.ow 2 0 (out.length+1)],Ob.arr true 0 (out.length+1) 6 fun (i:Nat)=>bif i.blt out.length then Bu (out.getD i default) else (fun (i:Nat)=>List.take 6 (List.drop (i*6) [Aa w.Esc,Aa w.Way,Aa (ps.getD j.toNat default).pid,Aa (ps.getD j.toNat default).esc,Aa (ps.getD j.toNat default).way,Aa w.Err])) (i - out.length),Ob.box [Aa w.Esc,Aa w.Way,Aa (ps.getD j.toNat default).pid,Aa (ps.getD j.toNat default).esc,Aa (ps.getD j.toNat default).way,Aa w.Err]])) (J (Hw e out i l (IntKind.i64.wrap (k+(1:Int)))))):=by kernel_rfl
end Go.Proofs.YtiaebjpcgjkhoaaGreatDoor
namespace Go.Proofs.YtiaebjpcgjkhoaaGreatDoor
open Go.RowKit
structure CH (e:D.Env):Prop where
 ok:B3 e
 p0:0<=e.Pid
section
variable {e : D.Env}
theorem MD (hw:Ay e.M) (h:Ee e=0):CH e:=by
 unfold Ee at h
 cases c1:decide (CY e.M e.S≠0) with
 | true=>rw [c1,cond_true] at h;exact absurd h (of_decide_eq_true c1)
 | false =>
  rw [c1,cond_false] at h
  obtain ⟨h1,h2⟩:=KJ (show CY e.M e.S=0 by simpa using c1)
  cases c2:(decide (e.Pid<0)||decide ((e.S.Procs.length:Int)<=e.Pid)) with
  | true=>rw [c2,cond_true] at h;simp at h
  | false =>
   simp only [Bool.or_eq_false_iff,decide_eq_false_iff_not] at c2
   exact ⟨⟨h2,h1,hw,by omega,by omega⟩,by omega⟩
theorem CH.small (h:CH e):A4 e.S:=h.ok.fit.small
theorem CH.lt (h:CH e):e.Pid.toNat<e.S.Procs.length:=by have:=h.ok.pid;have:=h.p0;omega
theorem CH.mem (h:CH e):Dp e e.Pid∈e.S.Procs:=Au h.lt
theorem CH.facts (h:CH e):(0<=(Dp e e.Pid).Type_/\(Dp e e.Pid).Type_<e.M.Procs.length)/\(0<=(Dp e e.Pid).Loc/\(Dp e e.Pid).Loc<(DF e).Locs.length) :=
 let hp:=D4 (h.ok.proc h.mem);⟨hp.1,hp.2.1⟩
theorem CH.wproc (h:CH e):GF (DF e):=h.ok.wf.Procs.2 _ (Au (by have:=h.facts.1;omega))
theorem CH.wloc (h:CH e):Rn (Ct e):=h.wproc.Locs.2 _ (Au (by have:=h.facts.2;omega))
theorem KY (hw:Ay e.M) (hs:A4 e.S):Ai Tryz.prog 15 [] [.agg (Af e)] [] (Aa (Ee e)):=by
 refine Ag Ak Aj Tryz.func15 (by kernel_rfl) rfl (Aea _ e) ⟨_,Hv hw hs (fun h=>(Ky h).clp),fun h=>BM (ct (by simpa using h) rfl),fun h=>⟨fun h1=>BM (cf (by simpa using h) (ct ?_ rfl)),fun h1=>BM (cf (by simpa using h) (cf ?_ rfl))⟩⟩
 ·simp only [Bd,ge_iff_le] at h1;exact h1
 ·simp only [Bd,ge_iff_le] at h1;exact h1
theorem GW (h:CH e):Ai Tryz.prog 21 [] [.agg (Af e)] [] (.agg (A9 (Ct e))) :=
 Ag Ak Aj Tryz.func21 (by kernel_rfl) rfl (AbQ _ e) ⟨⟨h.p0,h.ok.pid.2⟩,h.facts.1,h.facts.2,trivial,VV.le_refl _⟩
theorem N0 (h:CH e):Ai Tryz.prog 27 [] [.agg (Af e)] [] (.agg (AZ (DF e))) :=
 Ag Ak Aj Tryz.func27 (by kernel_rfl) rfl (YZ _ e) ⟨⟨h.p0,h.ok.pid.2⟩,h.facts.1,trivial,VV.le_refl _⟩
theorem Hp {x:Int} (h:0<=x->x<e.M.Exprs.length):Ai Tryz.prog 36 [] [.agg (Ae e.M),Aa x] [] (Ac (DE e x)):=by
 refine Ag Ak Aj Tryz.func36 (by kernel_rfl) rfl (YU _ e.M x) ⟨fun hx=>?_,Ao ?_⟩
 ·have hx:0<=x:=by simpa using hx
  exact ⟨hx,h hx⟩
 ·unfold DE Ar
  rw [AM,ieq]
theorem NY : Ai Tryz.prog 77 [] [.agg (Af e)] [] (.agg (Bq (M7 e))):=by
 refine Ag Ak Aj Tryz.func77 (by kernel_rfl) rfl (YV _ e) ⟨trivial,VV.le_agg ⟨VV.le_eq ?_,VV.le_refl _,VV.le_nil,trivial⟩⟩
 have:decide ((e.S.Procs.length:Int)<16)=decide (e.S.Procs.length<16):=by rw [Bool.eq_iff_iff,decide_eq_true_eq,decide_eq_true_eq];omega
 rw [this]<;>rfl
theorem N1 {err:Int}:Ai Tryz.prog 28 [] [Aa err] [] (.agg (Bu (Kc err))) :=
 Ag Ak Aj Tryz.func28 (by kernel_rfl) rfl (Y4 _ err) ⟨trivial,VV.le_refl _⟩
theorem P8 {l:D.Loc} {esc i:Int} (h1:esc<0->0<=i/\i<l.Out.length) (h2:0<=esc->esc<l.Esc.length/\0<=i/\i<(l.Esc.getD esc.toNat []).length) :
  Ai Tryz.prog 20 [] [.agg (A9 l),Aa esc,Aa i] [] (.agg (CN ((bif decide (esc<0) then l.Out else l.Esc.getD esc.toNat []).getD i.toNat default))):=by
 refine Ag Ak Aj Tryz.func20 (by kernel_rfl) rfl (AbM _ l esc i) ⟨fun h=>⟨h1 (by simpa using h),trivial,?_⟩,fun h=>?_⟩
 ·rw [h,cond_true];exact VV.le_refl _
 ·have h0:0<=esc:=by simpa using h
  refine ⟨⟨h0,(h2 h0).1⟩,(h2 h0).2,trivial,?_⟩
  rw [h,cond_false];exact VV.le_refl _
theorem MS {ev:Evl} {out:List Int} {x:Int} {l:List Int}:Iw ev out (x::l)=bif decide ((ev x).2≠0) then ([],(ev x).2) else Iw ev (out++[(ev x).1]) l:=rfl
theorem SU {l:List Int} {hs':List Ob} {r:VV} (hev:∀ x∈l,Ai Tryz.prog 39 [] [.agg (Bk e),Aa x] [] (vII (Ba e x))) (hl:l.length<=1048576)
  (h1:∀ er,B8 e l=([],er)->er≠0->leO [] hs'/\VV.le (.tup [.nl,Aa er]) r) (h2:∀ out,B8 e l=(out,0)->leO [.arr true 0 out.length 1 (AG out)] hs'/\VV.le (.tup [.ow 0 0 out.length,Aa 0]) r) :
  Ai Tryz.prog 40 [] [.agg (Bk e),Ad true l] hs' r:=by
 refine Ag Ak Aj Tryz.func40 (by kernel_rfl) rfl (AbS hs' r e l) ?_
 refine AA.own 1 6 1 (AG []) rfl ?_
 change AA _ _ (RC e l [] 0)
 refine Bh Ak Aj (fun g st=>∃ (k:Nat) (out:List Int),k<=l.length/\g=l.length - k/\out.length<=k/\Iw (Ba e) out (l.drop k)=B8 e l/\st=RC e l out k) (by kernel_rfl) (by kernel_rfl) ⟨_,Up.of ⟨0,[],Nat.zero_le _,rfl,Nat.zero_le _,rfl,rfl⟩⟩ ?_
 rintro g st ⟨k,out,hk,rfl,ho,hq,rfl⟩
 refine Bb.raw (Zh hs' r e l out k _) ⟨fun hlt=>?_,fun hge=>?_⟩
 ·have hlt':k<l.length:=by have:=AQ hlt;omega
  have hto:(k:Int).toNat=k:=by omega
  rw [hto]
  rw [B4 (d:=0) hlt',MS] at hq
  refine ⟨⟨by omega,by omega⟩,Ba e (l.getD k 0),hev _ (Au hlt'),fun he=>?_,fun he=>⟨by omega,l.length - (k+1),by omega,Up.mk (hs':=[.box (Bk e),.arr true 0 (out.length+1) 1 (AG (out++[(Ba e (l.getD k 0)).1]))]) (AY _) ⟨Ob.le_refl _,Ob.le_arr fun i hi=>A2 (Ca (f:=fun n=>[Aa n]) (d:=0) (l:=out) (r:=[(Ba e (l.getD k 0)).1]) (F:=fun i=>[.sc (.int .i64 (out.getD i 0))]) (fun _ _=>rfl) Er (by simp;omega)),trivial⟩ ⟨k+1,out++[(Ba e (l.getD k 0)).1],by omega,rfl,by simp;omega,?_,?_⟩⟩⟩
  ·rw [show decide ((Ba e (l.getD k 0)).2≠0)=true by simpa using he,cond_true] at hq
   exact h1 _ hq.symm (by simpa using he)
  ·rw [show decide ((Ba e (l.getD k 0)).2≠0)=false by simpa using he,cond_false] at hq
   exact hq
  ·rw [Am (by omega)]
   unfold RC
   rw [List.length_append]<;>rfl
 ·have hge':l.length<=k:=by have:=AT hge;omega
  rw [List.drop_of_length_le hge'] at hq
  exact h2 out hq.symm
theorem Mh {l:List Int} (hev:∀ x∈l,Ai Tryz.prog 39 [] [.agg (Bk e),Aa x] [] (vII (Ba e x))) (hl:l.length<=1048576) :
  Ai Tryz.prog 40 [] [.agg (Bk e),Ad true l] [.arr true 0 (B8 e l).1.length 1 (AG (B8 e l).1)] (.tup [.ow 0 0 (B8 e l).1.length,Aa (B8 e l).2]):=by
 rcases hq:B8 e l with ⟨out,er⟩
 by_cases he:er=0
 ·subst he
  refine SU hev hl (fun er' h h'=>?_) fun out' h=>?_
  ·rw [hq] at h;exact absurd (congrArg Prod.snd h).symm h'
  ·rw [hq] at h
   obtain rfl:out=out':=congrArg Prod.fst h
   exact ⟨⟨Ob.le_refl _,trivial⟩,VV.le_refl _⟩
 ·have hout:out=[]:=by
   have key:∀ (l:List Int) (o:List Int),(Iw (Ba e) o l).2≠0->(Iw (Ba e) o l).1=[]:=by
    intro l
    induction l with
    | nil=>intro o h;exact absurd rfl h
    | cons x l ih =>
     intro o h
     rw [MS] at h ⊢
     cases c:decide ((Ba e x).2≠0) with
     | true=>rfl
     | false=>rw [c,cond_false] at h;exact ih _ h
   have:=key l [] (by have:Iw (Ba e) [] l=(out,er):=hq;rw [this];exact he)
   have e2:Iw (Ba e) [] l=(out,er):=hq
   rw [e2] at this;exact this
  subst hout
  have h:=SU (hs':=[]) (r:=.tup [.nl,Aa er]) hev hl (fun er' h h'=>?_) fun out' h=>?_
  ·exact h.ownR 0 rfl 1 (AG [])
  ·rw [hq] at h
   obtain rfl:er=er':=congrArg Prod.snd h
   exact ⟨trivial,VV.le_refl _⟩
  ·rw [hq] at h;exact absurd (congrArg Prod.snd h) he
end
end Go.Proofs.YtiaebjpcgjkhoaaGreatDoor
namespace Go.Proofs.YtiaebjpcgjkhoaaGreatDoor
open Go.RowKit
theorem BS {x:VV} (hx:x.mem=true):Ox x x:=fun _ E _ h B =>
 (h.mem (E':=⟨E.fz,B⟩) (m':=none) hx rfl).less (fun _ h=>h.elim) fun _ h=>h
theorem Mk : ∀ {l:List VV},l.all VV.mem=true->Oy l l
 | [],_=>trivial
 | x::l,h=>by
  simp only [List.all_cons,Bool.and_eq_true] at h
  exact ⟨BS h.1,Mk h.2⟩
theorem Le {e:D.Env}:Ox (.agg (Bk e)) (.agg (Af e)) :=
 Tc ⟨BS rfl,BS rfl,BS rfl,BS rfl,BS rfl,BS rfl,BS rfl,BS rfl,XX fun _ _=>Mk rfl,XX fun _ _=>Mk rfl,BS rfl,BS rfl,BS rfl,BS rfl,BS rfl,BS rfl,trivial⟩
theorem AeY {e:D.Env}:leS (.agg (Af e)) (.agg (Bk e)):=by
 refine Yt rfl fun j x y hx hy=>?_
 rcases Nat.lt_or_ge j 16 with hj | hj
 ·rcases (show j=0∨j=1∨j=2∨j=3∨j=4∨j=5∨j=6∨j=7∨j=8∨j=9∨j=10∨j=11∨j=12∨j=13∨j=14∨j=15 by omega) with rfl | rfl | rfl | rfl | rfl | rfl | rfl | rfl | rfl | rfl | rfl | rfl | rfl | rfl | rfl | rfl <;>
   (obtain rfl:=Option.some.inj hx;obtain rfl:=Option.some.inj hy;first | exact C1 _ | exact My)
 ·rw [List.getElem?_eq_none (by show (16:Nat)<=j;exact hj)] at hx;cases hx
section
variable {e : D.Env}
theorem Po (hw:Ay e.M) (hs:A4 e.S) (x:Int):Ai Tryz.prog 39 [] [.agg (Bk e),Aa x] [] (vII (Ba e x)) :=
 (H9 hw hs x).thaw (Mr fun x hx=>by
  simp only [List.mem_cons,List.not_mem_nil,or_false] at hx
  rcases hx with rfl | rfl<;>exact O4) ⟨Le,XY,trivial⟩
theorem AgF (hw:Ay e.M) (hs:A4 e.S) (x:Int):Ai Tryz.prog 92 [] [.agg (Bk e),Aa x] [] (vII (AC e x)) :=
 (Ia hw hs x).thaw (Mr fun x hx=>by
  simp only [List.mem_cons,List.not_mem_nil,or_false] at hx
  rcases hx with rfl | rfl<;>exact O4) ⟨Le,XY,trivial⟩
theorem UB (t:D.Type) (v:Int):Ai Tryz.prog 91 [] [.agg (BU t),Aa v] [] (Aa (H7 t v)):=by
 refine Ai.hand ⟨_,Tryz.func91,rfl,by kernel_rfl⟩ fun w E vs hA hL hB _ hs0=>?_
 obtain ⟨u1,us1,rfl,v1,hs0⟩:=hs0.cons_inv
 obtain ⟨u2,us2,rfl,v2,hs0⟩:=hs0.cons_inv
 obtain rfl:=hs0.nil_inv
 obtain ⟨a,b,rfl,va,vb⟩:=v1.agg2_inv
 rw [va.sc_inv,vb.sc_inv,v2.sc_inv]
 refine (Aeh t.Bits v t.Signed w).mono ?_
 rintro r w' ⟨rfl,hb⟩
 exact ⟨_,rfl,.sc,hb⟩
structure Afp (e:D.Env) (n:Int):Prop where
 ok:B3 e
 lo:1<=n
 hi:n<=e.S.Chans.length
 le:e.S.Chans.length<=32
 sh:0<=(Cl e n).Shape/\(Cl e n).Shape<e.M.Shapes.length
 q:(Cl e n).Queue.length<=16
theorem I5 (hw:Ay e.M) {x:Int} (h:(AC e x).2=0):Afp e (AC e x).1:=by
 unfold AC at h ⊢
 cases c:decide (CA e x≠0) with
 | true=>rw [c,cond_true] at h;exact absurd h (of_decide_eq_true c)
 | false =>
  rw [c,cond_false] at h
  rw [cond_false]
  obtain ⟨hE,_,_⟩:=H8 (x:=x) hw (by simpa using c)
  have hn:=Sz hE (a:=x) (by simpa using h)
  generalize (Dl e (Q6 e e.M.Exprs.length) x).1=n at hn ⊢
  have hm:Cl e n∈e.S.Chans:=Au (by omega)
  exact ⟨hE,hn.1,hn.2.1,hn.2.2,(EW (hE.chan hm)).1,(hE.fit.q _ hm).1⟩
theorem Fx {a b:Nat}:((a:Int) != (b:Int))=decide (a≠b):=by
 rw [Bool.eq_iff_iff,bne_iff_ne,decide_eq_true_eq];omega
theorem Ahh {a c:Int} {l:List Int} {r:Int × List Int × Int} (h:(a,l,c)=r):leO [] []/\VV.le (.tup [.sc (.int .i64 a),Ad true l,.sc (.int .i64 c)]) (.tup [.sc (.int .i64 r.1),Ad true r.2.1,.sc (.int .i64 r.2.2)]):=by
 subst h;exact ⟨trivial,VV.le_refl _⟩
theorem W9 {a c:Int} {r:Int × List Int × Int} (h:(a,[],c)=r):leO [] []/\VV.le (.tup [.sc (.int .i64 a),.nl,.sc (.int .i64 c)]) (.tup [.sc (.int .i64 r.1),Ad true r.2.1,.sc (.int .i64 r.2.2)]):=by
 subst h;exact ⟨trivial,VV.le_tup ⟨VV.le_refl _,VV.le_nil,VV.le_refl _,trivial⟩⟩
theorem PJ {l:List Int} (h:(B8 e l).2=0):(B8 e l).1.length=l.length:=by
 have key:∀ (l o:List Int),(Iw (Ba e) o l).2=0->(Iw (Ba e) o l).1.length=o.length+l.length:=by
  intro l
  induction l with
  | nil=>intro o _;rfl
  | cons x l ih =>
   intro o h
   rw [MS] at h ⊢
   cases c:decide ((Ba e x).2≠0) with
   | true=>rw [c,cond_true] at h;exact absurd h (of_decide_eq_true c)
   | false =>
    rw [c,cond_false] at h
    rw [cond_false,ih _ h];simp;omega
 have:=key l [] h
 simpa [B8] using this
def I3 (f:List D.Type) (l:List Int) (k:Nat):List Int:=(List.range l.length).map fun i=>if i<k then H7 (f.getD i default) (l.getD i 0) else l.getD i 0
theorem JP {f:List D.Type} {l:List Int} {k:Nat}:(I3 f l k).length=l.length:=by simp [I3]
theorem JQ {f:List D.Type} {l:List Int} {k i:Nat} (hi:i<l.length):(I3 f l k).getD i 0=if i<k then H7 (f.getD i default) (l.getD i 0) else l.getD i 0:=by simp [I3,List.getD,hi]
theorem Xp {f:List D.Type} {l:List Int}:I3 f l 0=l:=by
 apply List.ext_getElem (by simp [I3])
 intro i h1 h2
 simp [I3,List.getD,h2]
theorem Abg {f:List D.Type} {l:List Int}:I3 f l l.length=Nm f l:=by
 unfold I3 Nm
 apply List.map_congr_left
 intro i hi
 rw [if_pos (List.mem_range.1 hi)]
theorem N2 {s:D.Stmt} (hw:Ay e.M) (hs:A4 e.S) (hl:s.Args.length<=1048576) :
  Ai Tryz.prog 64 [] [.agg (Bk e),.agg (Ap s)] [] (.tup [Aa (Ax e s).1,Ad true (Ax e s).2.1,Aa (Ax e s).2.2]):=by
 have hq:Ax e s=bif decide ((AC e s.A).2≠0) then (0,[],(AC e s.A).2)
  else bif decide ((A8 e (AC e s.A).1).length≠s.Args.length) then (0,[],49)
  else bif decide ((B8 e s.Args).2≠0) then (0,[],(B8 e s.Args).2)
  else ((AC e s.A).1,Nm (A8 e (AC e s.A).1) (B8 e s.Args).1,0):=rfl
 generalize Ax e s=r at hq
 refine Ag Ak Aj Tryz.func64 (by kernel_rfl) rfl (AbP r e s) ⟨AC e s.A,AgF hw hs s.A,fun h=>W9 ?_,fun h=>?_⟩
 ·rw [hq,show decide ((AC e s.A).2≠0)=true by simpa using h]<;>rfl
 have h0:(AC e s.A).2=0:=by simpa using h
 rw [h0] at hq
 have hc:=I5 hw h0
 generalize (AC e s.A).1=n at hc hq ⊢
 have h1:=hc.lo
 have h2:=hc.hi
 have h3:=hc.le
 rw [A1 (by omega) (by omega)]
 refine ⟨by omega,hc.sh,fun hf=>W9 ?_,fun hf=>⟨B8 e s.Args,Mh (fun x _=>Po hw hs x) hl,fun ha=>W9 ?_,fun ha=>?_⟩⟩
 ·rw [Fx] at hf
  rw [hq]
  have:decide ((A8 e n).length≠s.Args.length)=true:=hf
  rw [this]<;>rfl
 ·rw [Fx] at hf
  rw [hq,show decide ((A8 e n).length≠s.Args.length)=false from hf,show decide ((B8 e s.Args).2≠0)=true by simpa using ha]<;>rfl
 rw [Fx] at hf
 have ha0:(B8 e s.Args).2=0:=by simpa using ha
 have hlen:=PJ ha0
 rw [show decide ((A8 e n).length≠s.Args.length)=false from hf,ha0] at hq
 have hfl:(A8 e n).length=s.Args.length:=Classical.not_not.1 (of_decide_eq_false hf)
 change AA _ _ (AB [(7,Aa n),(9,AE true (A8 e n)),(10,.ow 0 0 (B8 e s.Args).1.length),(53,.ow 0 0 (B8 e s.Args).1.length),(54,Aa (B8 e s.Args).1.length),(55,Aa 0)] [.arr true 0 (B8 e s.Args).1.length 1 (AG (B8 e s.Args).1)])
 generalize A8 e n=f at hq hfl ⊢
 generalize (B8 e s.Args).1=l at hq hlen ⊢
 change r=(n,Nm f l,0) at hq
 refine Bh Ak Aj (fun g st=>∃ k:Nat,k<=l.length/\g=l.length - k/\st=OG n f (I3 f l k) k) (by kernel_rfl) (by kernel_rfl) ⟨_,Up.of ⟨0,Nat.zero_le _,rfl,by unfold OG;rw [Xp]<;>rfl⟩⟩ ?_
 rintro g st ⟨k,hk,rfl,rfl⟩
 refine Bb.raw (Y6 r n f _ k _) ⟨fun hlt=>?_,fun hge=>Ahh ?_⟩
 ·rw [JP] at hlt
  have hlt':k<l.length:=by have:=AQ hlt;omega
  have hto:(k:Int).toNat=k:=by omega
  rw [hto,JP,JQ hlt',if_neg (Nat.lt_irrefl _)]
  refine ⟨by omega,by omega,H7 (f.getD k default) (l.getD k 0),UB _ _,by omega,l.length - (k+1),by omega,Up.mk (hs':=[.arr true 0 l.length 1 (AG (I3 f l (k+1)))]) (AY _) ⟨Ob.le_arr fun i hi=>A2 ?_,trivial⟩ ⟨k+1,by omega,rfl,?_⟩⟩
  ·by_cases hik:i=k
   ·subst hik
    simp only [Nat.beq_refl,cond_true]
    unfold AG
    rw [JQ hlt',if_pos (Nat.lt_succ_self _)]<;>rfl
   ·have hb:Nat.beq i k=false:=by
     cases hq:Nat.beq i k with
     | true=>exact absurd (Nat.eq_of_beq_eq_true hq) hik
     | false=>rfl
    simp only [hb,cond_false]
    unfold AG
    rw [JQ hi,JQ hi]
    by_cases h:i<k
    ·rw [if_pos h,if_pos (by omega)]<;>rfl
    ·rw [if_neg h,if_neg (by omega)]<;>rfl
  ·rw [Am (by omega)]
   unfold OG
   rw [JP]<;>rfl
 ·rw [JP] at hge
  have hge':k=l.length:=by have:=AT hge;omega
  subst hge'
  rw [Abg,hq]
theorem Y5 {s:D.Stmt} (hw:Ay e.M) (hs:A4 e.S) (hl:s.Args.length<=1048576) :
  Ai Tryz.prog 64 [] [.agg (Af e),.agg (Ap s)] [] (.tup [Aa (Ax e s).1,Ad true (Ax e s).2.1,Aa (Ax e s).2.2]) :=
 (N2 hw hs hl).frz rfl fun j x y hx hy=>by
  match j,hx,hy with
  | 0,hx,hy=>obtain rfl:=Option.some.inj hx;obtain rfl:=Option.some.inj hy;exact AeY
  | 1,hx,hy=>obtain rfl:=Option.some.inj hx;obtain rfl:=Option.some.inj hy;exact C1 _
  | j+2,hx,_=>simp at hx
end
end Go.Proofs.YtiaebjpcgjkhoaaGreatDoor
namespace Go.Proofs.YtiaebjpcgjkhoaaGreatDoor
open Go.RowKit
theorem Ahi {c:Int} {l:List Int} {r:List Int × Int} (h:(l,c)=r):leO [] []/\VV.le (.tup [Ad true l,.sc (.int .i64 c)]) (.tup [Ad true r.1,.sc (.int .i64 r.2)]):=by
 subst h;exact ⟨trivial,VV.le_refl _⟩
theorem Agt {c:Int} {r:List Int × Int} (h:([],c)=r):leO [] []/\VV.le (.tup [.nl,.sc (.int .i64 c)]) (.tup [Ad true r.1,.sc (.int .i64 r.2)]):=by
 subst h;exact ⟨trivial,VV.le_tup ⟨VV.le_nil,VV.le_refl _,trivial⟩⟩
section
variable {e : D.Env}
theorem MV {s:D.Stmt} (hw:Ay e.M) (hs:A4 e.S) (hl:s.Args.length<=1048576) (hm:s.Match.length=s.Args.length) :
  Ai Tryz.prog 99 [] [.agg (Af e),.agg (Ap s)] [] (.tup [Ad true (CP e s).1,Aa (CP e s).2]):=by
 have hq:CP e s=bif decide (Ei (Ba e) s.Args s.Match s.Args.length≠0) then ([],Ei (Ba e) s.Args s.Match s.Args.length) else (Mj (Ba e) s.Args s.Match,0):=rfl
 generalize CP e s=r at hq
 generalize hev:Ba e=ev at hq
 have hS:∀ x,Ai Tryz.prog 39 [] [.agg (Af e),Aa x] [] (vII (ev x)):=fun x=>by rw [← hev];exact H9 hw hs x
 refine Ag Ak Aj Tryz.func99 (by kernel_rfl) rfl (Va r e s) ⟨⟨by omega,by omega,by omega⟩,?_⟩
 refine Bh Ak Aj (fun gg st=>∃ k:Nat,k<=s.Args.length/\gg=s.Args.length - k/\(∀ i,i<k->(DU ev (s.Args.getD i 0) (s.Match.getD i 0)).2=0)/\st=OE e s (B5 ev s.Args s.Match k) k) (by kernel_rfl) (by kernel_rfl)
  ⟨s.Args.length,Up.mk (l':=[(2,.bp 0 0),(3,.bp 1 0),(6,.ow 2 0 (B5 ev s.Args s.Match 0).length),(16,Ad true s.Args),(17,Aa s.Args.length),(18,Aa ((0:Nat):Int))])
   (hs':=[.box (Af e),.box (Ap s),.arr true 0 (B5 ev s.Args s.Match 0).length 1 (AG (B5 ev s.Args s.Match 0))]) ?_ ?_ ⟨0,Nat.zero_le _,rfl,fun i hi=>by omega,rfl⟩⟩ ?_
 ·rw [Cf];exact AY _
 ·rw [Cf]
  refine ⟨Ob.le_refl _,Ob.le_refl _,Ob.le_arr fun i hi=>A2 ?_,trivial⟩
  have hz:AG (B5 ev s.Args s.Match 0) i=[Aa 0]:=by
   unfold AG
   rw [EM (by omega),if_neg (Nat.not_lt_zero _)]
  refine Eq.trans ?_ hz.symm
  rfl
 ·rintro gg st ⟨k,hk,rfl,hI,rfl⟩
  refine Bb.raw (SJ r e s _ k _) ⟨fun hlt=>?_,fun hge=>Ahi ?_⟩
  ·have hlt':k<s.Args.length:=by have:=AQ hlt;omega
   have hto:(k:Int).toNat=k:=by omega
   rw [hto]
   refine ⟨by omega,by omega,fun hy=>?_,fun hy=>⟨ev (s.Args.getD k 0),hS _,fun hz=>Agt ?_,fun hz=>⟨by rw [Cf];omega,?_⟩⟩⟩
   ·rw [AJ] at hy
    have h1:=of_decide_eq_true hy
    have hv:DU ev (s.Args.getD k 0) (s.Match.getD k 0)=(0,0):=by unfold DU;rw [decide_eq_false h1]<;>rfl
    have e1:B5 ev s.Args s.Match k=B5 ev s.Args s.Match (k+1):=by
     unfold B5
     apply List.map_congr_left
     intro i _
     by_cases hik:i=k
     ·subst hik;rw [if_neg (Nat.lt_irrefl _),if_pos (Nat.lt_succ_self _),hv]
     ·by_cases hlt2:i<k
      ·rw [if_pos hlt2,if_pos (by omega)]
      ·rw [if_neg hlt2,if_neg (by omega)]
    rw [e1,Am (by omega)]
    exact ⟨s.Args.length - (k+1),by omega,Up.of ⟨k+1,by omega,rfl,BE hI (by rw [hv]),rfl⟩⟩
   ·have hm1:decide (s.Match.getD k 0=1)=true:=by rw [AJ] at hy;simpa using hy
    have hv:DU ev (s.Args.getD k 0) (s.Match.getD k 0)=ev (s.Args.getD k 0):=by unfold DU;rw [hm1]<;>rfl
    have hnz:(DU ev (s.Args.getD k 0) (s.Match.getD k 0)).2≠0:=by rw [hv];simpa using hz
    have he:Ei ev s.Args s.Match s.Args.length=(ev (s.Args.getD k 0)).2:=by
     unfold Ei
     rw [Pm (f:=fun i=>(DU ev (s.Args.getD i 0) (s.Match.getD i 0)).2) hI hnz hlt',hv]
    rw [hq,he]
    exact ct (by simpa using hz) rfl
   ·have hm1:decide (s.Match.getD k 0=1)=true:=by rw [AJ] at hy;simpa using hy
    have hv:DU ev (s.Args.getD k 0) (s.Match.getD k 0)=ev (s.Args.getD k 0):=by unfold DU;rw [hm1]<;>rfl
    have h2:(ev (s.Args.getD k 0)).2=0:=by simpa using hz
    rw [Am (by omega)]
    refine ⟨s.Args.length - (k+1),by omega,Up.mk (l':=[(2,.bp 0 0),(3,.bp 1 0),(6,.ow 2 0 (B5 ev s.Args s.Match (k+1)).length),(16,Ad true s.Args),(17,Aa s.Args.length),(18,Aa ((k+1:Nat):Int))])
     (hs':=[.box (Af e),.box (Ap s),.arr true 0 (B5 ev s.Args s.Match (k+1)).length 1 (AG (B5 ev s.Args s.Match (k+1)))]) ?_ ?_ ⟨k+1,by omega,rfl,BE hI (by rw [hv];exact h2),rfl⟩⟩
    ·rw [Cf,Cf];exact AY _
    ·rw [Cf,Cf]
     refine ⟨Ob.le_refl _,Ob.le_refl _,Ob.le_arr fun i hi=>A2 ?_,trivial⟩
     show (bif i.beq k then [Aa (ev (s.Args.getD k 0)).1] else [Aa ((B5 ev s.Args s.Match k).getD i 0)])=[Aa ((B5 ev s.Args s.Match (k+1)).getD i 0)]
     rw [EM hi,EM hi]
     cases hq:i.beq k with
     | true =>
      have:=Nat.eq_of_beq_eq_true hq;subst this
      rw [cond_true,if_pos (Nat.lt_succ_self _),hv]
     | false =>
      have:i≠k:=Nat.ne_of_beq_eq_false hq
      rw [cond_false]
      by_cases hlt2:i<k
      ·rw [if_pos hlt2,if_pos (by omega)]
      ·rw [if_neg hlt2,if_neg (by omega)]
  ·obtain rfl:k=s.Args.length:=by have:=AT hge;omega
   have he:Ei ev s.Args s.Match s.Args.length=0:=JS hI
   rw [hq,he,Od]<;>rfl
theorem UD {c:D.Chan} {l mt:List Int} {any:Bool} (hc:Len c.Queue.length) (hm:Len mt.length):Ai Tryz.prog 100 [] [.agg (AF c),Ad true l,Ad true mt,Ac any] [] (Aa (I4 c l mt any)) :=
 (Q2 hc hm).frz rfl fun j x y hx hy=>by
  match j,hx,hy with
  | 0,hx,hy=>obtain rfl:=Option.some.inj hx;obtain rfl:=Option.some.inj hy;exact C1 _
  | 1,hx,hy=>obtain rfl:=Option.some.inj hx;obtain rfl:=Option.some.inj hy;exact My
  | 2,hx,hy=>obtain rfl:=Option.some.inj hx;obtain rfl:=Option.some.inj hy;exact C1 _
  | 3,hx,hy=>obtain rfl:=Option.some.inj hx;obtain rfl:=Option.some.inj hy;exact C1 _
  | j+4,hx,_=>simp at hx
theorem MY {s:D.Stmt} (hw:Ay e.M) (hs:A4 e.S) (hl:s.Args.length<=1048576) (hm:s.Match.length=s.Args.length) :
  Ai Tryz.prog 67 [] [.agg (Af e),.agg (Ap s)] [] (Lb (A6 e s)):=by
 have hq:A6 e s=bif decide ((AC e s.A).2≠0) then (0,-1,(AC e s.A).2)
  else bif decide ((A8 e (AC e s.A).1).length≠s.Args.length) then (0,-1,49)
  else bif decide ((CP e s).2≠0) then (0,-1,(CP e s).2)
  else ((AC e s.A).1,I4 (Cl e (AC e s.A).1) (CP e s).1 s.Match (decide (s.N.tmod 2=1)),0):=rfl
 generalize A6 e s=r at hq
 refine Ag Ak Aj Tryz.func67 (by kernel_rfl) rfl (Vr r e s) ⟨AC e s.A,Ia hw hs s.A,fun h=>LV ?_,fun h=>?_⟩
 ·rw [hq,show decide ((AC e s.A).2≠0)=true by simpa using h]<;>rfl
 have h0:(AC e s.A).2=0:=by simpa using h
 rw [h0] at hq
 have hc:=I5 hw h0
 generalize (AC e s.A).1=n at hc hq ⊢
 have h1:=hc.lo
 have h2:=hc.hi
 have h3:=hc.le
 have h4:=hc.q
 rw [A1 (by omega) (by omega)]
 refine ⟨by omega,hc.sh,fun hf=>LV ?_,fun hf=>⟨CP e s,MV hw hs hl hm,fun ha=>LV ?_,fun ha=>⟨by omega,by decide,I4 (Cl e n) (CP e s).1 s.Match (s.N.tmod 2==1),UD (c:=Cl e n) (by unfold Len;omega) (by unfold Len;omega),LV ?_⟩⟩⟩
 ·rw [Fx] at hf
  rw [hq,show decide ((A8 e n).length≠s.Args.length)=true from hf]<;>rfl
 ·rw [Fx] at hf
  rw [hq,show decide ((A8 e n).length≠s.Args.length)=false from hf,show decide ((CP e s).2≠0)=true by simpa using ha]<;>rfl
 ·rw [Fx] at hf
  rw [hq,show decide ((A8 e n).length≠s.Args.length)=false from hf,show decide ((CP e s).2≠0)=false by simpa using ha,ieq]<;>rfl
theorem Ad9 {s:D.Stmt} (hw:Ay e.M) (hs:A4 e.S) (hl:s.Args.length<=1048576) (hm:s.Match.length=s.Args.length) :
  Ai Tryz.prog 67 [] [.agg (Bk e),.agg (Ap s)] [] (Lb (A6 e s)) :=
 (MY hw hs hl hm).thaw (Mr fun x hx=>by
  simp only [List.mem_cons,List.not_mem_nil,or_false] at hx
  rcases hx with rfl | rfl | rfl<;>exact O4) ⟨Le,Tc ⟨BS rfl,BS rfl,BS rfl,BS rfl,BS rfl,BS rfl,BS rfl,trivial⟩,trivial⟩
theorem SK {s:D.Stmt} {c:Int} {m:List Int} (hw:Ay e.M) (hs:A4 e.S) (hl:s.Args.length<=1048576) (hm:s.Kind=6->s.Match.length=s.Args.length) :
  Ai Tryz.prog 166 [] [.agg (Af e),.agg (Ap s),Aa c,Ad true m] [] (Ac (F7 e s c m)):=by
 have hq:F7 e s c m=bif decide (s.Kind≠6)||(decide (1<s.N)||decide (s.Args.length≠m.length)) then false
  else bif decide ((AC e s.A).2≠0)||decide ((AC e s.A).1≠c) then false
  else bif decide ((CP e s).2≠0) then false else decide (I4 ⟨0,[m]⟩ (CP e s).1 s.Match false=0):=rfl
 generalize F7 e s c m=b at hq
 have e1:(bif bif s.Kind != (6:Int) then true else decide (s.N > (1:Int)) then true else (s.Args.length:Int) != (m.length:Int))=(decide (s.Kind≠6)||(decide (1<s.N)||decide (s.Args.length≠m.length))):=by
  rw [Bd,Bd,AJ,Fx,Bool.or_assoc]
 refine Ag Ak Aj Tryz.func166 (by kernel_rfl) rfl (Vb b e s c m) ⟨fun h=>Ao ?_,fun h=>⟨AC e s.A,Ia hw hs s.A,fun h2=>Ao ?_,fun h2=>?_⟩⟩
 ·rw [e1] at h;rw [hq,h]<;>rfl
 ·rw [e1] at h
  rw [Bd,AJ,AJ] at h2
  rw [hq,h,h2]<;>rfl
 ·rw [e1] at h
  rw [Bd,AJ,AJ] at h2
  have hk:s.Kind=6:=by
   simp only [Bool.or_eq_false_iff,decide_eq_false_iff_not,Classical.not_not] at h
   exact h.1
  have hmm:=hm hk
  refine ⟨CP e s,MV hw hs hl hmm,I4 ⟨0,[m]⟩ (CP e s).1 s.Match false,fun _=>?_,Ao ?_⟩
  ·have hf:=UD (c:=⟨0,[m]⟩) (l:=(CP e s).1) (mt:=s.Match) (any:=false) (by unfold Len;simp) (by unfold Len;omega)
   refine hf.le trivial ⟨VV.le_agg ⟨VV.le_refl _,VV.le_sl (.inl rfl) fun i hi=>A2 ?_,trivial⟩,VV.le_refl _,VV.le_refl _,VV.le_refl _,trivial⟩ trivial (VV.le_refl _)
   obtain rfl:i=0:=by omega
   rfl
  ·rw [hq,h,h2,ieq,ieq]
   by_cases h3:(CP e s).2=0
   ·simp [h3]
   ·simp [h3]
theorem NZ (h:CH e):Ai Tryz.prog 29 [] [.agg (Af e)] [] (.tup [Ac (Bf e).1,Aa (Bf e).2]):=by
 have hq:Bf e=bif decide ((DF e).Provided<0) then (true,0) else (decide ((Ba e (DF e).Provided).1≠0),(Ba e (DF e).Provided).2):=rfl
 generalize Bf e=r at hq
 refine Ag Ak Aj Tryz.func29 (by kernel_rfl) rfl (YY r e) ⟨DF e,N0 h,fun h1=>⟨trivial,?_⟩,fun h1=>⟨Ba e (DF e).Provided,H9 h.ok.wf h.small _,trivial,?_⟩⟩
 ·rw [hq,h1];exact VV.le_refl _
 ·rw [hq,h1,AJ];exact VV.le_refl _
end
end Go.Proofs.YtiaebjpcgjkhoaaGreatDoor
namespace Go.Proofs.YtiaebjpcgjkhoaaGreatDoor
open Go.RowKit
theorem M2 {n:Nat}:∀ {ws:List (List D.Trans)} {many k many':Nat},Hr n many k ws=some many'->∀ w∈ws,w.length<=1024/\∀ t∈w,inP n t.To=true
 | [],_,_,_,_,w,hw=>by cases hw
 | v::r,many,k,many',h,w,hw=>by
  unfold Hr at h
  cases c1:(decide (0<k)&&decide (v.length=0)) with
  | true=>rw [c1,cond_true] at h;cases h
  | false =>
  cases c2:decide (1024<many+v.length) with
  | true=>rw [c1,c2,cond_false,cond_true] at h;cases h
  | false =>
  cases c3:Ce v.length (fun i=>inP n (v.getD i default).To) with
  | false=>rw [c1,c2,c3,cond_false,cond_false,cond_false] at h;cases h
  | true =>
   rw [c1,c2,c3,cond_false,cond_false,cond_true] at h
   rcases List.mem_cons.1 hw with rfl | hw
   ·have:=of_decide_eq_false c2
    exact ⟨by omega,(Ck (d:=default) (f:=fun t:D.Trans=>inP n t.To)).1 c3⟩
   ·exact M2 h w hw
theorem Pe {n:Nat} {final:Int}:∀ {ls:List D.Loc} {many i:Nat},IX n final many i ls=true->∀ l∈ls,∀ w∈BA l,w.length<=1024/\∀ t∈w,inP n t.To=true
 | [],_,_,_,l,hl,_,_=>by cases hl
 | v::r,many,i,h,l,hl,w,hw=>by
  unfold IX at h
  cases c1:Sf final i v with
  | true=>rw [c1,cond_true] at h;cases h
  | false =>
   rw [c1,cond_false] at h
   cases c2:Hr n many 0 (BA v) with
   | none=>rw [c2] at h;cases h
   | some many' =>
    rw [c2] at h
    rcases List.mem_cons.1 hl with rfl | hl
    ·exact M2 c2 w hw
    ·exact Pe h l hl w hw
theorem Xi {p:D.Proc} (h:EU p=true):∀ l∈p.Locs,∀ w∈BA l,w.length<=1024/\∀ t∈w,inP p.Locs.length t.To=true:=by
 unfold EU at h
 simp only [Bool.and_eq_true] at h
 exact Pe h.2
theorem AcX {m:D.Model} (h:FO m=true) (i:Nat) (hi:i<m.Procs.length):Dt m i=true:=by
 obtain ⟨_,_,h3⟩:=Dy h
 exact Jc (f:=fun i:Nat=>Dt m i) (by unfold IT at h3;omega) i hi
theorem AbZ {m:D.Model} (h:FO m=true) {i:Nat} (hi:i<m.Procs.length) {l:D.Loc} (hl:l∈(m.Procs.getD i default).Locs) {w:List D.Trans} (hw:w∈BA l) {t:D.Trans} (ht:t∈w):Mi m i t.S=true:=by
 have h1:=AcX h i hi
 unfold Dt at h1
 simp only [Bool.and_eq_true] at h1
 have h2:=(Ck (d:=default) (f:=fun l:D.Loc=>Se m i l)).1 h1.1 l hl
 unfold Se at h2
 have h3:=(Ck (d:=[]) (f:=fun w=>Kq m i w)).1 h2 w hw
 unfold Kq at h3
 exact (Ck (d:=default) (f:=fun t:D.Trans=>Mi m i t.S)).1 h3 t ht
structure FH (m:D.Model) (s:D.Stmt):Prop where
 st:Aq m s=true
 wf:Np s
theorem FH.args {m:D.Model} {s:D.Stmt} (h:FH m s):s.Args.length<=1048576:=h.wf.Args.1
theorem FH.k1 {m:D.Model} {s:D.Stmt} (h:FH m s) (hk:s.Kind=1):0<=s.A/\s.A<m.Exprs.length:=by
 have:=h.st
 unfold Aq at this
 rw [if_pos (.inl hk)] at this
 simp only [Bool.and_eq_true] at this
 exact Cz.1 this.1.1
theorem FH.k2 {m:D.Model} {s:D.Stmt} (h:FH m s) (hk:s.Kind=2):0<=s.B/\s.B<m.Exprs.length:=by
 have:=h.st
 unfold Aq at this
 rw [if_neg (by omega),if_pos hk] at this
 simp only [Bool.and_eq_true] at this
 exact Cz.1 this.1.2
theorem FH.k6 {m:D.Model} {s:D.Stmt} (h:FH m s) (hk:s.Kind=6):s.Match.length=s.Args.length:=by
 have:=h.st
 unfold Aq at this
 rw [if_neg (by omega),if_neg (by omega),if_neg (by omega),if_neg (by omega),if_pos hk] at this
 simp only [Bool.and_eq_true] at this
 have:=this.1.1.1.2
 unfold Ft Bt at this
 simp only [Bool.and_eq_true,decide_eq_true_eq] at this
 exact this.1.1.1.2
structure AbJ (m:D.Model) (n:Nat) (ws:List D.Trans):Prop where
 len:ws.length<=1024
 st:∀ t∈ws,FH m t.S
 to:∀ t∈ws,inP n t.To=true
section
variable {e : D.Env}
theorem CH.ws (h:CH e) {ws:List D.Trans} (hw:ws∈BA (Ct e)):AbJ e.M (DF e).Locs.length ws:=by
 have hf:=h.facts
 have hi:(Dp e e.Pid).Type_.toNat<e.M.Procs.length:=by omega
 have hl:Ct e∈(DF e).Locs:=Au (by omega)
 have hg:=Xi (F4 (Dy h.ok.may).2.1 _ hi).2 _ hl _ hw
 refine ⟨hg.1,fun t ht=>⟨?_,?_⟩,hg.2⟩
 ·have:=AbZ h.ok.may hi hl hw ht
  unfold Mi at this
  simp only [Bool.and_eq_true] at this
  exact this.1.1
 ·have hwl:=h.wloc
  rcases List.mem_cons.1 hw with rfl | hw
  ·exact (hwl.Out.2 t ht).S
  ·exact ((hwl.Esc.2 _ hw).2 t ht).S
theorem Ahj {b:Bool} {er:Int} {l:List Pn} {r:Ab} (h:(⟨b,er,l⟩:Ab)=r):leO [] []/\VV.le (.agg [.sc (.bool b),.sc (.int .i64 er),Cr true l]) (.agg (Bq r)):=by
 subst h;exact ⟨trivial,VV.le_refl _⟩
theorem Gl {b:Bool} {er:Int} {r:Ab} (h:(⟨b,er,[]⟩:Ab)=r):leO [] []/\VV.le (.agg [.sc (.bool b),.sc (.int .i64 er),.nl]) (.agg (Bq r)):=by
 subst h;exact ⟨trivial,VV.le_agg ⟨VV.le_refl _,VV.le_refl _,VV.le_nil,trivial⟩⟩
abbrev MtS (e:D.Env) (mt:Int->List Int->List Pn):Prop:=∀ c m,Ai Tryz.prog 115 [] [.agg (Af e),Aa c,Ad true m] [] (Cr true (mt c m))
theorem SL {s:D.Stmt} {self:Bool} {mt:Int->List Int->List Pn} (h:CH e) (hs:FH e.M s) (hmt:self=false->MtS e mt) :
  Ai Tryz.prog 78 [] [.agg (Af e),.agg (Ap s),Ac self] [] (.agg (Bq (HH e mt s self))):=by
 have hw:=h.ok.wf
 have hsm:=h.small
 have hq:HH e mt s self=bif decide ((AC e s.A).2≠0) then ⟨true,(AC e s.A).2,[]⟩
  else bif decide ((A8 e (AC e s.A).1).length≠s.Args.length) then ⟨true,49,[]⟩
  else bif decide (0<(BC e.M (Cl e (AC e s.A).1).Shape).Room) then ⟨decide (((Cl e (AC e s.A).1).Queue.length:Int)<(BC e.M (Cl e (AC e s.A).1).Shape).Room),0,[]⟩
  else bif self then ⟨false,0,[]⟩
  else bif decide ((Ax e s).2.2≠0) then ⟨true,(Ax e s).2.2,[]⟩
  else ⟨decide (0<(mt (AC e s.A).1 (Ax e s).2.1).length),0,mt (AC e s.A).1 (Ax e s).2.1⟩:=rfl
 generalize HH e mt s self=r at hq
 refine Ag Ak Aj Tryz.func78 (by kernel_rfl) rfl (Vf r e s self) ⟨AC e s.A,Ia hw hsm s.A,fun h1=>Gl ?_,fun h1=>?_⟩
 ·rw [hq,show decide ((AC e s.A).2≠0)=true by simpa using h1]<;>rfl
 have h0:(AC e s.A).2=0:=by simpa using h1
 rw [h0] at hq
 have hc:=I5 hw h0
 generalize (AC e s.A).1=n at hc hq ⊢
 have h2:=hc.lo
 have h3:=hc.hi
 have h4:=hc.le
 rw [A1 (by omega) (by omega)]
 refine ⟨by omega,hc.sh,fun hf=>Gl ?_,fun hf=>⟨fun hr=>Gl ?_,fun hr=>⟨fun hself=>Gl ?_,fun hself=>⟨Ax e s,Y5 hw hsm hs.args,fun ha=>Gl ?_,fun ha=>⟨mt n (Ax e s).2.1,hmt hself _ _,Ahj ?_⟩⟩⟩⟩⟩
 ·rw [Fx] at hf
  rw [hq,show decide ((A8 e n).length≠s.Args.length)=true from hf]<;>rfl
 ·rw [Fx] at hf
  rw [hq,show decide ((A8 e n).length≠s.Args.length)=false from hf,show decide (0<(BC e.M (Cl e n).Shape).Room)=true from hr]<;>rfl
 ·rw [Fx] at hf
  rw [hq,show decide ((A8 e n).length≠s.Args.length)=false from hf,show decide (0<(BC e.M (Cl e n).Shape).Room)=false from hr,hself]<;>rfl
 ·rw [Fx] at hf
  rw [hq,show decide ((A8 e n).length≠s.Args.length)=false from hf,show decide (0<(BC e.M (Cl e n).Shape).Room)=false from hr,hself,show decide ((Ax e s).2.2≠0)=true by simpa using ha]<;>rfl
 ·rw [Fx] at hf
  rw [hq,show decide ((A8 e n).length≠s.Args.length)=false from hf,show decide (0<(BC e.M (Cl e n).Shape).Room)=false from hr,hself,show decide ((Ax e s).2.2≠0)=false by simpa using ha]
  show _=(⟨decide (0<(mt n (Ax e s).2.1).length),0,mt n (Ax e s).2.1⟩:Ab)
  have:decide (((mt n (Ax e s).2.1).length:Int) > 0)=decide (0<(mt n (Ax e s).2.1).length):=by rw [Bool.eq_iff_iff,decide_eq_true_eq,decide_eq_true_eq];omega
  rw [this]
theorem Vc {s:D.Stmt} {self:Bool} {mt:Int->List Int->List Pn} (h:CH e) (hs:FH e.M s) (hmt:self=false->MtS e mt) :
  Ai Tryz.prog 49 [] [.agg (Af e),.agg (Ap s),Ac self] [] (.agg (Bq (CX e mt s self))):=by
 have hw:=h.ok.wf
 have hsm:=h.small
 have hq:CX e mt s self=if s.Kind=1 then (bif DE e s.A then M7 e else ⟨decide ((Ba e s.A).1≠0)||decide ((Ba e s.A).2≠0),(Ba e s.A).2,[]⟩)
  else if s.Kind=2 then (bif DE e s.B then M7 e else ⟨true,0,[]⟩)
  else if s.Kind=9 then ⟨decide (e.S.Chans.length<32),0,[]⟩
  else if s.Kind=5 then HH e mt s self
  else if s.Kind=6 then ⟨decide (0<=(A6 e s).2.1)||decide ((A6 e s).2.2≠0),(A6 e s).2.2,[]⟩
  else if s.Kind=7 then ⟨false,0,[]⟩ else ⟨true,0,[]⟩:=rfl
 generalize CX e mt s self=r at hq
 have lf:∀ {a:Ab},a=r->leO [] []/\VV.le (.agg (Bq a)) (.agg (Bq r)):=fun h=>by subst h;exact ⟨trivial,VV.le_refl _⟩
 refine Ag Ak Aj Tryz.func49 (by kernel_rfl) rfl (YR r e s self) ⟨fun k1=>⟨DE e s.A,Hp fun _=>(hs.k1 (by simpa using k1)).2,fun hr=>⟨M7 e,NY,lf ?_⟩,fun hr=>⟨Ba e s.A,H9 hw hsm _,Gl ?_⟩⟩,
  fun k1=>⟨fun k2=>⟨DE e s.B,Hp fun _=>(hs.k2 (by simpa using k2)).2,fun hr=>⟨M7 e,NY,lf ?_⟩,fun hr=>Gl ?_⟩,
  fun k2=>⟨fun k9=>Gl ?_,fun k9=>⟨fun k5=>⟨HH e mt s self,SL h hs hmt,lf ?_⟩,fun k5=>⟨fun k6=>⟨A6 e s,MY hw hsm hs.args (hs.k6 (by simpa using k6)),Gl ?_⟩,fun k6=>⟨fun k7=>Gl ?_,fun k7=>Gl ?_⟩⟩⟩⟩⟩⟩
 ·rw [hq,if_pos (by simpa using k1),hr]<;>rfl
 ·rw [hq,if_pos (by simpa using k1),hr,Bd,AJ,AJ]<;>rfl
 ·rw [hq,if_neg (by simpa using k1),if_pos (by simpa using k2),hr]<;>rfl
 ·rw [hq,if_neg (by simpa using k1),if_pos (by simpa using k2),hr]<;>rfl
 ·rw [hq,if_neg (by simpa using k1),if_neg (by simpa using k2),if_pos (by simpa using k9)]
  have:decide ((e.S.Chans.length:Int)<32)=decide (e.S.Chans.length<32):=by rw [Bool.eq_iff_iff,decide_eq_true_eq,decide_eq_true_eq];omega
  rw [this]
 ·rw [hq,if_neg (by simpa using k1),if_neg (by simpa using k2),if_neg (by simpa using k9),if_pos (by simpa using k5)]
 ·rw [hq,if_neg (by simpa using k1),if_neg (by simpa using k2),if_neg (by simpa using k9),if_neg (by simpa using k5),if_pos (by simpa using k6),Bd,AJ]
 ·rw [hq,if_neg (by simpa using k1),if_neg (by simpa using k2),if_neg (by simpa using k9),if_neg (by simpa using k5),if_neg (by simpa using k6),if_pos (by simpa using k7)]
 ·rw [hq,if_neg (by simpa using k1),if_neg (by simpa using k2),if_neg (by simpa using k9),if_neg (by simpa using k5),if_neg (by simpa using k6),if_neg (by simpa using k7)]
end
end Go.Proofs.YtiaebjpcgjkhoaaGreatDoor
namespace Go.Proofs.YtiaebjpcgjkhoaaGreatDoor
open Go.RowKit
section
variable {e : D.Env} {mt:Int->List Int->List Pn} {ws:List D.Trans} {self:Bool}
def Nn (e:D.Env) (mt:Int->List Int->List Pn) (ws:List D.Trans) (self:Bool) (k:Nat):List Ab:=(List.range ws.length).map fun i=>if i<k then CX e mt (ws.getD i default).S self else default
def L9 (e:D.Env) (mt:Int->List Int->List Pn) (ws:List D.Trans) (self:Bool) (k:Nat):List Ab:=(List.range ws.length).map fun i=>if i<k then Fi e mt ws self i else CX e mt (ws.getD i default).S self
theorem Px {k:Nat}:(Nn e mt ws self k).length=ws.length:=by simp [Nn]
theorem Ja {k:Nat}:(L9 e mt ws self k).length=ws.length:=by simp [L9]
theorem Ma {k i:Nat} (hi:i<ws.length):(Nn e mt ws self k).getD i default=if i<k then CX e mt (ws.getD i default).S self else default:=by simp [Nn,List.getD,hi]
theorem Pw {k i:Nat} (hi:i<ws.length):(L9 e mt ws self k).getD i default=if i<k then Fi e mt ws self i else CX e mt (ws.getD i default).S self:=by simp [L9,List.getD,hi]
theorem AdU : L9 e mt ws self ws.length=Cx e mt ws self:=by
 unfold L9 Cx
 apply List.map_congr_left
 intro i hi
 rw [if_pos (List.mem_range.1 hi)]
theorem AdV : Nn e mt ws self ws.length=L9 e mt ws self 0:=by
 unfold L9 Nn
 apply List.map_congr_left
 intro i hi
 rw [if_pos (List.mem_range.1 hi),if_neg (Nat.not_lt_zero _)]
theorem UW : (Cx e mt ws self).length=ws.length:=by simp [Cx]
theorem AdX {i k:Nat} (h:i≠k):Nat.beq i k=false:=by
 cases hq:Nat.beq i k with
 | true=>exact absurd (Nat.eq_of_beq_eq_true hq) h
 | false=>rfl
set_option maxRecDepth 10000 in
theorem Qd {n:Nat} (h:CH e) (hw:AbJ e.M n ws) (hmt:self=false->MtS e mt) :
  Ai Tryz.prog 32 [] [.agg (Af e),Av true ws,Ac self] [] (BZ true (Cx e mt ws self)):=by
 have hwl:=hw.len
 refine Ag Ak Aj Tryz.func32 (by kernel_rfl) rfl (AbR _ e ws self) ⟨⟨by omega,by omega,by omega⟩,?_⟩
 refine Bh Ak Aj (fun g st=>∃ k:Nat,k<=ws.length/\g=ws.length - k/\st=RB e ws self ws.length (Fu (Nn e mt ws self k)) (E9 e mt ws self k) k) (by kernel_rfl) (by kernel_rfl)
  ⟨ws.length,Up.mk (l':=[(1,Av true ws),(2,Ac self),(3,.bp 0 0),(7,.ow 1 0 ws.length),(8,Ac false),(16,Av true ws),(17,Aa ws.length),(18,Aa ((0:Nat):Int))]) (hs':=[.box (Af e),.arr true 0 ws.length 3 (Fu (Nn e mt ws self 0))]) (AY _) ⟨Ob.le_refl _,Ob.le_arr fun i hi=>?_,trivial⟩ ⟨0,Nat.zero_le _,rfl,rfl⟩⟩ ?_
 ·have hz:Fu (Nn e mt ws self 0) i=Bq default:=by
   unfold Fu
   rw [Ma (by omega),if_neg (Nat.not_lt_zero _)]
  rw [hz]
  exact ⟨VV.le_refl _,VV.le_refl _,VV.le_nil,trivial⟩
 rintro g st ⟨k,hk,rfl,rfl⟩
 refine Bb.raw (Zg _ e ws self _ _ _ k _) ⟨fun hlt=>?_,fun hge=>?_⟩
 ·have hlt':k<ws.length:=by have:=AQ hlt;omega
  have hto:(k:Int).toNat=k:=by omega
  rw [hto]
  refine ⟨⟨by omega,by omega⟩,CX e mt (ws.getD k default).S self,Vc h (hw.st _ (Au hlt')) hmt,⟨by omega,by omega⟩,?_⟩
  refine AA.le (hs':=[.box (Af e),.arr true 0 ws.length 3 (Fu (Nn e mt ws self (k+1)))]) (AY _) ⟨Ob.le_refl _,Ob.le_arr fun i hi=>A2 ?_,trivial⟩ ?_
  ·unfold Fu
   rw [Ma hi,Ma hi]
   by_cases hik:i=k
   ·subst hik
    rw [if_pos (Nat.lt_succ_self _),Nat.beq_refl,cond_true]<;>rfl
   ·rw [AdX hik,cond_false]
    by_cases h1:i<k
    ·rw [if_pos h1,if_pos (by omega)]
    ·rw [if_neg h1,if_neg (by omega)]
  ·have e0:AB [(1,Av true ws),(2,Ac self),(3,.bp 0 0),(7,.ow 1 0 ws.length),(8,Ac (E9 e mt ws self k)),(9,Aa k),(16,Av true ws),(17,Aa ws.length),(18,Aa k)] [.box (Af e),.arr true 0 ws.length 3 (Fu (Nn e mt ws self (k+1)))]=RA e ws self (Nn e mt ws self (k+1)) (E9 e mt ws self k) k k:=by
    unfold RA;rw [Px]
   refine Eq.mpr (congrArg (AA _ _) e0) ?_
   refine EC Ak Aj (by kernel_rfl) (Ze _ e ws self _ _ k k _) ⟨fun _=>by rw [Px];omega,ws.length - (k+1),by omega,Up.of ⟨k+1,hlt',rfl,?_⟩⟩
   rw [Am (by omega),hto,Ma hlt',if_pos (Nat.lt_succ_self _),Px]
   have:E9 e mt ws self (k+1)=bif E9 e mt ws self k then true else (CX e mt (ws.getD k default).S self).is:=by
    rw [Bd]<;>rfl
   unfold RB
   rw [this]<;>rfl
 ·obtain rfl:k=ws.length:=by have:=AT hge;omega
  generalize hsome:E9 e mt ws self ws.length=some
  refine Bh Ak Aj (fun g st=>∃ k:Nat,k<=ws.length/\g=ws.length - k/\st=Lk ws (L9 e mt ws self k) some k) (by kernel_rfl) (by kernel_rfl) ⟨ws.length,Up.of ⟨0,Nat.zero_le _,rfl,by unfold Lk;rw [Ja,AdV]<;>rfl⟩⟩ ?_
  rintro g st ⟨k,hk,rfl,rfl⟩
  refine Bb.raw (Zf _ ws _ some k _) ⟨fun hlt=>?_,fun hge=>⟨trivial,?_⟩⟩
  ·have hlt':k<ws.length:=by have:=AQ hlt;omega
   have hto:(k:Int).toNat=k:=by omega
   rw [hto]
   have ek:(bif (ws.getD k default).S.Kind==(7:Int) then !some else false)=(decide ((ws.getD k default).S.Kind=7)&&!(E9 e mt ws self ws.length)):=by rw [AM,ieq,hsome]
   have ea:Fi e mt ws self k=bif decide ((ws.getD k default).S.Kind=7)&&!(E9 e mt ws self ws.length) then { CX e mt (ws.getD k default).S self with is:=true } else CX e mt (ws.getD k default).S self:=rfl
   refine ⟨⟨by omega,by omega⟩,fun hy=>⟨by rw [Ja];omega,ws.length - (k+1),by omega,Up.mk (hs':=[.arr true 0 (L9 e mt ws self k).length 3 (Fu (L9 e mt ws self (k+1)))]) (AY _) ⟨Ob.le_arr fun i hi=>A2 ?_,trivial⟩ ⟨k+1,hlt',rfl,?_⟩⟩,fun hy=>⟨ws.length - (k+1),by omega,Up.of ⟨k+1,hlt',rfl,?_⟩⟩⟩
   ·rw [ek] at hy
    rw [Ja] at hi
    rw [Pw hlt',if_neg (Nat.lt_irrefl _)]
    unfold Fu
    rw [Pw hi,Pw hi]
    by_cases hik:i=k
    ·subst hik
     rw [if_pos (Nat.lt_succ_self _),Nat.beq_refl,cond_true,ea,hy,cond_true]<;>rfl
    ·rw [AdX hik,cond_false]
     by_cases h1:i<k
     ·rw [if_pos h1,if_pos (by omega)]<;>rfl
     ·rw [if_neg h1,if_neg (by omega)]<;>rfl
   ·rw [Am (by omega)]
    unfold Lk
    rw [Ja,Ja]<;>rfl
   ·rw [ek] at hy
    have em:L9 e mt ws self k=L9 e mt ws self (k+1):=by
     unfold L9
     apply List.map_congr_left
     intro i _
     by_cases hik:i=k
     ·subst hik
      rw [if_neg (Nat.lt_irrefl _),if_pos (Nat.lt_succ_self _),ea,hy,cond_false]
     ·by_cases h1:i<k
      ·rw [if_pos h1,if_pos (by omega)]
      ·rw [if_neg h1,if_neg (by omega)]
    rw [Am (by omega),em]<;>rfl
  ·obtain rfl:k=ws.length:=by have:=AT hge;omega
   rw [AdU];exact VV.le_refl _
end
end Go.Proofs.YtiaebjpcgjkhoaaGreatDoor
namespace Go.Proofs.YtiaebjpcgjkhoaaGreatDoor
open Go.RowKit
def Uv : Nat->List Ab->Int
 | _,[]=>-1
 | k,x::r=>bif x.is then (k:Int) else Uv (k+1) r
theorem QX {k:Nat} {x:Ab} {r:List Ab}:Uv k (x::r)=bif x.is then (k:Int) else Uv (k+1) r:=rfl
theorem QW : ∀ {l:List Ab} {k:Nat},decide (Uv k l>=0)=isSome l
 | [],k=>by simp [Uv,isSome]
 | x::r,k=>by
  have ih:=QW (l:=r) (k:=k+1)
  unfold isSome at *
  rw [List.any_cons,QX]
  cases x.is with
  | true=>simp
  | false=>rw [cond_false,ih,Bool.false_or]
abbrev Afw : VV:=.fn (.func 168) []
theorem Vl {x:Ab}:Ai Tryz.prog 168 [] [.agg (Bq x)] [] (Ac x.is) :=
 Ag Ak Aj Tryz.func168 (by kernel_rfl) rfl (Y8 _ x) (Ao rfl)
theorem Vo {l:List Ab} (hl:l.length<=1048576):Ai Tryz.prog 176 [] [BZ true l,Afw] [] (Aa (Uv 0 l)):=by
 refine Ag Ak Aj Tryz.func176 (by kernel_rfl) rfl (Za _ l) ?_
 refine AD Ak Aj l.length (fun k=>Nr l k) (fun k=>Uv 0 l=Uv k (l.drop k)) (by kernel_rfl) (by kernel_rfl) rfl ?_
 intro k hk hI J next
 refine Bb.raw (Vp _ l k J) ⟨fun hlt=>?_,fun hge=>BM ?_⟩
 ·have hlt':k<l.length:=by have:=AQ hlt;omega
  have hto:(k:Int).toNat=k:=by omega
  rw [hto]
  rw [B4 (d:=default) hlt',QX] at hI
  refine ⟨by omega,(l.getD k default).is,Vl,fun hy=>BM ?_,fun hy=>next _ hlt' ?_ (Up.of ?_)⟩
  ·rw [hy,cond_true] at hI;exact hI.symm
  ·rw [hy,cond_false] at hI;exact hI
  ·rw [Am (by omega)]<;>rfl
 ·have hge':l.length<=k:=by have:=AT hge;omega
  rw [hI,List.drop_of_length_le hge']<;>rfl
theorem SS {l:List Ab} (hl:l.length<=1048576):Ai Tryz.prog 167 [] [BZ true l,Afw] [] (Ac (isSome l)) :=
 Ag Ak Aj Tryz.func167 (by kernel_rfl) rfl (Vx _ l) ⟨_,Vo hl,Ao QW⟩
section
variable {e : D.Env} {c:Int} {m:List Int}
theorem QE {i:Int}:∀ {ws:List D.Trans} {k:Nat},(CE e c m i k ws).length<=ws.length
 | [],_=>Nat.le_refl _
 | t::r,k=>by
  have:=QE (i:=i) (ws:=r) (k:=k+1)
  unfold CE
  cases F7 e t.S c m<;>simp<;>omega
theorem WB {i:Int} {k:Nat} {t:D.Trans} {r:List D.Trans}:CE e c m i k (t::r)=(bif F7 e t.S c m then [⟨e.Pid,i,k⟩] else [])++CE e c m i (k+1) r:=rfl
theorem Agd {out:List Pn} {x:Pn} {G:Nat->List VV} (hG:G 0=KI x) {i:Nat} (hi:i<out.length+1):(bif i.blt out.length then Eo out i else G (i - out.length))=Eo (out++[x]) i :=
 Ca (f:=KI) (d:=default) (l:=out) (r:=[x]) (F:=Eo out) (fun _ _=>rfl) (fun j hj=>by
  obtain rfl:j=0:=by simpa using hj
  exact hG) (by simp;omega)
theorem P9 {n:Nat} {i:Int} {ws:List D.Trans} (h:CH e) (hw:AbJ e.M n ws) :
  Ai Tryz.prog 165 (hsR e c m []) [Aa i,Av true ws,.bp 0 0,.bp 1 0,.bp 2 0,.bp 3 0] (hsR e c m (CE e c m i 0 ws)) (Ac (decide (0<(CE e c m i 0 ws).length)||isSome (Cx e LS ws true))):=by
 have hwl:=hw.len
 generalize hr:CE e c m i 0 ws=r
 refine Ag Ak Aj Tryz.func165 (by kernel_rfl) rfl (AbN r [] _ e c m i ws) ?_
 refine Bh Ak Aj (fun g st=>∃ (k:Nat) (out:List Pn),k<=ws.length/\g=ws.length - k/\out.length<=k/\out++CE e c m i k (ws.drop k)=r/\st=OF e c m out i ws k) (by kernel_rfl) (by kernel_rfl) ⟨ws.length,Up.of ⟨0,[],Nat.zero_le _,rfl,Nat.zero_le _,hr,rfl⟩⟩ ?_
 rintro g st ⟨k,out,hk,rfl,ho,hq,rfl⟩
 refine Bb.raw (YX r _ e c m out i ws k _) ⟨fun hlt=>?_,fun hge=>?_⟩
 ·have hlt':k<ws.length:=by have:=AQ hlt;omega
  have hto:(k:Int).toNat=k:=by omega
  rw [hto]
  rw [B4 (d:=default) hlt',WB] at hq
  have hs:=hw.st _ (Au (d:=default) hlt')
  refine ⟨⟨by omega,by omega⟩,F7 e (ws.getD k default).S c m,SK h.ok.wf h.small hs.args hs.k6,fun hy=>⟨by omega,ws.length - (k+1),by omega,
   Up.mk (hs':=[.box (Af e),.box [Aa c],.box [Ad true m],.box [.ow 4 0 (out.length+1)],.arr true 0 (out.length+1) 3 (Eo (out++[Pn.mk e.Pid i k]))]) (AY _) ⟨Ob.le_refl _,Ob.le_refl _,Ob.le_refl _,Ob.le_refl _,Ob.le_arr fun j hj=>A2 (Agd (x:=Pn.mk e.Pid i k) (G:=fun j=>List.take 3 (List.drop (j*3) (KI (Pn.mk e.Pid i k)))) rfl hj),trivial⟩ ⟨k+1,out++[Pn.mk e.Pid i k],hlt',rfl,by simp;omega,?_,?_⟩⟩,fun hy=>⟨ws.length - (k+1),by omega,Up.of ⟨k+1,out,hlt',rfl,by omega,?_,?_⟩⟩⟩
  ·rw [hy,cond_true] at hq;rw [List.append_assoc];exact hq
  ·rw [Am (by omega)]
   unfold OF hsR
   rw [List.length_append]<;>rfl
  ·rw [hy,cond_false,List.nil_append] at hq;exact hq
  ·rw [Am (by omega)]<;>rfl
 ·have hge':ws.length<=k:=by have:=AT hge;omega
  rw [List.drop_of_length_le hge'] at hq
  have hq:out=r:=by simpa [CE] using hq
  subst hq
  refine ⟨Cx e LS ws true,fun _=>Qd h hw (fun h=>by cases h),isSome (Cx e LS ws true),fun _=>SS (by rw [UW];omega),⟨Ob.le_refl _,Ob.le_refl _,Ob.le_refl _,Ob.le_refl _,Ob.le_refl _,trivial⟩,VV.le_eq ?_⟩
  have:decide ((out.length:Int) > 0)=decide (0<out.length):=by rw [Bool.eq_iff_iff,decide_eq_true_eq,decide_eq_true_eq];omega
  rw [Bd,this]
theorem Kt {i:Int} {ws:List D.Trans} {r:List (Int × List D.Trans)}:G7 e c m ((i,ws)::r)=bif decide (0<(CE e c m i 0 ws).length)||isSome (Cx e LS ws true) then CE e c m i 0 ws else G7 e c m r:=rfl
theorem Rj {n:Nat} {l:D.Loc} (h:CH e) (hl:l.Esc.length<=1048576) (hw:∀ ws∈BA l,AbJ e.M n ws) :
  Ai Tryz.prog 30 (hsR e c m []) [.agg (A9 l),AgH] (hsR e c m (G7 e c m (ET l))) (.tup []):=by
 generalize hr:G7 e c m (ET l)=r
 refine Ag Ak Aj Tryz.func30 (by kernel_rfl) rfl (SQ r [] e c m l) ?_
 refine Bh Ak Aj (fun g st=>∃ k:Nat,k<=l.Esc.length/\g=l.Esc.length - k/\G7 e c m (UM k (l.Esc.drop k)++[(-1,l.Out)])=r/\st=Ju e c m [] l k) (by kernel_rfl) (by kernel_rfl) ⟨l.Esc.length,Up.of ⟨0,Nat.zero_le _,rfl,hr,rfl⟩⟩ ?_
 rintro g st ⟨k,hk,rfl,hq,rfl⟩
 refine Bb.raw (Rk r e c m [] l k _) ⟨fun hlt=>?_,fun hge=>?_⟩
 ·have hlt':k<l.Esc.length:=by have:=AQ hlt;omega
  have hto:(k:Int).toNat=k:=by omega
  rw [hto]
  rw [B4 (d:=[]) hlt'] at hq
  unfold UM at hq
  rw [List.cons_append,Kt] at hq
  refine ⟨⟨by omega,by omega⟩,(CE e c m k 0 (l.Esc.getD k []),decide (0<(CE e c m k 0 (l.Esc.getD k [])).length)||isSome (Cx e LS (l.Esc.getD k []) true)),P9 h (hw _ (List.mem_cons_of_mem _ (Au hlt'))),fun hy=>?_,fun hy=>⟨l.Esc.length - (k+1),by omega,Up.of ⟨k+1,hlt',rfl,?_,?_⟩⟩⟩
  ·have hy:(decide (0<(CE e c m k 0 (l.Esc.getD k [])).length)||isSome (Cx e LS (l.Esc.getD k []) true))=true:=hy
   rw [hy,cond_true] at hq
   subst hq
   exact ⟨⟨Ob.le_refl _,Ob.le_refl _,Ob.le_refl _,Ob.le_refl _,Ob.le_refl _,trivial⟩,VV.le_refl _⟩
  ·have hy:(decide (0<(CE e c m k 0 (l.Esc.getD k [])).length)||isSome (Cx e LS (l.Esc.getD k []) true))=false:=hy
   rw [hy,cond_false] at hq;exact hq
  ·have hy:(decide (0<(CE e c m k 0 (l.Esc.getD k [])).length)||isSome (Cx e LS (l.Esc.getD k []) true))=false:=hy
   rw [Bool.or_eq_false_iff] at hy
   have h0:CE e c m k 0 (l.Esc.getD k [])=[]:=List.eq_nil_of_length_eq_zero (by have:=of_decide_eq_false hy.1;omega)
   rw [Am (by omega)]
   show AB _ [_,_,_,.box [.ow 4 0 (CE e c m k 0 (l.Esc.getD k [])).length],.arr true 0 (CE e c m k 0 (l.Esc.getD k [])).length 3 (Eo (CE e c m k 0 (l.Esc.getD k []))),_]=_
   rw [h0]<;>rfl
 ·have hge':l.Esc.length<=k:=by have:=AT hge;omega
  rw [List.drop_of_length_le hge'] at hq
  refine ⟨(CE e c m (-1) 0 l.Out,decide (0<(CE e c m (-1) 0 l.Out).length)||isSome (Cx e LS l.Out true)),P9 h (hw _ (List.mem_cons_self ..)),?_,VV.le_refl _⟩
  have h0:CE e c m (-1) 0 l.Out=r:=by
   rw [← hq]
   show _=G7 e c m ([]++[(-1,l.Out)])
   rw [List.nil_append,Kt]
   cases hy:(decide (0<(CE e c m (-1) 0 l.Out).length)||isSome (Cx e LS l.Out true)) with
   | true=>rfl
   | false =>
    rw [Bool.or_eq_false_iff] at hy
    exact List.eq_nil_of_length_eq_zero (by have:=of_decide_eq_false hy.1;omega)
  subst h0
  exact ⟨Ob.le_refl _,Ob.le_refl _,Ob.le_refl _,Ob.le_refl _,Ob.le_refl _,trivial⟩
theorem QC {N:Nat}:∀ {ls:List (Int × List D.Trans)},(∀ p∈ls,p.2.length<=N)->(G7 e c m ls).length<=N
 | [],_=>Nat.zero_le _
 | (i,ws)::r,h=>by
  have h1:=h _ (List.mem_cons_self ..)
  have h2:=QC (ls:=r) fun p hp=>h p (List.mem_cons_of_mem _ hp)
  have h3:=QE (e:=e) (c:=c) (m:=m) (i:=i) (ws:=ws) (k:=0)
  rw [Kt]
  cases (decide (0<(CE e c m i 0 ws).length)||isSome (Cx e LS ws true)) with
  | true=>rw [cond_true];exact Nat.le_trans h3 h1
  | false=>exact h2
theorem QM : ∀ {r:List (List D.Trans)} {k:Nat} {p:Int × List D.Trans},p∈UM k r->p.2∈r
 | [],_,_,h=>by cases h
 | w::r,k,p,h=>by
  rcases List.mem_cons.1 h with rfl | h
  ·exact List.mem_cons_self ..
  ·exact List.mem_cons_of_mem _ (QM h)
theorem W4 {l:D.Loc} {p:Int × List D.Trans} (h:p∈ET l):p.2∈BA l:=by
 rcases List.mem_append.1 h with h | h
 ·exact List.mem_cons_of_mem _ (QM h)
 ·rw [List.mem_singleton.1 h];exact List.mem_cons_self ..
theorem QF (h:CH e):(Ge e c m).length<=1024:=by
 unfold Ge
 cases (!(Bf e).1||decide ((Bf e).2≠0)) with
 | true=>exact Nat.zero_le _
 | false=>exact QC fun p hp=>(h.ws (W4 hp)).len
theorem Vh (h:CH e):Ai Tryz.prog 145 [] [.agg (Af e),Aa c,Ad true m] [] (Cr true (Ge e c m)):=by
 have hq:Ge e c m=bif !(Bf e).1||decide ((Bf e).2≠0) then [] else G7 e c m (ET (Ct e)):=rfl
 generalize Ge e c m=r at hq
 refine Ag Ak Aj Tryz.func145 (by kernel_rfl) rfl (YW r e c m) ⟨Bf e,NZ h,fun h1=>?_,fun h1=>⟨Ct e,GW h,r,?_,trivial,VV.le_refl _⟩⟩
 ·rw [Bd,AJ] at h1
  rw [h1,cond_true] at hq
  rw [hq]
  exact ⟨trivial,VV.le_nil⟩
 ·rw [Bd,AJ] at h1
  rw [h1,cond_false] at hq
  rw [hq]
  exact Ai.ownB (i:=3) (j:=0) (cs:=[.nl]) rfl rfl 3 (Eo []) (Rj h h.wloc.Esc.1 fun ws hw=>h.ws hw)
theorem CH.at (h:CH e) {k:Nat} (hk:k<e.S.Procs.length):CH (CI e k):=⟨⟨h.ok.fits,h.ok.may,h.ok.wf,by show -1<=(k:Int);omega,by show (k:Int)<_;exact Int.ofNat_lt.2 hk⟩,by show 0<=(k:Int);omega⟩
theorem Kw (h:CH e):∀ {n:Nat},n<=e.S.Procs.length->(DD e c m n).length<=n*1024
 | 0,_=>Nat.zero_le _
 | n+1,hn=>by
  have h1:=Kw h (n:=n) (by omega)
  have h2:=QF (c:=c) (m:=m) (h.at (k:=n) (by omega))
  unfold DD
  rw [List.length_append]
  cases decide ((n:Int)≠e.Pid) with
  | true=>rw [cond_true];omega
  | false=>rw [cond_false,List.length_nil,Nat.add_zero];exact Nat.le_trans h1 (Nat.mul_le_mul_right _ (Nat.le_succ n))
set_option maxRecDepth 10000 in
theorem SN (h:CH e):MtS e (Bm e):=by
 intro c m
 have hp:=h.ok.fit.p
 refine Ag Ak Aj Tryz.func115 (by kernel_rfl) rfl (Vj _ e c m) ?_
 refine AA.own 3 7 3 (Eo []) rfl ?_
 refine Bh Ak Aj (fun g st=>∃ k:Nat,k<=e.S.Procs.length/\g=e.S.Procs.length - k/\st=Lj e c m (DD e c m k) k) (by kernel_rfl) (by kernel_rfl) ⟨e.S.Procs.length,Up.of ⟨0,Nat.zero_le _,rfl,rfl⟩⟩ ?_
 rintro g st ⟨k,hk,rfl,rfl⟩
 have hlen:=Kw (c:=c) (m:=m) h hk
 refine Bb.raw (SO _ e c m _ k _) ⟨fun hlt=>?_,fun hge=>⟨trivial,?_⟩⟩
 ·have hlt':k<e.S.Procs.length:=by have:=AQ hlt;omega
  have hr:=QF (c:=c) (m:=m) (h.at hlt')
  refine ⟨fun hy=>⟨Ge (CI e k) c m,Vh (h.at hlt'),by omega,fun i _=>rfl,e.S.Procs.length - (k+1),by omega,
   Up.mk (hs':=[.box (Af e),.arr true 0 ((DD e c m k).length+(Ge (CI e k) c m).length) 3 (Eo (DD e c m k++Ge (CI e k) c m))]) (AY _) ⟨Ob.le_refl _,Ob.le_arr fun i hi=>A2 ?_,trivial⟩ ⟨k+1,hlt',rfl,?_⟩⟩,fun hy=>⟨e.S.Procs.length - (k+1),by omega,Up.of ⟨k+1,hlt',rfl,?_⟩⟩⟩
  ·exact Ca (f:=KI) (d:=default) (l:=DD e c m k) (r:=Ge (CI e k) c m) (F:=Eo (DD e c m k)) (fun _ _=>rfl) (fun _ _=>rfl) (by simpa using hi)
  ·rw [AJ] at hy
   have e1:DD e c m (k+1)=DD e c m k++Ge (CI e k) c m:=by
    show DD e c m k++(bif decide ((k:Int)≠e.Pid) then _ else _)=_
    rw [hy,cond_true]
   rw [Am (by omega),e1]
   unfold Lj
   rw [List.length_append]<;>rfl
  ·rw [AJ] at hy
   have e1:DD e c m (k+1)=DD e c m k:=by
    show DD e c m k++(bif decide ((k:Int)≠e.Pid) then _ else _)=_
    rw [hy,cond_false,List.append_nil]
   rw [Am (by omega),e1]<;>rfl
 ·obtain rfl:k=e.S.Procs.length:=by have:=AT hge;omega
  exact VV.le_refl _
end
end Go.Proofs.YtiaebjpcgjkhoaaGreatDoor
namespace Go.Proofs.YtiaebjpcgjkhoaaGreatDoor
open Go.RowKit
section
variable {e : D.Env}
theorem W5 (h:CH e) {c:Int} {m:List Int}:(Bm e c m).length<=16384:=by
 have h1:=Kw (c:=c) (m:=m) h (Nat.le_refl _)
 have h2:=h.ok.fit.p
 have h3:e.S.Procs.length*1024<=16*1024:=Nat.mul_le_mul_right _ h2
 exact Nat.le_trans h1 h3
theorem ZK (h:CH e) {s:D.Stmt} {self:Bool}:(CX e (Bm e) s self).wth.length<=16384:=by
 have hz:([]:List Pn).length<=16384:=Nat.zero_le _
 unfold CX
 split
 ·cases DE e s.A<;>exact hz
 split
 ·cases DE e s.B<;>exact hz
 split
 ·exact hz
 split
 ·unfold HH
  cases decide ((AC e s.A).2≠0)
  ·cases decide ((A8 e (AC e s.A).1).length≠s.Args.length)
   ·cases decide (0<(BC e.M (Cl e (AC e s.A).1).Shape).Room)
    ·cases self
     ·cases decide ((Ax e s).2.2≠0)
      ·exact W5 h
      ·exact hz
     ·exact hz
    ·exact hz
   ·exact hz
  ·exact hz
 split
 ·exact hz
 split<;>exact hz
theorem Abx {mt:Int->List Int->List Pn} {ws:List D.Trans} {self:Bool} {i:Nat}:(Fi e mt ws self i).wth=(CX e mt (ws.getD i default).S self).wth:=by
 unfold Fi
 cases (decide ((ws.getD i default).S.Kind=7)&&!(E9 e mt ws self ws.length))<;>rfl
theorem UV (h:CH e) {ws:List D.Trans} {self:Bool}:∀ x∈Cx e (Bm e) ws self,x.wth.length<=16384:=by
 intro x hx
 unfold Cx at hx
 obtain ⟨i,_,rfl⟩:=List.mem_map.1 hx
 rw [Abx]
 exact ZK h
theorem Qj {i:Int} {k:Nat} {x:Ab} {r:List Ab}:CT i k (x::r)=F6 i k x++CT i (k+1) r:=rfl
theorem AcM {out:List Wy} {x:Wy} {G:Nat->List VV} (hG:G 0=Bu x) {i:Nat} (hi:i<out.length+1):(bif i.blt out.length then HU out i else G (i - out.length))=HU (out++[x]) i :=
 Ca (f:=Bu) (d:=default) (l:=out) (r:=[x]) (F:=HU out) (fun _ _=>rfl) (fun j hj=>by
  obtain rfl:j=0:=by simpa using hj
  exact hG) (by simp;omega)
theorem Age {a k j w:Nat} (h:a<=k*16385+1+j) (h1:j<=w) (h2:w<=16384):a<=(k+1)*16385:=by
 rw [Nat.succ_mul]
 generalize k*16385=t at h ⊢
 omega
set_option maxRecDepth 10000 in
theorem Qa {n:Nat} {i:Int} {ws:List D.Trans} (h:CH e) (hw:AbJ e.M n ws) :
  Ai Tryz.prog 31 (hsW e []) [Aa i,Av true ws,.bp 0 0,.bp 1 0] (hsW e (CT i 0 (Cx e (Bm e) ws false))) (Ac (decide (0<(CT i 0 (Cx e (Bm e) ws false)).length))):=by
 have hL:(Cx e (Bm e) ws false).length<=1024:=by rw [UW];exact hw.len
 have hwth:=UV h (ws:=ws) (self:=false)
 have hcan:=Qd h hw (self:=false) (fun _=>SN h)
 generalize Cx e (Bm e) ws false=L at hL hwth hcan
 generalize hr:CT i 0 L=r
 refine Ag Ak Aj Tryz.func31 (by kernel_rfl) rfl (AbO r [] _ e i ws) ⟨L,hcan,?_⟩
 refine Bh Ak Aj (fun g st=>∃ (k:Nat) (out:List Wy),k<=L.length/\g=L.length - k/\out.length<=k*16385/\out++CT i k (L.drop k)=r/\st=Hw e out i L k) (by kernel_rfl) (by kernel_rfl) ⟨L.length,Up.of ⟨0,[],Nat.zero_le _,rfl,Nat.zero_le _,hr,rfl⟩⟩ ?_
 rintro g st ⟨k,out,hk,rfl,ho,hq,rfl⟩
 refine Bb.raw (Y3 r _ e out i L k _) ⟨fun hlt=>?_,fun hge=>?_⟩
 ·have hlt':k<L.length:=by have:=AQ hlt;omega
  have hto:(k:Int).toNat=k:=by omega
  rw [hto]
  rw [B4 (d:=default) hlt',Qj] at hq
  have hx:=hwth _ (Au (d:=default) hlt')
  generalize L.getD k default=x at hq hx ⊢
  have hko:k*16385<=1024*16385:=Nat.mul_le_mul_right _ (by omega)
  have key:∀ (J:St->Prop) (out1:List Wy),out1.length<=k*16385+1->out1++(x.wth.map (IA i k x.err)++CT i (k+1) (L.drop (k+1)))=r ->
    (∀ st',Up (fun st=>∃ out2:List Wy,out2.length<=(k+1)*16385/\out2++CT i (k+1) (L.drop (k+1))=r/\st=Hw e out2 i L ((k+1:Nat):Int)) st'->J st') ->
    AA ((BP Tryz.prog tb Cs Gu true Tryz.f31 (hsW e r) (Ac (decide (0<r.length)))).loop [1,0,1,0] J) [1,1,0,0,1,1,1,1,0] (Li e out1 i L k ⟨i,k,-1,-1,-1,x.err⟩ x.wth 0):=by
   intro J out1 ho1 hq1 hJ
   refine Bh Ak Aj (fun g st=>∃ (j:Nat) (w:Wy) (o:List Wy),j<=x.wth.length/\g=x.wth.length - j/\o.length<=k*16385+1+j/\o++((x.wth.drop j).map (IA i k x.err)++CT i (k+1) (L.drop (k+1)))=r/\(w.Esc=i/\w.Way=k/\w.Err=x.err)/\st=Li e o i L k w x.wth j) (by kernel_rfl) (by kernel_rfl)
    ⟨x.wth.length,Up.of ⟨0,_,out1,Nat.zero_le _,rfl,ho1,hq1,⟨rfl,rfl,rfl⟩,rfl⟩⟩ ?_
   rintro g st ⟨j,w,o,hj,rfl,hol,hoq,⟨w1,w2,w3⟩,rfl⟩
   refine Bb.raw (Y2 r _ e o i L k w x.wth j _ _) ⟨fun hlt2=>?_,fun hge2=>?_⟩
   ·have hlt2':j<x.wth.length:=by have:=AQ hlt2;omega
    have hto2:(j:Int).toNat=j:=by omega
    rw [hto2]
    rw [B4 (d:=default) hlt2',List.map_cons,List.cons_append] at hoq
    generalize x.wth.getD j default=p at hoq ⊢
    rw [w1,w2,w3]
    refine ⟨⟨by omega,by omega⟩,by omega,x.wth.length - (j+1),by omega,Up.mk (hs':=[.box (Af e),.box [.ow 2 0 (o.length+1)],.arr true 0 (o.length+1) 6 (HU (o++[IA i k x.err p])),.box (Bu (IA i k x.err p))]) (AY _)
     ⟨Ob.le_refl _,Ob.le_refl _,Ob.le_arr fun t ht=>A2 (AcM (x:=IA i k x.err p) (G:=fun t=>List.take 6 (List.drop (t*6) (Bu (IA i k x.err p)))) rfl ht),Ob.le_refl _,trivial⟩ ⟨j+1,IA i k x.err p,o++[IA i k x.err p],hlt2',rfl,by simp;omega,by rw [List.append_assoc];exact hoq,⟨rfl,rfl,rfl⟩,?_⟩⟩
    rw [Am (by omega)]
    unfold Li hsW
    rw [List.length_append]<;>rfl
   ·have hge2':x.wth.length<=j:=by have:=AT hge2;omega
    rw [List.drop_of_length_le hge2',List.map_nil,List.nil_append] at hoq
    refine hJ _ (Up.of ⟨o,Age hol hj hx,hoq,?_⟩)
    rw [Am (by omega)]<;>rfl
  have next:∀ st',Up (fun st=>∃ out2:List Wy,out2.length<=(k+1)*16385/\out2++CT i (k+1) (L.drop (k+1))=r/\st=Hw e out2 i L ((k+1:Nat):Int)) st' ->
    ∃ g',g'<L.length - k/\Up (fun st=>∃ (k:Nat) (out:List Wy),k<=L.length/\g'=L.length - k/\out.length<=k*16385/\out++CT i k (L.drop k)=r/\st=Hw e out i L k) st':=by
   rintro st' ⟨s',hc,out2,h1,h2,h3⟩
   exact ⟨L.length - (k+1),by omega,s',hc,k+1,out2,hlt',rfl,h1,h2,h3⟩
  have ez:((x.wth.length:Int)==0)=decide (x.wth.length=0):=by rw [Bool.eq_iff_iff,beq_iff_eq,decide_eq_true_eq];omega
  refine ⟨⟨by omega,by omega⟩,fun hy=>⟨by omega,?_⟩,fun hy=>?_⟩
  ·rw [AM,ez] at hy
   have hw0:F6 i k x=Wy.mk i k (-1) (-1) (-1) x.err::x.wth.map (IA i k x.err):=by unfold F6;rw [hy]<;>rfl
   rw [hw0] at hq
   refine AA.le (hs':=[.box (Af e),.box [.ow 2 0 (out.length+1)],.arr true 0 (out.length+1) 6 (HU (out++[Wy.mk i k (-1) (-1) (-1) x.err])),.box (Bu (Wy.mk i k (-1) (-1) (-1) x.err))]) (AY _)
     ⟨Ob.le_refl _,Ob.le_refl _,Ob.le_arr fun t ht=>A2 (AcM (x:=Wy.mk i k (-1) (-1) (-1) x.err) (G:=fun t=>List.take 6 (List.drop (t*6) (Bu (Wy.mk i k (-1) (-1) (-1) x.err)))) rfl ht),Ob.le_refl _,trivial⟩ ?_
   have hk1:=key _ (out++[Wy.mk i k (-1) (-1) (-1) x.err]) (by simp;omega) (by rw [List.append_assoc];exact hq) next
   unfold Li hsW at hk1
   rw [List.length_append] at hk1
   exact hk1
  ·rw [AM,ez] at hy
   have hw0:F6 i k x=x.wth.map (IA i k x.err):=by unfold F6;rw [hy]<;>rfl
   rw [hw0] at hq
   exact key _ out (Nat.le_succ_of_le ho) hq next
 ·have hge':L.length<=k:=by have:=AT hge;omega
  rw [List.drop_of_length_le hge'] at hq
  have hq:out=r:=by simpa [CT] using hq
  subst hq
  refine ⟨⟨Ob.le_refl _,Ob.le_refl _,Ob.le_refl _,trivial⟩,VV.le_eq ?_⟩
  have:decide ((out.length:Int) > 0)=decide (0<out.length):=by rw [Bool.eq_iff_iff,decide_eq_true_eq,decide_eq_true_eq];omega
  rw [this]
theorem O5 {i:Int} {ws:List D.Trans} {r:List (Int × List D.Trans)}:Fc e ((i,ws)::r)=bif decide (0<(CT i 0 (Cx e (Bm e) ws false)).length) then CT i 0 (Cx e (Bm e) ws false) else Fc e r:=rfl
theorem Rh {n:Nat} {l:D.Loc} (h:CH e) (hl:l.Esc.length<=1048576) (hw:∀ ws∈BA l,AbJ e.M n ws) :
  Ai Tryz.prog 30 (hsW e []) [.agg (A9 l),AgG] (hsW e (Fc e (ET l))) (.tup []):=by
 generalize hr:Fc e (ET l)=r
 refine Ag Ak Aj Tryz.func30 (by kernel_rfl) rfl (SP r [] e l) ?_
 refine Bh Ak Aj (fun g st=>∃ k:Nat,k<=l.Esc.length/\g=l.Esc.length - k/\Fc e (UM k (l.Esc.drop k)++[(-1,l.Out)])=r/\st=Jt e [] l k) (by kernel_rfl) (by kernel_rfl) ⟨l.Esc.length,Up.of ⟨0,Nat.zero_le _,rfl,hr,rfl⟩⟩ ?_
 rintro g st ⟨k,hk,rfl,hq,rfl⟩
 refine Bb.raw (Ri r e [] l k _) ⟨fun hlt=>?_,fun hge=>?_⟩
 ·have hlt':k<l.Esc.length:=by have:=AQ hlt;omega
  have hto:(k:Int).toNat=k:=by omega
  rw [hto]
  rw [B4 (d:=[]) hlt'] at hq
  unfold UM at hq
  rw [List.cons_append,O5] at hq
  refine ⟨⟨by omega,by omega⟩,(CT k 0 (Cx e (Bm e) (l.Esc.getD k []) false),decide (0<(CT k 0 (Cx e (Bm e) (l.Esc.getD k []) false)).length)),Qa h (hw _ (List.mem_cons_of_mem _ (Au hlt'))),fun hy=>?_,fun hy=>⟨l.Esc.length - (k+1),by omega,Up.of ⟨k+1,hlt',rfl,?_,?_⟩⟩⟩
  ·have hy:decide (0<(CT k 0 (Cx e (Bm e) (l.Esc.getD k []) false)).length)=true:=hy
   rw [hy,cond_true] at hq
   subst hq
   exact ⟨⟨Ob.le_refl _,Ob.le_refl _,Ob.le_refl _,trivial⟩,VV.le_refl _⟩
  ·have hy:decide (0<(CT k 0 (Cx e (Bm e) (l.Esc.getD k []) false)).length)=false:=hy
   rw [hy,cond_false] at hq;exact hq
  ·have hy:decide (0<(CT k 0 (Cx e (Bm e) (l.Esc.getD k []) false)).length)=false:=hy
   have h0:CT k 0 (Cx e (Bm e) (l.Esc.getD k []) false)=[]:=List.eq_nil_of_length_eq_zero (by have:=of_decide_eq_false hy;omega)
   rw [Am (by omega)]
   show AB _ [_,.box [.ow 2 0 (CT k 0 (Cx e (Bm e) (l.Esc.getD k []) false)).length],.arr true 0 (CT k 0 (Cx e (Bm e) (l.Esc.getD k []) false)).length 6 (HU (CT k 0 (Cx e (Bm e) (l.Esc.getD k []) false))),_]=_
   rw [h0]<;>rfl
 ·have hge':l.Esc.length<=k:=by have:=AT hge;omega
  rw [List.drop_of_length_le hge'] at hq
  refine ⟨(CT (-1) 0 (Cx e (Bm e) l.Out false),decide (0<(CT (-1) 0 (Cx e (Bm e) l.Out false)).length)),Qa h (hw _ (List.mem_cons_self ..)),?_,VV.le_refl _⟩
  have h0:CT (-1) 0 (Cx e (Bm e) l.Out false)=r:=by
   rw [← hq]
   show _=Fc e ([]++[(-1,l.Out)])
   rw [List.nil_append,O5]
   cases hy:decide (0<(CT (-1) 0 (Cx e (Bm e) l.Out false)).length) with
   | true=>rfl
   | false=>exact List.eq_nil_of_length_eq_zero (by have:=of_decide_eq_false hy;omega)
  subst h0
  exact ⟨Ob.le_refl _,Ob.le_refl _,Ob.le_refl _,trivial⟩
theorem Adh {w:Wy} {r:List Wy} (h:[w]=r):leO [] []/\VV.le (.sl true 1 6 fun i=>List.take 6 (List.drop (i*6) (Bu w))) (BF true r):=by
 subst h
 refine ⟨trivial,VV.le_sl (.inl rfl) fun i hi=>A2 ?_⟩
 obtain rfl:i=0:=by omega
 rfl
theorem E5 (h:CH e):Ai Tryz.prog 16 [] [.agg (Af e)] [] (BF true (A5 e)):=by
 have hp:=h.ok.fit.p
 have hq:A5 e=bif decide ((Dp e e.Pid).Loc=(DF e).Final) then (bif decide (e.Pid=(e.S.Procs.length:Int) - 1) then [Kc 0] else [])
  else bif decide ((Bf e).2≠0) then [Kc (Bf e).2]
  else bif !(Bf e).1 then [] else Fc e (ET (Ct e)):=rfl
 generalize A5 e=r at hq
 refine Ag Ak Aj Tryz.func16 (by kernel_rfl) rfl (Vi r e) ⟨⟨h.p0,h.ok.pid.2⟩,DF e,N0 h,fun h1=>⟨fun h2=>⟨Kc 0,N1,Adh ?_⟩,fun h2=>?_⟩,
  fun h1=>⟨Bf e,NZ h,fun h2=>⟨Kc (Bf e).2,N1,Adh ?_⟩,fun h2=>⟨fun h3=>?_,fun h3=>⟨Ct e,GW h,Fc e (ET (Ct e)),?_,?_⟩⟩⟩⟩
 ·rw [ieq] at h1
  rw [A1 (by omega) (by omega),ieq] at h2
  rw [hq,show decide ((Dp e e.Pid).Loc=(DF e).Final)=true from h1,h2]<;>rfl
 ·rw [ieq] at h1
  rw [A1 (by omega) (by omega),ieq] at h2
  rw [hq,show decide ((Dp e e.Pid).Loc=(DF e).Final)=true from h1,h2]
  exact ⟨trivial,VV.le_nil⟩
 ·rw [ieq] at h1
  rw [AJ] at h2
  rw [hq,show decide ((Dp e e.Pid).Loc=(DF e).Final)=false from h1,h2]<;>rfl
 ·rw [ieq] at h1
  rw [AJ] at h2
  rw [hq,show decide ((Dp e e.Pid).Loc=(DF e).Final)=false from h1,h2,h3]
  exact ⟨trivial,VV.le_nil⟩
 ·exact Ai.ownB (i:=1) (j:=0) (cs:=[.nl]) rfl rfl 6 (HU []) (Rh h h.wloc.Esc.1 fun ws hw=>h.ws hw)
 ·rw [ieq] at h1
  rw [AJ] at h2
  rw [hq,show decide ((Dp e e.Pid).Loc=(DF e).Final)=false from h1,h2,h3]
  exact ⟨trivial,VV.le_refl _⟩
theorem N3 (hw:Ay e.M) (hs:A4 e.S):Ai Tryz.prog 8 [] [.agg (Af e)] [] (.tup [BF true (IB e).1,Aa (IB e).2]):=by
 have hq:IB e=bif decide (Ee e≠0) then ([],Ee e) else (A5 e,0):=rfl
 generalize IB e=r at hq
 refine Ag Ak Aj Tryz.func8 (by kernel_rfl) rfl (Zj r e) ⟨Ee e,KY hw hs,fun h1=>?_,fun h1=>⟨A5 e,E5 (MD hw (by simpa using h1)),?_⟩⟩
 ·rw [AJ] at h1
  rw [hq,h1]
  exact ⟨trivial,VV.le_tup ⟨VV.le_nil,VV.le_refl _,trivial⟩⟩
 ·rw [AJ] at h1
  rw [hq,h1]
  exact ⟨trivial,VV.le_refl _⟩
def Uu (w:Wy):Nat->List Wy->Int
 | _,[]=>-1
 | k,x::r=>bif decide (w=x) then (k:Int) else Uu w (k+1) r
theorem QV {w x:Wy} {k:Nat} {r:List Wy}:Uu w k (x::r)=bif decide (w=x) then (k:Int) else Uu w (k+1) r:=rfl
theorem Ut {w:Wy}:∀ {l:List Wy} {k:Nat},decide (Uu w k l>=0)=decide (w∈l)
 | [],k=>by simp [Uu]
 | x::r,k=>by
  have ih:=Ut (w:=w) (l:=r) (k:=k+1)
  rw [QV]
  by_cases h:w=x
  ·simp [h]
  ·simp only [h,decide_false,cond_false,ih]
   simp [h]
theorem AgR {w x:Wy}:(w.Esc==x.Esc&&(w.Way==x.Way&&(w.With==x.With&&(w.WithEsc==x.WithEsc&&(w.WithWay==x.WithWay&&(w.Err==x.Err&&true))))))=decide (w=x):=by
 obtain ⟨a1,a2,a3,a4,a5,a6⟩:=w
 obtain ⟨b1,b2,b3,b4,b5,b6⟩:=x
 rw [Bool.eq_iff_iff]
 simp
theorem Vm {l:List Wy} {w:Wy} (hl:l.length<=1099511627776):Ai Tryz.prog 33 [] [BF true l,.agg (Bu w)] [] (Aa (Uu w 0 l)):=by
 refine Ag Ak Aj Tryz.func33 (by kernel_rfl) rfl (Y9 _ l w) ?_
 refine AD Ak Aj l.length (fun k=>Nq l w k) (fun k=>Uu w 0 l=Uu w k (l.drop k)) (by kernel_rfl) (by kernel_rfl) rfl ?_
 intro k hk hI J next
 refine Bb.raw (Vn _ l w k J) ⟨fun hlt=>?_,fun hge=>BM ?_⟩
 ·have hlt':k<l.length:=by have:=AQ hlt;omega
  have hto:(k:Int).toNat=k:=by omega
  rw [hto,AgR]
  rw [B4 (d:=default) hlt',QV] at hI
  refine ⟨by omega,fun hy=>BM ?_,fun hy=>next _ hlt' ?_ (Up.of ?_)⟩
  ·rw [hy,cond_true] at hI;exact hI.symm
  ·rw [hy,cond_false] at hI;exact hI
  ·rw [Am (by omega)]<;>rfl
 ·have hge':l.length<=k:=by have:=AT hge;omega
  rw [hI,List.drop_of_length_le hge']<;>rfl
theorem Iz {l:List Wy} {w:Wy} (hl:l.length<=1099511627776):Ai Tryz.prog 17 [] [BF true l,.agg (Bu w)] [] (Ac (decide (w∈l))) :=
 Ag Ak Aj Tryz.func17 (by kernel_rfl) rfl (Vw _ l w) ⟨_,Vm hl,Ao Ut⟩
end
end Go.Proofs.YtiaebjpcgjkhoaaGreatDoor
namespace Go.Proofs.YtiaebjpcgjkhoaaGreatDoor
open Go.RowKit
def Afr : Shp:={ α:=List D.Trans,enc:=fun y=>([],Av true y) }
def Acr : Shp:={ α:=D.Proc,enc:=fun y=>([],.agg (AZ y)) }
def AS (f:FuncId):Shp :=
 bif Nat.beq f 143||Nat.beq f 108||Nat.beq f 137||Nat.beq f 144||Nat.beq f 14||Nat.beq f 7 then ZR
 else bif Nat.beq f 111 then Aet
 else bif Nat.beq f 112 then AgY
 else bif Nat.beq f 74 then Acu
 else bif Nat.beq f 48 then RO
 else bif Nat.beq f 12 then Afr
 else bif Nat.beq f 24 then Acr
 else Aev
end Go.Proofs.YtiaebjpcgjkhoaaGreatDoor
namespace Go.Proofs.YtiaebjpcgjkhoaaGreatDoor
open Go.RowKit
def Hj : Ann:={ keep:=fun
  | [0,1,0,1,1,1,1,1,1]=>[1,2,6,7,8]
  | _=>[] }
def KS : Ann:={ keep:=fun
  | [0,1,0,1,1,1]=>[1,3,4]
  | _=>[] }
def KQ : Ann:={ keep:=fun
  | [0,1,0,1]=>[0,1,5]
  | _=>[] }
def KR : Ann:={ keep:=fun
  | [0,1,0,1,1]=>[1,3]
  | _=>[] }
def KT : Ann:={ keep:=fun
  | [0,1,0,1]=>[0,1,5]
  | _=>[] }
def A7 : Ann:={ cut:=(fun | [1,1,1,1]=>true | [1,1,1,1,1]=>true | [1,1,1,1,1,1]=>true | [1,1,1,1,1,1,1]=>true | _=>false),keep:=fun
  | [0,1,1,0,1,0,1,1,1,1,1,1,1]=>[1,3,5]
  | [1,1,1,1]=>[1,3,4]
  | [1,1,1,1,1]=>[1,3,4]
  | [1,1,1,1,1,1]=>[1,3]
  | [1,1,1,1,1,1,1]=>[1,3]
  | _=>[] }
def MN : Ann:={ keep:=fun
  | [0,1,0,1,1,1,1,1]=>[1,5,9]
  | _=>[] }
def Ik : Ann:={ keep:=fun
  | [0,1,0,1,1,1]=>[2,3,4,10]
  | _=>[] }
def J5 : Ann:={ keep:=fun
  | [0,1,0,1,1,1,1,1]=>[1,2,5,6,7,8]
  | _=>[] }
def D8 : Ann:={ keep:=fun
  | [0,1,0,1,1,1,1,1,1,1]=>[1,2,5,7,8]
  | [0,1,1,1,1,0,0,1,0,0,1,0,1,1,1,1,1,1,1]=>[1,2,5,7,8,10,11]
  | [0,1,1,1,0,0,1,0,0,1,1,1,1,0,0,1,0,0,1,0,1,1,1,1,1,1,1]=>[1,2,5,7,8,10,11,12]
  | _=>[] }
def J4 : Ann:={ keep:=fun
  | [0,1,0,1,1,0,1,1,1,1,1,1,1,1,1,0,1,0,1,1,1,1,1,1,1]=>[2,3,12]
  | _=>[] }
def MO : Ann:={ keep:=fun
  | [0,1,0,1,1,1,1,1]=>[1,4,10,11]
  | _=>[] }
def Gw : Ann:={ keep:=fun
  | [0,1,0,1,1,1,1,1]=>[1,3,5,8]
  | _=>[] }
def Dq : Ann:={ keep:=fun
  | [0,1,0,1,1]=>[1,2,5,6]
  | [0,1,1,0,0,1,0,0,1,0,1,1]=>[1,2,5,6,7,8]
  | [0,1,0,0,1,0,0,1,1,0,0,1,0,0,1,0,1,1]=>[1,2,5,6,7,8,9]
  | _=>[] }
def CL : Ann:={ keep:=fun
  | [0,1,0,1,1,1,1,1]=>[1,5]
  | [0,1,0,1,1,1,1,1,1]=>[1,7]
  | [0,1,0,1,1,1,1,1,1,1,1,1]=>[1,8,9]
  | [0,1,1,1,1,0,0,1,0,0,1,0,1,1,1,1,1,1,1,1,1]=>[1,8,9,11,12]
  | _=>[] }
def Gy : Ann:={ keep:=fun
  | [0,1,0,1,1,1,1]=>[1,7,8]
  | [0,1,0,1,1,1,1,1,1]=>[1,10]
  | _=>[] }
def Jh : Ann:={ keep:=fun
  | [0,1,0,1,1]=>[0,1,5]
  | _=>[] }
def Gx : Ann:={ keep:=fun
  | [0,1,0,1,1,1,1]=>[2,3,6]
  | [0,1,1,1,0,0,1,0,0,1,0,1,1,1,1]=>[2,3,6,7,8]
  | [0,1,0,1,1,1,1,1]=>[2,3,9]
  | _=>[] }
def Ij : Ann:={ keep:=fun
  | [0,1,0,1,1]=>[0,1,5]
  | _=>[] }
def Jw (t:D.Type) (v most n i:Int):St:=AB [(1,Aa v),(2,.bp 0 0),(6,Aa most),(7,Aa n),(8,Aa i)] [.box (BU t)]
def Lo (v:D.Var) (n k:Int):St:=AB [(1,.bp 0 0),(3,Aa n),(4,Aa k)] [.box (Bj v)]
def G3 (t:List D.Type) (v:List Int) (k:Int):St:=AB [(0,AE true t),(1,Ad true v),(5,Aa k)] []
def Ln (s:D.Shape) (k:Int):St:=AB [(1,.bp 0 0),(3,Aa k)] [.box (Df s)]
def Lr (fz:Bool) (a:Int) (l:List Int) (k:Int):St:=AB [(0,Aa a),(1,Ad fz l),(5,Aa k)] []
def NB (x:D.Expr) (l:List Int) (k:Int):St:=AB [(1,.bp 0 0),(3,.ow 1 0 l.length),(5,Aa k)] [.box (Az x),.arr true 0 l.length 1 (AG l)]
def E8 (x:D.Expr) (l:List Int) (n:Int):St:=AB [(1,.bp 0 0),(3,.ow 1 0 l.length),(4,Aa n)] [.box (Az x),.arr true 0 l.length 1 (AG l)]
def G5 (x:D.Expr) (l:List Int):St:=AB [(1,.bp 0 0),(3,.ow 1 0 l.length)] [.box (Az x),.arr true 0 l.length 1 (AG l)]
def Nw (a:Int) (v:D.Var) (k:Int):St:=AB [(1,Aa a),(5,.bp 0 0),(9,Aa k)] [.box (Bj v)]
def Hy (m:D.Model) (args mt:List Int) (k:Int):St:=AB [(2,Ad true args),(3,Ad true mt),(4,.bp 0 0),(10,Aa k)] [.box (Ae m)]
def NC (m:D.Model) (a:Int) (x:D.Expr) (n k:Int):St:=AB [(1,Aa a),(2,.bp 0 0),(5,.bp 1 0),(6,Aa n),(7,.ow 2 0 3),(8,Aa k)] [.box (Ae m),.box (Az x),.arr true 0 3 1 (AG [x.A,x.B,x.C])]
def FT (m:D.Model) (a:Int) (p:D.Proc) (many k:Int):St:=AB [(1,Aa a),(2,.bp 0 0),(5,.bp 1 0),(7,Aa many),(8,Aa k)] [.box (Ae m),.box (AZ p)]
def G4 (m:D.Model) (a:Int) (p:D.Proc) (many k:Int) (ws:List (List D.Trans)) (j:Int):St:=AB [(1,Aa a),(2,.bp 0 0),(5,.bp 1 0),(7,Aa many),(8,Aa k),(10,A0 true ws),(11,Aa j)] [.box (Ae m),.box (AZ p)]
def Jv (m:D.Model) (a:Int) (p:D.Proc) (many k:Int) (ws:List (List D.Trans)) (j h:Int):St:=AB [(1,Aa a),(2,.bp 0 0),(5,.bp 1 0),(7,Aa many),(8,Aa k),(10,A0 true ws),(11,Aa j),(12,Aa h)] [.box (Ae m),.box (AZ p)]
def Lm (m:D.Model) (s:D.Stmt) (k:Int):St:=AB [(2,.bp 0 0),(3,.bp 1 0),(12,Aa k)] [.box (Ae m),.box (Ap s)]
def Nx (m:D.Model) (a:Int) (l:List Int) (k:Int):St:=AB [(1,Aa a),(4,.bp 0 0),(10,Ad true l),(11,Aa k)] [.box (Ae m)]
def IL (m:D.Model) (a:Int) (s:D.Stmt) (k:Int):St:=AB [(1,Aa a),(3,.bp 0 0),(5,.bp 1 0),(8,Aa k)] [.box (Ae m),.box (Ap s)]
def GZ (m:D.Model) (a:Int) (p:D.Proc) (k:Int):St:=AB [(1,Aa a),(2,.bp 0 0),(5,.bp 1 0),(6,Aa k)] [.box (Ae m),.box (AZ p)]
def IK (m:D.Model) (a:Int) (p:D.Proc) (k:Int) (ws:List (List D.Trans)) (j:Int):St:=AB [(1,Aa a),(2,.bp 0 0),(5,.bp 1 0),(6,Aa k),(7,A0 true ws),(8,Aa j)] [.box (Ae m),.box (AZ p)]
def Ll (m:D.Model) (a:Int) (p:D.Proc) (k:Int) (ws:List (List D.Trans)) (j h:Int):St:=AB [(1,Aa a),(2,.bp 0 0),(5,.bp 1 0),(6,Aa k),(7,A0 true ws),(8,Aa j),(9,Aa h)] [.box (Ae m),.box (AZ p)]
def Nz (m:D.Model) (k:Int):St:=AB [(1,.bp 0 0),(5,Aa k)] [.box (Ae m)]
def Ny (m:D.Model) (k:Int):St:=AB [(1,.bp 0 0),(7,Aa k)] [.box (Ae m)]
def RH (m:D.Model) (had:List Bool) (k:Int):St:=AB [(1,.bp 0 0),(8,.ow 1 0 had.length),(9,Aa k)] [.box (Ae m),.arr true 0 had.length 1 (Ep had)]
def RG (m:D.Model) (had:List Bool) (k:Int) (l:List Int) (j:Int):St:=AB [(1,.bp 0 0),(8,.ow 1 0 had.length),(9,Aa k),(11,Ad true l),(12,Aa j)] [.box (Ae m),.arr true 0 had.length 1 (Ep had)]
def Jy (m:D.Model) (many k:Int):St:=AB [(1,.bp 0 0),(7,Aa many),(8,Aa k)] [.box (Ae m)]
def Jx (m:D.Model) (k:Int):St:=AB [(1,.bp 0 0),(10,Aa k)] [.box (Ae m)]
def Qv (t:List D.Type) (l:List Int) (k:Int):St:=AB [(0,AE true t),(1,Ad true l),(5,Aa k)] []
def Lq (m:D.Model) (s:D.State) (k:Int):St:=AB [(2,.bp 0 0),(3,.bp 1 0),(6,Aa k)] [.box (Ae m),.box (An s)]
def NA (m:D.Model) (s:D.State) (k:Int) (c:D.Chan) (j:Int):St:=AB [(2,.bp 0 0),(3,.bp 1 0),(6,Aa k),(7,.bp 2 0),(8,Aa j)] [.box (Ae m),.box (An s),.box (AF c)]
def Lp (m:D.Model) (s:D.State) (k:Int):St:=AB [(2,.bp 0 0),(3,.bp 1 0),(9,Aa k)] [.box (Ae m),.box (An s)]
def RJ (a b:List Int) (k:Int):St:=AB [(0,Ad true a),(1,Ad true b),(5,Aa k)] []
end Go.Proofs.YtiaebjpcgjkhoaaGreatDoor
namespace Go.Proofs.YtiaebjpcgjkhoaaGreatDoor
open Go.RowKit
set_option maxRecDepth 100000
theorem AcL (b:Bool) (t:D.Type):(fc AS Bl Tryz.f69 [] (Ac b)).goal (St.init [] [.agg (BU t)]) =
  (LQ (Ac (bif bif decide (t.Bits>=1) then decide (t.Bits<=32) else false then bif bif !t.Signed then true else t.Bits==16 then true else t.Bits==32 else false)) (Ac b)):=by kernel_rfl
theorem Aan (b:Bool) (t:D.Type) (v:Int):(fc AS Hj Tryz.f45 [] (Ac b)).goal (St.init [] [.agg (BU t),Aa v]) =
  (∃ (y:Bool),VC 69 [VV.agg (BU t)] (Ac y)/\BB (!y) (LQ (Ac false) (Ac b)) (BB t.Signed (AA (fc AS Hj Tryz.f45 [] (Ac b)) [1,1,1,1,1,1,0,1,0] (Jw t v (1:Int) (IntKind.i64.wrap (t.Bits - (1:Int))) (0:Int))) (AA (fc AS Hj Tryz.f45 [] (Ac b)) [1,1,1,1,1,1,0,1,0] (Jw t v (1:Int) t.Bits (0:Int))))):=by kernel_rfl
theorem Wn (r:Int) (v:D.Var):(fc AS KS Tryz.f143 [] (Aa r)).goal (St.init [] [.agg (Bj v)]) =
  (BB (bif bif decide (v.Slot<0) then true else decide (v.Slot > 1073741824) then true else decide ((↑v.Dims.length:Int) > 4)) (LQ (Aa 0) (Aa r)) (AA (fc AS KS Tryz.f143 [] (Aa r)) [1,1,1,0,1,0] (Lo v (IntKind.i64.wrap (v.Slot+(1:Int))) (0:Int)))):=by kernel_rfl
theorem Wh (r:Int) (t:List D.Type) (v:List Int):(fc AS KQ Tryz.f108 [] (Aa r)).goal (St.init [] [AE true t,Ad true v]) =
  (AA (fc AS KQ Tryz.f108 [] (Aa r)) [1,0,1,0] (G3 t v (0:Int))):=by kernel_rfl
theorem Wl (b:Bool) (s:D.Shape):(fc AS KR Tryz.f109 [] (Ac b)).goal (St.init [] [.agg (Df s)]) =
  (BB (bif bif bif decide (s.Room<0) then true else decide (s.Room > 16) then true else decide ((↑s.Fields.length:Int)<1) then true else decide ((↑s.Fields.length:Int) > 8)) (LQ (Ac false) (Ac b)) (AA (fc AS KR Tryz.f109 [] (Ac b)) [1,1,0,1,0] (Ln s (0:Int)))):=by kernel_rfl
theorem TL (b:Bool) (m:D.Model) (n:Int):(fc AS Bl Tryz.f139 [] (Ac b)).goal (St.init [] [.agg (Ae m),Aa n]) =
  (LQ (Ac (bif bif decide (n>=0) then decide (n<(↑m.Procs.length:Int)) else false then n != m.Claim else false)) (Ac b)):=by kernel_rfl
theorem WG (b:Bool) (a:Int) (l:List Int):(fc AS KT Tryz.f138 [] (Ac b)).goal (St.init [] [Aa a,Ad false l]) =
  (AA (fc AS KT Tryz.f138 [] (Ac b)) [1,0,1,0] (Lr false a l (0:Int))):=by kernel_rfl
theorem Wo (r:Int) (op:Int):(fc AS Bl Tryz.f137 [] (Aa r)).goal (St.init [] [Aa op]) =
  (BB (op==1) (BB (op==1) (LQ (Aa 0) (Aa r)) (BB (op==24) (LQ (Aa 3) (Aa r)) (BB (bif decide (op>=6) then decide (op<=23) else false) (LQ (Aa 2) (Aa r)) (LQ (Aa 1) (Aa r))))) (BB (op==2) (BB (op==2) (LQ (Aa 0) (Aa r)) (BB (op==24) (LQ (Aa 3) (Aa r)) (BB (bif decide (op>=6) then decide (op<=23) else false) (LQ (Aa 2) (Aa r)) (LQ (Aa 1) (Aa r))))) (BB (op==31) (BB (op==31) (LQ (Aa 0) (Aa r)) (BB (op==24) (LQ (Aa 3) (Aa r)) (BB (bif decide (op>=6) then decide (op<=23) else false) (LQ (Aa 2) (Aa r)) (LQ (Aa 1) (Aa r))))) (BB (op==32) (BB (op==32) (LQ (Aa 0) (Aa r)) (BB (op==24) (LQ (Aa 3) (Aa r)) (BB (bif decide (op>=6) then decide (op<=23) else false) (LQ (Aa 2) (Aa r)) (LQ (Aa 1) (Aa r))))) (BB (op==33) (BB (op==33) (LQ (Aa 0) (Aa r)) (BB (op==24) (LQ (Aa 3) (Aa r)) (BB (bif decide (op>=6) then decide (op<=23) else false) (LQ (Aa 2) (Aa r)) (LQ (Aa 1) (Aa r))))) (BB (op==34) (BB (op==34) (LQ (Aa 0) (Aa r)) (BB (op==24) (LQ (Aa 3) (Aa r)) (BB (bif decide (op>=6) then decide (op<=23) else false) (LQ (Aa 2) (Aa r)) (LQ (Aa 1) (Aa r))))) (BB (op==35) (BB (op==35) (LQ (Aa 0) (Aa r)) (BB (op==24) (LQ (Aa 3) (Aa r)) (BB (bif decide (op>=6) then decide (op<=23) else false) (LQ (Aa 2) (Aa r)) (LQ (Aa 1) (Aa r))))) (BB (op==39) (LQ (Aa 0) (Aa r)) (BB (op==24) (LQ (Aa 3) (Aa r)) (BB (bif decide (op>=6) then decide (op<=23) else false) (LQ (Aa 2) (Aa r)) (LQ (Aa 1) (Aa r)))))))))))):=by kernel_rfl
theorem Aam (r:List Int) (x:D.Expr):(fc AS A7 Tryz.f111 [] (Ad true r)).goal (St.init [] [.agg (Az x)]) =
  (∃ (y:Int),VC 137 [Aa x.Op] (Aa y)/\BB (decide (y>=1)) (1*8<=140737488355328/\AA (fc AS A7 Tryz.f111 [] (Ad true r)) [1,1,1,1] (AB [(1,VV.bp 0 0),(3,VV.ow 1 0 1),(4,Aa y)] [Ob.box (Az x),Ob.arr true 0 1 1 fun (i:Nat)=>List.take 1 (List.drop (i*1) [Aa x.A])])) (AA (fc AS A7 Tryz.f111 [] (Ad true r)) [1,1,1,1] (AB [(1,VV.bp 0 0),(3,VV.nl),(4,Aa y)] [Ob.box (Az x)]))):=by kernel_rfl
theorem Aaa (b:Bool) (m:D.Model) (a:Int) (v:D.Var):(fc AS MN Tryz.f140 [] (Ac b)).goal (St.init [] [.agg (Ae m),Aa a,.agg (Bj v)]) =
  (BB (bif bif bif bif decide (v.Scope<0) then true else decide (v.Scope > 2) then true else decide (v.Slot<0) then true else decide (v.Slot > 128) then true else decide ((↑v.Dims.length:Int) > 4)) (LQ (Ac false) (Ac b)) (∃ (y:Bool),VC 138 [Aa a,VV.sl false 1 1 fun (i:Nat)=>List.take 1 (List.drop (i*1) [Aa v.Who])] (Ac y)/\∃ (y_1:Bool),VC 139 [VV.agg (Ae m),Aa v.Type_] (Ac y_1)/\BB (bif bif v.Scope==2 then bif !y then true else !y_1 else false then true else bif v.Scope != 2 then bif v.Who != (-1:Int) then true else v.Type_ != (-1:Int) else false) (LQ (Ac false) (Ac b)) (AA (fc AS MN Tryz.f140 [] (Ac b)) [1,1,1,1,1,0,1,0] (Nw a v (0:Int))))):=by kernel_rfl
theorem RX (b:Bool) (m:D.Model) (a:Int) (args mt:List Int):(fc AS Ik Tryz.f141 [] (Ac b)).goal (St.init [] [.agg (Ae m),Aa a,Ad true args,Ad true mt]) =
  (∃ (y:Bool),VC 138 [Aa a,Ad true args] (Ac y)/\BB (bif bif bif !y then true else decide ((↑args.length:Int)<1) then true else decide ((↑args.length:Int) > 8) then true else (↑mt.length:Int) != (↑args.length:Int)) (LQ (Ac false) (Ac b)) (AA (fc AS Ik Tryz.f141 [] (Ac b)) [1,1,1,0,1,0] (Hy m args mt (0:Int)))):=by kernel_rfl
theorem Aao (b:Bool) (m:D.Model) (a:Int):(fc AS J5 Tryz.f110 [] (Ac b)).goal (St.init [] [.agg (Ae m),Aa a]) =
  (inX a m.Exprs.length/\BB (bif decide ((m.Exprs.getD a.toNat default).Op<1) then true else decide ((m.Exprs.getD a.toNat default).Op > 39)) (LQ (Ac false) (Ac b)) (∃ (y:Int),VC 137 [Aa (m.Exprs.getD a.toNat default).Op] (Aa y)/\AA (fc AS J5 Tryz.f110 [] (Ac b)) [1,1,1,1,1,0,1,0] (AB [(1,Aa a),(2,VV.bp 0 0),(5,VV.bp 1 0),(6,Aa y),(7,VV.ow 2 0 3),(8,Aa 0)] [Ob.box (Ae m),Ob.box (Az (m.Exprs.getD a.toNat default)),Ob.arr true 0 3 1 fun (i:Nat)=>List.take 1 (List.drop (i*1) [Aa (m.Exprs.getD a.toNat default).A,Aa (m.Exprs.getD a.toNat default).B,Aa (m.Exprs.getD a.toNat default).C])]))):=by kernel_rfl
theorem Z7 (r:List (List D.Trans)) (l:D.Loc):(fc AS Bl Tryz.f112 [] (A0 true r)).goal (St.init [] [.agg (A9 l)]) =
  (1*24<=140737488355328/\(1+l.Esc.length)*24<=140737488355328/\(∀ (i:Nat),i<l.Esc.length->((fun (i:Nat)=>[Av true (l.Esc.getD i [])]) i).all VV.mem1=true)/\LQ (VV.sl true (1+l.Esc.length) 1 fun (i:Nat)=>bif i.blt 1 then (fun (i:Nat)=>List.take 1 (List.drop (i*1) [Av true l.Out])) i else [Av true (l.Esc.getD (i - 1) [])]) (A0 true r)):=by kernel_rfl
theorem Wi (b:Bool) (m:D.Model) (a:Int):(fc AS D8 Tryz.f75 [] (Ac b)).goal (St.init [] [.agg (Ae m),Aa a]) =
  (inX a m.Procs.length/\BB (bif bif bif bif bif decide ((↑(m.Procs.getD a.toNat default).Frame.length:Int) > 128) then true else (↑(m.Procs.getD a.toNat default).Init.length:Int) != (↑(m.Procs.getD a.toNat default).Frame.length:Int) then true else decide ((m.Procs.getD a.toNat default).Params<0) then true else decide ((m.Procs.getD a.toNat default).Params > (↑(m.Procs.getD a.toNat default).Frame.length:Int)) then true else decide ((↑(m.Procs.getD a.toNat default).Locs.length:Int)<1) then true else decide ((↑(m.Procs.getD a.toNat default).Locs.length:Int) > 256)) (LQ (Ac false) (Ac b)) (∃ (y:Int),VC 108 [AE true (m.Procs.getD a.toNat default).Frame,Ad true (m.Procs.getD a.toNat default).Init] (Aa y)/\BB (bif bif bif bif bif bif bif bif bif bif decide (y>=0) then true else decide ((m.Procs.getD a.toNat default).Start<0) then true else decide ((m.Procs.getD a.toNat default).Start>=(↑(m.Procs.getD a.toNat default).Locs.length:Int)) then true else decide ((m.Procs.getD a.toNat default).Final<0) then true else decide ((m.Procs.getD a.toNat default).Final>=(↑(m.Procs.getD a.toNat default).Locs.length:Int)) then true else decide ((m.Procs.getD a.toNat default).Active<0) then true else decide ((m.Procs.getD a.toNat default).Active > 16) then true else decide ((m.Procs.getD a.toNat default).Prio<1) then true else decide ((m.Procs.getD a.toNat default).Prio > 255) then true else decide ((m.Procs.getD a.toNat default).Provided<(-1:Int)) then true else decide ((m.Procs.getD a.toNat default).Provided>=(↑m.Exprs.length:Int))) (LQ (Ac false) (Ac b)) (BB (bif a==m.Claim then bif bif decide ((↑(m.Procs.getD a.toNat default).Frame.length:Int) > 0) then true else decide ((m.Procs.getD a.toNat default).Active > 0) then true else decide ((m.Procs.getD a.toNat default).Provided>=0) else false) (LQ (Ac false) (Ac b)) (AA (fc AS D8 Tryz.f75 [] (Ac b)) [1,1,1,1,1,1,1,0,1,0] (FT m a (m.Procs.getD a.toNat default) (0:Int) (0:Int)))))):=by kernel_rfl
theorem Ty (b:Bool) (m:D.Model) (a:Int):(fc AS Bl Tryz.f164 [] (Ac b)).goal (St.init [] [.agg (Ae m),Aa a]) =
  (((true&&(bif decide (a>=0) then decide (a<(↑m.Exprs.length:Int)) else false)==true)=true->inX a m.Exprs.length)/\((true&&(bif bif decide (a>=0) then decide (a<(↑m.Exprs.length:Int)) else false then (m.Exprs.getD a.toNat default).Op==2 else false)==true)=true->inX a m.Exprs.length)/\LQ (Ac (bif bif bif decide (a>=0) then decide (a<(↑m.Exprs.length:Int)) else false then (m.Exprs.getD a.toNat default).Op==2 else false then (m.Exprs.getD a.toNat default).V.Scope != 2 else false)) (Ac b)):=by kernel_rfl
theorem Aag (b:Bool) (m:D.Model) (s:D.Stmt):(fc AS J4 Tryz.f142 [] (Ac b)).goal (St.init [] [.agg (Ae m),.agg (Ap s)]) =
  (∃ (y:Bool),VC 164 [VV.agg (Ae m),Aa s.A] (Ac y)/\∃ (y_1:Bool),VC 138 [Aa (↑m.Exprs.length:Int),Ad true s.Args] (Ac y_1)/\BB (s.Kind==1) (BB (s.Kind==1) (LQ (Ac (bif bif bif bif bif decide (s.A>=0) then decide (s.A<(↑m.Exprs.length:Int)) else false then s.B==(-1:Int) else false then bif (↑s.Args.length:Int)==0 then (↑s.Match.length:Int)==0 else false else false then s.N==0 else false then s.Text.toList==(⟨#[]⟩:ByteArray).toList else false)) (Ac b)) (BB (s.Kind==2) (LQ (Ac (bif bif bif bif y then bif decide (s.B>=0) then decide (s.B<(↑m.Exprs.length:Int)) else false else false then bif (↑s.Args.length:Int)==0 then (↑s.Match.length:Int)==0 else false else false then s.N==0 else false then s.Text.toList==(⟨#[]⟩:ByteArray).toList else false)) (Ac b)) (BB (s.Kind==4) (LQ (Ac (bif bif bif bif bif s.A==(-1:Int) then s.B==(-1:Int) else false then y_1 else false then (↑s.Match.length:Int)==0 else false then s.N==0 else false then decide ((↑s.Text.size:Int)<=256) else false)) (Ac b)) (BB (s.Kind==5) (LQ (Ac (bif bif bif bif bif bif bif bif decide (s.A>=0) then decide (s.A<(↑m.Exprs.length:Int)) else false then s.B==(-1:Int) else false then y_1 else false then decide ((↑s.Args.length:Int)>=1) else false then decide ((↑s.Args.length:Int)<=8) else false then (↑s.Match.length:Int)==0 else false then bif s.N==0 then true else s.N==1 else false then s.Text.toList==(⟨#[]⟩:ByteArray).toList else false)) (Ac b)) (BB (s.Kind==6) (∃ (y:Bool),VC 141 [VV.agg (Ae m),Aa (↑m.Exprs.length:Int),Ad true s.Args,Ad true s.Match] (Ac y)/\BB (bif bif bif bif bif !bif decide (s.A>=0) then decide (s.A<(↑m.Exprs.length:Int)) else false then true else s.B != (-1:Int) then true else !y then true else decide (s.N<0) then true else decide (s.N > 3) then true else !s.Text.toList==(⟨#[]⟩:ByteArray).toList) (LQ (Ac false) (Ac b)) (AA (fc AS J4 Tryz.f142 [] (Ac b)) [1,1,1,1,1,1,1,0,1,0,1,1,1,1,1,1,1,1,1,0,1,1,0,1,0] (Lm m s (0:Int)))) (BB (s.Kind==7) (BB (s.Kind==7) (LQ (Ac (bif bif bif bif s.A==(-1:Int) then s.B==(-1:Int) else false then bif (↑s.Args.length:Int)==0 then (↑s.Match.length:Int)==0 else false else false then s.N==0 else false then s.Text.toList==(⟨#[]⟩:ByteArray).toList else false)) (Ac b)) (BB (s.Kind==9) (LQ (Ac (bif bif bif bif bif y then s.B==(-1:Int) else false then bif (↑s.Args.length:Int)==0 then (↑s.Match.length:Int)==0 else false else false then decide (s.N>=0) else false then decide (s.N<(↑m.Shapes.length:Int)) else false then s.Text.toList==(⟨#[]⟩:ByteArray).toList else false)) (Ac b)) (LQ (Ac false) (Ac b)))) (BB (s.Kind==8) (LQ (Ac (bif bif bif bif s.A==(-1:Int) then s.B==(-1:Int) else false then bif (↑s.Args.length:Int)==0 then (↑s.Match.length:Int)==0 else false else false then s.N==0 else false then s.Text.toList==(⟨#[]⟩:ByteArray).toList else false)) (Ac b)) (BB (s.Kind==9) (LQ (Ac (bif bif bif bif bif y then s.B==(-1:Int) else false then bif (↑s.Args.length:Int)==0 then (↑s.Match.length:Int)==0 else false else false then decide (s.N>=0) else false then decide (s.N<(↑m.Shapes.length:Int)) else false then s.Text.toList==(⟨#[]⟩:ByteArray).toList else false)) (Ac b)) (LQ (Ac false) (Ac b)))))))))) (BB (s.Kind==3) (LQ (Ac (bif bif bif bif bif decide (s.A>=0) then decide (s.A<(↑m.Exprs.length:Int)) else false then s.B==(-1:Int) else false then bif (↑s.Args.length:Int)==0 then (↑s.Match.length:Int)==0 else false else false then s.N==0 else false then s.Text.toList==(⟨#[]⟩:ByteArray).toList else false)) (Ac b)) (BB (s.Kind==2) (LQ (Ac (bif bif bif bif y then bif decide (s.B>=0) then decide (s.B<(↑m.Exprs.length:Int)) else false else false then bif (↑s.Args.length:Int)==0 then (↑s.Match.length:Int)==0 else false else false then s.N==0 else false then s.Text.toList==(⟨#[]⟩:ByteArray).toList else false)) (Ac b)) (BB (s.Kind==4) (LQ (Ac (bif bif bif bif bif s.A==(-1:Int) then s.B==(-1:Int) else false then y_1 else false then (↑s.Match.length:Int)==0 else false then s.N==0 else false then decide ((↑s.Text.size:Int)<=256) else false)) (Ac b)) (BB (s.Kind==5) (LQ (Ac (bif bif bif bif bif bif bif bif decide (s.A>=0) then decide (s.A<(↑m.Exprs.length:Int)) else false then s.B==(-1:Int) else false then y_1 else false then decide ((↑s.Args.length:Int)>=1) else false then decide ((↑s.Args.length:Int)<=8) else false then (↑s.Match.length:Int)==0 else false then bif s.N==0 then true else s.N==1 else false then s.Text.toList==(⟨#[]⟩:ByteArray).toList else false)) (Ac b)) (BB (s.Kind==6) (∃ (y:Bool),VC 141 [VV.agg (Ae m),Aa (↑m.Exprs.length:Int),Ad true s.Args,Ad true s.Match] (Ac y)/\BB (bif bif bif bif bif !bif decide (s.A>=0) then decide (s.A<(↑m.Exprs.length:Int)) else false then true else s.B != (-1:Int) then true else !y then true else decide (s.N<0) then true else decide (s.N > 3) then true else !s.Text.toList==(⟨#[]⟩:ByteArray).toList) (LQ (Ac false) (Ac b)) (AA (fc AS J4 Tryz.f142 [] (Ac b)) [1,1,1,1,1,1,1,0,1,0,1,1,1,1,1,1,1,1,1,0,1,1,0,1,0] (Lm m s (0:Int)))) (BB (s.Kind==7) (BB (s.Kind==7) (LQ (Ac (bif bif bif bif s.A==(-1:Int) then s.B==(-1:Int) else false then bif (↑s.Args.length:Int)==0 then (↑s.Match.length:Int)==0 else false else false then s.N==0 else false then s.Text.toList==(⟨#[]⟩:ByteArray).toList else false)) (Ac b)) (BB (s.Kind==9) (LQ (Ac (bif bif bif bif bif y then s.B==(-1:Int) else false then bif (↑s.Args.length:Int)==0 then (↑s.Match.length:Int)==0 else false else false then decide (s.N>=0) else false then decide (s.N<(↑m.Shapes.length:Int)) else false then s.Text.toList==(⟨#[]⟩:ByteArray).toList else false)) (Ac b)) (LQ (Ac false) (Ac b)))) (BB (s.Kind==8) (LQ (Ac (bif bif bif bif s.A==(-1:Int) then s.B==(-1:Int) else false then bif (↑s.Args.length:Int)==0 then (↑s.Match.length:Int)==0 else false else false then s.N==0 else false then s.Text.toList==(⟨#[]⟩:ByteArray).toList else false)) (Ac b)) (BB (s.Kind==9) (LQ (Ac (bif bif bif bif bif y then s.B==(-1:Int) else false then bif (↑s.Args.length:Int)==0 then (↑s.Match.length:Int)==0 else false else false then decide (s.N>=0) else false then decide (s.N<(↑m.Shapes.length:Int)) else false then s.Text.toList==(⟨#[]⟩:ByteArray).toList else false)) (Ac b)) (LQ (Ac false) (Ac b))))))))))):=by kernel_rfl
theorem Aah (r:Int) (m:D.Model) (a:Int) (v:D.Var):(fc AS Bl Tryz.f144 [] (Aa r)).goal (St.init [] [.agg (Ae m),Aa a,.agg (Bj v)]) =
  (BB (v.Scope==0) (LQ (Aa (↑m.Globals.length:Int)) (Aa r)) (BB (v.Scope==1) (inX a m.Procs.length/\LQ (Aa (↑(m.Procs.getD a.toNat default).Frame.length:Int)) (Aa r)) (inX v.Type_ m.Procs.length/\LQ (Aa (↑(m.Procs.getD v.Type_.toNat default).Frame.length:Int)) (Aa r)))):=by kernel_rfl
theorem Aab (b:Bool) (m:D.Model) (a k:Int) (run:Bool):(fc AS MO Tryz.f114 [] (Ac b)).goal (St.init [] [.agg (Ae m),Aa a,Aa k,Ac run]) =
  (inX k m.Exprs.length/\BB (bif bif (m.Exprs.getD k.toNat default).Op==39 then !run else false then true else bif a==m.Claim then bif bif (m.Exprs.getD k.toNat default).Op==31 then true else (m.Exprs.getD k.toNat default).Op==39 then true else bif (m.Exprs.getD k.toNat default).Op==2 then (m.Exprs.getD k.toNat default).V.Scope==1 else false else false) (LQ (Ac false) (Ac b)) (∃ (y:Int),((true&&((m.Exprs.getD k.toNat default).Op==2)==true)=true->VC 143 [VV.agg (Bj (m.Exprs.getD k.toNat default).V)] (Aa y))/\∃ (y_1:Int),((true&&((m.Exprs.getD k.toNat default).Op==2)==true)=true->VC 144 [VV.agg (Ae m),Aa a,VV.agg (Bj (m.Exprs.getD k.toNat default).V)] (Aa y_1))/\BB (bif (m.Exprs.getD k.toNat default).Op==2 then decide (y > y_1) else false) (LQ (Ac false) (Ac b)) (∃ (y:List Int),VC 111 [VV.agg (Az (m.Exprs.getD k.toNat default))] (Ad true y)/\AA (fc AS MO Tryz.f114 [] (Ac b)) [1,1,1,1,1,0,1,0] (Nx m a y (0:Int))))):=by kernel_rfl
theorem AcJ (b:Bool) (m:D.Model) (a:Int) (s:D.Stmt):(fc AS Gw Tryz.f113 [] (Ac b)).goal (St.init [] [.agg (Ae m),Aa a,.agg (Ap s)]) =
  (∃ (y:Bool),VC 142 [VV.agg (Ae m),VV.agg (Ap s)] (Ac y)/\BB (bif !y then true else bif bif bif bif a==m.Claim then s.Kind != 1 else false then s.Kind != 3 else false then s.Kind != 7 else false then s.Kind != 8 else false) (LQ (Ac false) (Ac b)) (BB (decide (s.A>=0)) (∃ (y:Bool),VC 114 [VV.agg (Ae m),Aa a,Aa s.A,Ac (s.Kind==1)] (Ac y)/\BB (!y) (LQ (Ac false) (Ac b)) (BB (decide (s.B>=0)) (∃ (y:Bool),VC 114 [VV.agg (Ae m),Aa a,Aa s.B,Ac (s.Kind==2)] (Ac y)/\BB (!y) (LQ (Ac false) (Ac b)) (AA (fc AS Gw Tryz.f113 [] (Ac b)) [1,1,1,1,1,0,1,0] (IL m a s (0:Int)))) (AA (fc AS Gw Tryz.f113 [] (Ac b)) [1,1,1,1,1,0,1,0] (IL m a s (0:Int))))) (BB (decide (s.B>=0)) (∃ (y:Bool),VC 114 [VV.agg (Ae m),Aa a,Aa s.B,Ac (s.Kind==2)] (Ac y)/\BB (!y) (LQ (Ac false) (Ac b)) (AA (fc AS Gw Tryz.f113 [] (Ac b)) [1,1,1,1,1,0,1,0] (IL m a s (0:Int)))) (AA (fc AS Gw Tryz.f113 [] (Ac b)) [1,1,1,1,1,0,1,0] (IL m a s (0:Int)))))):=by kernel_rfl
theorem RQ (b:Bool) (m:D.Model) (a:Int):(fc AS Dq Tryz.f76 [] (Ac b)).goal (St.init [] [.agg (Ae m),Aa a]) =
  (inX a m.Procs.length/\AA (fc AS Dq Tryz.f76 [] (Ac b)) [1,1,0,1,0] (GZ m a (m.Procs.getD a.toNat default) (0:Int))):=by kernel_rfl
theorem Tz (r e:Int) (m:D.Model):(fc AS CL Tryz.f74 [] (.tup [Aa r,Aa e])).goal (St.init [] [.agg (Ae m)]) =
  (BB (bif decide ((↑m.Globals.length:Int) > 128) then true else (↑m.Init.length:Int) != (↑m.Globals.length:Int)) (LQ (VV.tup [Aa 1,Aa (-1)]) (VV.tup [Aa r,Aa e])) (∃ (y:Int),VC 108 [AE true m.Globals,Ad true m.Init] (Aa y)/\BB (decide (y>=0)) (LQ (VV.tup [Aa 1,Aa y]) (VV.tup [Aa r,Aa e])) (BB (bif decide ((↑m.Shapes.length:Int) > 32) then true else decide ((↑m.Chans.length:Int) > 32)) (LQ (VV.tup [Aa 2,Aa (-1)]) (VV.tup [Aa r,Aa e])) (AA (fc AS CL Tryz.f74 [] (VV.tup [Aa r,Aa e])) [1,1,1,1,1,0,1,0] (Nz m (0:Int)))))):=by kernel_rfl
theorem WE (r e f:Int) (m:D.Model):(fc AS Gy Tryz.f48 [] (.tup [Aa r,Aa e,Aa f])).goal (St.init [] [.agg (Ae m)]) =
  (∃ (y:Int × Int),VC 74 [VV.agg (Ae m)] (VV.tup [Aa y.fst,Aa y.snd])/\BB (decide (y.fst > 0)) (LQ (VV.tup [Aa 40,Aa y.fst,Aa y.snd]) (VV.tup [Aa r,Aa e,Aa f])) (AA (fc AS Gy Tryz.f48 [] (VV.tup [Aa r,Aa e,Aa f])) [1,1,1,1,0,1,0] (Jy m (0:Int) (0:Int)))):=by kernel_rfl
theorem Wq (b:Bool) (m:D.Model):(fc AS Bl Tryz.f26 [] (Ac b)).goal (St.init [] [.agg (Ae m)]) =
  (∃ (y:Int × Int × Int),VC 48 [VV.agg (Ae m)] (VV.tup [Aa y.fst,Aa y.snd.fst,Aa y.snd.snd])/\LQ (Ac (y.fst==0)) (Ac b)):=by kernel_rfl
theorem Tw (b:Bool) (t:List D.Type) (l:List Int):(fc AS Jh Tryz.f23 [] (Ac b)).goal (St.init [] [AE true t,Ad true l]) =
  (BB ((↑t.length:Int) != (↑l.length:Int)) (LQ (Ac false) (Ac b)) (AA (fc AS Jh Tryz.f23 [] (Ac b)) [1,1,0,1,0] (G3 t l (0:Int)))):=by kernel_rfl
theorem AcN (b:Bool) (m:D.Model) (s:D.State):(fc AS Gx Tryz.f10 [] (Ac b)).goal (St.init [] [.agg (Ae m),.agg (An s)]) =
  (∃ (y:Bool),VC 23 [AE true m.Globals,Ad true s.Globals] (Ac y)/\BB (bif bif bif bif bif bif bif !y then true else decide ((↑s.Chans.length:Int) > 32) then true else decide ((↑s.Procs.length:Int) > 16) then true else decide (s.Last<0) then true else decide (s.Last > 15) then true else decide (s.Alone<(-1:Int)) then true else decide (s.Alone>=(↑s.Procs.length:Int)) then true else bif decide (m.Claim<0) then s.Claim != (-1:Int) else false) (LQ (Ac false) (Ac b)) (((true&&decide (m.Claim>=0)==true&&decide (s.Claim<0)==false)=true->inX m.Claim m.Procs.length)/\BB (bif decide (m.Claim>=0) then bif decide (s.Claim<0) then true else decide (s.Claim>=(↑(m.Procs.getD m.Claim.toNat default).Locs.length:Int)) else false) (LQ (Ac false) (Ac b)) (AA (fc AS Gx Tryz.f10 [] (Ac b)) [1,1,1,1,0,1,0] (Lq m s (0:Int))))):=by kernel_rfl
theorem TH (r:Int) (m:D.Model) (s:D.State):(fc AS Bl Tryz.f14 [] (Aa r)).goal (St.init [] [.agg (Ae m),.agg (An s)]) =
  (∃ (y:Bool),VC 26 [VV.agg (Ae m)] (Ac y)/\BB (!y) (LQ (Aa 40) (Aa r)) (∃ (y:Bool),VC 10 [VV.agg (Ae m),VV.agg (An s)] (Ac y)/\BB (!y) (LQ (Aa 41) (Aa r)) (LQ (Aa 0) (Aa r)))):=by kernel_rfl
theorem TR (r:Int) (e:D.Env):(fc AS Bl Tryz.f7 [] (Aa r)).goal (St.init [] [.agg (Af e)]) =
  (∃ (y:Int),VC 14 [VV.agg (Ae e.M),VV.agg (An e.S)] (Aa y)/\BB (y != 0) (LQ (Aa y) (Aa r)) (BB (bif decide (e.Pid<0) then true else decide (e.Pid>=(↑e.S.Procs.length:Int))) (LQ (Aa 42) (Aa r)) (LQ (Aa 0) (Aa r)))):=by kernel_rfl
theorem RW (b:Bool) (a b':List Int):(fc AS Ij Tryz.f11 [] (Ac b)).goal (St.init [] [Ad true a,Ad true b']) =
  (BB ((↑a.length:Int) != (↑b'.length:Int)) (LQ (Ac false) (Ac b)) (AA (fc AS Ij Tryz.f11 [] (Ac b)) [1,1,0,1,0] (RJ a b' (0:Int)))):=by kernel_rfl
theorem Wu (b:Bool) (t:D.Type) (v most n i:Int) (J:St->Prop):((fc AS Hj Tryz.f45 [] (Ac b)).loop [1,1,1,1,1,1,0,1,0] J).goal (Jw t v most n i) =
  (BB (decide (i<n)) (J (Jw t v (IntKind.i64.wrap ((2:Int)*most)) n (IntKind.i64.wrap (i+(1:Int))))) (BB t.Signed (LQ (Ac (bif decide (v>=IntKind.i64.wrap ((0:Int) - most)) then decide (v<most) else false)) (Ac b)) (LQ (Ac (bif decide (v>=0) then decide (v<most) else false)) (Ac b)))):=by kernel_rfl
theorem TJ (r:Int) (v:D.Var) (n k:Int) (J:St->Prop):((fc AS KS Tryz.f143 [] (Aa r)).loop [1,1,1,0,1,0] J).goal (Lo v n k) =
  (BB (decide (k<(↑v.Dims.length:Int))) (inX k v.Dims.length/\BB (bif bif bif decide ((v.Dims.getD k.toNat default).Len<1) then true else decide (IntKind.i64.wrap ((v.Dims.getD k.toNat default).Len - (1:Int)) > 1073741824) then true else decide ((v.Dims.getD k.toNat default).Stride<0) then true else decide ((v.Dims.getD k.toNat default).Stride > 1073741824)) (LQ (Aa 0) (Aa r)) (J (Lo v (IntKind.i64.wrap (n+IntKind.i64.wrap (IntKind.i64.wrap ((v.Dims.getD k.toNat default).Len - (1:Int))*(v.Dims.getD k.toNat default).Stride))) (IntKind.i64.wrap (k+(1:Int)))))) (LQ (Aa n) (Aa r))):=by kernel_rfl
theorem Tx (r:Int) (t:List D.Type) (v:List Int) (k:Int) (J:St->Prop):((fc AS KQ Tryz.f108 [] (Aa r)).loop [1,0,1,0] J).goal (G3 t v k) =
  (BB (decide (k<(↑t.length:Int))) (inX k t.length/\inX k v.length/\∃ (y:Bool),VC 45 [VV.agg (BU (t.getD k.toNat default)),Aa (v.getD k.toNat 0)] (Ac y)/\BB (!y) (LQ (Aa k) (Aa r)) (J (G3 t v (IntKind.i64.wrap (k+(1:Int)))))) (LQ (Aa (-1)) (Aa r))):=by kernel_rfl
theorem TG (b:Bool) (s:D.Shape) (k:Int) (J:St->Prop):((fc AS KR Tryz.f109 [] (Ac b)).loop [1,1,0,1,0] J).goal (Ln s k) =
  (BB (decide (k<(↑s.Fields.length:Int))) (inX k s.Fields.length/\∃ (y:Bool),VC 69 [VV.agg (BU (s.Fields.getD k.toNat default))] (Ac y)/\BB (!y) (LQ (Ac false) (Ac b)) (J (Ln s (IntKind.i64.wrap (k+(1:Int)))))) (LQ (Ac true) (Ac b))):=by kernel_rfl
theorem TV (b:Bool) (a:Int) (l:List Int) (k:Int) (J:St->Prop):((fc AS KT Tryz.f138 [] (Ac b)).loop [1,0,1,0] J).goal (Lr false a l k) =
  (BB (decide (k<(↑l.length:Int))) (inX k l.length/\((true&&decide (l.getD k.toNat 0<0)==false)=true->inX k l.length)/\BB (bif decide (l.getD k.toNat 0<0) then true else decide (l.getD k.toNat 0>=a)) (LQ (Ac false) (Ac b)) (J (Lr false a l (IntKind.i64.wrap (k+(1:Int)))))) (LQ (Ac true) (Ac b))):=by kernel_rfl
theorem OU (r:List Int) (x:D.Expr) (l:List Int) (n:Int):((fc AS A7 Tryz.f111 [] (Ad true r)).cut [1,1,1,1]).goal (E8 x l n) =
  (BB (decide (n>=2)) ((l.length+1)*8<=140737488355328/\AA ((fc AS A7 Tryz.f111 [] (Ad true r)).cut [1,1,1,1]) [1] (AB [(1,VV.bp 0 0),(3,VV.ow 1 0 (l.length+1)),(4,Aa n)] [Ob.box (Az x),Ob.arr true 0 (l.length+1) 1 fun (i:Nat)=>bif i.blt l.length then [Aa (l.getD i 0)] else (fun (i:Nat)=>List.take 1 (List.drop (i*1) [Aa x.B])) (i - l.length)])) (AA ((fc AS A7 Tryz.f111 [] (Ad true r)).cut [1,1,1,1]) [1] (E8 x l n))):=by kernel_rfl
theorem Ks (r:List Int) (x:D.Expr) (l:List Int) (n:Int):((fc AS A7 Tryz.f111 [] (Ad true r)).cut [1,1,1,1,1]).goal (E8 x l n) =
  (BB (decide (n>=3)) ((l.length+1)*8<=140737488355328/\AA ((fc AS A7 Tryz.f111 [] (Ad true r)).cut [1,1,1,1,1]) [1] (AB [(1,VV.bp 0 0),(3,VV.ow 1 0 (l.length+1))] [Ob.box (Az x),Ob.arr true 0 (l.length+1) 1 fun (i:Nat)=>bif i.blt l.length then [Aa (l.getD i 0)] else (fun (i:Nat)=>List.take 1 (List.drop (i*1) [Aa x.C])) (i - l.length)])) (AA ((fc AS A7 Tryz.f111 [] (Ad true r)).cut [1,1,1,1,1]) [1] (G5 x l))):=by kernel_rfl
theorem Ws (r:List Int) (x:D.Expr) (l:List Int):((fc AS A7 Tryz.f111 [] (Ad true r)).cut [1,1,1,1,1,1]).goal (G5 x l) =
  (BB (bif x.Op==30 then true else x.Op==39) ((l.length+x.Args.length)*8<=140737488355328/\(∀ (i:Nat),i<x.Args.length->(AG x.Args i).all VV.mem1=true)/\AA ((fc AS A7 Tryz.f111 [] (Ad true r)).cut [1,1,1,1,1,1]) [1] (AB [(1,VV.bp 0 0),(3,VV.ow 1 0 (l.length+x.Args.length))] [Ob.box (Az x),Ob.arr true 0 (l.length+x.Args.length) 1 fun (i:Nat)=>bif i.blt l.length then AG l i else AG x.Args (i - l.length)])) (AA ((fc AS A7 Tryz.f111 [] (Ad true r)).cut [1,1,1,1,1,1]) [1] (G5 x l))):=by kernel_rfl
theorem Wr (r:List Int) (x:D.Expr) (l:List Int):((fc AS A7 Tryz.f111 [] (Ad true r)).cut [1,1,1,1,1,1,1]).goal (G5 x l) =
  (BB (x.Op==2) (BB (x.V.Scope==2) ((l.length+1)*8<=140737488355328/\AA ((fc AS A7 Tryz.f111 [] (Ad true r)).cut [1,1,1,1,1,1,1]) [0,1,0,1,1,0] (AB [(1,VV.bp 0 0),(3,VV.ow 1 0 (l.length+1)),(5,Aa 0)] [Ob.box (Az x),Ob.arr true 0 (l.length+1) 1 fun (i:Nat)=>bif i.blt l.length then [Aa (l.getD i 0)] else (fun (i:Nat)=>List.take 1 (List.drop (i*1) [Aa x.V.Who])) (i - l.length)])) (AA ((fc AS A7 Tryz.f111 [] (Ad true r)).cut [1,1,1,1,1,1,1]) [0,1,0,1,1,0] (NB x l (0:Int)))) (LQ (Ad true l) (Ad true r))):=by kernel_rfl
theorem Wt (r:List Int) (x:D.Expr) (l:List Int) (k:Int) (J:St->Prop):((fc AS A7 Tryz.f111 [] (Ad true r)).loop [1,1,1,1,1,1,1,0,1,0,1,1,0] J).goal (NB x l k) =
  (BB (decide (k<(↑x.V.Dims.length:Int))) (inX k x.V.Dims.length/\(l.length+1)*8<=140737488355328/\J (AB [(1,VV.bp 0 0),(3,VV.ow 1 0 (l.length+1)),(5,Aa (IntKind.i64.wrap (k+(1:Int))))] [Ob.box (Az x),Ob.arr true 0 (l.length+1) 1 fun (i:Nat)=>bif i.blt l.length then [Aa (l.getD i 0)] else (fun (i:Nat)=>List.take 1 (List.drop (i*1) [Aa (x.V.Dims.getD k.toNat default).I])) (i - l.length)])) (LQ (Ad true l) (Ad true r))):=by kernel_rfl
theorem Wf (b:Bool) (_:D.Model) (a:Int) (v:D.Var) (k:Int) (J:St->Prop):((fc AS MN Tryz.f140 [] (Ac b)).loop [1,1,1,1,1,0,1,0] J).goal (Nw a v k) =
  (BB (decide (k<(↑v.Dims.length:Int))) (inX k v.Dims.length/\∃ (y:Bool),VC 138 [Aa a,VV.sl false 1 1 fun (i:Nat)=>List.take 1 (List.drop (i*1) [Aa (v.Dims.getD k.toNat default).I])] (Ac y)/\BB (bif bif bif bif !y then true else decide ((v.Dims.getD k.toNat default).Len<1) then true else decide ((v.Dims.getD k.toNat default).Len > 128) then true else decide ((v.Dims.getD k.toNat default).Stride<0) then true else decide ((v.Dims.getD k.toNat default).Stride > 128)) (LQ (Ac false) (Ac b)) (J (Nw a v (IntKind.i64.wrap (k+(1:Int)))))) (LQ (Ac true) (Ac b))):=by kernel_rfl
theorem PU (b:Bool) (m:D.Model) (args mt:List Int) (k:Int) (J:St->Prop):((fc AS Ik Tryz.f141 [] (Ac b)).loop [1,1,1,0,1,0] J).goal (Hy m args mt k) =
  (BB (decide (k<(↑mt.length:Int))) (inX k mt.length/\((true&&decide (mt.getD k.toNat 0<(-1:Int))==false)=true->inX k mt.length)/\((true&&(bif decide (mt.getD k.toNat 0<(-1:Int)) then true else decide (mt.getD k.toNat 0 > 1))==false)=true->inX k mt.length)/\((true&&(bif decide (mt.getD k.toNat 0<(-1:Int)) then true else decide (mt.getD k.toNat 0 > 1))==false&&(mt.getD k.toNat 0==0)==true)=true->inX k args.length)/\((true&&(bif decide (mt.getD k.toNat 0<(-1:Int)) then true else decide (mt.getD k.toNat 0 > 1))==false&&(mt.getD k.toNat 0==0)==true)=true->inX (args.getD k.toNat 0) m.Exprs.length)/\BB (bif bif decide (mt.getD k.toNat 0<(-1:Int)) then true else decide (mt.getD k.toNat 0 > 1) then true else bif mt.getD k.toNat 0==0 then (m.Exprs.getD (args.getD k.toNat 0).toNat default).Op != 2 else false) (LQ (Ac false) (Ac b)) (J (Hy m args mt (IntKind.i64.wrap (k+(1:Int)))))) (LQ (Ac true) (Ac b))):=by kernel_rfl
theorem Ww (b:Bool) (m:D.Model) (a:Int) (x:D.Expr) (n k:Int) (J:St->Prop):((fc AS J5 Tryz.f110 [] (Ac b)).loop [1,1,1,1,1,0,1,0] J).goal (NC m a x n k) =
  (BB (decide (k<3)) (inX k 3/\∃ (y:Bool),VC 138 [Aa a,VV.sl false 1 1 fun (i:Nat)=>List.take 1 (List.drop (i*1) [Aa ([x.A,x.B,x.C].getD k.toNat 0)])] (Ac y)/\((true&&(bif decide (k<n) then !y else false)==false&&decide (k>=n)==true)=true->inX k 3)/\BB (bif bif decide (k<n) then !y else false then true else bif decide (k>=n) then [x.A,x.B,x.C].getD k.toNat 0 != (-1:Int) else false) (LQ (Ac false) (Ac b)) (J (NC m a x n (IntKind.i64.wrap (k+(1:Int)))))) (∃ (y:Bool),VC 139 [VV.agg (Ae m),Aa x.N] (Ac y)/\∃ (y_1:Bool),VC 138 [Aa a,Ad true x.Args] (Ac y_1)/\BB (x.Op==1) (LQ (Ac (bif decide (x.N>=(-2147483648:Int)) then decide (x.N<=2147483647) else false)) (Ac b)) (BB (x.Op==2) (∃ (y:Bool),VC 140 [VV.agg (Ae m),Aa a,VV.agg (Bj x.V)] (Ac y)/\LQ (Ac y) (Ac b)) (BB (x.Op==30) (∃ (y:Bool),VC 141 [VV.agg (Ae m),Aa a,Ad true x.Args,Ad true x.Match] (Ac y)/\LQ (Ac (bif y then bif x.N==0 then true else x.N==1 else false)) (Ac b)) (BB (x.Op==38) (BB (bif !y then true else decide ((↑x.Args.length:Int)<1)) (LQ (Ac false) (Ac b)) (inX x.N m.Procs.length/\∃ (y:Bool),VC 138 [Aa (↑(m.Procs.getD x.N.toNat default).Locs.length:Int),Ad true x.Args] (Ac y)/\LQ (Ac y) (Ac b))) (BB (x.Op==39) (((true&&(bif y then y_1 else false)==true)=true->inX x.N m.Procs.length)/\LQ (Ac (bif bif y then y_1 else false then (↑x.Args.length:Int)==(m.Procs.getD x.N.toNat default).Params else false)) (Ac b)) (LQ (Ac true) (Ac b)))))))):=by kernel_rfl
theorem TD (b:Bool) (m:D.Model) (a:Int) (p:D.Proc) (many k:Int) (J:St->Prop):((fc AS D8 Tryz.f75 [] (Ac b)).loop [1,1,1,1,1,1,1,0,1,0] J).goal (FT m a p many k) =
  (BB (decide (k<(↑p.Locs.length:Int))) (inX k p.Locs.length/\BB (bif bif bif decide ((↑(p.Locs.getD k.toNat default).Esc.length:Int) > 8) then true else bif (p.Locs.getD k.toNat default).Dstep then (p.Locs.getD k.toNat default).Atomic else false then true else bif k==p.Final then bif decide ((↑(p.Locs.getD k.toNat default).Out.length:Int) > 0) then true else decide ((↑(p.Locs.getD k.toNat default).Esc.length:Int) > 0) else false then true else bif a==m.Claim then bif bif decide ((↑(p.Locs.getD k.toNat default).Esc.length:Int) > 0) then true else (p.Locs.getD k.toNat default).Atomic then true else (p.Locs.getD k.toNat default).Dstep else false) (LQ (Ac false) (Ac b)) (∃ (y:List (List D.Trans)),VC 112 [VV.agg (A9 (p.Locs.getD k.toNat default))] (A0 true y)/\AA ((fc AS D8 Tryz.f75 [] (Ac b)).loop [1,1,1,1,1,1,1,0,1,0] J) [1,0,0,1,1,1,1,0] (G4 m a p many k y (0:Int)))) (LQ (Ac (decide (many<=1024))) (Ac b))):=by kernel_rfl
theorem TC (b:Bool) (m:D.Model) (a:Int) (p:D.Proc) (many k:Int) (ws:List (List D.Trans)) (j:Int) (J J2:St->Prop):(((fc AS D8 Tryz.f75 [] (Ac b)).loop [1,1,1,1,1,1,1,0,1,0] J).loop [1,0,0,1,1,1,1,0] J2).goal (G4 m a p many k ws j) =
  (BB (decide (j<(↑ws.length:Int))) (((true&&decide (j > 0)==true)=true->inX j ws.length)/\BB (bif decide (j > 0) then (↑(ws.getD j.toNat []).length:Int)==0 else false) (LQ (Ac false) (Ac b)) (inX j ws.length/\AA (((fc AS D8 Tryz.f75 [] (Ac b)).loop [1,1,1,1,1,1,1,0,1,0] J).loop [1,0,0,1,1,1,1,0] J2) [1,0,0,1,1,1,0] (Jv m a p (IntKind.i64.wrap (many+(↑(ws.getD j.toNat []).length:Int))) k ws j (0:Int)))) (J (FT m a p many (IntKind.i64.wrap (k+(1:Int)))))):=by kernel_rfl
theorem TB (b:Bool) (m:D.Model) (a:Int) (p:D.Proc) (many k:Int) (ws:List (List D.Trans)) (j h:Int) (J J2 J3:St->Prop):((((fc AS D8 Tryz.f75 [] (Ac b)).loop [1,1,1,1,1,1,1,0,1,0] J).loop [1,0,0,1,1,1,1,0] J2).loop [1,0,0,1,1,1,0] J3).goal (Jv m a p many k ws j h) =
  (inX j ws.length/\BB (decide (h<(↑(ws.getD j.toNat []).length:Int))) (inX j ws.length/\inX h (ws.getD j.toNat []).length/\((true&&decide (((ws.getD j.toNat []).getD h.toNat default).To<0)==false)=true->inX j ws.length)/\((true&&decide (((ws.getD j.toNat []).getD h.toNat default).To<0)==false)=true->inX h (ws.getD j.toNat []).length)/\BB (bif decide (((ws.getD j.toNat []).getD h.toNat default).To<0) then true else decide (((ws.getD j.toNat []).getD h.toNat default).To>=(↑p.Locs.length:Int))) (LQ (Ac false) (Ac b)) (J3 (Jv m a p many k ws j (IntKind.i64.wrap (h+(1:Int)))))) (J2 (G4 m a p many k ws (IntKind.i64.wrap (j+(1:Int)))))):=by kernel_rfl
theorem Wk (b:Bool) (m:D.Model) (s:D.Stmt) (k:Int) (J:St->Prop):((fc AS J4 Tryz.f142 [] (Ac b)).loop [1,1,1,1,1,1,1,0,1,0,1,1,1,1,1,1,1,1,1,0,1,1,0,1,0] J).goal (Lm m s k) =
  (BB (decide (k<(↑s.Args.length:Int))) (inX k s.Args.length/\∃ (y:Bool),VC 164 [VV.agg (Ae m),Aa (s.Args.getD k.toNat 0)] (Ac y)/\inX k s.Match.length/\BB (bif s.Match.getD k.toNat 0==0 then !y else false) (LQ (Ac false) (Ac b)) (J (Lm m s (IntKind.i64.wrap (k+(1:Int)))))) (LQ (Ac true) (Ac b))):=by kernel_rfl
theorem Wg (b:Bool) (m:D.Model) (a:Int) (l:List Int) (k:Int) (J:St->Prop):((fc AS MO Tryz.f114 [] (Ac b)).loop [1,1,1,1,1,0,1,0] J).goal (Nx m a l k) =
  (BB (decide (k<(↑l.length:Int))) (inX k l.length/\∃ (y:Bool),VC 114 [VV.agg (Ae m),Aa a,Aa (l.getD k.toNat 0),Ac false] (Ac y)/\BB (!y) (LQ (Ac false) (Ac b)) (J (Nx m a l (IntKind.i64.wrap (k+(1:Int)))))) (LQ (Ac true) (Ac b))):=by kernel_rfl
theorem Z9 (b:Bool) (m:D.Model) (a:Int) (s:D.Stmt) (k:Int) (J:St->Prop):((fc AS Gw Tryz.f113 [] (Ac b)).loop [1,1,1,1,1,0,1,0] J).goal (IL m a s k) =
  (BB (decide (k<(↑s.Args.length:Int))) (inX k s.Args.length/\∃ (y:Bool),VC 114 [VV.agg (Ae m),Aa a,Aa (s.Args.getD k.toNat 0),Ac false] (Ac y)/\BB (!y) (LQ (Ac false) (Ac b)) (J (IL m a s (IntKind.i64.wrap (k+(1:Int)))))) (LQ (Ac true) (Ac b))):=by kernel_rfl
theorem Wd (b:Bool) (m:D.Model) (a:Int) (p:D.Proc) (k:Int) (J:St->Prop):((fc AS Dq Tryz.f76 [] (Ac b)).loop [1,1,0,1,0] J).goal (GZ m a p k) =
  (BB (decide (k<(↑p.Locs.length:Int))) (inX k p.Locs.length/\∃ (y:List (List D.Trans)),VC 112 [VV.agg (A9 (p.Locs.getD k.toNat default))] (A0 true y)/\AA ((fc AS Dq Tryz.f76 [] (Ac b)).loop [1,1,0,1,0] J) [1,0,0,1,1,0] (IK m a p k y (0:Int))) (BB (decide (p.Provided<0)) (LQ (Ac true) (Ac b)) (∃ (y:Bool),VC 114 [VV.agg (Ae m),Aa a,Aa p.Provided,Ac false] (Ac y)/\LQ (Ac y) (Ac b)))):=by kernel_rfl
theorem Wc (b:Bool) (m:D.Model) (a:Int) (p:D.Proc) (k:Int) (ws:List (List D.Trans)) (j:Int) (J J2:St->Prop):(((fc AS Dq Tryz.f76 [] (Ac b)).loop [1,1,0,1,0] J).loop [1,0,0,1,1,0] J2).goal (IK m a p k ws j) =
  (BB (decide (j<(↑ws.length:Int))) (AA (((fc AS Dq Tryz.f76 [] (Ac b)).loop [1,1,0,1,0] J).loop [1,0,0,1,1,0] J2) [1,0,0,1,0] (Ll m a p k ws j (0:Int))) (J (GZ m a p (IntKind.i64.wrap (k+(1:Int)))))):=by kernel_rfl
theorem Wb (b:Bool) (m:D.Model) (a:Int) (p:D.Proc) (k:Int) (ws:List (List D.Trans)) (j h:Int) (J J2 J3:St->Prop):((((fc AS Dq Tryz.f76 [] (Ac b)).loop [1,1,0,1,0] J).loop [1,0,0,1,1,0] J2).loop [1,0,0,1,0] J3).goal (Ll m a p k ws j h) =
  (inX j ws.length/\BB (decide (h<(↑(ws.getD j.toNat []).length:Int))) (inX j ws.length/\inX h (ws.getD j.toNat []).length/\∃ (y:Bool),VC 113 [VV.agg (Ae m),Aa a,VV.agg (Ap ((ws.getD j.toNat []).getD h.toNat default).S)] (Ac y)/\BB (!y) (LQ (Ac false) (Ac b)) (J3 (Ll m a p k ws j (IntKind.i64.wrap (h+(1:Int)))))) (J2 (IK m a p k ws (IntKind.i64.wrap (j+(1:Int)))))):=by kernel_rfl
theorem Aaf (r e:Int) (m:D.Model) (k:Int) (J:St->Prop):((fc AS CL Tryz.f74 [] (.tup [Aa r,Aa e])).loop [1,1,1,1,1,0,1,0] J).goal (Nz m k) =
  (BB (decide (k<(↑m.Shapes.length:Int))) (inX k m.Shapes.length/\∃ (y:Bool),VC 109 [VV.agg (Df (m.Shapes.getD k.toNat default))] (Ac y)/\BB (!y) (LQ (VV.tup [Aa 2,Aa k]) (VV.tup [Aa r,Aa e])) (J (Nz m (IntKind.i64.wrap (k+(1:Int)))))) (AA (fc AS CL Tryz.f74 [] (VV.tup [Aa r,Aa e])) [1,1,1,1,1,1,0,1,0] (Ny m (0:Int)))):=by kernel_rfl
theorem Aae (r e:Int) (m:D.Model) (k:Int) (J:St->Prop):((fc AS CL Tryz.f74 [] (.tup [Aa r,Aa e])).loop [1,1,1,1,1,1,0,1,0] J).goal (Ny m k) =
  (BB (decide (k<(↑m.Chans.length:Int))) (inX k m.Chans.length/\((true&&decide (m.Chans.getD k.toNat 0<0)==false)=true->inX k m.Chans.length)/\BB (bif decide (m.Chans.getD k.toNat 0<0) then true else decide (m.Chans.getD k.toNat 0>=(↑m.Shapes.length:Int))) (LQ (VV.tup [Aa 2,Aa k]) (VV.tup [Aa r,Aa e])) (J (Ny m (IntKind.i64.wrap (k+(1:Int)))))) (BB (bif bif bif bif decide ((↑m.Procs.length:Int)<1) then true else decide ((↑m.Procs.length:Int) > 16) then true else decide (m.Claim<(-1:Int)) then true else decide (m.Claim>=(↑m.Procs.length:Int)) then true else decide ((↑m.Exprs.length:Int) > 4096)) (LQ (VV.tup [Aa 3,Aa (-1)]) (VV.tup [Aa r,Aa e])) (((0:Int)<=(↑m.Exprs.length:Int)/\(↑m.Exprs.length:Int)<=(↑m.Exprs.length:Int)/\(↑m.Exprs.length:Int)*(↑1:Int)<=140737488355328)/\AA (fc AS CL Tryz.f74 [] (VV.tup [Aa r,Aa e])) [1,1,1,1,1,1,1,1,1,0,1,0] (AB [(1,VV.bp 0 0),(8,VV.ow 1 0 (↑m.Exprs.length:Int).toNat),(9,Aa 0)] [Ob.box (Ae m),Ob.arr true 0 (↑m.Exprs.length:Int).toNat 1 fun (_:Nat)=>((fc AS CL Tryz.f74 [] (VV.tup [Aa r,Aa e])).T (4:TypeId)).zero])))):=by kernel_rfl
theorem Aad (r e:Int) (m:D.Model) (had:List Bool) (k:Int) (J:St->Prop):((fc AS CL Tryz.f74 [] (.tup [Aa r,Aa e])).loop [1,1,1,1,1,1,1,1,1,0,1,0] J).goal (RH m had k) =
  (BB (decide (k<(↑m.Exprs.length:Int))) (∃ (y:Bool),VC 110 [VV.agg (Ae m),Aa k] (Ac y)/\BB (!y) (LQ (VV.tup [Aa 3,Aa k]) (VV.tup [Aa r,Aa e])) (inX k m.Exprs.length/\∃ (y:List Int),VC 111 [VV.agg (Az (m.Exprs.getD k.toNat default))] (Ad true y)/\AA ((fc AS CL Tryz.f74 [] (VV.tup [Aa r,Aa e])).loop [1,1,1,1,1,1,1,1,1,0,1,0] J) [1,0,0,1,1,1,1,0] (RG m had k y (0:Int)))) (LQ (VV.tup [Aa 0,Aa 0]) (VV.tup [Aa r,Aa e]))):=by kernel_rfl
theorem Aac (r e:Int) (m:D.Model) (had:List Bool) (k:Int) (l:List Int) (j:Int) (J J2:St->Prop):(((fc AS CL Tryz.f74 [] (.tup [Aa r,Aa e])).loop [1,1,1,1,1,1,1,1,1,0,1,0] J).loop [1,0,0,1,1,1,1,0] J2).goal (RG m had k l j) =
  (BB (decide (j<(↑l.length:Int))) (inX j l.length/\inX (l.getD j.toNat 0) had.length/\BB (had.getD (l.getD j.toNat 0).toNat false) (LQ (VV.tup [Aa 3,Aa k]) (VV.tup [Aa r,Aa e])) (inX j l.length/\inX (l.getD j.toNat 0) had.length/\J2 (AB [(1,VV.bp 0 0),(8,VV.ow 1 0 had.length),(9,Aa k),(11,Ad true l),(12,Aa (IntKind.i64.wrap (j+(1:Int))))] [Ob.box (Ae m),Ob.arr true 0 had.length 1 fun (j_1:Nat)=>bif j_1.beq (l.getD j.toNat 0).toNat then [Ac true] else [Ac (had.getD j_1 false)]]))) (J (RH m had (IntKind.i64.wrap (k+(1:Int)))))):=by kernel_rfl
theorem TU (r e f:Int) (m:D.Model) (many k:Int) (J:St->Prop):((fc AS Gy Tryz.f48 [] (.tup [Aa r,Aa e,Aa f])).loop [1,1,1,1,0,1,0] J).goal (Jy m many k) =
  (BB (decide (k<(↑m.Procs.length:Int))) (∃ (y:Bool),VC 75 [VV.agg (Ae m),Aa k] (Ac y)/\BB (!y) (LQ (VV.tup [Aa 40,Aa 4,Aa k]) (VV.tup [Aa r,Aa e,Aa f])) (inX k m.Procs.length/\J (Jy m (IntKind.i64.wrap (many+(m.Procs.getD k.toNat default).Active)) (IntKind.i64.wrap (k+(1:Int)))))) (BB (decide (many > 16)) (LQ (VV.tup [Aa 40,Aa 5,Aa (-1)]) (VV.tup [Aa r,Aa e,Aa f])) (AA (fc AS Gy Tryz.f48 [] (VV.tup [Aa r,Aa e,Aa f])) [1,1,1,1,1,1,0,1,0] (Jx m (0:Int))))):=by kernel_rfl
theorem TT (r e f:Int) (m:D.Model) (k:Int) (J:St->Prop):((fc AS Gy Tryz.f48 [] (.tup [Aa r,Aa e,Aa f])).loop [1,1,1,1,1,1,0,1,0] J).goal (Jx m k) =
  (BB (decide (k<(↑m.Procs.length:Int))) (∃ (y:Bool),VC 76 [VV.agg (Ae m),Aa k] (Ac y)/\BB (!y) (LQ (VV.tup [Aa 40,Aa 6,Aa k]) (VV.tup [Aa r,Aa e,Aa f])) (J (Jx m (IntKind.i64.wrap (k+(1:Int)))))) (LQ (VV.tup [Aa 0,Aa 0,Aa 0]) (VV.tup [Aa r,Aa e,Aa f]))):=by kernel_rfl
theorem RS (b:Bool) (t:List D.Type) (l:List Int) (k:Int) (J:St->Prop):((fc AS Jh Tryz.f23 [] (Ac b)).loop [1,1,0,1,0] J).goal (Qv t l k) =
  (BB (decide (k<(↑t.length:Int))) (inX k t.length/\inX k l.length/\∃ (y:Bool),VC 45 [VV.agg (BU (t.getD k.toNat default)),Aa (l.getD k.toNat 0)] (Ac y)/\BB (!y) (LQ (Ac false) (Ac b)) (J (G3 t l (IntKind.i64.wrap (k+(1:Int)))))) (LQ (Ac true) (Ac b))):=by kernel_rfl
theorem Aal (b:Bool) (m:D.Model) (s:D.State) (k:Int) (J:St->Prop):((fc AS Gx Tryz.f10 [] (Ac b)).loop [1,1,1,1,0,1,0] J).goal (Lq m s k) =
  (BB (decide (k<(↑s.Chans.length:Int))) (inX k s.Chans.length/\((true&&(bif decide ((s.Chans.getD k.toNat default).Shape<0) then true else decide ((s.Chans.getD k.toNat default).Shape>=(↑m.Shapes.length:Int)))==false)=true->inX (s.Chans.getD k.toNat default).Shape m.Shapes.length)/\BB (bif bif decide ((s.Chans.getD k.toNat default).Shape<0) then true else decide ((s.Chans.getD k.toNat default).Shape>=(↑m.Shapes.length:Int)) then true else decide ((↑(s.Chans.getD k.toNat default).Queue.length:Int) > (m.Shapes.getD (s.Chans.getD k.toNat default).Shape.toNat default).Room)) (LQ (Ac false) (Ac b)) (AA ((fc AS Gx Tryz.f10 [] (Ac b)).loop [1,1,1,1,0,1,0] J) [1,0,0,1,1,1,0] (NA m s k (s.Chans.getD k.toNat default) (0:Int)))) (AA (fc AS Gx Tryz.f10 [] (Ac b)) [1,1,1,1,1,0,1,0] (Lp m s (0:Int)))):=by kernel_rfl
theorem Aak (b:Bool) (m:D.Model) (s:D.State) (k:Int) (c:D.Chan) (j:Int) (J J2:St->Prop):(((fc AS Gx Tryz.f10 [] (Ac b)).loop [1,1,1,1,0,1,0] J).loop [1,0,0,1,1,1,0] J2).goal (NA m s k c j) =
  (BB (decide (j<(↑c.Queue.length:Int))) (inX c.Shape m.Shapes.length/\inX j c.Queue.length/\∃ (y:Bool),VC 23 [AE true (m.Shapes.getD c.Shape.toNat default).Fields,Ad true (c.Queue.getD j.toNat [])] (Ac y)/\BB (!y) (LQ (Ac false) (Ac b)) (J2 (NA m s k c (IntKind.i64.wrap (j+(1:Int)))))) (J (Lq m s (IntKind.i64.wrap (k+(1:Int)))))):=by kernel_rfl
theorem Aaj (b:Bool) (m:D.Model) (s:D.State) (k:Int) (J:St->Prop):((fc AS Gx Tryz.f10 [] (Ac b)).loop [1,1,1,1,1,0,1,0] J).goal (Lp m s k) =
  (BB (decide (k<(↑s.Procs.length:Int))) (inX k s.Procs.length/\BB (bif bif decide ((s.Procs.getD k.toNat default).Type_<0) then true else decide ((s.Procs.getD k.toNat default).Type_>=(↑m.Procs.length:Int)) then true else (s.Procs.getD k.toNat default).Type_==m.Claim) (LQ (Ac false) (Ac b)) (inX (s.Procs.getD k.toNat default).Type_ m.Procs.length/\∃ (y:Bool),VC 23 [AE true (m.Procs.getD (s.Procs.getD k.toNat default).Type_.toNat default).Frame,Ad true (s.Procs.getD k.toNat default).Frame] (Ac y)/\BB (bif bif bif !y then true else decide ((s.Procs.getD k.toNat default).Loc<0) then true else decide ((s.Procs.getD k.toNat default).Loc>=(↑(m.Procs.getD (s.Procs.getD k.toNat default).Type_.toNat default).Locs.length:Int)) then true else (s.Procs.getD k.toNat default).Prio != (m.Procs.getD (s.Procs.getD k.toNat default).Type_.toNat default).Prio) (LQ (Ac false) (Ac b)) (J (Lp m s (IntKind.i64.wrap (k+(1:Int))))))) (LQ (Ac true) (Ac b))):=by kernel_rfl
theorem Aai (b:Bool) (x y:List Int) (k:Int) (J:St->Prop):((fc AS Ij Tryz.f11 [] (Ac b)).loop [1,1,0,1,0] J).goal (RJ x y k) =
  (BB (decide (k<(↑x.length:Int))) (inX k x.length/\inX k y.length/\BB (x.getD k.toNat 0 != y.getD k.toNat 0) (LQ (Ac false) (Ac b)) (J (RJ x y (IntKind.i64.wrap (k+(1:Int)))))) (LQ (Ac true) (Ac b))):=by kernel_rfl
end Go.Proofs.YtiaebjpcgjkhoaaGreatDoor
namespace Go.Proofs.YtiaebjpcgjkhoaaGreatDoor
open Go.RowKit
theorem Qy (t:D.Type):Ai Tryz.prog 69 [] [.agg (BU t)] [] (Ac (D3 t)):=by
 refine Ag Ak Aj Tryz.func69 (by kernel_rfl) rfl (AcL _ t) (Ao ?_)
 unfold D3
 simp only [AM,Bd,ieq,ge_iff_le,Bool.or_assoc,Bool.and_assoc]
theorem OW (t:D.Type) (v:Int):Ai Tryz.prog 45 [] [.agg (BU t),Aa v] [] (Ac (Ci t v)):=by
 refine Ag Ak Aj Tryz.func45 (by kernel_rfl) rfl (Aan _ t v) ⟨D3 t,Qy t,fun h=>Ao ?_,fun h=>?_⟩
 ·have h':D3 t=false:=by simpa using h
  simp [Ci,h']
 have h':D3 t=true:=by simpa using h
 obtain ⟨h1,h2,h3⟩:=Acb h'
 have key:∀ n:Nat,(n:Int)=(bif t.Signed then t.Bits - 1 else t.Bits)->AA (BP Tryz.prog tb AS Hj true Tryz.f45 [] (Ac (Ci t v))) [1,1,1,1,1,1,0,1,0] (Jw t v 1 n 0):=by
  intro n hn
  have hn32:n<=32:=by cases hs:t.Signed<;>rw [hs] at hn<;>simp at hn<;>omega
  refine Bh Ak Aj (fun g st=>∃ k:Nat,k<=n/\g=n - k/\st=Jw t v (2 ^ k) n k) (by kernel_rfl) (by kernel_rfl) ⟨n,Up.of ⟨0,Nat.zero_le _,rfl,rfl⟩⟩ ?_
  rintro g st ⟨k,hk,rfl,rfl⟩
  have hp:=WP (n:=k) (by omega)
  refine Bb.raw (Wu _ t v (2 ^ k) n k _) ⟨fun hlt=>?_,fun hge=>?_⟩
  ·have hlt':k<n:=by have:=AQ hlt;omega
   refine ⟨n - (k+1),by omega,Up.of ⟨k+1,hlt',rfl,?_⟩⟩
   rw [Am (by omega),A1 (by omega) (by omega),show (2:Int)*2 ^ k=2 ^ (k+1) by rw [Int.pow_succ];omega]
   all_goals rfl
  ·obtain rfl:k=n:=by have:=AT hge;omega
   refine ⟨fun hs=>Ao ?_,fun hs=>Ao ?_⟩
   ·rw [hs,cond_true] at hn
    rw [A1 (by omega) (by omega)]
    simp only [Ci,h',hs,cond_true,Bool.true_and,ge_iff_le]
    rw [← hn,show ((k:Nat):Int).toNat=k by omega,show (0:Int) - 2 ^ k=-(2 ^ k) by omega,AM]
   ·rw [hs,cond_false] at hn
    simp only [Ci,h',hs,cond_false,Bool.true_and,ge_iff_le]
    rw [← hn,show ((k:Nat):Int).toNat=k by omega,AM]
 refine ⟨fun hs=>?_,fun hs=>?_⟩
 ·have hw:IntKind.i64.wrap (t.Bits - 1)=t.Bits - 1:=A1 (by omega) (by omega)
  have:=key (t.Bits - 1).toNat (by rw [hs,cond_true];omega)
  rw [hw]
  rwa [show (((t.Bits - 1).toNat:Nat):Int)=t.Bits - 1 by omega] at this
 ·have:=key t.Bits.toNat (by rw [hs,cond_false];omega)
  rwa [show ((t.Bits.toNat:Nat):Int)=t.Bits by omega] at this
theorem TI {v:D.Var} (hv:Hq v):Ai Tryz.prog 143 [] [.agg (Bj v)] [] (Aa (CK v)):=by
 have hd:=hv.Dims
 refine Ag Ak Aj Tryz.func143 (by kernel_rfl) rfl (Wn _ v) ⟨fun h=>BM ?_,fun h=>?_⟩
 ·unfold CK
  have:(decide (v.Slot<0)||(decide (1073741824<v.Slot)||decide (4<v.Dims.length)))=true:=by simp at h ⊢;omega
  rw [this,cond_true]
 ·have hb:0<=v.Slot/\v.Slot<=1073741824/\v.Dims.length<=4:=by simp at h;omega
  have e:CK v=C9 (v.Slot+1) v.Dims:=by
   unfold CK
   have:(decide (v.Slot<0)||(decide (1073741824<v.Slot)||decide (4<v.Dims.length)))=false:=by simp;omega
   rw [this,cond_false]
  rw [e,A1 (by omega) (by omega)]
  refine Bh Ak Aj (fun g st=>∃ (k:Nat) (n:Int),k<=v.Dims.length/\g=v.Dims.length - k/\0<=n/\n<=1073741825+k*1152921504606846976/\C9 n (v.Dims.drop k)=C9 (v.Slot+1) v.Dims/\st=Lo v n k) (by kernel_rfl) (by kernel_rfl)
   ⟨_,Up.of ⟨0,v.Slot+1,Nat.zero_le _,rfl,by omega,by omega,rfl,rfl⟩⟩ ?_
  rintro g st ⟨k,n,hk,rfl,hn0,hn1,hr,rfl⟩
  refine Bb.raw (TJ _ v n k _) ⟨fun hlt=>?_,fun hge=>BM ?_⟩
  ·have hlt':k<v.Dims.length:=by have:=AQ hlt;omega
   have hto:(k:Int).toNat=k:=by omega
   rw [hto]
   rw [B4 (d:=default) hlt'] at hr
   have hw:=hd.2 _ (Au (d:=default) hlt')
   generalize v.Dims.getD k default=d at hr hw ⊢
   have hwl:=Afq hw.Len
   refine ⟨⟨by omega,by omega⟩,fun hy=>BM ?_,fun hy=>?_⟩
   ·rw [← hr]
    have:Gq d=true:=by
     unfold Gq
     by_cases hl:d.Len<1
     ·simp [hl]
     ·rw [A1 (by omega) (by omega)] at hy
      simp at hy ⊢;omega
    show _=C9 n (d::_)
    unfold C9;rw [this]<;>rfl
   ·have hl:1<=d.Len:=by
     by_cases hl:d.Len<1
     ·simp [hl] at hy
     ·omega
    have hwr:IntKind.i64.wrap (d.Len - 1)=d.Len - 1:=A1 (by omega) (by omega)
    rw [hwr] at hy ⊢
    have hb2:d.Len - 1<=1073741824/\0<=d.Stride/\d.Stride<=1073741824:=by simp at hy;omega
    have hbad:Gq d=false:=by unfold Gq;simp;omega
    have hm1:0<=(d.Len - 1)*d.Stride:=Int.mul_nonneg (by omega) hb2.2.1
    have hm2:(d.Len - 1)*d.Stride<=1073741824*1073741824:=Int.mul_le_mul hb2.1 hb2.2.2 hb2.2.1 (by omega)
    rw [A1 (n:=(d.Len - 1)*d.Stride) (by omega) (by omega),A1 (n:=n+_) (by omega) (by omega),Am (by omega)]
    refine ⟨v.Dims.length - (k+1),by omega,Up.of ⟨k+1,n+(d.Len - 1)*d.Stride,by omega,rfl,by omega,by omega,?_,rfl⟩⟩
    rw [← hr]
    show _=C9 n (d::_)
    conv=>rhs;unfold C9
    rw [hbad]<;>rfl
  ·have hge':v.Dims.length<=k:=by have:=AT hge;omega
   rw [List.drop_eq_nil_of_le hge'] at hr
   rw [← hr]<;>rfl
theorem M5 {t:List D.Type} {init:List Int} (hl:t.length<=init.length) (hs:t.length<=1048576):Ai Tryz.prog 108 [] [AE true t,Ad true init] [] (Aa (DB t init)):=by
 refine Ag Ak Aj Tryz.func108 (by kernel_rfl) rfl (Wh _ t init) ?_
 refine AD Ak Aj t.length (fun k=>G3 t init k) (fun k=>∀ i,i<k->Ci (t.getD i default) (init.getD i 0)=true) (by kernel_rfl) (by kernel_rfl) (fun i hi=>by omega) ?_
 intro k hk hI J next
 refine Bb.raw (Tx _ t init k J) ⟨fun hlt=>?_,fun hge=>BM ?_⟩
 ·have hlt':k<t.length:=by have:=AQ hlt;omega
  refine ⟨⟨by omega,by omega⟩,⟨by omega,by omega⟩,Ci (t.getD k default) (init.getD k 0),OW _ _,fun hy=>BM ?_,fun hy=>next _ hlt' (BE hI (by simpa using hy)) (Up.of ?_)⟩
  ·exact (Dz (f:=fun i=>Ci (t.getD i default) (init.getD i 0)) hI hlt' (by simpa using hy)).symm
  ·rw [Am (by omega)]<;>rfl
 ·have hge':t.length<=k:=by have:=AT hge;omega
  exact (DA (f:=fun i=>Ci (t.getD i default) (init.getD i 0)) fun i hi=>hI i (by omega)).symm
theorem TF {s:D.Shape} (hs:K4 s):Ai Tryz.prog 109 [] [.agg (Df s)] [] (Ac (CJ s)):=by
 have hl:=hs.Fields.1
 refine Ag Ak Aj Tryz.func109 (by kernel_rfl) rfl (Wl _ s) ⟨fun h=>Ao ?_,fun h=>?_⟩
 ·symm;rw [Bool.eq_false_iff];intro hc;simp [CJ] at hc h;omega
 ·have e:CJ s=Ce s.Fields.length fun i=>D3 (s.Fields.getD i default):=by
   unfold CJ
   have:(decide (0<=s.Room)&&decide (s.Room<=16)&&decide (1<=s.Fields.length)&&decide (s.Fields.length<=8))=true:=by simp at h ⊢;omega
   rw [this,Bool.true_and]
  rw [e]
  refine AD Ak Aj s.Fields.length (fun k=>Ln s k) (fun k=>∀ i,i<k->D3 (s.Fields.getD i default)=true) (by kernel_rfl) (by kernel_rfl) (fun i hi=>by omega) ?_
  intro k hk hI J next
  refine Bb.raw (TG _ s k J) ⟨fun hlt=>?_,fun hge=>Ao ?_⟩
  ·have hlt':k<s.Fields.length:=by have:=AQ hlt;omega
   refine ⟨⟨by omega,by omega⟩,D3 (s.Fields.getD k default),Qy _,fun hy=>Ao ?_,fun hy=>next _ hlt' (BE hI (by simpa using hy)) (Up.of ?_)⟩
   ·exact (Bo (f:=fun i=>D3 (s.Fields.getD i default)) hlt' (by simpa using hy)).symm
   ·rw [Am (by omega)]<;>rfl
  ·have hge':s.Fields.length<=k:=by have:=AT hge;omega
   exact (AL.2 fun i hi=>hI i (by omega)).symm
theorem LF (m:D.Model) (n:Int):Ai Tryz.prog 139 [] [.agg (Ae m),Aa n] [] (Ac (BO m n)):=by
 refine Ag Ak Aj Tryz.func139 (by kernel_rfl) rfl (TL _ m n) (Ao ?_)
 rw [Bool.eq_iff_iff];simp [BO]
theorem LK {a:Int} {l:List Int} (hl:l.length<=1099511627776):Ai Tryz.prog 138 [] [Aa a,Ad false l] [] (Ac (BL a l)):=by
 refine Ag Ak Aj Tryz.func138 (by kernel_rfl) rfl (WG _ a l) ?_
 refine AD Ak Aj l.length (fun k=>Lr false a l k) (fun k=>∀ i,i<k->inP a (l.getD i 0)=true) (by kernel_rfl) (by kernel_rfl) (fun i hi=>by omega) ?_
 intro k hk hI J next
 refine Bb.raw (TV _ a l k J) ⟨fun hlt=>?_,fun hge=>Ao ?_⟩
 ·have hlt':k<l.length:=by have:=AQ hlt;omega
  have hto:(k:Int).toNat=k:=by omega
  rw [hto]
  refine ⟨⟨by omega,by omega⟩,fun _=>⟨by omega,by omega⟩,fun hy=>Ao ?_,fun hy=>next _ hlt' (BE hI ?_) (Up.of ?_)⟩
  ·exact (Bo (f:=fun i=>inP a (l.getD i 0)) hlt' (by rw [Bool.eq_false_iff];intro hc;simp [inP] at hc hy;omega)).symm
  ·simp [inP] at hy ⊢;omega
  ·rw [Am (by omega)]<;>rfl
 ·have hge':l.length<=k:=by have:=AT hge;omega
  exact (AL.2 fun i hi=>hI i (by omega)).symm
theorem GI {a:Int} {l:List Int} (hl:l.length<=1099511627776):Ai Tryz.prog 138 [] [Aa a,Ad true l] [] (Ac (BL a l)) :=
 (LK hl).frz rfl fun j x y hx hy=>by
  match j,hx,hy with
  | 0,hx,hy=>obtain rfl:=Option.some.inj hx;obtain rfl:=Option.some.inj hy;exact C1 _
  | 1,hx,hy=>obtain rfl:=Option.some.inj hx;obtain rfl:=Option.some.inj hy;exact My
  | j+2,hx,_=>simp at hx
theorem Ku {a x:Int}:Ai Tryz.prog 138 [] [Aa a,.sl false 1 1 fun i=>List.take 1 (List.drop (i*1) [.sc (.int .i64 x)])] [] (Ac (inP a x)):=by
 have h:=LK (a:=a) (l:=[x]) (by simp)
 have e:BL a [x]=inP a x:=by simp [BL,Ce,List.getD]
 rw [e] at h
 refine h.le trivial ⟨VV.le_refl _,VV.le_sl (.inl rfl) fun i hi=>A2 ?_,trivial⟩ trivial (VV.le_refl _)
 obtain rfl:i=0:=by omega
 rfl
theorem M6 (op:Int):Ai Tryz.prog 137 [] [Aa op] [] (Aa (AH op)):=by
 refine Ag Ak Aj Tryz.func137 (by kernel_rfl) rfl (Wo _ op) ?_
 have k0:∀ {p:Prop},(op=1∨op=2∨op=31∨op=32∨op=33∨op=34∨op=35∨op=39)->leO [] []/\VV.le (.sc (.int .i64 0)) (.sc (.int .i64 (AH op:Nat))):=fun h=>BM (by unfold AH;rw [if_pos h]<;>rfl)
 have kx:¬(op=1∨op=2∨op=31∨op=32∨op=33∨op=34∨op=35∨op=39)->((op==(24:Int))=true->leO [] []/\(VV.sc (.int .i64 3)).le (.sc (.int .i64 (AH op:Nat))))/\((op==(24:Int))=false ->
   ((bif decide (op>=(6:Int)) then decide (op<=(23:Int)) else false)=true->leO [] []/\(VV.sc (.int .i64 2)).le (.sc (.int .i64 (AH op:Nat))))/\((bif decide (op>=(6:Int)) then decide (op<=(23:Int)) else false)=false->leO [] []/\(VV.sc (.int .i64 1)).le (.sc (.int .i64 (AH op:Nat))))):=by
  intro hn
  refine ⟨fun h=>BM ?_,fun h=>⟨fun h2=>BM ?_,fun h2=>BM ?_⟩⟩
  ·unfold AH;rw [if_neg hn,if_pos (by simpa using h)]<;>rfl
  ·unfold AH;rw [if_neg hn,if_neg (by simpa using h),if_pos (by simp at h2;omega)];rfl
  ·unfold AH;rw [if_neg hn,if_neg (by simpa using h),if_neg (by simp at h2;omega)];rfl
 refine ⟨fun h1=>⟨fun _=>k0 (p:=True) (by simp at h1;omega),fun h=>bt h1 h⟩,fun h1=>⟨fun h2=>⟨fun _=>k0 (p:=True) (by simp at h2;omega),fun h=>bt h2 h⟩,fun h2=>⟨fun h3=>⟨fun _=>k0 (p:=True) (by simp at h3;omega),fun h=>bt h3 h⟩,fun h3=>⟨fun h4=>⟨fun _=>k0 (p:=True) (by simp at h4;omega),fun h=>bt h4 h⟩,fun h4=>⟨fun h5=>⟨fun _=>k0 (p:=True) (by simp at h5;omega),fun h=>bt h5 h⟩,fun h5 =>
  ⟨fun h6=>⟨fun _=>k0 (p:=True) (by simp at h6;omega),fun h=>bt h6 h⟩,fun h6=>⟨fun h7=>⟨fun _=>k0 (p:=True) (by simp at h7;omega),fun h=>bt h7 h⟩,fun h7=>⟨fun h8=>k0 (p:=True) (by simp at h8;omega),fun h8=>kx (by simp at h1 h2 h3 h4 h5 h6 h7 h8;omega)⟩⟩⟩⟩⟩⟩⟩⟩
theorem We {m:D.Model} {a:Int} {v:D.Var} (hv:Hq v):Ai Tryz.prog 140 [] [.agg (Ae m),Aa a,.agg (Bj v)] [] (Ac (CM m a v)):=by
 have hl:=hv.Dims.1
 refine Ag Ak Aj Tryz.func140 (by kernel_rfl) rfl (Aaa _ m a v) ⟨fun h=>Ao ?_,fun h=>⟨inP a v.Who,Ku,BO m v.Type_,LF _ _,fun hy=>Ao ?_,fun hy=>?_⟩⟩
 ·unfold CM
  symm;rw [Bool.eq_false_iff];intro hc;simp at h hc;omega
 ·unfold CM
  symm;rw [Bool.eq_false_iff];intro hc
  simp only [Bool.and_eq_true] at hc
  have hc:=hc.1.2
  by_cases h2:v.Scope=2
  ·rw [decide_eq_true h2,cond_true,Bool.and_eq_true] at hc
   simp [h2,hc.1,hc.2] at hy
  ·rw [decide_eq_false h2,cond_false] at hc
   simp [h2] at hy hc
   omega
 ·have e:CM m a v=Ce v.Dims.length fun i=>Ib a (v.Dims.getD i default):=by
   unfold CM
   have e1:(decide (0<=v.Scope)&&decide (v.Scope<=2)&&decide (0<=v.Slot)&&decide (v.Slot<=128)&&decide (v.Dims.length<=4))=true:=by simp at h ⊢;omega
   have e2:(bif decide (v.Scope=2) then inP a v.Who&&BO m v.Type_ else decide (v.Who=-1)&&decide (v.Type_=-1))=true:=by
    by_cases h2:v.Scope=2
    ·rw [decide_eq_true h2,cond_true]
     cases h3:inP a v.Who<;>cases h4:BO m v.Type_<;>simp [h2,h3,h4] at hy ⊢
    ·rw [decide_eq_false h2,cond_false]
     simp [h2] at hy ⊢
     omega
   rw [e1,e2,Bool.true_and,Bool.true_and]
  rw [e]
  refine AD Ak Aj v.Dims.length (fun k=>Nw a v k) (fun k=>∀ i,i<k->Ib a (v.Dims.getD i default)=true) (by kernel_rfl) (by kernel_rfl) (fun i hi=>by omega) ?_
  intro k hk hI J next
  refine Bb.raw (Wf _ m a v k J) ⟨fun hlt=>?_,fun hge=>Ao ?_⟩
  ·have hlt':k<v.Dims.length:=by have:=AQ hlt;omega
   have hto:(k:Int).toNat=k:=by omega
   rw [hto]
   have hdim:∀ d:D.Dim,Ib a d=!(bif bif bif bif !(inP a d.I) then true else decide (d.Len<1) then true else decide (d.Len > 128) then true else decide (d.Stride<0) then true else decide (d.Stride > 128)):=by
    intro d
    unfold Ib
    cases inP a d.I
    ·rfl
    ·rw [Bool.eq_iff_iff];simp<;>omega
   refine ⟨⟨by omega,by omega⟩,inP a (v.Dims.getD k default).I,Ku,fun hy=>Ao ?_,fun hy=>next _ hlt' (BE hI ?_) (Up.of ?_)⟩
   ·exact (Bo (f:=fun i=>Ib a (v.Dims.getD i default)) hlt' (by show Ib a _=false;rw [hdim,hy]<;>rfl)).symm
   ·rw [hdim,hy]<;>rfl
   ·rw [Am (by omega)]<;>rfl
  ·have hge':v.Dims.length<=k:=by have:=AT hge;omega
   exact (AL.2 fun i hi=>hI i (by omega)).symm
theorem Kb {m:D.Model} {a:Int} {args mt:List Int} (ha:a<=m.Exprs.length) (h1:args.length<=1048576) (h2:mt.length<=1048576) :
  Ai Tryz.prog 141 [] [.agg (Ae m),Aa a,Ad true args,Ad true mt] [] (Ac (Bt m a args mt)):=by
 refine Ag Ak Aj Tryz.func141 (by kernel_rfl) rfl (RX _ m a args mt) ⟨BL a args,GI (by omega),fun h=>Ao ?_,fun h=>?_⟩
 ·unfold Bt
  symm;rw [Bool.eq_false_iff];intro hc
  simp at hc h
  obtain ⟨⟨⟨⟨c1,c2⟩,c3⟩,c4⟩,_⟩:=hc
  rw [c4] at h
  simp at h
  omega
 ·have hb:BL a args=true:=by
   cases hq:BL a args with
   | true=>rfl
   | false=>rw [hq] at h;simp at h
  have hlen:1<=args.length/\args.length<=8/\mt.length=args.length:=by rw [hb] at h;simp at h;omega
  have e:Bt m a args mt=Ce mt.length fun i=>ES m (args.getD i 0) (mt.getD i 0):=by
   unfold Bt
   rw [hb];simp [hlen]
  rw [e]
  have hin:=D7.1 hb
  refine AD Ak Aj mt.length (fun k=>Hy m args mt k) (fun k=>∀ i,i<k->ES m (args.getD i 0) (mt.getD i 0)=true) (by kernel_rfl) (by kernel_rfl) (fun i hi=>by omega) ?_
  intro k hk hI J next
  refine Bb.raw (PU _ m args mt k J) ⟨fun hlt=>?_,fun hge=>Ao ?_⟩
  ·have hlt':k<mt.length:=by have:=AQ hlt;omega
   have hto:(k:Int).toNat=k:=by omega
   rw [hto]
   have hx:=hin _ (Au (d:=(0:Int)) (show k<args.length by omega))
   have hm:ES m (args.getD k 0) (mt.getD k 0)=!(bif bif decide (mt.getD k 0 < -1) then true else decide (mt.getD k 0 > 1) then true else bif mt.getD k 0==0 then (m.Exprs.getD (args.getD k 0).toNat default).Op != 2 else false):=by
    unfold ES Ar
    rw [Bool.eq_iff_iff];simp<;>omega
   refine ⟨⟨by omega,by omega⟩,fun _=>⟨by omega,by omega⟩,fun _=>⟨by omega,by omega⟩,fun _=>⟨by omega,by omega⟩,fun _=>⟨by omega,by omega⟩,fun hy=>Ao ?_,fun hy=>next _ hlt' (BE hI ?_) (Up.of ?_)⟩
   ·exact (Bo (f:=fun i=>ES m (args.getD i 0) (mt.getD i 0)) hlt' (by show ES m _ _=false;rw [hm,hy]<;>rfl)).symm
   ·rw [hm,hy]<;>rfl
   ·rw [Am (by omega)]<;>rfl
  ·have hge':mt.length<=k:=by have:=AT hge;omega
   exact (AL.2 fun i hi=>hI i (by omega)).symm
end Go.Proofs.YtiaebjpcgjkhoaaGreatDoor
namespace Go.Proofs.YtiaebjpcgjkhoaaGreatDoor
open Go.RowKit
theorem OT {x:D.Expr} (h1:x.Args.length<=1048576) (h2:x.V.Dims.length<=1048576):Ai Tryz.prog 111 [] [.agg (Az x)] [] (Ad true (Bi x)):=by
 have hp3:=O6 x.Op
 have loop:∀ (L:List Int),L.length<=2097152->L++x.V.Dims.map D.Dim.I=Bi x->AA (BP Tryz.prog tb AS A7 true Tryz.f111 [] (Ad true (Bi x))) [1,1,1,1,1,1,1,0,1,0,1,1,0] (NB x L 0):=by
  intro L hL hR
  generalize Bi x=R at hR ⊢
  refine AD Ak Aj x.V.Dims.length (fun k=>NB x (L++(x.V.Dims.take k).map D.Dim.I) k) (fun _=>True) (by kernel_rfl) (by kernel_rfl) trivial ?_ |> fun h=>by simpa using h
  intro k hk _ J next
  have hlen:(L++(x.V.Dims.take k).map D.Dim.I).length=L.length+k:=by simp;omega
  refine Bb.raw (Wt _ x _ k J) ⟨fun hlt=>?_,fun hge=>⟨trivial,?_⟩⟩
  ·have hlt':k<x.V.Dims.length:=by have:=AQ hlt;omega
   have hto:(k:Int).toNat=k:=by omega
   rw [hto]
   refine ⟨⟨by omega,by omega⟩,by rw [hlen];omega,next _ hlt' trivial ?_⟩
   have hpush:(x.V.Dims.take (k+1)).map D.Dim.I=(x.V.Dims.take k).map D.Dim.I++[(x.V.Dims.getD k default).I]:=by rw [Ec (d:=default) hlt'];simp
   have e:L++(x.V.Dims.take (k+1)).map D.Dim.I=(L++(x.V.Dims.take k).map D.Dim.I)++[(x.V.Dims.getD k default).I]:=by rw [hpush,List.append_assoc]
   rw [e,Am (by omega)]
   generalize L++(x.V.Dims.take k).map D.Dim.I=M
   generalize (x.V.Dims.getD k default).I=z
   refine Up.mk (l':=[(1,.bp 0 0),(3,.ow 1 0 (M++[z]).length),(5,Aa ((k+1:Nat):Int))]) (hs':=[.box (Az x),.arr true 0 (M++[z]).length 1 (AG (M++[z]))]) ?_ ?_ rfl
   ·rw [show M.length+1=(M++[z]).length by simp];exact AY _
   ·rw [show M.length+1=(M++[z]).length by simp]
    exact ⟨Ob.le_refl _,Ob.le_arr fun i hi=>A2 (Ca (f:=fun n=>[Aa n]) (d:=0) (l:=M) (r:=[z]) (F:=fun i=>[.sc (.int .i64 (M.getD i 0))]) (fun i hi=>rfl) Er hi),trivial⟩
  ·have hge':x.V.Dims.length<=k:=by have:=AT hge;omega
   rw [List.take_of_length_le hge',hR]
   exact VV.le_refl _
 have dD:∀ st,AA ((BP Tryz.prog tb AS A7 true Tryz.f111 [] (Ad true (Bi x))).cut [1,1,1,1,1,1,1]) [0,1,0,1,1,0] st=AA (BP Tryz.prog tb AS A7 true Tryz.f111 [] (Ad true (Bi x))) [1,1,1,1,1,1,1,0,1,0,1,1,0] st:=fun st=>by kernel_rfl
 have dC:∀ st,AA ((BP Tryz.prog tb AS A7 true Tryz.f111 [] (Ad true (Bi x))).cut [1,1,1,1,1,1]) [1] st=AA (BP Tryz.prog tb AS A7 true Tryz.f111 [] (Ad true (Bi x))) [1,1,1,1,1,1,1] st:=fun st=>by kernel_rfl
 have dB:∀ st,AA ((BP Tryz.prog tb AS A7 true Tryz.f111 [] (Ad true (Bi x))).cut [1,1,1,1,1]) [1] st=AA (BP Tryz.prog tb AS A7 true Tryz.f111 [] (Ad true (Bi x))) [1,1,1,1,1,1] st:=fun st=>by kernel_rfl
 have dA:∀ st,AA ((BP Tryz.prog tb AS A7 true Tryz.f111 [] (Ad true (Bi x))).cut [1,1,1,1]) [1] st=AA (BP Tryz.prog tb AS A7 true Tryz.f111 [] (Ad true (Bi x))) [1,1,1,1,1] st:=fun st=>by kernel_rfl
 have hheld:Bi x=[x.A,x.B,x.C].take (AH x.Op)++((if x.Op=30∨x.Op=39 then x.Args else [])++(if x.Op=2 then (if x.V.Scope=2 then [x.V.Who] else [])++x.V.Dims.map D.Dim.I else [])):=rfl
 generalize Bi x=R at hheld loop dA dB dC dD ⊢
 have push:∀ {c:Ctx} {rel:List Nat} (l:List (Nat × VV)) (M:List Int) (z:Int) (F:Nat->List VV),(∀ i,F i=[VV.sc (.int .i64 (M.getD i 0))])->AA c rel (AB ((1,.bp 0 0)::(3,.ow 1 0 (M++[z]).length)::l) [.box (Az x),.arr true 0 (M++[z]).length 1 (AG (M++[z]))]) ->
   AA c rel (AB ((1,.bp 0 0)::(3,.ow 1 0 (M.length+1))::l) [.box (Az x),.arr true 0 (M.length+1) 1 (fun i=>bif i.blt M.length then F i else (fun i=>List.take 1 (List.drop (i*1) [.sc (.int .i64 z)])) (i - M.length))]):=by
  intro c rel l M z F hF h
  rw [show M.length+1=(M++[z]).length by simp]
  exact AA.le (hs':=[.box (Az x),.arr true 0 (M++[z]).length 1 (AG (M++[z]))]) (AY _) ⟨Ob.le_refl _,Ob.le_arr fun i hi=>A2 (Ca (f:=fun n=>[Aa n]) (d:=0) (l:=M) (r:=[z]) (F:=F) (fun i _=>hF i) Er hi),trivial⟩ h
 have hD:∀ (L:List Int),L.length<=2097151->L++(if x.Op=2 then (if x.V.Scope=2 then [x.V.Who] else [])++x.V.Dims.map D.Dim.I else [])=R->AA (BP Tryz.prog tb AS A7 true Tryz.f111 [] (Ad true R)) [1,1,1,1,1,1,1] (G5 x L):=by
  intro L hL hR
  refine EC Ak Aj (by kernel_rfl) (Wr _ x L) ⟨fun k=>⟨fun q=>⟨by omega,?_⟩,fun q=>?_⟩,fun k=>⟨trivial,?_⟩⟩
  ·refine push _ L _ _ (fun _=>rfl) (Eq.mpr (dD _) (loop _ (by simp;omega) ?_))
   rw [if_pos (by simpa using k),if_pos (by simpa using q)] at hR
   rw [← hR,List.append_assoc]
  ·refine Eq.mpr (dD _) (loop _ (by omega) ?_)
   rw [if_pos (by simpa using k),if_neg (by simpa using q)] at hR
   exact hR
  ·rw [if_neg (by simpa using k),List.append_nil] at hR
   rw [hR];exact VV.le_refl _
 have hC:∀ (L:List Int),L.length<=3->L++((if x.Op=30∨x.Op=39 then x.Args else [])++(if x.Op=2 then (if x.V.Scope=2 then [x.V.Who] else [])++x.V.Dims.map D.Dim.I else []))=R->AA (BP Tryz.prog tb AS A7 true Tryz.f111 [] (Ad true R)) [1,1,1,1,1,1] (G5 x L):=by
  intro L hL hR
  refine EC Ak Aj (by kernel_rfl) (Ws _ x L) ⟨fun k=>⟨by omega,fun _ _=>rfl,?_⟩,fun k=>Eq.mpr (dC _) (hD L (by omega) ?_)⟩
  ·have e:L.length+x.Args.length=(L++x.Args).length:=by simp
   rw [e]
   refine AA.le (hs':=[.box (Az x),.arr true 0 (L++x.Args).length 1 (AG (L++x.Args))]) (AY _) ⟨Ob.le_refl _,Ob.le_arr fun i hi=>A2 (SG (fun i _=>rfl) hi),trivial⟩ (Eq.mpr (dC _) (hD (L++x.Args) (by simp;omega) ?_))
   rw [if_pos (by simpa using k)] at hR
   rw [← hR,List.append_assoc]
  ·rw [if_neg (by simpa using k),List.nil_append] at hR
   exact hR
 refine Ag Ak Aj Tryz.func111 (by kernel_rfl) rfl (Aam _ x) ⟨(AH x.Op:Nat),M6 _,fun g1=>⟨by omega,?_⟩,fun g1=>?_⟩
 ·have c1:1<=AH x.Op:=by simp at g1;omega
  refine AA.le (l':=[(1,.bp 0 0),(3,.ow 1 0 [x.A].length),(4,Aa (AH x.Op:Nat))]) (hs':=[.box (Az x),.arr true 0 [x.A].length 1 (AG [x.A])]) (AY _) ⟨Ob.le_refl _,Ob.le_arr fun i hi=>A2 (Er i hi),trivial⟩ ?_
  change AA _ _ (E8 x [x.A] (AH x.Op:Nat))
  refine EC Ak Aj (by kernel_rfl) (OU _ x [x.A] _) ⟨fun g2=>⟨by simp,push _ [x.A] _ _ (fun _=>rfl) (Eq.mpr (dA _) ?_)⟩,fun g2=>Eq.mpr (dA _) ?_⟩
  ·have c2:2<=AH x.Op:=by simp at g2;omega
   change AA _ _ (E8 x [x.A,x.B] (AH x.Op:Nat))
   refine EC Ak Aj (by kernel_rfl) (Ks _ x [x.A,x.B] _) ⟨fun g3=>⟨by simp,push _ [x.A,x.B] _ _ (fun _=>rfl) (Eq.mpr (dB _) (hC [x.A,x.B,x.C] (by simp) ?_))⟩,fun g3=>Eq.mpr (dB _) (hC [x.A,x.B] (by simp) ?_)⟩
   ·have c3:AH x.Op=3:=by simp at g3;omega
    rw [hheld,c3]<;>rfl
   ·have c3:AH x.Op=2:=by simp at g3;omega
    rw [hheld,c3]<;>rfl
  ·have c2:AH x.Op=1:=by simp at g2;omega
   change AA _ _ (E8 x [x.A] (AH x.Op:Nat))
   refine EC Ak Aj (by kernel_rfl) (Ks _ x [x.A] _) ⟨fun g3=>absurd g3 (by rw [c2];decide),fun g3=>Eq.mpr (dB _) (hC [x.A] (by simp) ?_)⟩
   rw [hheld,c2]<;>rfl
 ·have c1:AH x.Op=0:=by simp at g1;omega
  refine AA.own 1 3 1 (AG []) rfl ?_
  change AA _ _ (E8 x [] (AH x.Op:Nat))
  refine EC Ak Aj (by kernel_rfl) (OU _ x [] _) ⟨fun g2=>absurd g2 (by rw [c1];decide),fun g2=>Eq.mpr (dA _) ?_⟩
  change AA _ _ (E8 x [] (AH x.Op:Nat))
  refine EC Ak Aj (by kernel_rfl) (Ks _ x [] _) ⟨fun g3=>absurd g3 (by rw [c1];decide),fun g3=>Eq.mpr (dB _) (hC [] (by simp) ?_)⟩
  rw [hheld,c1]<;>rfl
theorem OR {l:D.Loc} (h1:l.Esc.length<=1048576):Ai Tryz.prog 112 [] [.agg (A9 l)] [] (A0 true (BA l)):=by
 refine Ag Ak Aj Tryz.func112 (by kernel_rfl) rfl (Z7 _ l) ⟨by omega,by omega,fun i hi=>rfl,trivial,?_⟩
 have e:1+l.Esc.length=(BA l).length:=by simp [BA];omega
 rw [e]
 refine VV.le_sl (.inl rfl) fun i hi=>A2 ?_
 refine Ca (l:=[l.Out]) (r:=l.Esc) (f:=fun w=>[Av true w]) (d:=[]) (F:=fun i=>List.take 1 (List.drop (i*1) [Av true l.Out])) (G:=fun i=>[Av true (l.Esc.getD i [])]) (fun i hi=>?_) (fun i hi=>rfl) hi
 obtain rfl:i=0:=by simpa using hi
 rfl
theorem Wv {m:D.Model} {a:Int} (h0:0<=a) (ha:a<m.Exprs.length) (hw:Jo (Ar m a)) (hP:m.Procs.length<=1048576):Ai Tryz.prog 110 [] [.agg (Ae m),Aa a] [] (Ac (Dd m a)):=by
 refine Ag Ak Aj Tryz.func110 (by kernel_rfl) rfl (Aao _ m a) ⟨⟨h0,ha⟩,fun h=>Ao ?_,fun h=>?_⟩
 ·symm;rw [Bool.eq_false_iff];intro hc
  unfold Dd at hc
  simp only [Bool.and_eq_true,decide_eq_true_eq] at hc
  have h':(bif decide ((Ar m a).Op<1) then true else decide ((Ar m a).Op > 39))=true:=h
  simp at h'
  omega
 ·have hop:1<=(Ar m a).Op/\(Ar m a).Op<=39:=by
   have h':(bif decide ((Ar m a).Op<1) then true else decide ((Ar m a).Op > 39))=false:=h
   simp at h';omega
  have hargs:=hw.Args.1
  have hmt:=hw.Match.1
  have hwv:=hw.V
  have hwn:=hw.N
  generalize hb:Dd m a=b
  unfold Dd at hb
  simp only at hb
  refine ⟨(AH (Ar m a).Op:Nat),M6 _,?_⟩
  show AA _ _ (AB [(1,Aa a),(2,.bp 0 0),(5,.bp 1 0),(6,Aa (AH (Ar m a).Op:Nat)),(7,.ow 2 0 3),(8,Aa 0)] [.box (Ae m),.box (Az (Ar m a)),.arr true 0 3 1 (fun i=>List.take 1 (List.drop (i*1) [VV.sc (.int .i64 (Ar m a).A),.sc (.int .i64 (Ar m a).B),.sc (.int .i64 (Ar m a).C)]))])
  generalize Ar m a=x at hop hargs hmt hwv hwn hb ⊢
  have e:(decide (1<=x.Op)&&decide (x.Op<=39))=true:=by simp;omega
  rw [e,Bool.true_and] at hb
  have st0:AA (BP Tryz.prog tb AS J5 true Tryz.f110 [] (Ac b)) [1,1,1,1,1,0,1,0] (NC m a x (AH x.Op:Nat) 0):=by
   refine AD Ak Aj 3 (fun k=>NC m a x (AH x.Op:Nat) k) (fun k=>∀ i,i<k->Du a x.Op i ([x.A,x.B,x.C].getD i 0)=true) (by kernel_rfl) (by kernel_rfl) (fun i hi=>by omega) ?_
   intro k hk hI J next
   refine Bb.raw (Ww _ m a x _ k J) ⟨fun hlt=>?_,fun hge=>?_⟩
   ·have hlt':k<3:=by have:=AQ (b:=3) hlt;omega
    have hto:(k:Int).toNat=k:=by omega
    rw [hto]
    refine ⟨⟨by omega,by omega⟩,inP a ([x.A,x.B,x.C].getD k 0),Ku,fun _=>⟨by omega,by omega⟩,fun hy=>Ao ?_,fun hy=>next _ hlt' (BE hI ?_) (Up.of ?_)⟩
    ·have hp:Du a x.Op k ([x.A,x.B,x.C].getD k 0)=false:=by rw [Fd];exact congrArg (!·) hy
     rw [← hb]
     rcases (show k=0∨k=1∨k=2 by omega) with rfl | rfl | rfl
     ·have hp':Du a x.Op 0 x.A=false:=hp
      rw [hp']<;>rfl
     ·have hp':Du a x.Op 1 x.B=false:=hp
      rw [hp'];simp
     ·have hp':Du a x.Op 2 x.C=false:=hp
      rw [hp'];simp
    ·rw [Fd];exact congrArg (!·) hy
    ·rw [Am (by omega)]<;>rfl
   ·have hge':3<=k:=by simp at hge;omega
    have p0:Du a x.Op 0 x.A=true:=hI 0 (by omega)
    have p1:Du a x.Op 1 x.B=true:=hI 1 (by omega)
    have p2:Du a x.Op 2 x.C=true:=hI 2 (by omega)
    rw [p0,p1,p2] at hb
    simp only [Bool.and_self,Bool.true_and] at hb
    subst hb
    refine ⟨BO m x.N,LF _ _,BL a x.Args,GI (by omega),fun h1=>Ao ?_,fun h1=>⟨fun h2=>⟨_,We hwv,Ao ?_⟩,fun h2=>⟨fun h3=>⟨_,Kb (by omega) hargs hmt,Ao ?_⟩,fun h3=>⟨fun h4=>⟨fun h5=>Ao ?_,fun h5=>⟨?_,BL (IY m x.N).length x.Args,GI (by omega),Ao ?_⟩⟩,fun h4 =>
     ⟨fun h5=>⟨fun hy=>?_,Ao ?_⟩,fun h5=>Ao ?_⟩⟩⟩⟩⟩
    ·rw [if_pos (by simpa using h1)]
     rw [Bool.eq_iff_iff];simp [Ci,D3];omega
    ·rw [if_neg (by simpa using h1),if_pos (by simpa using h2)]
    ·rw [if_neg (by simpa using h1),if_neg (by simpa using h2),if_pos (by simpa using h3)]
     cases Bt m a x.Args x.Match
     ·rfl
     ·rw [Bool.eq_iff_iff];simp
    ·rw [if_neg (by simpa using h1),if_neg (by simpa using h2),if_neg (by simpa using h3),if_pos (by simpa using h4)]
     symm;rw [Bool.eq_false_iff];intro hc
     simp [JI] at hc h5;simp [hc] at h5;omega
    ·have:BO m x.N=true:=by
      cases hq:BO m x.N with
      | true=>rfl
      | false=>rw [hq] at h5;simp at h5
     simp [BO] at this;omega
    ·have hq:BO m x.N=true:=by
      cases hq:BO m x.N with
      | true=>rfl
      | false=>rw [hq] at h5;simp at h5
     rw [if_neg (by simpa using h1),if_neg (by simpa using h2),if_neg (by simpa using h3),if_pos (by simpa using h4)]
     have hn:0<=x.N/\x.N<1073741824:=by simp [BO] at hq;omega
     have hl:1<=x.Args.length:=by rw [hq] at h5;simp at h5;omega
     unfold JI
     rw [hq];simp [hn,hl]
    ·have:BO m x.N=true:=by
      cases hq:BO m x.N with
      | true=>rfl
      | false=>rw [hq] at hy;simp at hy
     simp [BO] at this;omega
    ·rw [if_neg (by simpa using h1),if_neg (by simpa using h2),if_neg (by simpa using h3),if_neg (by simpa using h4),if_pos (by simpa using h5)]
     cases hq:BO m x.N
     ·rw [Bool.eq_iff_iff];simp
     ·have hn:0<=x.N/\x.N<1073741824:=by simp [BO] at hq;omega
      cases BL a x.Args<;>rw [Bool.eq_iff_iff]<;>simp [hn]
    ·rw [if_neg (by simpa using h1),if_neg (by simpa using h2),if_neg (by simpa using h3),if_neg (by simpa using h4),if_neg (by simpa using h5)]
  exact AA.le (hs':=[.box (Ae m),.box (Az x),.arr true 0 3 1 (AG [x.A,x.B,x.C])]) (AY _) ⟨Ob.le_refl _,Ob.le_refl _,Ob.le_arr fun i hi=>A2 (by rcases (show i=0∨i=1∨i=2 by omega) with rfl | rfl | rfl<;>rfl),trivial⟩ st0
end Go.Proofs.YtiaebjpcgjkhoaaGreatDoor
namespace Go.Proofs.YtiaebjpcgjkhoaaGreatDoor
open Go.RowKit
theorem LD (m:D.Model) (a:Int):Ai Tryz.prog 164 [] [.agg (Ae m),Aa a] [] (Ac (Bn m a)):=by
 have hin:(bif decide (a>=0) then decide (a<(m.Exprs.length:Int)) else false)=true->0<=a/\a<m.Exprs.length:=fun h=>by simpa using h
 refine Ag Ak Aj Tryz.func164 (by kernel_rfl) rfl (Ty _ m a) ⟨fun h=>hin (by simpa using h),fun h=>hin ?_,Ao ?_⟩
 ·simp only [AM,Bool.true_and,beq_true,Bool.and_eq_true] at h ⊢
  exact h.1
 ·show _=Bn m a
  unfold Bn Ar CG inP
  simp only [AM,ieq,ge_iff_le,bne,decide_not,Bool.and_assoc]
theorem Wj {m:D.Model} {s:D.Stmt} (hs:MT s):Ai Tryz.prog 142 [] [.agg (Ae m),.agg (Ap s)] [] (Ac (Aq m s)):=by
 have ha:=hs.a
 have hb:=hs.m
 have hkn:∀ {k:Int},(s.Kind==k)=true->s.Kind=k:=fun h=>by simpa using h
 have hkf:∀ {k:Int},(s.Kind==k)=false->s.Kind≠k:=fun h=>by simpa using h
 have len0:((bif (s.Args.length:Int)==0 then (s.Match.length:Int)==0 else false))=decide (s.Args.length+s.Match.length=0):=by
  simp only [ieq,AM]
  rw [Bool.eq_iff_iff];simp only [Bool.and_eq_true,decide_eq_true_eq];omega
 have pl:(bif decide (s.A>=0) then decide (s.A<(m.Exprs.length:Int)) else false)=CG m s.A:=by rw [AM]<;>rfl
 have plB:(bif decide (s.B>=0) then decide (s.B<(m.Exprs.length:Int)) else false)=CG m s.B:=by rw [AM]<;>rfl
 have em:C6 s true true true=(decide (s.Args.length+s.Match.length=0)&&decide (s.N=0)&&decide (s.Text.size=0)):=by simp only [C6,Bool.not_true,Bool.false_or]
 have emn:C6 s true false true=(decide (s.Args.length+s.Match.length=0)&&decide (s.Text.size=0)):=by simp only [C6,Bool.not_true,Bool.not_false,Bool.true_or,Bool.and_true,Bool.false_or]
 refine Ag Ak Aj Tryz.func142 (by kernel_rfl) rfl (Aag _ m s) ⟨Bn m s.A,LD m s.A,BL m.Exprs.length s.Args,GI (by omega),?_⟩
 have t13:s.Kind=1∨s.Kind=3->Aq m s=(CG m s.A&&decide (s.B=-1)&&C6 s true true true):=fun h=>by unfold Aq;rw [if_pos h]
 have t2:s.Kind=2->Aq m s=(Bn m s.A&&CG m s.B&&C6 s true true true):=fun h=>by unfold Aq;rw [if_neg (by omega),if_pos h]
 have t4:s.Kind=4->Aq m s=(decide (s.A=-1)&&decide (s.B=-1)&&BL m.Exprs.length s.Args&&decide (s.Match.length=0)&&decide (s.Text.size<=256)&&decide (s.N=0)):=fun h=>by unfold Aq;rw [if_neg (by omega),if_neg (by omega),if_pos h]
 have t5:s.Kind=5->Aq m s=(CG m s.A&&decide (s.B=-1)&&decide (1<=s.Args.length)&&decide (s.Args.length<=8)&&BL m.Exprs.length s.Args&&decide (s.Match.length=0)&&(decide (s.N=0)||decide (s.N=1))&&decide (s.Text.size=0)):=fun h=>by unfold Aq;rw [if_neg (by omega),if_neg (by omega),if_neg (by omega),if_pos h]
 have t6:s.Kind=6->Aq m s=(CG m s.A&&decide (s.B=-1)&&Ft m s&&decide (0<=s.N)&&decide (s.N<=3)&&decide (s.Text.size=0)):=fun h=>by unfold Aq;rw [if_neg (by omega),if_neg (by omega),if_neg (by omega),if_neg (by omega),if_pos h]
 have t7:s.Kind=7∨s.Kind=8->Aq m s=(decide (s.A=-1)&&decide (s.B=-1)&&C6 s true true true):=fun h=>by unfold Aq;rw [if_neg (by omega),if_neg (by omega),if_neg (by omega),if_neg (by omega),if_neg (by omega),if_pos h]
 have t9:s.Kind=9->Aq m s=(Bn m s.A&&decide (s.B=-1)&&decide (0<=s.N)&&decide (s.N<m.Shapes.length)&&C6 s true false true):=fun h=>by unfold Aq;rw [if_neg (by omega),if_neg (by omega),if_neg (by omega),if_neg (by omega),if_neg (by omega),if_neg (by omega),if_pos h]
 have tx:¬(s.Kind=1∨s.Kind=3)->s.Kind≠2->s.Kind≠4->s.Kind≠5->s.Kind≠6->¬(s.Kind=7∨s.Kind=8)->s.Kind≠9->Aq m s=false:=fun h1 h2 h3 h4 h5 h6 h7=>by unfold Aq;rw [if_neg h1,if_neg h2,if_neg h3,if_neg h4,if_neg h5,if_neg h6,if_neg h7]
 generalize Aq m s=b at t13 t2 t4 t5 t6 t7 t9 tx ⊢
 rw [len0,pl,plB,Lf]
 rw [em] at t13 t2 t7
 rw [emn] at t9
 generalize decide (s.Args.length+s.Match.length=0)=eLen at t13 t2 t7 t9 ⊢
 generalize decide (s.Text.size=0)=eText at t13 t2 t5 t6 t7 t9 ⊢
 refine ⟨fun h1=>⟨fun _=>Ao ?_,fun h=>bt h1 h⟩,fun h1=>⟨fun h3=>Ao ?_,fun h3=>⟨fun h2=>Ao ?_,fun h2=>⟨fun h4=>Ao ?_,fun h4=>⟨fun h5=>Ao ?_,fun h5=>⟨fun h6=>⟨Bt m m.Exprs.length s.Args s.Match,Kb (Int.le_refl _) ha hb,fun hy=>Ao ?_,fun hy=>?_⟩,fun h6=>⟨fun h7=>⟨fun _=>Ao ?_,fun h=>bt h7 h⟩,fun h7=>⟨fun h8=>Ao ?_,fun h8=>⟨fun h9=>Ao ?_,fun h9=>Ao ?_⟩⟩⟩⟩⟩⟩⟩⟩⟩
 ·rw [t13 (.inl (hkn h1))];simp only [ieq,AM,Bool.and_assoc]
 ·rw [t13 (.inr (hkn h3))];simp only [ieq,AM,Bool.and_assoc]
 ·rw [t2 (hkn h2)];simp only [ieq,AM,Bool.and_assoc]
 ·rw [t4 (hkn h4)];simp only [ieq,AM,Bool.and_assoc,AeO,Afu]
  rw [Bool.and_comm (decide (s.Text.size<=256))]
 ·rw [t5 (hkn h5)];simp only [ieq,AM,Bd,AeO,le8,ge1]
  cases CG m s.A<;>cases BL (m.Exprs.length:Int) s.Args<;>rw [Bool.eq_iff_iff]<;>simp [-List.length_eq_zero_iff,and_assoc,and_left_comm,and_comm]
 ·rw [t6 (hkn h6)]
  symm;rw [Bool.eq_false_iff];intro hc
  simp only [Ft,Bool.and_eq_true,decide_eq_true_eq] at hc
  obtain ⟨⟨⟨⟨⟨c1,c2⟩,⟨c3,_⟩⟩,c4⟩,c5⟩,c6⟩:=hc
  rw [c1,c3,c6] at hy
  simp at hy;omega
 ·have hall:CG m s.A=true/\s.B=-1/\Bt m m.Exprs.length s.Args s.Match=true/\0<=s.N/\s.N<=3/\eText=true:=by
   generalize CG m s.A=q1 at hy ⊢
   generalize Bt m m.Exprs.length s.Args s.Match=q2 at hy ⊢
   cases q1<;>cases q2<;>cases eText<;>simp at hy ⊢
   omega
  obtain ⟨c1,c2,c3,c4,c5,c6⟩:=hall
  have hlen:s.Match.length=s.Args.length:=by
   unfold Bt at c3
   simp only [Bool.and_eq_true,decide_eq_true_eq] at c3
   exact c3.1.1.2
  have e:b=Ce s.Match.length fun i=>!decide (s.Match.getD i 0=0)||Bn m (s.Args.getD i 0):=by
   rw [t6 (hkn h6),c1,c6]
   unfold Ft
   rw [c3];simp [c2,c4,c5]
  rw [e]
  refine AD Ak Aj s.Args.length (fun k=>Lm m s k) (fun k=>∀ i,i<k->(!decide (s.Match.getD i 0=0)||Bn m (s.Args.getD i 0))=true) (by kernel_rfl) (by kernel_rfl) (fun i hi=>by omega) ?_
  intro k hk hI J next
  refine Bb.raw (Wk _ m s k J) ⟨fun hlt=>?_,fun hge=>Ao ?_⟩
  ·have hlt':k<s.Args.length:=by have:=AQ hlt;omega
   have hto:(k:Int).toNat=k:=by omega
   rw [hto]
   have hm:(!decide (s.Match.getD k 0=0)||Bn m (s.Args.getD k 0))=!(bif s.Match.getD k 0==0 then !(Bn m (s.Args.getD k 0)) else false):=by
    generalize s.Match.getD k 0=z
    cases Bn m (s.Args.getD k 0)
    ·rw [Bool.eq_iff_iff];simp
    ·simp
   refine ⟨⟨by omega,by omega⟩,Bn m (s.Args.getD k 0),LD _ _,⟨by omega,by omega⟩,fun hy=>Ao ?_,fun hy=>next _ hlt' (fun i hi=>?_) (Up.of ?_)⟩
   ·exact (Bo (n:=s.Match.length) (k:=k) (f:=fun i=>!decide (s.Match.getD i 0=0)||Bn m (s.Args.getD i 0)) (by omega) (by show (!decide (s.Match.getD k 0=0)||Bn m (s.Args.getD k 0))=false;rw [hm,hy]<;>rfl)).symm
   ·rcases Nat.lt_succ_iff_lt_or_eq.1 hi with h | rfl
    ·exact hI i h
    ·rw [hm,hy]<;>rfl
   ·rw [Am (by omega)]<;>rfl
  ·have hge':s.Args.length<=k:=by have:=AT hge;omega
   exact (AL.2 fun i hi=>hI i (by omega)).symm
 ·rw [t7 (.inl (hkn h7))];simp only [ieq,AM,Bool.and_assoc]
 ·rw [t7 (.inr (hkn h8))];simp only [ieq,AM,Bool.and_assoc]
 ·rw [t9 (hkn h9)];simp only [ieq,AM,Bool.and_assoc,ge_iff_le]
  cases Bn m s.A<;>cases eLen<;>cases eText<;>simp
 ·exact (tx (fun h=>h.elim (hkf h1) (hkf h3)) (hkf h2) (hkf h4) (hkf h5) (hkf h6) (fun h=>h.elim (hkf h7) (hkf h8)) (hkf h9)).symm
theorem Wm {m:D.Model} {i:Int} {v:D.Var} (h1:v.Scope=1->0<=i/\i<m.Procs.length) (h2:v.Scope≠0->v.Scope≠1->0<=v.Type_/\v.Type_<m.Procs.length):Ai Tryz.prog 144 [] [.agg (Ae m),Aa i,.agg (Bj v)] [] (Aa (En m i v)):=by
 refine Ag Ak Aj Tryz.func144 (by kernel_rfl) rfl (Aah _ m i v) ⟨fun h=>BM ?_,fun h=>⟨fun k=>⟨h1 (by simpa using k),BM ?_⟩,fun k=>⟨h2 (by simpa using h) (by simpa using k),BM ?_⟩⟩⟩
 ·unfold En;rw [if_pos (by simpa using h)]
 ·unfold En;rw [if_neg (by simpa using h),if_pos (by simpa using k)]
 ·unfold En;rw [if_neg (by simpa using h),if_neg (by simpa using k)]
def Rw (m:D.Model) (a k:Int) (run:Bool):Bool :=
 bif bif (Ar m k).Op==39 then !run else false then true else bif a==m.Claim then bif bif (Ar m k).Op==31 then true else (Ar m k).Op==39 then true else bif (Ar m k).Op==2 then (Ar m k).V.Scope==1 else false else false
def Lc (m:D.Model) (a:Int):Nat->Int->Bool->Bool
 | 0,_,_=>true
 | g+1,k,run=>!Rw m a k run&&(!(bif (Ar m k).Op==2 then decide (CK (Ar m k).V > En m a (Ar m k).V) else false) &&
   Ce (Bi (Ar m k)).length fun i=>Lc m a g ((Bi (Ar m k)).getD i 0) false)
def E7 (m:D.Model) (a k:Int) (run:Bool):Bool:=Lc m a (k.toNat+1) k run
theorem Qx {m:D.Model} (hr:EJ m) {a:Int} (ha0:0<=a) (ha:a<m.Procs.length):∀ (g:Nat) (k:Int) (run:Bool),0<=k->k<m.Exprs.length->k.toNat<g->Ai Tryz.prog 114 [] [.agg (Ae m),Aa a,Aa k,Ac run] [] (Ac (Lc m a g k run))
 | 0,_,_,_,_,h=>absurd h (Nat.not_lt_zero _)
 | g+1,k,run,h0,hk,hg=>by
  have ih:=Qx hr ha0 ha g
  have hx:=hr.at h0 hk
  have hsm:=hr.small _ (L3 h0 hk)
  have hwv:=(hr.wf.Exprs.2 _ (L3 h0 hk)).V
  have hslots:=hr.slots h0 hk
  have hheld:=NS hx
  have hhl:=LX hsm.1 hsm.2
  refine Ag Ak Aj Tryz.func114 (by kernel_rfl) rfl (Aab _ m a k run) ⟨⟨h0,hk⟩,?_⟩
  show ((Rw m a k run)=true->_)/\((Rw m a k run)=false->_)
  change (_->_)/\(_->∃ y,(_->Ai _ _ _ [.agg (Bj (Ar m k).V)] _ _)/\∃ y_1,(_->Ai _ _ _ [_,_,.agg (Bj (Ar m k).V)] _ _)/\_)
  refine ⟨fun h=>Ao ?_,fun h=>⟨CK (Ar m k).V,fun _=>TI hwv,En m a (Ar m k).V,fun h2=>Wm (fun _=>⟨ha0,ha⟩) (hslots (by simpa [Ar] using h2)),fun h2=>Ao ?_,fun h2=>⟨Bi (Ar m k),OT hsm.1 hsm.2,?_⟩⟩⟩
  ·unfold Lc;rw [h]<;>rfl
  ·unfold Lc
   have h2':(bif (Ar m k).Op==2 then decide (CK (Ar m k).V > En m a (Ar m k).V) else false)=true:=h2
   rw [h2',h]<;>rfl
  ·have h2':(bif (Ar m k).Op==2 then decide (CK (Ar m k).V > En m a (Ar m k).V) else false)=false:=h2
   unfold Lc
   rw [h2',h]
   simp only [Bool.not_false,Bool.true_and]
   generalize Bi (Ar m k)=l at hheld hhl
   refine AD Ak Aj l.length (fun j=>Nx m a l j) (fun j=>∀ i,i<j->Lc m a g (l.getD i 0) false=true) (by kernel_rfl) (by kernel_rfl) (fun i hi=>by omega) ?_
   intro j hj hI J next
   refine Bb.raw (Wg _ m a l j J) ⟨fun hlt=>?_,fun hge=>Ao ?_⟩
   ·have hlt':j<l.length:=by have:=AQ hlt;omega
    have hto:(j:Int).toNat=j:=by omega
    rw [hto]
    have hin:=hheld _ (Au (d:=(0:Int)) hlt')
    refine ⟨⟨by omega,by omega⟩,Lc m a g (l.getD j 0) false,ih _ _ (by omega) (by omega) (by omega),fun hy=>Ao ?_,fun hy=>next _ hlt' (BE hI (by simpa using hy)) (Up.of ?_)⟩
    ·exact (Bo (f:=fun i=>Lc m a g (l.getD i 0) false) hlt' (by simpa using hy)).symm
    ·rw [Am (by omega)]<;>rfl
   ·have hge':l.length<=j:=by have:=AT hge;omega
    exact (AL.2 fun i hi=>hI i (by omega)).symm
theorem Gb {m:D.Model} (hr:EJ m) {a:Int} (ha0:0<=a) (ha:a<m.Procs.length) {k:Int} {run:Bool} (h0:0<=k) (hk:k<m.Exprs.length):Ai Tryz.prog 114 [] [.agg (Ae m),Aa a,Aa k,Ac run] [] (Ac (E7 m a k run)) :=
 Qx hr ha0 ha _ k run h0 hk (Nat.lt_succ_self _)
end Go.Proofs.YtiaebjpcgjkhoaaGreatDoor
namespace Go.Proofs.YtiaebjpcgjkhoaaGreatDoor
open Go.RowKit
def Q9 (m:D.Model) (a:Int) (s:D.Stmt):Bool:=bif bif bif bif a==m.Claim then s.Kind != 1 else false then s.Kind != 3 else false then s.Kind != 7 else false then s.Kind != 8 else false
def VE (m:D.Model) (a:Int) (s:D.Stmt):Bool :=
 Aq m s&&(!Q9 m a s&&((!decide (s.A>=0)||E7 m a s.A (s.Kind==1))&&((!decide (s.B>=0)||E7 m a s.B (s.Kind==2))&&Ce s.Args.length fun i=>E7 m a (s.Args.getD i 0) false)))
theorem Z8 {m:D.Model} {a:Int} {s:D.Stmt} (hr:EJ m) (ha0:0<=a) (ha:a<m.Procs.length) (hs:MT s):Ai Tryz.prog 113 [] [.agg (Ae m),Aa a,.agg (Ap s)] [] (Ac (VE m a s)):=by
 have hlen:=hs.a
 refine Ag Ak Aj Tryz.func113 (by kernel_rfl) rfl (AcJ _ m a s) ⟨Aq m s,Wj hs,?_⟩
 change ((bif !(Aq m s) then true else Q9 m a s)=true->_)/\((bif !(Aq m s) then true else Q9 m a s)=false->_)
 have e0:VE m a s=(Aq m s&&(!Q9 m a s&&((!decide (s.A>=0)||E7 m a s.A (s.Kind==1))&&((!decide (s.B>=0)||E7 m a s.B (s.Kind==2))&&Ce s.Args.length fun i=>E7 m a (s.Args.getD i 0) false)))):=rfl
 generalize VE m a s=b at e0 ⊢
 refine ⟨fun h=>Ao ?_,fun h=>?_⟩
 ·rw [e0]
  cases hq:Aq m s
  ·rfl
  ·rw [hq] at h
   rw [show Q9 m a s=true by simpa using h]<;>rfl
 have hq:Aq m s=true:=by
  cases hq:Aq m s with
  | true=>rfl
  | false=>rw [hq] at h;simp at h
 have hcl:Q9 m a s=false:=by rw [hq] at h;simpa using h
 rw [hq,hcl] at e0
 simp only [Bool.not_false,Bool.true_and] at e0
 obtain ⟨hin,hA,hB⟩:=X2 hq
 have loop:b=(Ce s.Args.length fun i=>E7 m a (s.Args.getD i 0) false)->AA (BP Tryz.prog tb AS Gw true Tryz.f113 [] (Ac b)) [1,1,1,1,1,0,1,0] (IL m a s 0):=by
  intro e
  rw [e]
  refine AD Ak Aj s.Args.length (fun j=>IL m a s j) (fun j=>∀ i,i<j->E7 m a (s.Args.getD i 0) false=true) (by kernel_rfl) (by kernel_rfl) (fun i hi=>by omega) ?_
  intro j hj hI J next
  refine Bb.raw (Z9 _ m a s j J) ⟨fun hlt=>?_,fun hge=>Ao ?_⟩
  ·have hlt':j<s.Args.length:=by have:=AQ hlt;omega
   have hto:(j:Int).toNat=j:=by omega
   rw [hto]
   have hx:=hin _ (Au (d:=(0:Int)) hlt')
   refine ⟨⟨by omega,by omega⟩,E7 m a (s.Args.getD j 0) false,Gb hr ha0 ha hx.1 hx.2,fun hy=>Ao ?_,fun hy=>next _ hlt' (BE hI (by simpa using hy)) (Up.of ?_)⟩
   ·exact (Bo (f:=fun i=>E7 m a (s.Args.getD i 0) false) hlt' (by simpa using hy)).symm
   ·rw [Am (by omega)]<;>rfl
  ·have hge':s.Args.length<=j:=by have:=AT hge;omega
   exact (AL.2 fun i hi=>hI i (by omega)).symm
 refine ⟨fun h1=>⟨E7 m a s.A (s.Kind==1),Gb hr ha0 ha (by simpa using h1) (hA (by simpa using h1)),fun hy=>Ao ?_,fun hy=>⟨fun h2=>⟨E7 m a s.B (s.Kind==2),Gb hr ha0 ha (by simpa using h2) (hB (by simpa using h2)),fun hy2=>Ao ?_,fun hy2=>loop ?_⟩,fun h2=>loop ?_⟩⟩,fun h1=>⟨fun h2=>⟨E7 m a s.B (s.Kind==2),Gb hr ha0 ha (by simpa using h2) (hB (by simpa using h2)),fun hy2=>Ao ?_,fun hy2=>loop ?_⟩,fun h2=>loop ?_⟩⟩
 all_goals (try simp only [Bool.not_eq_true',Bool.not_eq_false'] at *)
 all_goals simp only [*,Bool.not_true,Bool.not_false,Bool.false_or,Bool.true_or,Bool.true_and,Bool.false_and,Bool.and_false]
def Ou (m:D.Model) (a:Int) (w:List D.Trans):Bool:=Ce w.length fun h=>VE m a (w.getD h default).S
def Uj (m:D.Model) (a:Int) (l:D.Loc):Bool:=Ce (BA l).length fun j=>Ou m a ((BA l).getD j [])
def M1 (m:D.Model) (a:Int):Bool:=(Ce (AK m a).Locs.length fun k=>Uj m a ((AK m a).Locs.getD k default))&&(decide ((AK m a).Provided<0)||E7 m a (AK m a).Provided false)
theorem ZM {s:D.Stmt} (h:Np s):MT s:=⟨h.Args.1,h.Match.1⟩
theorem PT {m:D.Model} {a:Int} (hr:EJ m) (ha0:0<=a) (ha:a<m.Procs.length) (hpv:(AK m a).Provided<m.Exprs.length):Ai Tryz.prog 76 [] [.agg (Ae m),Aa a] [] (Ac (M1 m a)):=by
 have hwp:GF (AK m a):=hr.wf.Procs.2 _ (Au (by omega))
 refine Ag Ak Aj Tryz.func76 (by kernel_rfl) rfl (RQ _ m a) ⟨⟨ha0,ha⟩,?_⟩
 have e0:M1 m a=((Ce (AK m a).Locs.length fun k=>Uj m a ((AK m a).Locs.getD k default))&&(decide ((AK m a).Provided<0)||E7 m a (AK m a).Provided false)):=rfl
 change AA _ _ (GZ m a (AK m a) 0)
 generalize M1 m a=b at e0 ⊢
 generalize AK m a=p at e0 hwp hpv ⊢
 have hL:=hwp.Locs.1
 refine AD Ak Aj p.Locs.length (fun k=>GZ m a p k) (fun k=>∀ i,i<k->Uj m a (p.Locs.getD i default)=true) (by kernel_rfl) (by kernel_rfl) (fun i hi=>by omega) ?_
 intro k hk hI J next
 refine Bb.raw (Wd _ m a p k J) ⟨fun hlt=>?_,fun hge=>?_⟩
 ·have hlt':k<p.Locs.length:=by have:=AQ hlt;omega
  have hto:(k:Int).toNat=k:=by omega
  rw [hto]
  have hwl:=hwp.Locs.2 _ (Au (d:=default) hlt')
  have no:Uj m a (p.Locs.getD k default)=false->false=b:=fun h=>by
   rw [e0,Bo (f:=fun k=>Uj m a (p.Locs.getD k default)) hlt' h]<;>rfl
  have yes:Uj m a (p.Locs.getD k default)=true->J (GZ m a p ((k:Int)+1)):=fun h=>next _ hlt' (BE hI h) (Up.of rfl)
  generalize p.Locs.getD k default=l at hwl no yes ⊢
  have ho:=hwl.Out.1
  have hes:=hwl.Esc.1
  refine ⟨⟨by omega,by omega⟩,BA l,OR hes,?_⟩
  have hwsl:(BA l).length<=1048577:=by simp [BA];omega
  have hwse:∀ w∈BA l,w.length<=1048576/\∀ t∈w,K3 t:=by
   intro w hw
   rcases List.mem_cons.1 hw with rfl | hw
   ·exact hwl.Out
   ·exact hwl.Esc.2 w hw
  unfold Uj at no yes
  generalize BA l=ws at no yes hwsl hwse ⊢
  refine AD Ak Aj ws.length (fun j=>IK m a p k ws j) (fun j=>∀ i,i<j->Ou m a (ws.getD i [])=true) (by kernel_rfl) (by kernel_rfl) (fun i hi=>by omega) ?_
  intro j hj hI2 J2 next2
  refine Bb.raw (Wc _ m a p k ws j J J2) ⟨fun hlt2=>?_,fun hge2=>?_⟩
  ·have hlt2':j<ws.length:=by have:=AQ hlt2;omega
   have hto2:(j:Int).toNat=j:=by omega
   have hwle:=hwse _ (Au (d:=[]) hlt2')
   have no2:Ou m a (ws.getD j [])=false->false=b:=fun h=>no (Bo (f:=fun j=>Ou m a (ws.getD j [])) hlt2' h)
   have yes2:Ou m a (ws.getD j [])=true->J2 (IK m a p k ws ((j:Int)+1)):=fun h=>next2 _ hlt2' (BE hI2 h) (Up.of rfl)
   refine AD Ak Aj (ws.getD j []).length (fun h=>Ll m a p k ws j h) (fun h=>∀ i,i<h->VE m a ((ws.getD j []).getD i default).S=true) (by kernel_rfl) (by kernel_rfl) (fun i hi=>by omega) ?_
   intro h3 hh3 hI3 J3 next3
   refine Bb.raw (Wb _ m a p k ws j h3 J J2 J3) ?_
   rw [hto2]
   have hwl3:=hwle.1
   refine ⟨⟨by omega,by omega⟩,fun hlt3=>?_,fun hge3=>?_⟩
   ·have hlt3':h3<(ws.getD j []).length:=by have:=AQ hlt3;omega
    have hto3:(h3:Int).toNat=h3:=by omega
    rw [hto3]
    have hws:=(hwle.2 _ (Au (d:=default) hlt3')).S
    refine ⟨⟨by omega,by omega⟩,⟨by omega,by omega⟩,VE m a ((ws.getD j []).getD h3 default).S,Z8 hr ha0 ha (ZM hws),fun hy=>Ao (no2 ?_),fun hy=>next3 _ hlt3' (BE hI3 (by simpa using hy)) (Up.of ?_)⟩
    ·exact Bo (f:=fun h=>VE m a ((ws.getD j []).getD h default).S) hlt3' (by simpa using hy)
    ·rw [Am (by omega)]<;>rfl
   ·have hge3':(ws.getD j []).length<=h3:=by have:=AT hge3;omega
    rw [Am (by omega)]
    exact yes2 (AL.2 fun i hi=>hI3 i (by omega))
  ·have hge2':ws.length<=j:=by have:=AT hge2;omega
   rw [Am (by omega)]
   exact yes (AL.2 fun i hi=>hI2 i (by omega))
 ·have hge':p.Locs.length<=k:=by have:=AT hge;omega
  rw [(AL (n:=p.Locs.length) (f:=fun k=>Uj m a (p.Locs.getD k default))).2 fun i hi=>hI i (by omega),Bool.true_and] at e0
  refine ⟨fun h2=>Ao ?_,fun h2=>⟨E7 m a p.Provided false,Gb hr ha0 ha ?_ hpv,Ao ?_⟩⟩
  ·rw [e0,h2]<;>rfl
  ·have:=of_decide_eq_false h2;omega
  ·rw [e0,h2]<;>rfl
def Acg (p:D.Proc):Bool :=
 bif bif bif bif bif decide ((p.Frame.length:Int) > 128) then true else (p.Init.length:Int) != (p.Frame.length:Int) then true else decide (p.Params<0) then true else decide (p.Params > (p.Frame.length:Int)) then true else decide ((p.Locs.length:Int)<1) then true else decide ((p.Locs.length:Int) > 256)
def Acf (m:D.Model) (p:D.Proc) (y:Int):Bool :=
 bif bif bif bif bif bif bif bif bif bif decide (y>=0) then true else decide (p.Start<0) then true else decide (p.Start>=(p.Locs.length:Int)) then true else decide (p.Final<0) then true else decide (p.Final>=(p.Locs.length:Int)) then true else decide (p.Active<0) then true else decide (p.Active > 16) then true else decide (p.Prio<1) then true else decide (p.Prio > 255) then true else decide (p.Provided<(-1:Int)) then true else decide (p.Provided>=(m.Exprs.length:Int))
def Aem (m:D.Model) (a:Int) (p:D.Proc):Bool :=
 bif a==m.Claim then bif bif decide ((p.Frame.length:Int) > 0) then true else decide (p.Active > 0) then true else decide (p.Provided>=0) else false
def OB (m:D.Model) (a:Int) (p:D.Proc) (k:Int) (l:D.Loc):Bool :=
 bif bif bif decide ((l.Esc.length:Int) > 8) then true else bif l.Dstep then l.Atomic else false then true else bif k==p.Final then bif decide ((l.Out.length:Int) > 0) then true else decide ((l.Esc.length:Int) > 0) else false then true else bif a==m.Claim then bif bif decide ((l.Esc.length:Int) > 0) then true else l.Atomic then true else l.Dstep else false
def J8 (p:D.Proc) (t:D.Trans):Bool:=bif decide (t.To<0) then true else decide (t.To>=(p.Locs.length:Int))
def Kk (j:Int) (w:List D.Trans):Bool:=bif decide (j > 0) then (w.length:Int)==0 else false
def Ti (p:D.Proc) (ws:List (List D.Trans)):Bool:=Ce ws.length fun j=>!Kk j (ws.getD j [])&&Ce (ws.getD j []).length fun h=>!J8 p ((ws.getD j []).getD h default)
def J6 (ws:List (List D.Trans)):Nat:=(ws.map List.length).sum
def P1 (ls:List D.Loc):Nat:=(ls.map fun l=>J6 (BA l)).sum
def F8 (m:D.Model) (a:Int):Bool :=
 !Acg (AK m a)&&(!Acf m (AK m a) (DB (AK m a).Frame (AK m a).Init)&&(!Aem m a (AK m a) &&
  ((Ce (AK m a).Locs.length fun k=>!OB m a (AK m a) k ((AK m a).Locs.getD k default)&&Ti (AK m a) (BA ((AK m a).Locs.getD k default)))&&decide ((P1 (AK m a).Locs:Int)<=1024))))
theorem AaZ {ws:List (List D.Trans)} {j:Nat} (hj:j<ws.length):J6 (ws.take (j+1))=J6 (ws.take j)+(ws.getD j []).length:=by
 unfold J6;rw [Ec (d:=[]) hj,List.map_append,List.sum_append];simp
theorem Aa0 {ls:List D.Loc} {j:Nat} (hj:j<ls.length):P1 (ls.take (j+1))=P1 (ls.take j)+J6 (BA (ls.getD j default)):=by
 unfold P1;rw [Ec (d:=default) hj,List.map_append,List.sum_append];simp
theorem TA {m:D.Model} {a:Int} (hw:Ay m) (ha0:0<=a) (ha:a<m.Procs.length):Ai Tryz.prog 75 [] [.agg (Ae m),Aa a] [] (Ac (F8 m a)):=by
 have hwp:GF (AK m a):=hw.Procs.2 _ (Au (by omega))
 refine Ag Ak Aj Tryz.func75 (by kernel_rfl) rfl (Wi _ m a) ⟨⟨ha0,ha⟩,?_⟩
 have e0:F8 m a=(!Acg (AK m a)&&(!Acf m (AK m a) (DB (AK m a).Frame (AK m a).Init)&&(!Aem m a (AK m a) &&
  ((Ce (AK m a).Locs.length fun k=>!OB m a (AK m a) k ((AK m a).Locs.getD k default)&&Ti (AK m a) (BA ((AK m a).Locs.getD k default)))&&decide ((P1 (AK m a).Locs:Int)<=1024))))):=rfl
 change (Acg (AK m a)=true->_)/\(Acg (AK m a)=false->∃ y,Ai _ _ _ [AE true (AK m a).Frame,Ad true (AK m a).Init] _ _/\(Acf m (AK m a) y=true->_)/\(Acf m (AK m a) y=false->(Aem m a (AK m a)=true->_)/\(Aem m a (AK m a)=false->AA _ _ (FT m a (AK m a) 0 0))))
 generalize F8 m a=b at e0 ⊢
 generalize AK m a=p at e0 hwp ⊢
 have hfr:=hwp.Frame.1
 refine ⟨fun h=>Ao (by rw [e0,h]<;>rfl),fun h=>?_⟩
 have hA:p.Init.length=p.Frame.length/\p.Locs.length<=256:=by
  unfold Acg at h;simp at h;omega
 rw [h] at e0
 refine ⟨DB p.Frame p.Init,M5 (by omega) hfr,fun h2=>Ao (by rw [e0,h2]<;>rfl),fun h2=>?_⟩
 rw [h2] at e0
 refine ⟨fun h3=>Ao (by rw [e0,h3]<;>rfl),fun h3=>?_⟩
 rw [h3] at e0
 simp only [Bool.not_false,Bool.true_and] at e0
 refine AD Ak Aj p.Locs.length (fun k=>FT m a p (P1 (p.Locs.take k)) k) (fun k=>(∀ i,i<k->(!OB m a p i (p.Locs.getD i default)&&Ti p (BA (p.Locs.getD i default)))=true)/\P1 (p.Locs.take k)<=k*9437184) (by kernel_rfl) (by kernel_rfl) ⟨fun i hi=>by omega,by simp [P1]⟩ ?_
 intro k hk ⟨hI,hmk⟩ J next
 refine Bb.raw (TD _ m a p _ k J) ⟨fun hlt=>?_,fun hge=>?_⟩
 ·have hlt':k<p.Locs.length:=by have:=AQ hlt;omega
  have hto:(k:Int).toNat=k:=by omega
  rw [hto]
  have hwl:=hwp.Locs.2 _ (Au (d:=default) hlt')
  have no:(!OB m a p k (p.Locs.getD k default)&&Ti p (BA (p.Locs.getD k default)))=false->false=b:=fun h=>by
   rw [e0,Bo (f:=fun k:Nat=>!OB m a p k (p.Locs.getD k default)&&Ti p (BA (p.Locs.getD k default))) hlt' h]<;>rfl
  have hlt1:=Aa0 hlt'
  have yes:(!OB m a p k (p.Locs.getD k default)&&Ti p (BA (p.Locs.getD k default)))=true->J6 (BA (p.Locs.getD k default))<=9437184->J (FT m a p ((P1 (p.Locs.take k):Int)+J6 (BA (p.Locs.getD k default))) ((k:Int)+1)):=fun h h'=>next _ hlt' ⟨fun i hi=>by
    rcases Nat.lt_succ_iff_lt_or_eq.1 hi with h2 | rfl
    ·exact hI i h2
    ·exact h,by omega⟩ (Up.of (by rw [hlt1]<;>rfl))
  clear next
  generalize P1 (p.Locs.take k)=many at hmk yes ⊢
  generalize p.Locs.getD k default=l at hwl no yes ⊢
  have ho:=hwl.Out.1
  have hes:=hwl.Esc.1
  refine ⟨⟨by omega,by omega⟩,fun hy=>Ao (no ?_),fun hy=>⟨BA l,OR hes,?_⟩⟩
  ·rw [show OB m a p k l=true from hy]<;>rfl
  have hesc8:l.Esc.length<=8:=by
   have hy':OB m a p k l=false:=hy
   unfold OB at hy'
   simp only [Bd,Bool.or_eq_false_iff,decide_eq_false_iff_not] at hy'
   omega
  rw [show OB m a p k l=false from hy] at no yes
  simp only [Bool.not_false,Bool.true_and] at no yes
  have hwsl:(BA l).length<=9:=by simp [BA];omega
  have hwse:∀ w∈BA l,w.length<=1048576:=by
   intro w hw
   rcases List.mem_cons.1 hw with rfl | hw
   ·exact ho
   ·exact (hwl.Esc.2 w hw).1
  generalize BA l=ws at no yes hwsl hwse ⊢
  unfold Ti at no yes
  refine AD Ak Aj ws.length (fun j=>G4 m a p ((many:Int)+J6 (ws.take j)) k ws j) (fun j=>(∀ i:Nat,i<j->(!Kk i (ws.getD i [])&&Ce (ws.getD i []).length fun h=>!J8 p ((ws.getD i []).getD h default))=true)/\J6 (ws.take j)<=j*1048576) (by kernel_rfl) (by kernel_rfl) ⟨fun i hi=>by omega,by simp [J6]⟩ ?_ |> fun h=>by rw [show (many:Int)+(J6 (ws.take 0):Nat)=many by simp [J6]] at h;exact h
  intro j hj ⟨hI2,hmj⟩ J2 next2
  refine Bb.raw (TC _ m a p _ k ws j J J2) ⟨fun hlt2=>?_,fun hge2=>?_⟩
  ·have hlt2':j<ws.length:=by have:=AQ hlt2;omega
   have hto2:(j:Int).toNat=j:=by omega
   rw [hto2]
   have hwle:=hwse _ (Au (d:=[]) hlt2')
   have hls:=AaZ hlt2'
   have no2:(!Kk j (ws.getD j [])&&Ce (ws.getD j []).length fun h=>!J8 p ((ws.getD j []).getD h default))=false->false=b:=fun h=>no (Bo (f:=fun j:Nat=>!Kk j (ws.getD j [])&&Ce (ws.getD j []).length fun h=>!J8 p ((ws.getD j []).getD h default)) hlt2' h)
   have yes2:(!Kk j (ws.getD j [])&&Ce (ws.getD j []).length fun h=>!J8 p ((ws.getD j []).getD h default))=true->J2 (G4 m a p ((many:Int)+(J6 (ws.take j)+(ws.getD j []).length:Nat)) k ws ((j:Int)+1)):=fun h=>next2 _ hlt2' ⟨fun i hi=>by
    rcases Nat.lt_succ_iff_lt_or_eq.1 hi with h2 | rfl
    ·exact hI2 i h2
    ·exact h,by omega⟩ (Up.of (by rw [hls]<;>rfl))
   refine ⟨fun _=>⟨by omega,by omega⟩,fun hy2=>Ao (no2 ?_),fun hy2=>⟨⟨by omega,by omega⟩,?_⟩⟩
   ·rw [show Kk j (ws.getD j [])=true from hy2]<;>rfl
   rw [show Kk j (ws.getD j [])=false from hy2] at no2 yes2
   simp only [Bool.not_false,Bool.true_and] at no2 yes2
   have hN:IntKind.i64.wrap ((many:Int)+J6 (ws.take j)+((ws.getD j []).length:Int))=(many:Int)+(J6 (ws.take j)+(ws.getD j []).length:Nat):=by
    rw [A1 (by omega) (by omega)];omega
   rw [hN]
   generalize (many:Int)+(J6 (ws.take j)+(ws.getD j []).length:Nat)=M at yes2 ⊢
   refine AD Ak Aj (ws.getD j []).length (fun h=>Jv m a p M k ws j h) (fun h=>∀ i,i<h->(!J8 p ((ws.getD j []).getD i default))=true) (by kernel_rfl) (by kernel_rfl) (fun i hi=>by omega) ?_
   intro h3 hh3 hI3 J3 next3
   refine Bb.raw (TB _ m a p M k ws j h3 J J2 J3) ?_
   rw [hto2]
   refine ⟨⟨by omega,by omega⟩,fun hlt3=>?_,fun hge3=>?_⟩
   ·have hlt3':h3<(ws.getD j []).length:=by have:=AQ hlt3;omega
    have hto3:(h3:Int).toNat=h3:=by omega
    rw [hto3]
    refine ⟨⟨by omega,by omega⟩,⟨by omega,by omega⟩,fun _=>⟨by omega,by omega⟩,fun _=>⟨by omega,by omega⟩,fun hy=>Ao (no2 ?_),fun hy=>next3 _ hlt3' (BE hI3 ?_) (Up.of ?_)⟩
    ·exact Bo (f:=fun h=>!J8 p ((ws.getD j []).getD h default)) hlt3' (by show (!J8 p _)=false;rw [show J8 p ((ws.getD j []).getD h3 default)=true from hy]<;>rfl)
    ·rw [show J8 p ((ws.getD j []).getD h3 default)=false from hy]<;>rfl
    ·rw [Am (by omega)]<;>rfl
   ·have hge3':(ws.getD j []).length<=h3:=by have:=AT hge3;omega
    rw [Am (by omega)]
    exact yes2 (AL.2 fun i hi=>hI3 i (by omega))
  ·have hge2':ws.length<=j:=by have:=AT hge2;omega
   rw [Am (by omega),List.take_of_length_le hge2']
   rw [List.take_of_length_le hge2'] at hmj
   exact yes (AL.2 fun i hi=>hI2 i (by omega)) (by
    have hj9:j<=9:=by omega
    have:=Nat.mul_le_mul_right 1048576 hj9
    omega)
 ·have hge':p.Locs.length<=k:=by have:=AT hge;omega
  rw [(AL (n:=p.Locs.length) (f:=fun k:Nat=>!OB m a p k (p.Locs.getD k default)&&Ti p (BA (p.Locs.getD k default)))).2 fun i hi=>hI i (by omega),Bool.true_and] at e0
  rw [List.take_of_length_le hge']
  exact Ao e0.symm
theorem Qq {m:D.Model} {a:Int} (h:F8 m a=true):(AK m a).Provided<m.Exprs.length/\0<=(AK m a).Active/\(AK m a).Active<=16:=by
 unfold F8 at h
 simp only [Bool.and_eq_true,Bool.not_eq_true'] at h
 have hb:=h.2.1
 unfold Acf at hb
 simp only [Bd,Bool.or_eq_false_iff,decide_eq_false_iff_not] at hb
 omega
end Go.Proofs.YtiaebjpcgjkhoaaGreatDoor
namespace Go.Proofs.YtiaebjpcgjkhoaaGreatDoor
open Go.RowKit
theorem RT {m:D.Model} (hw:Ay m):Ai Tryz.prog 74 [] [.agg (Ae m)] [] (.tup [Aa (Br m).1,Aa (Br m).2]):=by
 have hG:=hw.Globals.1
 have hS:=hw.Shapes.1
 have hC:=hw.Chans.1
 have hE:=hw.Exprs.1
 have hPr:=hw.Procs.1
 refine Ag Ak Aj Tryz.func74 (by kernel_rfl) rfl (Tz _ _ m) ?_
 have t1:(bif decide ((m.Globals.length:Int) > 128) then true else (m.Init.length:Int) != (m.Globals.length:Int))=(decide (128<m.Globals.length)||!decide (m.Init.length=m.Globals.length)):=by rw [Bool.eq_iff_iff];simp;omega
 have t2:(bif decide ((m.Shapes.length:Int) > 32) then true else decide ((m.Chans.length:Int) > 32))=(decide (32<m.Shapes.length)||decide (32<m.Chans.length)):=by rw [Bool.eq_iff_iff];simp;omega
 have t3:(bif bif bif bif decide ((m.Procs.length:Int)<1) then true else decide ((m.Procs.length:Int) > 16) then true else decide (m.Claim<(-1:Int)) then true else decide (m.Claim>=(m.Procs.length:Int)) then true else decide ((m.Exprs.length:Int) > 4096)) =
   (decide (m.Procs.length<1)||(decide (16<m.Procs.length)||(decide (m.Claim < -1)||(decide ((m.Procs.length:Int)<=m.Claim)||decide (4096<m.Exprs.length))))):=by
  have u1:decide ((m.Procs.length:Int)<1)=decide (m.Procs.length<1):=by rw [Bool.eq_iff_iff,decide_eq_true_eq,decide_eq_true_eq];omega
  have u2:decide ((m.Procs.length:Int) > 16)=decide (16<m.Procs.length):=ngt _ 16
  have u3:decide ((m.Exprs.length:Int) > 4096)=decide (4096<m.Exprs.length):=ngt _ 4096
  rw [u1,u2,u3];simp only [Bd,Bool.or_assoc]
 rw [t1,t2]
 generalize hR:Br m=R
 unfold Br at hR
 refine ⟨fun h=>EH (by rw [h,cond_true] at hR;exact hR),fun h=>⟨DB m.Globals m.Init,M5 (by simp at h;omega) hG,fun h2=>EH (by rw [h,cond_false,h2,cond_true] at hR;exact hR),fun h2=>⟨fun h3=>EH ?_,fun h3=>?_⟩⟩⟩
 ·rw [h,cond_false,h2,cond_false,h3,cond_true] at hR;exact hR
 rw [h,cond_false,h2,cond_false,h3,cond_false] at hR
 refine AD Ak Aj m.Shapes.length (fun k=>Nz m k) (fun k=>∀ i,i<k->CJ (m.Shapes.getD i default)=true) (by kernel_rfl) (by kernel_rfl) (fun i hi=>by omega) ?_
 intro k hk hI J next
 refine Bb.raw (Aaf _ _ m k J) ⟨fun hlt=>?_,fun hge=>?_⟩
 ·have hlt':k<m.Shapes.length:=by have:=AQ hlt;omega
  refine ⟨⟨by omega,by omega⟩,CJ (m.Shapes.getD k default),TF (hw.Shapes.2 _ (Au hlt')),fun hy=>EH ?_,fun hy=>next _ hlt' (BE hI (by simpa using hy)) (Up.of ?_)⟩
  ·have e:D2 m=k:=Dz (f:=fun i=>CJ (m.Shapes.getD i default)) hI hlt' (by simpa using hy)
   rw [e,show decide ((0:Int)<=(k:Int))=true by simp,cond_true] at hR
   exact hR
  ·rw [Am (by omega)]<;>rfl
 have hge':m.Shapes.length<=k:=by have:=AT hge;omega
 have es:D2 m=-1:=DA (f:=fun i=>CJ (m.Shapes.getD i default)) fun i hi=>hI i (by omega)
 rw [es,show decide ((0:Int)<=-1)=false from rfl,cond_false] at hR
 clear hI next
 refine AD Ak Aj m.Chans.length (fun k=>Ny m k) (fun k=>∀ i,i<k->inP m.Shapes.length (m.Chans.getD i 0)=true) (by kernel_rfl) (by kernel_rfl) (fun i hi=>by omega) ?_
 intro k hk hI J next
 refine Bb.raw (Aae _ _ m k J) ⟨fun hlt=>?_,fun hge=>?_⟩
 ·have hlt':k<m.Chans.length:=by have:=AQ hlt;omega
  have hto:(k:Int).toNat=k:=by omega
  rw [hto]
  have hin:inP m.Shapes.length (m.Chans.getD k 0)=!(bif decide (m.Chans.getD k 0<0) then true else decide (m.Chans.getD k 0>=(m.Shapes.length:Int))):=by unfold inP;rw [Bool.eq_iff_iff];simp
  refine ⟨⟨by omega,by omega⟩,fun _=>⟨by omega,by omega⟩,fun hy=>EH ?_,fun hy=>next _ hlt' (BE hI (by rw [hin,hy]<;>rfl)) (Up.of ?_)⟩
  ·have e:FF m=k:=Dz (f:=fun i=>inP m.Shapes.length (m.Chans.getD i 0)) hI hlt' (by show inP _ _=false;rw [hin,hy]<;>rfl)
   rw [e,show decide ((0:Int)<=(k:Int))=true by simp,cond_true] at hR
   exact hR
  ·rw [Am (by omega)]<;>rfl
 have hge':m.Chans.length<=k:=by have:=AT hge;omega
 have ec:FF m=-1:=DA (f:=fun i=>inP m.Shapes.length (m.Chans.getD i 0)) fun i hi=>hI i (by omega)
 rw [ec,show decide ((0:Int)<=-1)=false from rfl,cond_false] at hR
 rw [t3]
 refine ⟨fun h4=>EH (by rw [h4,cond_true] at hR;exact hR),fun h4=>⟨⟨by omega,by omega,by omega⟩,?_⟩⟩
 rw [h4,cond_false] at hR
 clear hI next
 have hnn:((m.Exprs.length:Int).toNat)=(AN m).length:=by simp [AN]
 have hnl:(AN m).length=m.Exprs.length:=by simp [AN]
 refine AA.le (l':=[(1,.bp 0 0),(8,.ow 1 0 (AN m).length),(9,Aa 0)]) (hs':=[.box (Ae m),.arr true 0 (AN m).length 1 (Ep (AN m))]) ?_ ?_ ?_
 ·rw [hnn];exact AY _
 ·rw [hnn]
  refine ⟨Ob.le_refl _,Ob.le_arr fun i hi=>A2 ?_,trivial⟩
  have:(AN m).getD i false=false:=by
   have hi':i<m.Exprs.length:=by rw [← hnl];exact hi
   simp [AN,List.getD,hi']
  show _=[Ac ((AN m).getD i false)]
  rw [this]<;>rfl
 generalize hX:FD m=X at hR
 have fin:∀ {y:Int × Int},(bif decide (0<=X) then ((3:Int),X) else (0,0))=y->y=R:=fun h=>by rw [← h];exact hR
 refine Bh Ak Aj (fun g st=>∃ (k:Nat) (had:List Bool),k<=m.Exprs.length/\g=m.Exprs.length - k/\had.length=m.Exprs.length/\EV m (m.Exprs.length - k) k had=X/\st=RH m had k) (by kernel_rfl) (by kernel_rfl) ⟨_,Up.of ⟨0,AN m,Nat.zero_le _,rfl,hnl,hX,rfl⟩⟩ ?_
 rintro g st ⟨k,had,hk,rfl,hhl,hr,rfl⟩
 refine Bb.raw (Aad _ _ m had k _) ⟨fun hlt=>?_,fun hge=>EH (fin ?_)⟩
 ·have hlt':k<m.Exprs.length:=by have:=AQ hlt;omega
  have hto:(k:Int).toNat=k:=by omega
  rw [hto]
  have hwx:Jo (m.Exprs.getD k default):=hw.Exprs.2 _ (Au hlt')
  rw [show m.Exprs.length - k=(m.Exprs.length - (k+1))+1 by omega] at hr
  unfold EV at hr
  refine ⟨Dd m k,Wv (by omega) (by omega) (by unfold Ar;rw [hto];exact hwx) hPr,fun hy=>EH (fin ?_),fun hy=>⟨⟨by omega,by omega⟩,Bi (m.Exprs.getD k default),OT hwx.Args.1 hwx.V.Dims.1,?_⟩⟩
  ·rw [show Dd m k=false by simpa using hy,cond_false] at hr
   rw [← hr,show decide ((0:Int)<=(k:Int))=true by simp,cond_true]
  ·have hye:Dd m k=true:=by simpa using hy
   rw [hye,cond_true] at hr
   have hin:=NS hye
   have hhlen:=LX hwx.Args.1 hwx.V.Dims.1
   unfold Ar at hin
   rw [hto] at hin
   generalize Bi (m.Exprs.getD k default)=l at hin hhlen hr ⊢
   generalize ho:P2 had l=o at hr
   refine Bh Ak Aj (fun g st=>∃ (j:Nat) (had':List Bool),j<=l.length/\g=l.length - j/\had'.length=m.Exprs.length/\P2 had' (l.drop j)=o/\st=RG m had' k l j) (by kernel_rfl) (by kernel_rfl) ⟨_,Up.of ⟨0,had,Nat.zero_le _,rfl,hhl,ho,rfl⟩⟩ ?_
   rintro g st ⟨j,had',hj,rfl,hhl',hq,rfl⟩
   refine Bb.raw (Aac _ _ m had' k l j _ _) ⟨fun hlt2=>?_,fun hge2=>?_⟩
   ·have hlt2':j<l.length:=by have:=AQ hlt2;omega
    have hto2:(j:Int).toNat=j:=by omega
    rw [hto2]
    have hpi:=hin _ (Au (d:=0) hlt2')
    rw [B4 (d:=0) hlt2'] at hq
    generalize l.getD j 0=p at hpi hq ⊢
    unfold P2 at hq
    refine ⟨⟨by omega,by omega⟩,⟨by omega,by omega⟩,fun hy=>EH (fin ?_),fun hy=>⟨⟨by omega,by omega⟩,⟨by omega,by omega⟩,l.length - (j+1),by omega,?_⟩⟩
    ·rw [hy,cond_true] at hq
     rw [← hq] at hr
     rw [← hr,show decide ((0:Int)<=(k:Int))=true by simp,cond_true]
    ·rw [hy,cond_false] at hq
     have hsl:(had'.set p.toNat true).length=had'.length:=by simp
     rw [Am (by omega)]
     refine Up.mk (l':=[(1,.bp 0 0),(8,.ow 1 0 (had'.set p.toNat true).length),(9,Aa k),(11,Ad true l),(12,Aa ((j+1:Nat):Int))])
      (hs':=[.box (Ae m),.arr true 0 (had'.set p.toNat true).length 1 (Ep (had'.set p.toNat true))]) ?_ ?_ ⟨j+1,had'.set p.toNat true,by omega,rfl,by rw [hsl];exact hhl',hq,rfl⟩
     ·rw [hsl];exact AY _
     ·rw [hsl]
      exact ⟨Ob.le_refl _,Ob.le_arr fun i hi=>A2 (NJ hi),trivial⟩
   ·have hge2':l.length<=j:=by have:=AT hge2;omega
    rw [List.drop_eq_nil_of_le hge2'] at hq
    unfold P2 at hq
    rw [← hq] at hr
    rw [Am (by omega)]
    exact ⟨m.Exprs.length - (k+1),by omega,Up.of ⟨k+1,had',by omega,rfl,hhl',hr,rfl⟩⟩
 ·have hge':m.Exprs.length<=k:=by have:=AT hge;omega
  rw [show m.Exprs.length - k=0 by omega] at hr
  unfold EV at hr
  rw [← hr]<;>rfl
def X0 (m:D.Model):Int:=Ih m.Procs.length fun i:Nat=>F8 m i
def Afl (m:D.Model):Int:=Ih m.Procs.length fun i:Nat=>M1 m i
def I7 (m:D.Model):Int × Int × Int :=
 bif decide (0<(Br m).1) then (40,Br m) else bif decide (0<=X0 m) then (40,4,X0 m) else bif decide (16<DG m m.Procs.length) then (40,5,-1)
 else bif decide (0<=Afl m) then (40,6,Afl m) else (0,0,0)
def Ub (m:D.Model):Bool:=(I7 m).1==0
theorem TS {m:D.Model} (hw:Ay m):Ai Tryz.prog 48 [] [.agg (Ae m)] [] (.tup [Aa (I7 m).1,Aa (I7 m).2.1,Aa (I7 m).2.2]):=by
 have hP:=hw.Procs.1
 refine Ag Ak Aj Tryz.func48 (by kernel_rfl) rfl (WE _ _ _ m) ⟨Br m,RT hw,?_⟩
 generalize hR:I7 m=R
 unfold I7 at hR
 refine ⟨fun h=>Kd (by rw [show decide (0<(Br m).1)=true from h,cond_true] at hR;exact hR),fun h=>?_⟩
 have hready:=Lg hw (of_decide_eq_false h)
 rw [show decide (0<(Br m).1)=false from h,cond_false] at hR
 refine AD Ak Aj m.Procs.length (fun k=>Jy m (DG m k) k) (fun k=>(∀ i:Nat,i<k->F8 m i=true)/\0<=DG m k/\DG m k<=16*k) (by kernel_rfl) (by kernel_rfl) ⟨fun i hi=>by omega,by simp [DG],by simp [DG]⟩ ?_
 intro k hk ⟨hI,hm0,hm1⟩ J next
 refine Bb.raw (TU _ _ _ m (DG m k) k J) ⟨fun hlt=>?_,fun hge=>?_⟩
 ·have hlt':k<m.Procs.length:=by have:=AQ hlt;omega
  have hto:(k:Int).toNat=k:=by omega
  rw [hto]
  refine ⟨F8 m k,TA hw (by omega) (by omega),fun hy=>Kd ?_,fun hy=>⟨⟨by omega,by omega⟩,?_⟩⟩
  ·have e:X0 m=k:=Dz (f:=fun i:Nat=>F8 m i) hI hlt' (by simpa using hy)
   rw [e,show decide ((0:Int)<=(k:Int))=true by simp,cond_true] at hR
   exact hR
  ·have hy':F8 m k=true:=by simpa using hy
   have hac:=(Qq hy').2
   unfold AK at hac
   rw [hto] at hac
   have hms:=QN hlt'
   refine next _ hlt' ⟨BE hI hy',by omega,by omega⟩ (Up.of ?_)
   rw [hms,Am (by omega),A1 (n:=DG m k+_) (by omega) (by omega)]<;>rfl
 ·have hge':k=m.Procs.length:=by have:=AT hge;omega
  subst hge'
  have e:X0 m=-1:=DA (f:=fun i:Nat=>F8 m i) fun i hi=>hI i (by omega)
  rw [e,show decide ((0:Int)<=-1)=false from rfl,cond_false] at hR
  refine ⟨fun h2=>Kd (by rw [show decide (16<DG m m.Procs.length)=true from h2,cond_true] at hR;exact hR),fun h2=>?_⟩
  rw [show decide (16<DG m m.Procs.length)=false from h2,cond_false] at hR
  have hpv:∀ i:Nat,i<m.Procs.length->(AK m i).Provided<m.Exprs.length:=fun i hi=>(Qq (hI i hi)).1
  clear hI next
  refine AD Ak Aj m.Procs.length (fun k=>Jx m k) (fun k=>∀ i:Nat,i<k->M1 m i=true) (by kernel_rfl) (by kernel_rfl) (fun i hi=>by omega) ?_
  intro k hk hI J next
  refine Bb.raw (TT _ _ _ m k J) ⟨fun hlt=>?_,fun hge=>Kd ?_⟩
  ·have hlt':k<m.Procs.length:=by have:=AQ hlt;omega
   refine ⟨M1 m k,PT hready (by omega) (by omega) (hpv _ (by omega)),fun hy=>Kd ?_,fun hy=>next _ hlt' (BE hI (by simpa using hy)) (Up.of ?_)⟩
   ·have e:Afl m=k:=Dz (f:=fun i:Nat=>M1 m i) hI hlt' (by simpa using hy)
    rw [e,show decide ((0:Int)<=(k:Int))=true by simp,cond_true] at hR
    exact hR
   ·rw [Am (by omega)]<;>rfl
  ·have hge':m.Procs.length<=k:=by have:=AT hge;omega
   have e:Afl m=-1:=DA (f:=fun i:Nat=>M1 m i) fun i hi=>hI i (by omega)
   rw [e,show decide ((0:Int)<=-1)=false from rfl,cond_false] at hR
   exact hR
theorem TO {m:D.Model} (hw:Ay m):Ai Tryz.prog 26 [] [.agg (Ae m)] [] (Ac (Ub m)) :=
 Ag Ak Aj Tryz.func26 (by kernel_rfl) rfl (Wq _ m) ⟨I7 m,TS hw,Ao rfl⟩
theorem Ada {m:D.Model} (h:Ub m=true):Br m=(0,0):=by
 unfold Ub I7 at h
 have hx:¬ 0<(Br m).1:=by
  intro hc
  rw [show decide (0<(Br m).1)=true by simpa using hc,cond_true] at h
  simp at h
 have cases2:(Br m)=(0,0)∨0<(Br m).1:=by
  unfold Br
  generalize (decide (128<m.Globals.length)||!decide (m.Init.length=m.Globals.length))=b1
  generalize decide (0<=DB m.Globals m.Init)=b2
  generalize (decide (32<m.Shapes.length)||decide (32<m.Chans.length))=b3
  generalize decide (0<=D2 m)=b4
  generalize decide (0<=FF m)=b5
  generalize (decide (m.Procs.length<1)||(decide (16<m.Procs.length)||(decide (m.Claim < -1)||(decide ((m.Procs.length:Int)<=m.Claim)||decide (4096<m.Exprs.length)))))=b6
  generalize decide (0<=FD m)=b7
  cases b1<;>cases b2<;>cases b3<;>cases b4<;>cases b5<;>cases b6<;>cases b7<;>simp
 exact cases2.resolve_right hx
theorem HM {t:List D.Type} {l:List Int} (hl:Len l.length):Ai Tryz.prog 23 [] [AE true t,Ad true l] [] (Ac (AX t l)):=by
 unfold Len at hl
 refine Ag Ak Aj Tryz.func23 (by kernel_rfl) rfl (Tw _ t l) ⟨fun h=>Ao ?_,fun h=>?_⟩
 ·unfold AX
  have:decide (t.length=l.length)=false:=by simp at h;simp;omega
  rw [this,Bool.false_and]
 ·have hlen:t.length=l.length:=by simp at h;omega
  have e:AX t l=Ce l.length fun i=>Ci (t.getD i default) (l.getD i 0):=by unfold AX;rw [show decide (t.length=l.length)=true by simpa using hlen,Bool.true_and]
  rw [e]
  refine AD Ak Aj t.length (fun k=>Qv t l k) (fun k=>∀ i,i<k->Ci (t.getD i default) (l.getD i 0)=true) (by kernel_rfl) (by kernel_rfl) (fun i hi=>by omega) ?_
  intro k hk hI J next
  refine Bb.raw (RS _ t l k J) ⟨fun hlt=>?_,fun hge=>Ao ?_⟩
  ·have hlt':k<t.length:=by have:=AQ hlt;omega
   refine ⟨⟨by omega,by omega⟩,⟨by omega,by omega⟩,Ci (t.getD k default) (l.getD k 0),OW _ _,fun hy=>Ao ?_,fun hy=>next _ hlt' (BE hI (by simpa using hy)) (Up.of ?_)⟩
   ·exact (Bo (n:=l.length) (k:=k) (f:=fun i=>Ci (t.getD i default) (l.getD i 0)) (by omega) (by simpa using hy)).symm
   ·rw [Am (by omega)]<;>rfl
  ·have hge':t.length<=k:=by have:=AT hge;omega
   exact (AL.2 fun i hi=>hI i (by omega)).symm
theorem Qz {m:D.Model} {s:D.State} (hs:A4 s) (hcl:m.Claim<m.Procs.length):Ai Tryz.prog 10 [] [.agg (Ae m),.agg (An s)] [] (Ac (Cu m s)):=by
 have hc:=hs.c
 have hp:=hs.p
 unfold Len at hc hp
 have ht:(bif bif bif bif bif bif bif !(AX m.Globals s.Globals) then true else decide ((s.Chans.length:Int) > 32) then true else decide ((s.Procs.length:Int) > 16) then true else decide (s.Last<0) then true else decide (s.Last > 15) then true else decide (s.Alone<(-1:Int)) then true else decide (s.Alone>=(s.Procs.length:Int)) then true else bif decide (m.Claim<0) then s.Claim != (-1:Int) else false) =
   !(Gp m s&&(bif decide (m.Claim<0) then decide (s.Claim=-1) else true)):=by
  unfold Gp
  cases AX m.Globals s.Globals
  ·rfl
  ·cases decide (m.Claim<0)
   ·rw [Bool.eq_iff_iff];simp;omega
   ·rw [Bool.eq_iff_iff];simp;omega
 refine Ag Ak Aj Tryz.func10 (by kernel_rfl) rfl (AcN _ m s) ⟨AX m.Globals s.Globals,HM hs.g,?_⟩
 rw [ht]
 have e0:Cu m s=(Gp m s&&(Ce s.Chans.length fun i=>CC m (s.Chans.getD i default))&&(Ce s.Procs.length fun i=>AP m (s.Procs.getD i default))&&FQ m s):=rfl
 generalize Cu m s=b at e0 ⊢
 refine ⟨fun h=>Ao ?_,fun h=>⟨fun h2=>?_,fun h2=>Ao ?_,fun h2=>?_⟩⟩
 ·rw [e0];unfold FQ
  cases hq:Gp m s
  ·rfl
  ·rw [hq] at h
   cases hq2:decide (m.Claim<0)
   ·rw [hq2] at h;simp at h
   ·rw [hq2] at h
    simp only [cond_true,Bool.true_and,Bool.not_eq_true'] at h
    simp only [cond_true,h,Bool.and_false]
 ·simp only [Bool.true_and,beq_true,Bool.and_eq_true,decide_eq_true_eq] at h2
  omega
 ·rw [e0];unfold FQ
  cases hq2:decide (m.Claim<0)
  ·rw [show decide (m.Claim>=0)=true by simp at hq2 ⊢;omega,cond_true] at h2
   rw [cond_false,show inP (AK m m.Claim).Locs.length s.Claim=false from ?_,Bool.and_false]
   have h2':(bif decide (s.Claim<0) then true else decide (s.Claim>=((AK m m.Claim).Locs.length:Int)))=true:=h2
   rw [Bool.eq_false_iff];intro hc;unfold inP at hc;simp at hc h2';omega
  ·rw [show decide (m.Claim>=0)=false by simp at hq2 ⊢;omega,cond_false] at h2
   cases h2
 have hh:Gp m s=true/\FQ m s=true:=by
  simp only [Bool.not_eq_false',Bool.and_eq_true] at h
  refine ⟨h.1,?_⟩
  unfold FQ
  have h3:=h.2
  cases hq2:decide (m.Claim<0)
  ·rw [show decide (m.Claim>=0)=true by simp at hq2 ⊢;omega,cond_true] at h2
   rw [cond_false]
   have h2':(bif decide (s.Claim<0) then true else decide (s.Claim>=((AK m m.Claim).Locs.length:Int)))=false:=h2
   unfold inP;simp at h2' ⊢;omega
  ·rw [hq2,cond_true] at h3;exact h3
 rw [hh.1,hh.2,Bool.true_and,Bool.and_true] at e0
 refine AD Ak Aj s.Chans.length (fun k=>Lq m s k) (fun k=>∀ i,i<k->CC m (s.Chans.getD i default)=true) (by kernel_rfl) (by kernel_rfl) (fun i hi=>by omega) ?_
 intro k hk hI J next
 refine Bb.raw (Aal _ m s k J) ⟨fun hlt=>?_,fun hge=>?_⟩
 ·have hlt':k<s.Chans.length:=by have:=AQ hlt;omega
  have hto:(k:Int).toNat=k:=by omega
  rw [hto]
  have hsm:=hs.cs _ (Au (d:=default) hlt')
  have no:CC m (s.Chans.getD k default)=false->false=b:=fun h=>by
   rw [e0,Bo (f:=fun i=>CC m (s.Chans.getD i default)) hlt' h]<;>rfl
  have yes:CC m (s.Chans.getD k default)=true->J (Lq m s ((k:Int)+1)):=fun h=>next _ hlt' (BE hI h) (Up.of rfl)
  clear next
  generalize s.Chans.getD k default=c at hsm no yes ⊢
  have hq:=hsm.q
  unfold Len at hq
  have hsh:(m.Shapes.getD c.Shape.toNat default)=BC m c.Shape:=rfl
  rw [hsh]
  have ecp:CC m c=(inP m.Shapes.length c.Shape&&decide ((c.Queue.length:Int)<=(BC m c.Shape).Room)&&Ce c.Queue.length fun i=>AX (BC m c.Shape).Fields (c.Queue.getD i [])):=rfl
  refine ⟨⟨by omega,by omega⟩,fun hy=>?_,fun hy=>Ao (no ?_),fun hy=>?_⟩
  ·simp at hy;omega
  ·rw [ecp]
   cases hin:inP m.Shapes.length c.Shape
   ·rfl
   ·have:=Cz.1 hin
    rw [show decide ((c.Queue.length:Int)<=(BC m c.Shape).Room)=false from ?_]
    ·rfl
    ·generalize (BC m c.Shape).Room=rm at hy ⊢
     simp at hy ⊢;omega
  have hin:0<=c.Shape/\c.Shape<m.Shapes.length/\(c.Queue.length:Int)<=(BC m c.Shape).Room:=by
   generalize (BC m c.Shape).Room=rm at hy ⊢
   simp at hy;omega
  rw [Cz.2 ⟨hin.1,hin.2.1⟩,show decide ((c.Queue.length:Int)<=(BC m c.Shape).Room)=true by simpa using hin.2.2,Bool.true_and,Bool.true_and] at ecp
  rw [ecp] at no yes
  refine AD Ak Aj c.Queue.length (fun j=>NA m s k c j) (fun j=>∀ i,i<j->AX (BC m c.Shape).Fields (c.Queue.getD i [])=true) (by kernel_rfl) (by kernel_rfl) (fun i hi=>by omega) ?_
  intro j hj hI2 J2 next2
  refine Bb.raw (Aak _ m s k c j J J2) ⟨fun hlt2=>?_,fun hge2=>?_⟩
  ·have hlt2':j<c.Queue.length:=by have:=AQ hlt2;omega
   have hto2:(j:Int).toNat=j:=by omega
   rw [hto2]
   refine ⟨⟨hin.1,hin.2.1⟩,⟨by omega,by omega⟩,AX (BC m c.Shape).Fields (c.Queue.getD j []),HM (hsm.m _ (Au hlt2')),fun hy=>Ao (no ?_),fun hy=>next2 _ hlt2' (BE hI2 (by simpa using hy)) (Up.of ?_)⟩
   ·exact Bo (f:=fun i=>AX (BC m c.Shape).Fields (c.Queue.getD i [])) hlt2' (by simpa using hy)
   ·rw [Am (by omega)]<;>rfl
  ·have hge2':c.Queue.length<=j:=by have:=AT hge2;omega
   rw [Am (by omega)]
   exact yes (AL.2 fun i hi=>hI2 i (by omega))
 have hge':s.Chans.length<=k:=by have:=AT hge;omega
 rw [(AL (n:=s.Chans.length) (f:=fun i=>CC m (s.Chans.getD i default))).2 fun i hi=>hI i (by omega),Bool.true_and] at e0
 clear hI next
 refine AD Ak Aj s.Procs.length (fun k=>Lp m s k) (fun k=>∀ i,i<k->AP m (s.Procs.getD i default)=true) (by kernel_rfl) (by kernel_rfl) (fun i hi=>by omega) ?_
 intro k hk hI J next
 refine Bb.raw (Aaj _ m s k J) ⟨fun hlt=>?_,fun hge=>Ao ?_⟩
 ·have hlt':k<s.Procs.length:=by have:=AQ hlt;omega
  have hto:(k:Int).toNat=k:=by omega
  rw [hto]
  have hsm:=hs.ps _ (Au (d:=default) hlt')
  have no:AP m (s.Procs.getD k default)=false->false=b:=fun h=>by
   rw [e0,Bo (f:=fun i=>AP m (s.Procs.getD i default)) hlt' h]
  have yes:AP m (s.Procs.getD k default)=true->J (Lp m s ((k:Int)+1)):=fun h=>next _ hlt' (BE hI h) (Up.of rfl)
  clear next
  generalize s.Procs.getD k default=p at hsm no yes ⊢
  have hpr:m.Procs.getD p.Type_.toNat default=AK m p.Type_:=rfl
  rw [hpr]
  have ep:AP m p=(BO m p.Type_&&inP (AK m p.Type_).Locs.length p.Loc&&decide (p.Prio=(AK m p.Type_).Prio)&&AX (AK m p.Type_).Frame p.Frame):=rfl
  refine ⟨⟨by omega,by omega⟩,fun hy=>Ao (no ?_),fun hy=>?_⟩
  ·rw [ep,show BO m p.Type_=false from ?_]
   ·rfl
   ·unfold BO;rw [Bool.eq_false_iff];intro hc;simp at hc hy;omega
  have hpp:0<=p.Type_/\p.Type_<m.Procs.length/\p.Type_≠m.Claim:=by simp at hy;omega
  rw [show BO m p.Type_=true by unfold BO;simp;omega,Bool.true_and] at ep
  refine ⟨⟨hpp.1,hpp.2.1⟩,AX (AK m p.Type_).Frame p.Frame,HM hsm,?_⟩
  have ht2:(bif bif bif !(AX (AK m p.Type_).Frame p.Frame) then true else decide (p.Loc<0) then true else decide (p.Loc>=((AK m p.Type_).Locs.length:Int)) then true else p.Prio != (AK m p.Type_).Prio)=!(AP m p):=by
   rw [ep];unfold inP
   cases AX (AK m p.Type_).Frame p.Frame
   ·simp
   ·rw [Bool.eq_iff_iff];simp<;>omega
  rw [ht2]
  refine ⟨fun hy2=>Ao (no (by simpa using hy2)),fun hy2=>?_⟩
  rw [Am (by omega)]
  exact yes (by simpa using hy2)
 have hge':s.Procs.length<=k:=by have:=AT hge;omega
 rw [(AL (n:=s.Procs.length) (f:=fun i=>AP m (s.Procs.getD i default))).2 fun i hi=>hI i (by omega)] at e0
 exact e0.symm
def F9 (m:D.Model) (s:D.State):Int:=bif Ub m then (bif Cu m s then 0 else 41) else 40
theorem RU {m:D.Model} {s:D.State} (hw:Ay m) (hs:A4 s):Ai Tryz.prog 14 [] [.agg (Ae m),.agg (An s)] [] (Aa (F9 m s)):=by
 refine Ag Ak Aj Tryz.func14 (by kernel_rfl) rfl (TH _ m s) ⟨Ub m,TO hw,fun h=>BM ?_,fun h=>⟨Cu m s,Qz hs (OA (Ada (by simpa using h))).claim.2,fun h2=>BM ?_,fun h2=>BM ?_⟩⟩
 ·unfold F9;rw [show Ub m=false by simpa using h]<;>rfl
 ·unfold F9;rw [show Ub m=true by simpa using h,show Cu m s=false by simpa using h2]<;>rfl
 ·unfold F9;rw [show Ub m=true by simpa using h,show Cu m s=true by simpa using h2]<;>rfl
def L4 (e:D.Env):Int:=bif F9 e.M e.S != 0 then F9 e.M e.S else bif (bif decide (e.Pid<0) then true else decide (e.Pid>=(e.S.Procs.length:Int))) then 42 else 0
theorem RY {e:D.Env} (hw:VA e):Ai Tryz.prog 7 [] [.agg (Af e)] [] (Aa (L4 e)):=by
 refine Ag Ak Aj Tryz.func7 (by kernel_rfl) rfl (TR _ e) ⟨F9 e.M e.S,RU hw.M (Tq hw.S),fun h=>BM ?_,fun h=>⟨fun h2=>BM ?_,fun h2=>BM ?_⟩⟩
 ·unfold L4;rw [h]<;>rfl
 ·unfold L4;rw [h,h2]<;>rfl
 ·unfold L4;rw [h,h2]<;>rfl
end Go.Proofs.YtiaebjpcgjkhoaaGreatDoor
namespace Go.Proofs.YtiaebjpcgjkhoaaGreatDoor
open Go.RowKit
theorem UR {xs:List Int} (hr:xs.length*8<=140737488355328):Ai Tryz.prog 35 [] [Ad true xs] [] (Ad true xs):=by
 refine Ai.hand ⟨_,Tryz.func35,rfl,by kernel_rfl⟩ fun w E vs hA hL _ _ hs=>?_
 obtain ⟨u1,us1,rfl,v1,hs⟩:=hs.cons_inv
 obtain rfl:=hs.nil_inv
 obtain ⟨ao,cap,rfl,h1,h2,h3⟩:=V.sl_inv v1
 refine (L8 h1 h2 hr fun hp=>?_).mono ?_
 ·obtain ⟨b,off,rfl,_,_,_,u,hc,hv⟩:=h3 hp
  refine ⟨_,rfl,fun i hi=>?_⟩
  have c1:=hc i 0 _ hi rfl
  have c2:=(hv i 0 _ hi rfl).sc_inv
  rw [Addr.add_lit]
  rw [c2] at c1
  simpa using c1
 ·rintro e w' ⟨v',rfl,ho,hb⟩
  exact ⟨v',rfl,IE ho hA,hb⟩
def DK (l:List D.Chan):Nat->List VV:=fun i=>AF (l.getD i default)
def HY (l:List D.Process):Nat->List VV:=fun i=>As (l.getD i default)
def Wp (l:List (List Int)):Nat->List VV:=fun i=>[Ad true (l.getD i [])]
def Bc (x:D.State) (c p:VV):List VV:=[Ad true x.Globals,c,p,Aa x.Last,Aa x.Alone,Aa x.Claim]
def EA (x:D.Env) (c p:VV):List VV:=[AE true x.M.Globals,Ad true x.M.Init,Cj true x.M.Shapes,Ad true x.M.Chans,Cw true x.M.Procs,Aa x.M.Claim,CO true x.M.Exprs,Ad true x.S.Globals,c,p,Aa x.S.Last,Aa x.S.Alone,Aa x.S.Claim,Aa x.Pid,Ac x.Timeout,BG true x.Able]
def obC (s:D.State):Ob:=.arr true 0 s.Chans.length 2 (DK s.Chans)
def obP (s:D.State):Ob:=.arr true 0 s.Procs.length 4 (HY s.Procs)
def hsE (e:D.Env):List Ob:=[.box (EA e (.ow 1 0 e.S.Chans.length) (.ow 2 0 e.S.Procs.length)),obC e.S,obP e.S]
def Aeu : Shp:={ α:=D.State,enc:=fun y=>([obC y,obP y],.agg (Bc y (.ow 0 0 y.Chans.length) (.ow 1 0 y.Procs.length))) }
def Ag5 : Shp:={ α:=D.Env × Int,enc:=fun y=>(hsE y.1,Aa y.2),lend:=true }
def AfZ : Shp:={ α:=D.Env × Int × Int,enc:=fun y=>(hsE y.1,.tup [Aa y.2.1,Aa y.2.2]),lend:=true }
def AfY : Shp:={ α:=D.Env × ByteArray × Int,enc:=fun y=>(hsE y.1,.tup [BV y.2.1,Aa y.2.2]),lend:=true }
def Ag4 : Shp:={ α:=D.State × ByteArray × Int,enc:=fun y=>([],.tup [.agg (An y.1),BV y.2.1,Aa y.2.2]) }
def Af0 : Shp:={ α:=List Bool × Int,enc:=fun y=>([],.tup [BG true y.1,Aa y.2]) }
def Ag0 : Shp:={ α:=D.State,enc:=fun y=>([],.agg (An y)) }
def AgZ : Shp:={ α:=ByteArray,enc:=fun y=>([],BV y) }
def IN (f:FuncId):Shp :=
 bif Nat.beq f 19 then Aeu
 else bif Nat.beq f 22 then AfY
 else bif Nat.beq f 37 then AfZ
 else bif Nat.beq f 38||Nat.beq f 42||Nat.beq f 43||Nat.beq f 44||Nat.beq f 65 then Ag5
 else bif Nat.beq f 18 then Ag0
 else bif Nat.beq f 9 then Ag4
 else bif Nat.beq f 13 then Af0
 else bif Nat.beq f 25||Nat.beq f 7 then ZR
 else bif Nat.beq f 12 then Afr
 else bif Nat.beq f 6 then Aev
 else bif Nat.beq f 34||Nat.beq f 35 then Aet
 else bif Nat.beq f 41 then AgZ
 else Cs f
end Go.Proofs.YtiaebjpcgjkhoaaGreatDoor
namespace Go.Proofs.YtiaebjpcgjkhoaaGreatDoor
open Go.RowKit
section
variable {w : World} {E:AR} {m:Option Phi} {n0:Nat}
def PL (w:World) (n0:Nat) (E:AR):Prop:=∀ k,E.fz k->k<n0∨∃ cur t,w.heap[k]?=some (.cells cur t (0,0))/\t≠DI/\t≠Gj
theorem PL.off {k:Nat} {cur:Array Value} {t:TypeId} (h:PL w n0 E) (hk:n0<=k) (hb:w.heap[k]?=some (.cells cur t (0,0))) (ht:t=DI∨t=Gj):¬ E.fz k:=by
 intro hf
 rcases h k hf with h1 | ⟨cur',t',h1,h2,h3⟩
 ·omega
 ·rw [hb] at h1
  simp only [Option.some.injEq,Obj.cells.injEq] at h1
  obtain ⟨_,rfl,_⟩:=h1
  exact ht.elim h2 h3
theorem Yl {e:TypeId} {sz n:Nat} {a:Addr} {cap:Nat} {xs:List Value} (h:w.ownsRow n0 e sz (.slice (some a) n cap) n xs):∃ cur,n0<=a.block/\w.heap[a.block]?=some (.cells cur e (0,0)):=by
 rcases h.2 with ⟨h1,_⟩ | ⟨g,cap',cur,h1,h2,h3,_⟩
 ·cases h1
 ·simp only [Value.slice.injEq,Option.some.injEq] at h1
  obtain ⟨rfl,_,_⟩:=h1
  exact ⟨cur,h2,h3⟩
theorem VJ {v:Value} {xs:List Int} (h:Im w n0 v xs) (hA:PL w n0 E):V w E m (Ad true xs) v:=by
 obtain ⟨ao,cap,rfl,h1,h2,h3⟩:=CF h
 refine V.sl_mk h1 h2 fun hp=>?_
 obtain ⟨g,rfl,hg,hlt,hc⟩:=h3 hp
 obtain ⟨cur,hb0,hb⟩:=Yl h
 refine ⟨g,0,rfl,hlt,hA.off hb0 hb (.inl rfl),fun i _=>rfl,fun i _=>.int .i64 (xs.getD i 0),fun i j y hi hy=>?_,fun i j y hi hy=>?_⟩
 ·match j,hy with
  | 0,_ =>
   have:=hc i (by omega)
   simp only [Nat.zero_add,Nat.mul_one,Nat.add_zero]
   rw [this];simp [List.getD,hi]
  | j+1,hy=>simp at hy
 ·match j,hy with
  | 0,hy=>simp only [List.getElem?_cons_zero,Option.some.injEq] at hy;subst hy;exact .sc
  | j+1,hy=>simp at hy
theorem Aht {v:Value} {vs:List Value} {q:List (List Int)} (h:BR w n0 v vs q) (hA:∀ b,PL w n0 (E.at b)) (hE:PL w n0 E):V w E m (Bx true q) v:=by
 obtain ⟨ao,cap,rfl,h1,h2,h3⟩:=CF h.row
 refine V.sl_mk h1 h2 fun hp=>?_
 obtain ⟨g,rfl,hg,hlt,hc⟩:=h3 hp
 obtain ⟨cur,hb0,hb⟩:=Yl h.row
 refine ⟨g,0,rfl,hlt,hE.off hb0 hb (.inr rfl),fun i _=>rfl,fun i _=>vs.getD i undef,fun i j y hi hy=>?_,fun i j y hi hy=>?_⟩
 ·match j,hy with
  | 0,_ =>
   have:=hc i (by omega)
   have hv:i<vs.length:=by rw [h.len];exact hi
   simp only [Nat.zero_add,Nat.mul_one,Nat.add_zero]
   rw [this];simp [List.getD,hv]
  | j+1,hy=>simp at hy
 ·match j,hy with
  | 0,hy =>
   simp only [List.getElem?_cons_zero,Option.some.injEq] at hy;subst hy
   have hv:i<vs.length:=by rw [h.len];exact hi
   exact VJ (h.each i _ _ (by simp [List.getD,hv]) (by simp [List.getD,hi])) (hA true)
  | j+1,hy=>simp at hy
theorem Fp.base {v:Value} {qs:List Value} {cs:List D.Chan} {n1:Nat} (h:Fp w n0 v qs cs) (hb:n1<=n0):Fp w n1 v qs cs :=
 ⟨Cb h.row hb,h.len,fun i u c h1 h2=>let ⟨vs,hq⟩:=h.each i u c h1 h2;⟨vs,hq.base hb⟩⟩
theorem D9.base {v:Value} {fs:List Value} {ps:List D.Process} {n1:Nat} (h:D9 w n0 v fs ps) (hb:n1<=n0):D9 w n1 v fs ps :=
 ⟨Cb h.row hb,h.len,fun i u p h1 h2=>Cb (h.each i u p h1 h2) hb,h.apart⟩
theorem TN {e:TypeId} {sz n:Nat} {v:Value} {xs:List Value} (h:w.ownsRow n0 e sz v n xs):v.oneCell'=true:=by
 obtain ⟨_,⟨rfl,_⟩ | ⟨g,cap,cur,rfl,_⟩⟩:=h<;>rfl
theorem Pv : ∀ {cs:List D.Chan} {qs:List Value},(∀ u∈qs,u.oneCell'=true)->∀ u∈ED cs qs,u.oneCell'=true
 | [],_,_,u,h=>by simp [ED] at h
 | _::_,[],_,u,h=>by simp [ED] at h
 | c::cs,q::qs,hq,u,h=>by
  simp only [ED,List.mem_cons] at h
  rcases h with rfl | rfl | h
  ·rfl
  ·exact hq _ List.mem_cons_self
  ·exact Pv (fun u hu=>hq u (List.mem_cons_of_mem _ hu)) u h
theorem Pu : ∀ {ps:List D.Process} {fs:List Value},(∀ u∈fs,u.oneCell'=true)->∀ u∈Dg ps fs,u.oneCell'=true
 | [],_,_,u,h=>by simp [Dg] at h
 | _::_,[],_,u,h=>by simp [Dg] at h
 | c::cs,q::qs,hq,u,h=>by
  simp only [Dg,List.mem_cons] at h
  rcases h with rfl | rfl | rfl | rfl | h
  ·rfl
  ·rfl
  ·rfl
  ·exact hq _ List.mem_cons_self
  ·exact Pu (fun u hu=>hq u (List.mem_cons_of_mem _ hu)) u h
theorem QZ {l:List Value} {k:Nat} {u:Value} (h:l[k]?=some u):l.getD k undef=u:=by simp [List.getD,h]
theorem AfC {l:List Value} {k:Nat} (h:k<l.length):l[k]?=some (l.getD k undef):=by simp [List.getD,h]
theorem YH {α:Type} {R:Value->α->Prop} {vs:List Value} {l:List α} (hl:vs.length=l.length) (h:∀ (i:Nat) x y,vs[i]?=some x->l[i]?=some y->R x y) {u:Value} (hu:u∈vs):∃ a,R u a:=by
 obtain ⟨i,hi,rfl⟩:=List.getElem_of_mem hu
 exact ⟨l[i]'(by omega),h i _ _ (List.getElem?_eq_getElem hi) (List.getElem?_eq_getElem (by omega))⟩
theorem WZ {w0 w':World} {s:D.State} {vg vc vp:Value} {qs fs:List Value} (hb:Below w0.heap.size w0 w') (hn:w0.heap.size<=n0) (hg:Im w' n0 vg s.Globals) (hc:Fp w' n0 vc qs s.Chans) (hp:D9 w' n0 vp fs s.Procs) (hE:∀ k,E.fz k->k<w0.heap.size) (_:∀ k,E.br k->E.fz k) :
  ∃ pls,DO w0 E EG 0 [obC s,obP s] pls w'/\V w' (E.up (addP EG 0 pls)) (some (addP EG 0 pls)) (.agg (Bc s (.ow 0 0 s.Chans.length) (.ow 1 0 s.Procs.length))) (.agg #[vg,vc,vp,.int .i64 s.Last,.int .i64 s.Alone,.int .i64 s.Claim]):=by
 obtain ⟨hdC,c1,c2,c3⟩:=RV hc.row (Pv fun u hu=>by obtain ⟨a,vs,hq⟩:=YH (R:=fun u (c:D.Chan)=>∃ vs,BR w' n0 u vs c.Queue) hc.len hc.each hu;exact TN hq.row)
 obtain ⟨hdP,p1,p2,p3⟩:=RV hp.row (Pu fun u hu=>by obtain ⟨a,hq⟩:=YH (R:=fun u (p:D.Process)=>Im w' n0 u p.Frame) hp.len hp.each hu;exact TN hq)
 have hφ0:addP EG 0 [Pl.arr 0 s.Chans.length hdC,Pl.arr 0 s.Procs.length hdP] 0=some (.arr 0 s.Chans.length hdC):=Dr (nx:=0) (i:=0) rfl
 have hφ1:addP EG 0 [Pl.arr 0 s.Chans.length hdC,Pl.arr 0 s.Procs.length hdP] 1=some (.arr 0 s.Procs.length hdP):=Dr (nx:=0) (i:=1) rfl
 have hφx:∀ id,2<=id->addP EG 0 [Pl.arr 0 s.Chans.length hdC,Pl.arr 0 s.Procs.length hdP] id=none:=fun id h=>Di (.inr (by simp;omega))
 generalize hφ:addP EG 0 [Pl.arr 0 s.Chans.length hdC,Pl.arr 0 s.Procs.length hdP]=φ at hφ0 hφ1 hφx
 have hown:∀ k,Own φ k->n0<=k/\∃ cur t,w'.heap[k]?=some (.cells cur t (0,0))/\(t=DH∨t=DX):=by
  rintro k ⟨id,hbk⟩
  obtain ⟨p,hp',hpb⟩:=AI.1 hbk
  rcases (show id=0∨id=1∨2<=id by omega) with rfl | rfl | h
  ·rw [hφ0] at hp';obtain rfl:=Option.some.inj hp'
   obtain ⟨cap,hd⟩:=hpb
   obtain ⟨_,h1,cur,h2⟩:=c2 k cap hd
   exact ⟨h1,cur,_,h2,.inl rfl⟩
  ·rw [hφ1] at hp';obtain rfl:=Option.some.inj hp'
   obtain ⟨cap,hd⟩:=hpb
   obtain ⟨_,h1,cur,h2⟩:=p2 k cap hd
   exact ⟨h1,cur,_,h2,.inr rfl⟩
  ·rw [hφx id h] at hp';cases hp'
 have hty:PL w' n0 (E.up φ):=by
  rintro k (hk | hk)
  ·have:=hE k hk;exact .inl (by omega)
  ·obtain ⟨_,cur,t,h1,h2⟩:=hown k hk
   exact .inr ⟨cur,t,h1,by rcases h2 with rfl | rfl<;>decide,by rcases h2 with rfl | rfl<;>decide⟩
 have hat:∀ {b b'},PL w' n0 (((E.up φ).at b).at b'):=fun {b b'}=>by cases b<;>cases b'<;>exact hty
 refine ⟨[Pl.arr 0 s.Chans.length hdC,Pl.arr 0 s.Procs.length hdP],⟨⟨hb,fun i p k hi hk=>?_,fun i j p q k hi hj h1 h2=>?_⟩,rfl,fun i o p ho hi=>?_⟩,?_⟩
 ·have hm:Own φ k:=by
   refine ⟨i,AI.2 ⟨p,?_,hk⟩⟩
   rw [← hφ]
   have:=Dr (φ:=EG) (nx:=0) hi
   rwa [Nat.zero_add] at this
  have:=(hown k hm).1;omega
 ·have ty:∀ (i:Nat) (p:Pl),[Pl.arr 0 s.Chans.length hdC,Pl.arr 0 s.Procs.length hdP][i]?=some p->PlB p k->∃ cur,w'.heap[k]?=some (.cells cur (if i=0 then DH else DX) (0,0))/\i<2:=by
   intro i p hi hk
   match i,hi with
   | 0,hi=>obtain rfl:=Option.some.inj hi;obtain ⟨cap,hd⟩:=hk;obtain ⟨_,_,cur,h2⟩:=c2 k cap hd;exact ⟨cur,h2,by omega⟩
   | 1,hi=>obtain rfl:=Option.some.inj hi;obtain ⟨cap,hd⟩:=hk;obtain ⟨_,_,cur,h2⟩:=p2 k cap hd;exact ⟨cur,h2,by omega⟩
   | i+2,hi=>simp at hi
  obtain ⟨cu,a1,a2⟩:=ty i p hi h1
  obtain ⟨cv,b1,b2⟩:=ty j q hj h2
  rw [a1] at b1
  simp only [Option.some.injEq,Obj.cells.injEq] at b1
  have hne:DH≠DX:=by decide
  rcases (show i=0∨i=1 by omega) with rfl | rfl<;>rcases (show j=0∨j=1 by omega) with rfl | rfl
  ·rfl
  ·exact absurd b1.2.1 (by simpa using hne)
  ·exact absurd b1.2.1.symm (by simpa using hne)
  ·rfl
 ·rw [hφ]
  match i,ho,hi with
  | 0,ho,hi =>
   obtain rfl:=Option.some.inj ho
   obtain rfl:=Option.some.inj hi
   refine ⟨rfl,rfl,c3 E φ (DK s.Chans) (fun i _=>rfl) fun i j x hi hx=>?_⟩
   have hv:i<qs.length:=by rw [hc.len];exact hi
   obtain ⟨x0,x1⟩:=KK hc.len hi
   match j,hx with
   | 0,hx =>
    obtain rfl:=Option.some.inj hx
    rw [Nat.add_zero,QZ x0];exact .sc
   | 1,hx =>
    obtain rfl:=Option.some.inj hx
    rw [QZ (x1.trans (AfC hv))]
    obtain ⟨vs,hq⟩:=hc.each i (qs.getD i undef) (s.Chans.getD i default) (by simp [List.getD,hv]) (by simp [List.getD,hi])
    exact Aht (m:=none) (E:=(E.up φ).hold) hq (fun b=>hat (b:=true) (b':=b)) (hat (b:=true) (b':=false))
   | j+2,hx=>simp [DK,AF] at hx
  | 1,ho,hi =>
   obtain rfl:=Option.some.inj ho
   obtain rfl:=Option.some.inj hi
   refine ⟨rfl,rfl,p3 E φ (HY s.Procs) (fun i _=>rfl) fun i j x hi hx=>?_⟩
   have hv:i<fs.length:=by rw [hp.len];exact hi
   obtain ⟨x0,x1,x2,x3⟩:=Ig hp.len hi
   match j,hx with
   | 0,hx =>
    obtain rfl:=Option.some.inj hx
    rw [Nat.add_zero,QZ x0];exact .sc
   | 1,hx =>
    obtain rfl:=Option.some.inj hx
    rw [QZ x1];exact .sc
   | 2,hx =>
    obtain rfl:=Option.some.inj hx
    rw [QZ x2];exact .sc
   | 3,hx =>
    obtain rfl:=Option.some.inj hx
    rw [QZ (x3.trans (AfC hv))]
    exact VJ (m:=none) (E:=(E.up φ).hold) (hp.each i (fs.getD i undef) (s.Procs.getD i default) (by simp [List.getD,hv]) (by simp [List.getD,hi])) (hat (b:=true) (b':=false))
   | j+4,hx=>simp [HY,As] at hx
  | i+2,ho,hi=>simp at ho
 ·rw [hφ]
  refine .agg rfl fun j x hx=>?_
  match j,hx with
  | 0,hx=>obtain rfl:=Option.some.inj hx;exact VJ hg hty
  | 1,hx=>obtain rfl:=Option.some.inj hx;exact .ow hφ0 (Nat.le_refl _) c1 fun _=>⟨rfl,Nat.le_refl _⟩
  | 2,hx=>obtain rfl:=Option.some.inj hx;exact .ow hφ1 (Nat.le_refl _) p1 fun _=>⟨rfl,Nat.le_refl _⟩
  | 3,hx=>obtain rfl:=Option.some.inj hx;exact .sc
  | 4,hx=>obtain rfl:=Option.some.inj hx;exact .sc
  | 5,hx=>obtain rfl:=Option.some.inj hx;exact .sc
  | j+6,hx=>simp [Bc] at hx
end
end Go.Proofs.YtiaebjpcgjkhoaaGreatDoor
namespace Go.Proofs.YtiaebjpcgjkhoaaGreatDoor
open Go.RowKit
theorem OC {e:D.Env} (hw:Ay e.M) (hs:A4 e.S) (x v:Int):Ai Tryz.prog 63 [] [.agg (Bk e),Aa x,Aa v] [obC (AV e x v).1,obP (AV e x v).1]
  (.tup [.agg (Bc (AV e x v).1 (.ow 0 0 (AV e x v).1.Chans.length) (.ow 1 0 (AV e x v).1.Procs.length)),Aa (AV e x v).2]):=by
 refine Ai.handN ⟨_,Tryz.func63,rfl,by kernel_rfl⟩ fun w E vs hA hL hB hbr hs0=>?_
 obtain ⟨u1,us1,rfl,v1,hs0⟩:=hs0.cons_inv
 obtain ⟨u2,us2,rfl,v2,hs0⟩:=hs0.cons_inv
 obtain ⟨u3,us3,rfl,v3,hs0⟩:=hs0.cons_inv
 obtain rfl:=hs0.nil_inv
 obtain rfl:=v2.sc_inv
 obtain rfl:=v3.sc_inv
 have v1':=Le w E u1 v1 (fun _=>False)
 obtain ⟨c0,c1,c2,c3,c4,c6,c7,c8,c9,c15,rfl,hat⟩:=Ae8 v1'
 refine (ZH hw hs hL hB v1' hat).mono ?_
 rintro r w' ⟨vs,rfl,hv,hb⟩
 obtain ⟨vg,vc,vp,qs,fs,rfl,h1,h2,h3⟩:=hv
 obtain ⟨pls,hn,hV⟩:=WZ hb (Nat.le_refl _) h1 h2 h3 hA hbr
 exact ⟨_,pls,rfl,hn,Rv hV .sc⟩
end Go.Proofs.YtiaebjpcgjkhoaaGreatDoor
namespace Go.Proofs.YtiaebjpcgjkhoaaGreatDoor
open Go.RowKit
def EY : Ann:={ keep:=fun
  | [0,1,0,1,1,1,1]=>[1,2,3,19,20,21]
  | [0,1,0,1,1,0,0,1,1,0,0,1,0,1,1,1,1]=>[1,2,3,5,6,19,20,21,26,27,28]
  | [0,1,0,1,1,1,1,1]=>[2,3,49,50,51]
  | _=>[] }
def J0 : Ann:={ keep:=fun
  | [0,1,0,1,1,1]=>[2,3,7,21,22]
  | _=>[] }
def AbF : Ann:={ base:=3,keep:=fun _=>[] }
def KU : Ann:={ cut:=(fun | [1,1,1,1]=>true | _=>false),keep:=fun
  | [1,1,1,1]=>[1,2,3]
  | _=>[] }
def Aep (m:D.Model) (s:D.State) (e:D.Env):St:=AB [(1,.bp 0 0),(2,.bp 4 0),(3,.bp 6 0)] [.box (Ae m),.gone 1,.gone 1,.gone 1,.box (An s),.gone 1,.box (Af e)]
def X4 (m:D.Model) (s:D.State) (l:List Bool) (k:Int):St:=AB [(2,.bp 0 0),(3,.bp 1 0),(7,.ow 2 0 l.length),(21,Aa s.Procs.length),(22,Aa k)] [.box (Ae m),.box (An s),.arr true 0 l.length 1 (Ep l)]
def P7 : List VV:=[.nl,.nl,.nl,Aa 0,Aa 0,Aa 0]
def X9 (s:D.State) (cs:List D.Chan) (k:Int):St:=AB [(1,.bp 0 0),(2,.bp 1 0),(3,.bp 2 0),(19,Bg true s.Chans),(20,Aa s.Chans.length),(21,Aa k)] [.box (An s),.box P7,.box (Bc s (.ow 3 0 cs.length) .nl),.arr true 0 cs.length 2 (DK cs)]
def X7 (s:D.State) (cs:List D.Chan) (ps:List D.Process) (k:Int):St:=AB [(2,.bp 0 0),(3,.bp 1 0),(49,AW true s.Procs),(50,Aa s.Procs.length),(51,Aa k)] [.box P7,.box (Bc s (.ow 2 0 cs.length) (.ow 3 0 ps.length)),.arr true 0 cs.length 2 (DK cs),.arr true 0 ps.length 4 (HY ps)]
def Hz (e:D.Env) (up:Bool) (l:List Wy) (i:Int):St:=AB [(1,.bp 0 0),(3,Ac up),(5,BF true l),(7,Aa i)] [.box (Af e)]
def X8 (s:D.State) (cs:List D.Chan) (k:Int) (c:D.Chan) (q:List (List Int)) (j:Int):St:=AB [(1,.bp 0 0),(2,.bp 1 0),(3,.bp 2 0),(5,.bp 4 0),(6,.ow 5 0 q.length),(19,Bg true s.Chans),(20,Aa s.Chans.length),(21,Aa k),(26,Bx true c.Queue),(27,Aa c.Queue.length),(28,Aa j)] [.box (An s),.box P7,.box (Bc s (.ow 3 0 cs.length) .nl),.arr true 0 cs.length 2 (DK cs),.box (AF c),.arr true 0 q.length 1 (Wp q)]
end Go.Proofs.YtiaebjpcgjkhoaaGreatDoor
