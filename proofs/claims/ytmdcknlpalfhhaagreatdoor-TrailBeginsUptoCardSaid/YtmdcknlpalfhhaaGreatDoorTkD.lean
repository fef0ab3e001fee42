/-
  Texts, joined: EbZ, VjThaw, EbT, EgS, EcP, VjThawF, VjOwn, EcE, EcA, EcH, EcW1, EcW2, EcW3, EcW4, EcW5, EcW6, EcW7, EgE, EgT, EgU, EgA, EgH, VjPubl, EgW1, EcQ, EgV, EgW3, VjPick, EmA, EmH, EmP, CsPlain, CsMsg, Append, CsMade, CsInsert, CsInsert2, CsPut, CsTake, WhP, WhI, WhJ, WhA.
-/
import Derived.Test.YtmdcknlpalfhhaaGreatDoorTkC
import Derived.Deep.RegionHeld3
import Derived.KernelRfl
import Derived.BigQuiet
import Derived.Deep.QuietTactic
import Derived.Lib.Hide
import Derived.WalkKit
import Derived.BigRegion
import Derived.Deep.RegionLaw
import Derived.Deep.AppendLies
import Derived.Lib.SliceRun
import Derived.Lib.Walk
import Derived.Lib.JoinLaws
import Derived.Lib.AppendZeros
import Derived.Lib.AppendZerosOnto
import Derived.Lib.Overlaps
import Derived.Laws.Externs
import Derived.Laws.IdiomCopy
import Derived.Laws.NewBlocks
import Derived.Lib.SlicesDelete
namespace Go.Proofs.YtmdcknlpalfhhaaGreatDoor
open Go.RowKit
theorem JQ {w:World}{g i b o:Nat}{u:Value}(h:b≠g):(w.setCell ⟨g,i,none⟩ u).cell? ⟨b,o,none⟩=w.cell? ⟨b,o,none⟩:=World.cell?_of_block (Below.heap_setCell _ _ _ _ h)
theorem W4 {w w2 w6 w7:World}{e:D.Env}{x v:Int}{i kn:Nat}{p:D.Process}{ty:D.Type}{vs:Array Value}(HQ:Hid (AW e x v=(setO e.M e.S i kn v,0)))(HP:Hid (e.S.Procs.getD i default=p))(HTY:Hid ((A8 e.M p.Type_).Frame.getD kn default=ty))
  (HV:Hid (E9 w6 w2.heap.size { e.S with Procs:=e.S.Procs.set i { e.S.Procs.getD i default with Frame:=(e.S.Procs.getD i default).Frame.set kn (Ej ty.Bits ty.Signed v) } } vs)) (HB:Below w.heap.size w w6)
  (hT:Ca w6 w7 (fun k=>k=w.heap.size+1)) (hr:w.heap.size+1<w2.heap.size):LI w e x v (.returned (.tuple #[.agg vs,.int .i64 0])) w7:=by
 refine⟨vs,by rw[HQ.out],?_,HB.trans (hT.below HB.size fun j hj=>by have hj:j=w.heap.size+1:=hj;omega)⟩
 rw[HQ.out]
 have e1:setO e.M e.S i kn v={ e.S with Procs:=e.S.Procs.set i { e.S.Procs.getD i default with Frame:=(e.S.Procs.getD i default).Frame.set kn (Ej ty.Bits ty.Signed v) } }:=by
  unfold setO Aen IR
  rw[show((kn:Nat):Int).toNat=kn by omega,show((i:Nat):Int).toNat=i by omega,HP.out,HTY.out]
 rw[e1]
 exact(E9.aside (b:=w.heap.size+1) (B:=w2.heap.size) HV.out hr hT).base (by omega)
set_option maxRecDepth 100000 in
set_option maxHeartbeats 8000000 in
theorem Aa5 {w:World}{e:D.Env}{x v who k:Int}{c0 c1 c2 c3 c4 c6 c7 c8 c9 c15:Value}(hw:Ay e.M)(hs:A7 e.S)(hL:Cb w)(hB:∀ k,k∈DX->k<w.heap.size)
  (hV:V w P0 none (.agg (Af e)) (.agg (Lu e c0 c1 c2 c3 c4 c6 c7 c8 c9 c15))) (hat:QQ w e c0 c1 c2 c3 c4 c6 c7 c8 c9 c15) (hgood:CD e x=0) (hsl:BC e (Fp e) (Aw e.M x)=(who,k,0)) (hwho:0<=who) :
  Calls Tryz.prog 161 #[.agg (Lu e c0 c1 c2 c3 c4 c6 c7 c8 c9 c15),.int .i64 x,.int .i64 v] w (LI w e x v):=by
 have HQ0:Hid (AW e x v=(setO e.M e.S who k v,0)):=by
  unfold Hid AW Oa
  rw[AlI (by omega),Ak0,hsl]
  show(bif decide ((0:Int)≠0) then _ else _)=_
  rw[AlI (by simp),Ak0,AlI (by omega),Ak0]
 have HC:=Lib.hid (Ek hw hs x)
 have HS:=Lib.hid (PI hw hgood)
 obtain⟨hE,hx0,hx1⟩:=IT hw hgood
 have hin:=(Kl hE hx0 hx1 (ev:=Fp e) (by rw[hsl])).own (by rw[hsl];exact hwho)
 have hfit:=hE.fit
 rw[hsl]at hin HS
 obtain⟨i,rfl⟩:∃ i:Nat,who=i:=⟨who.toNat,by omega⟩
 change(i:Int)<e.S.Procs.length/\0<=k/\k<(e.S.Procs.getD (i:Int).toNat default).Frame.length at hin
 rw[show((i:Nat):Int).toNat=i by omega]at hin
 obtain⟨kn,rfl⟩:∃ kn:Nat,k=kn:=⟨k.toNat,by omega⟩
 have hi:i<e.S.Procs.length:=by omega
 have HQ:=HQ0
 have hpf:=Ey (hE.proc (p:=e.S.Procs.getD i default) (Av hi))
 obtain⟨p,hp⟩:∃ p,e.S.Procs.getD i default=p:=⟨_,rfl⟩
 rw[hp]at hin hpf
 have HP:=Lib.hid hp
 have hkn:kn<p.Frame.length:=by omega
 obtain⟨tn,htn⟩:∃ tn:Nat,p.Type_=tn:=⟨p.Type_.toNat,by omega⟩
 have htm:tn<e.M.Procs.length:=by omega
 have hfl:=hpf.2.2.1
 have hpr:A8 e.M p.Type_=e.M.Procs.getD tn default:=by unfold A8;rw[htn,show((tn:Nat):Int).toNat=tn by omega]
 rw[hpr]at hfl
 obtain⟨mb,moff,mcap,tb,toff,tcap,rfl,hm1,hm2,hmb,hmc,ht1,ht2,htb,htc⟩:∃ mb moff mcap tb toff tcap,c4=.slice (some ⟨mb,moff,none⟩) e.M.Procs.length mcap/\e.M.Procs.length<=mcap/\mcap<=maxLen/\mb<w.heap.size /\
   w.cell? ⟨mb,moff+tn*10+2,none⟩=some (.slice (some ⟨tb,toff,none⟩) p.Frame.length tcap)/\p.Frame.length<=tcap/\tcap<=maxLen/\tb<w.heap.size /\
   ∀ j,j<p.Frame.length->w.cell? ⟨tb,toff+j*2,none⟩=some (.int .i64 ((A8 e.M p.Type_).Frame.getD j default).Bits)/\w.cell? ⟨tb,toff+j*2+1,none⟩=some (.bool ((A8 e.M p.Type_).Frame.getD j default).Signed):=by
  obtain⟨ao,cap,rfl,h1,h2,h3⟩:=hat.f
  obtain⟨b,off,rfl,h4,h5⟩:=h3 (by omega)
  obtain⟨u,h6,ao',cap',rfl,h7,h8,h9⟩:=h5 tn htm
  rw[← hfl]at h6 h7 h9
  obtain⟨b',off',rfl,h10,h11⟩:=h9 (by omega)
  rw[hpr]
  exact⟨b,off,cap,b',off',cap',rfl,h1,h2,h4,h6,h7,h8,h10,h11⟩
 obtain⟨ty0,ty1⟩:=htc kn hkn
 obtain⟨ty,hty⟩:∃ ty,(A8 e.M p.Type_).Frame.getD kn default=ty:=⟨_,rfl⟩
 rw[hty]at ty0 ty1
 have HTY:=Lib.hid hty
 have hwi:((i:Int)<0)=False:=by simp
 clear htc hty hp hpr hfl hpf hin hsl hE HQ0 hwho
 unfold Lu at hV ⊢
 rw[hgood]at HC
 go_enter Tryz.func161,Tryz.ntmps161
 obtain⟨B0,B1,B2,BB⟩:=IA w (.cells #[c0,c1,c2,c3,.slice (some ⟨mb,moff,none⟩) e.M.Procs.length mcap,.int .i64 e.M.Claim,c6,c7,c8,c9,.int .i64 e.S.Last,.int .i64 e.S.Alone,.int .i64 e.S.Claim,.int .i64 e.Pid,.bool e.Timeout,c15] AhH (0,0)) (.cells #[.slice none 0 0,.slice none 0 0,.slice none 0 0,.int .i64 0,.int .i64 0,.int .i64 0] BG (0,0))
 go_wp2_with (first
  | (go_at_call 93;refine(HC.out.at hL hB BB (PL (hV.keep BB) .sc)).mono ?_;rintro r w1 ⟨u,rfl,hb1,hu⟩;obtain rfl:=hu.sc_inv;have Z0:=(hb1.block _ (by omega)).trans B0;have Z1:=(hb1.block _ (by omega)).trans B1;have BW:=BB.trans (hb1.mono (by omega)))
  | (go_at_call 128;refine(HS.out.at hL hB BW (PL (Yv Z0 (hV.keep BW)) .sc)).mono ?_;rintro r w2 ⟨u,rfl,hb2,hu⟩;obtain rfl:=Po hu;have Y0:=(hb2.block _ (BJ Z0)).trans Z0;have Y1:=(hb2.block _ (BJ Z1)).trans Z1;have BX:=BW.trans (hb2.mono BW.size);have s7:w2.cell? ⟨w.heap.size,7,none⟩=some c7:=Aj Y0 rfl;have s8:w2.cell? ⟨w.heap.size,8,none⟩=some c8:=Aj Y0 rfl;have s9:w2.cell? ⟨w.heap.size,9,none⟩=some c9:=Aj Y0 rfl;have s10:w2.cell? ⟨w.heap.size,10,none⟩=some (.int .i64 e.S.Last):=Aj Y0 rfl;have s11:w2.cell? ⟨w.heap.size,11,none⟩=some (.int .i64 e.S.Alone):=Aj Y0 rfl;have s12:w2.cell? ⟨w.heap.size,12,none⟩=some (.int .i64 e.S.Claim):=Aj Y0 rfl)
  | (go_at_call 14;refine(Qq hfit (hat.below BX).g (hat.below BX).c (hat.below BX).p).mono ?_;rintro r w3 ⟨vg,vc,vp,n1,qs,fs,w4,rfl,hcp⟩;obtain⟨ag,ggcap,rfl,_⟩:=Db hcp.g;obtain⟨ac,ccap,rfl,_⟩:=Db hcp.c.row;obtain⟨ap,pcap,rfl,hp1,hp2,hp3⟩:=Db hcp.p.row))
 have hz3:=hcp.below.size
 have hz2:=BX.size
 have hsz0:=BJ Y1
 obtain⟨pb,rfl,hpbb,hpbl,hpc⟩:=hp3 (by omega)
 obtain⟨q0,-,-,q3⟩:=LA hcp.p.len hi
 have hfi:i<fs.length:=by rw[hcp.p.len];exact hi
 have hpi:e.S.Procs[i]?=some p:=by have:=HP.out;simp[List.getD,hi]at this;simp[hi,this]
 obtain⟨ag2,gcap,hu,hg1,hg2,hg3⟩:=Db (hcp.p.each i (fs[i]) p (by simp[hfi]) hpi)
 obtain⟨g,rfl,hgb,hgl,hgc⟩:=hg3 (by omega)
 have hfu:fs[i]?=some (.slice (some ⟨g,0,none⟩) p.Frame.length gcap):=by simp[hfi,hu]
 obtain⟨gcur,hgk⟩:=AU (hcp.p.each i _ p hfu hpi) (k:=g) rfl
 have hn2:=hcp.n2
 have hn0:=hcp.n0
 rw[HP.out,htn]at q0
 rw[hfu]at q3
 have p0:w3.cell? ⟨pb,i*4,none⟩=some (.int .i64 tn):=(hpc (i*4) (by omega)).trans q0
 have p3:w3.cell? ⟨pb,i*4+3,none⟩=some (.slice (some ⟨g,0,none⟩) p.Frame.length gcap):=(hpc (i*4+3) (by omega)).trans q3
 have K0:=(Below.heap_alloc w3 (.cells #[.slice ag e.S.Globals.length ggcap,.slice ac e.S.Chans.length ccap,.slice (some ⟨pb,0,none⟩) e.S.Procs.length pcap,.int .i64 e.S.Last,.int .i64 e.S.Alone,.int .i64 e.S.Claim] BG (0,0)) _ (by omega)).trans ((hcp.below.block _ (BJ Y0)).trans Y0)
 have K1:=(Below.heap_alloc w3 (.cells #[.slice ag e.S.Globals.length ggcap,.slice ac e.S.Chans.length ccap,.slice (some ⟨pb,0,none⟩) e.S.Procs.length pcap,.int .i64 e.S.Last,.int .i64 e.S.Alone,.int .i64 e.S.Claim] BG (0,0)) _ (by omega)).trans ((hcp.below.block _ (BJ Y1)).trans Y1)
 have K2:=heap_alloc_new w3 (.cells #[.slice ag e.S.Globals.length ggcap,.slice ac e.S.Chans.length ccap,.slice (some ⟨pb,0,none⟩) e.S.Procs.length pcap,.int .i64 e.S.Last,.int .i64 e.S.Alone,.int .i64 e.S.Claim] BG (0,0))
 have KB:Below w3.heap.size w3 (w3.alloc (.cells #[.slice ag e.S.Globals.length ggcap,.slice ac e.S.Chans.length ccap,.slice (some ⟨pb,0,none⟩) e.S.Procs.length pcap,.int .i64 e.S.Last,.int .i64 e.S.Alone,.int .i64 e.S.Claim] BG (0,0))):=(Below.refl _ w3).alloc (Ak6 _) _
 have KZ:(w3.alloc (.cells #[.slice ag e.S.Globals.length ggcap,.slice ac e.S.Chans.length ccap,.slice (some ⟨pb,0,none⟩) e.S.Procs.length pcap,.int .i64 e.S.Last,.int .i64 e.S.Alone,.int .i64 e.S.Claim] BG (0,0))).heap.size=w3.heap.size+1:=by simp
 generalize w3.alloc (.cells #[.slice ag e.S.Globals.length ggcap,.slice ac e.S.Chans.length ccap,.slice (some ⟨pb,0,none⟩) e.S.Procs.length pcap,.int .i64 e.S.Last,.int .i64 e.S.Alone,.int .i64 e.S.Claim] BG (0,0))=wd at *
 have BD:Below w.heap.size w wd:=(BX.trans (hcp.below.mono hz2)).trans (KB.mono (by omega))
 rw[← BD.cell (p:=⟨tb,toff+kn*2,none⟩) htb]at ty0
 rw[← BD.cell (p:=⟨tb,toff+kn*2+1,none⟩) htb]at ty1
 rw[← BD.cell (p:=⟨mb,moff+tn*10+2,none⟩) hmb]at hmc
 rw[← KB.cell (p:=⟨pb,i*4,none⟩) hpbl]at p0
 rw[← KB.cell (p:=⟨pb,i*4+3,none⟩) hpbl]at p3
 have x0:wd.cell? ⟨w.heap.size,4,none⟩=some (.slice (some ⟨mb,moff,none⟩) e.M.Procs.length mcap):=Aj K0 rfl
 have x1:wd.cell? ⟨w3.heap.size,2,none⟩=some (.slice (some ⟨pb,0,none⟩) e.S.Procs.length pcap):=Aj K2 rfl
 have hgw:wd.heap[g]?=some (.cells gcur D2 (0,0)):=(KB.block _ hgl).trans hgk
 have xg:wd.cell? ⟨g,kn,none⟩=some (.int .i64 (p.Frame.getD kn 0)):=by
  rw[KB.cell (p:=⟨g,kn,none⟩) hgl,hgc kn (by omega)];simp[List.getD,hkn]
 have hgd:g<wd.heap.size:=by omega
 have hsd:w3.heap.size<wd.heap.size:=by omega
 have hpd:pb<wd.heap.size:=by omega
 have hsg:w3.heap.size≠(⟨g,kn,none⟩:Addr).block:=by simp;omega
 have hrg:w.heap.size+1≠(⟨g,kn,none⟩:Addr).block:=by simp;omega
 have hrd:w.heap.size+1<wd.heap.size:=by omega
 have hng:w.heap.size<=(⟨g,kn,none⟩:Addr).block:=by simp;omega
 have hrw:w.heap.size+1<w2.heap.size:=hsz0
 clear s7 s8 s9 s10 s11 s12 hgc hg3 hpc hp3 hu q0 q3
 have hg2':=hg2
 have ht2':=ht2
 have hm2':=hm2
 have hp2':=hp2
 unfold maxLen at hg2' ht2' hm2' hp2'
 obtain⟨pcur,hpk⟩:=AU hcp.p.row (k:=pb) rfl
 have hpg:pb≠g:=Ec hpk hgk (by decide)
 have hf1:w3.heap.size≠g:=by omega
 have hf2:w.heap.size≠g:=by omega
 have hf3:mb≠g:=by omega
 have hf4:tb≠g:=by omega
 have hbd0:w.heap.size<wd.heap.size:=by omega
 have htd:tb<wd.heap.size:=by omega
 have hmd:mb<wd.heap.size:=by omega
 have hkI:(0:Int)<=(kn:Int):=by omega
 have hiI:(0:Int)<=(i:Int):=by omega
 have htI:(0:Int)<=(tn:Int):=by omega
 have hkF:(kn:Int)<(p.Frame.length:Int):=by omega
 have hiF:(i:Int)<(e.S.Procs.length:Int):=by omega
 have htF:(tn:Int)<(e.M.Procs.length:Int):=by omega
 go_region_held3 (fun w'=>w'.cell? ⟨w3.heap.size,2,none⟩=some (.slice (some ⟨pb,0,none⟩) e.S.Procs.length pcap)/\w'.cell? ⟨pb,i*4+3,none⟩=some (.slice (some ⟨g,0,none⟩) p.Frame.length gcap)/\w'.cell? ⟨w.heap.size,4,none⟩=some (.slice (some ⟨mb,moff,none⟩) e.M.Procs.length mcap)/\w'.cell? ⟨pb,i*4,none⟩=some (.int .i64 tn)/\w'.cell? ⟨mb,moff+tn*10+2,none⟩=some (.slice (some ⟨tb,toff,none⟩) p.Frame.length tcap)/\w'.cell? ⟨tb,toff+kn*2,none⟩=some (.int .i64 ty.Bits)/\w'.cell? ⟨tb,toff+kn*2+1,none⟩=some (.bool ty.Signed)) (first | (refine⟨?_,?_,?_,?_,?_,?_,?_⟩<;>(first | (rw[JQ hf1];assumption) | (rw[JQ hpg];assumption) | (rw[JQ hf2];assumption) | (rw[JQ hf3];assumption) | (rw[JQ hf4];assumption))) | go_keep)
  ((go_at_call 37;go_loud ((with_reducible refine(Agl _ _ _ _).mono ?_);rintro r w5 ⟨rfl,hb5⟩;have hb5':Below wd.heap.size wd w5:=⟨hb5.os,hb5.tape,hb5.output,hb5.size,hb5.block⟩;have x5:w5.cell? ⟨g,kn,none⟩=_:=(hb5'.cell (p:=⟨g,kn,none⟩) hgd).trans xg;have y1:w5.cell? ⟨w3.heap.size,2,none⟩=_:=(hb5'.cell (p:=⟨w3.heap.size,2,none⟩) hsd).trans x1;have y2:w5.cell? ⟨pb,i*4+3,none⟩=_:=(hb5'.cell (p:=⟨pb,i*4+3,none⟩) hpd).trans p3;have y3:w5.cell? ⟨w.heap.size,4,none⟩=_:=(hb5'.cell (p:=⟨w.heap.size,4,none⟩) hbd0).trans x0;have y4:w5.cell? ⟨pb,i*4,none⟩=_:=(hb5'.cell (p:=⟨pb,i*4,none⟩) hpd).trans p0;have y5:w5.cell? ⟨mb,moff+tn*10+2,none⟩=_:=(hb5'.cell (p:=⟨mb,moff+tn*10+2,none⟩) hmd).trans hmc;have y6:w5.cell? ⟨tb,toff+kn*2,none⟩=_:=(hb5'.cell (p:=⟨tb,toff+kn*2,none⟩) htd).trans ty0;have y7:w5.cell? ⟨tb,toff+kn*2+1,none⟩=_:=(hb5'.cell (p:=⟨tb,toff+kn*2+1,none⟩) htd).trans ty1;have f5:w5.frozen? ⟨g,kn,none⟩=false:=Ax ((hb5'.block _ hgd).trans hgw))))
 all_goals
  have L0:(w5.setCell ⟨g,kn,none⟩ (.int .i64 (Ej ty.Bits ty.Signed v))).heap[w3.heap.size]?=_:=(Below.heap_setCell _ _ _ _ hsg).trans ((hb5'.block _ hsd).trans K2)
  have L1:(w5.setCell ⟨g,kn,none⟩ (.int .i64 (Ej ty.Bits ty.Signed v))).heap[w.heap.size+1]?=_:=(Below.heap_setCell _ _ _ _ hrg).trans ((hb5'.block _ hrd).trans K1)
  have HV:Hid (E9 (w5.setCell ⟨g,kn,none⟩ (.int .i64 (Ej ty.Bits ty.Signed v))) w2.heap.size { e.S with Procs:=e.S.Procs.set i { e.S.Procs.getD i default with Frame:=(e.S.Procs.getD i default).Frame.set kn (Ej ty.Bits ty.Signed v) } } #[.slice ag e.S.Globals.length ggcap,.slice ac e.S.Chans.length ccap,.slice (some ⟨pb,0,none⟩) e.S.Procs.length pcap,.int .i64 e.S.Last,.int .i64 e.S.Alone,.int .i64 e.S.Claim]) :=
   Ac9 hcp hi (by rw[HP.out];exact hfu) (fun k h0 h1=>(hb5'.block k (by omega)).trans (KB.block k h1)) _
  have HB:Below w.heap.size w (w5.setCell ⟨g,kn,none⟩ (.int .i64 (Ej ty.Bits ty.Signed v))):=(BD.trans (hb5'.mono (by omega))).setCell (p:=⟨g,kn,none⟩) hng _
  obtain⟨t0,t1,t2,t3,t4,t5,-⟩:=MZ L0
  obtain⟨d0,d1,d2,d3,d4,d5,g0,g1,g2,g3,g4,g5⟩:=MZ L1
  clear x5 y1 y2 y3 y4 y5 y6 y7 f5 hb5 hb5'
  generalize w5.setCell ⟨g,kn,none⟩ (.int .i64 (Ej ty.Bits ty.Signed v))=w6 at *
  go_wp2
  have hres:=MJ L1 (.slice ag e.S.Globals.length ggcap) (.slice ac e.S.Chans.length ccap) (.slice (some ⟨pb,0,none⟩) e.S.Procs.length pcap) (.int .i64 e.S.Last) (.int .i64 e.S.Alone) (.int .i64 e.S.Claim)
  have hT:=H6 (w:=w6) (b:=w.heap.size+1) (.slice ag e.S.Globals.length ggcap) (.slice ac e.S.Chans.length ccap) (.slice (some ⟨pb,0,none⟩) e.S.Procs.length pcap) (.int .i64 e.S.Last) (.int .i64 e.S.Alone) (.int .i64 e.S.Claim)
  refine DS rfl rfl hres Tryz.underlying35 rfl (by kernel_rfl) rfl ?_
  exact W4 HQ HP HTY HV HB hT hrw
def Pr (y x:VV):Prop:=∀ (w:World) (E:AF) (v:Value),V w E none y v->∀ B,V w ⟨fun _=>False,B,0,[]⟩ none x v
def Ps : List VV->List VV->Prop
 | [],[]=>True
 | y::ys,x::xs=>Pr y x/\Ps ys xs
 | _,_=>False
theorem Ke : ∀ {ys xs:List VV},Ps ys xs->ys.length=xs.length
 | [],[],_=>rfl
 | y::ys,x::xs,h=>by simp[Ke h.2]
 | [],_::_,h=>h.elim
 | _::_,[],h=>h.elim
theorem Jq : ∀ {ys xs:List VV},Ps ys xs->∀ (j:Nat) x,xs[j]?=some x->∃ y,ys[j]?=some y/\Pr y x
 | y::ys,x::xs,h,0,z,hz=>by simp only[Ala,Ak1]at hz;subst hz;exact⟨y,rfl,h.1⟩
 | y::ys,x::xs,h,j+1,z,hz=>by simpa using Jq h.2 j z (by simpa using hz)
 | [],_::_,h,_,_,_=>h.elim
 | _,[],_,_,_,hz=>by simp at hz
theorem Y3 {u:Value}:Pr (.sc u) (.sc u):=fun w E v h B=>by
 obtain rfl:=h.sc_inv
 exact .sc
theorem Y2 {b:Bool}{n s:Nat}{f f':Nat->List VV}(hr:∀ i,i<n->Ps (f i) (f' i)):Pr (.sl b n s f) (.sl true n s f'):=fun w E v h B=>by
 obtain⟨a,cap,rfl,h1,h2,h3⟩:=V.sl_inv h
 refine AmK h1 h2 fun hp=>?_
 obtain⟨g,off,rfl,hb,_,hl,u,hc,hv⟩:=h3 hp
 refine⟨g,off,rfl,hb,fun h=>h,fun i hi=>by rw[← Ke (hr i hi)];exact hl i hi,u,fun i j x hi hx=>?_,fun i j x hi hx=>?_⟩
 ·obtain⟨y,hy,_⟩:=Jq (hr i hi) j x hx
  exact hc i j y hi hy
 ·obtain⟨y,hy,hle⟩:=Jq (hr i hi) j x hx
  exact hle _ _ _ (hv i j y hi hy) _
theorem Uj {ys xs:List VV}(hr:Ps ys xs):Pr (.agg ys) (.agg xs):=fun w E v h B=>by
 obtain⟨vs,rfl,h1,h2⟩:=h.agg_inv
 refine .agg (h1.trans (Ke hr)) fun j x hx=>?_
 obtain⟨y,hy,hle⟩:=Jq hr j x hx
 exact hle _ _ _ (h2 j y hy) _
def TH (r:VV):Prop:=∀ (w:World) (E E':AF) (m m':Option Phi) (v:Value),V w E m r v->V w E' m' r v
theorem PW {u:Value}:TH (.sc u):=fun w E E' m m' v h=>by
 obtain rfl:=h.sc_inv
 exact .sc
theorem M4 {xs:List VV}(h:∀ x∈xs,TH x):TH (.tup xs):=fun w E E' m m' v hv=>by
 cases hv with
 | tup h1 h2=>exact .tup h1 fun j x hx=>h x (AlG hx) _ _ _ _ _ _ (h2 j x hx)
theorem Ai.thaw {P:Program}{f:FuncId}{xs ys:List VV}{r:VV}(h:Ai P f [] xs [] r)(hr:TH r)(hle:Ps ys xs):Ai P f [] ys [] r:=by
 refine Ai.hand h.callable fun w E vs hA hL hB hb hs=>?_
 refine(h.start hL hB ⟨hs.1.trans (Ke hle),fun j x hx=>?_⟩).mono ?_
 ·obtain⟨y,hy,hl⟩:=Jq hle j x hx
  exact hl _ _ _ (hs.2 j y hy) _
 ·rintro e w' ⟨v,rfl,hB',hv⟩
  exact⟨v,rfl,hr _ _ _ _ _ _ hv,hB'⟩
theorem Aa8 {w:World}{e:D.Env}{x v:Int}{c0 c1 c2 c3 c4 c6 c7 c8 c9 c15:Value}(hw:Ay e.M)(hs:A7 e.S)(hL:Cb w)(hB:∀ k,k∈DX->k<w.heap.size)
  (hV:V w P0 none (.agg (Af e)) (.agg (Lu e c0 c1 c2 c3 c4 c6 c7 c8 c9 c15))) (hat:QQ w e c0 c1 c2 c3 c4 c6 c7 c8 c9 c15) :
  Calls Tryz.prog 161 #[.agg (Lu e c0 c1 c2 c3 c4 c6 c7 c8 c9 c15),.int .i64 x,.int .i64 v] w (LI w e x v):=by
 by_cases h1:CD e x=0
 ·by_cases h2:(BC e (Fp e) (Aw e.M x)).2.2=0
  ·have h3:BC e (Fp e) (Aw e.M x)=((BC e (Fp e) (Aw e.M x)).1,(BC e (Fp e) (Aw e.M x)).2.1,0):=by rw[← h2]
   by_cases h4:(BC e (Fp e) (Aw e.M x)).1<0
   ·exact W0 hw hs hL hB hV hat h1 h3 h4
   ·exact Aa5 hw hs hL hB hV hat h1 h3 (by omega)
  ·exact WY hw hs hL hB hV h1 h2
 ·exact Aa7 hw hs hL hB hV h1
def Fh : Phi:=fun _=>none
theorem Ai.handN {P:Program}{f:FuncId}{xs:List VV}{r:VV}{obs:List Ob}(hc:Hd P f)
  (h:∀ (w:World) (E:AF) (vs:Array Value),(∀ k,E.fz k->k<w.heap.size)->Cb w->(∀ k,k∈DX->k<w.heap.size)->(∀ k,E.br k->E.fz k)->CS w E none xs vs ->
   Calls P f vs w fun e w'=>∃ v pls,e=.returned v/\Ee w E Fh 0 obs pls w'/\V w' (E.up (addP Fh 0 pls)) (some (addP Fh 0 pls)) r v):Ai P f [] xs obs r:=by
 refine⟨hc,fun w E φ vs hz hH hφ hs=>?_⟩
 obtain rfl:φ=Fh:=funext fun id=>Alt fun hn=>by have:=(hφ id).1 hn;simp at this
 have hnone:∀ id,Fh id=none:=fun _=>rfl
 refine(h w E vs hz.lt hz.lib.at' hz.lib.lt hH.sub ⟨hs.1,fun j x hx=>?_⟩).mono ?_
 ·exact((hs.2 j x hx).unmap hnone).less (fun k hk=>.inl hk) fun k hk=>.inl hk
 ·rintro e w' ⟨v,pls,rfl,hn,hv⟩
  have hidn:∀ i,i<obs.length->Fh (0+i)=none:=fun _ _=>rfl
  refine⟨v,addP Fh 0 pls,rfl,hH.news hz.lt hn hidn (fun k hk=>absurd rfl hk) fun i o ho=>?_,AmB (hn.ext hidn),fun id=>?_,hv⟩
  ·unfold Bm
   rw[AlC,Alf,ho];rfl
  ·rcases AlL id obs.length with h' | h'
   ·have hl:id<pls.length:=by rw[hn.len];exact h'
    have:=DJ (φ:=Fh) (nx:=0) (pls:=pls) (i:=id) (Ald hl)
    rw[AlC]at this
    rw[this];simp[h']
   ·rw[DA (.inr (by rw[hn.len];omega))]
    simp[Fh];omega
theorem SV {w:World}{n0 sz n:Nat}{e:TypeId}{v:Value}{xs:List Value}(h:w.ownsRow n0 e sz v n xs)(hone:∀ u∈xs,u.oneCell'=true) :
  ∃ hd,hdV hd n v/\(∀ k cap,hd=some (k,cap)->v.ownBlock=some k/\n0<=k/\∃ cur,w.heap[k]?=some (.cells cur e (0,0))) /\
   ∀ (E:AF) (φ:Phi) (f:Nat->List VV),(∀ i,i<n->(f i).length=sz)->(∀ i j x,i<n->(f i)[j]?=some x->V w (E.up φ).hold none x (xs.getD (i*sz+j) undef))->KN w E φ true n sz f hd:=by
 obtain⟨hl,⟨rfl,rfl⟩ | ⟨g,cap,cur,rfl,hg,hb,h1,h2,h3,h4⟩⟩:=h
 ·exact⟨none,⟨rfl,rfl⟩,(fun k cap h=>by cases h),fun _ _ _ _ _=>rfl⟩
 ·have hle:n*sz<=cur.size:=by rw[h3];exact Alo _ h1
  have cell:∀ k,k<n*sz->cur.getD k undef=xs.getD k undef:=fun k hk=>by
   have hk2:k<cur.size:=by omega
   rw[← h4]
   simp[List.getD,Array.getD,hk2,hk]
  refine⟨some (g,cap),⟨rfl,h1⟩,fun k c hk=>?_,fun E φ f hlen hv=>⟨cur,e,hb,h3,h1,h2,hlen,fun i j x hi hx=>?_,fun k hk=>?_⟩⟩
  ·simp only[Ak1,AlH]at hk
   obtain⟨rfl,rfl⟩:=hk
   exact⟨rfl,hg,cur,hb⟩
  ·have hj:j<sz:=by rw[← hlen i hi];exact(Ak3.1 hx).1
   have hk:i*sz+j<n*sz:=by
    have:(i+1)*sz<=n*sz:=Alo _ hi
    rw[Anf]at this;omega
   show V w (E.up φ).hold none x _
   rw[cell _ hk]
   exact hv i j x hi hx
  ·rw[cell k hk]
   refine hone _ ?_
   have:k<xs.length:=by rw[hl];exact hk
   simp[List.getD,this]
structure Pn where
 pid:Int
 esc:Int
 way:Int
deriving DecidableEq
instance : Inhabited Pn:=⟨⟨0,0,0⟩⟩
structure Ab where
 is:Bool
 err:Int
 wth:List Pn
instance : Inhabited Ab:=⟨⟨false,0,[]⟩⟩
structure Wy where
 Esc:Int
 Way:Int
 With:Int
 WithEsc:Int
 WithWay:Int
 Err:Int
deriving DecidableEq
instance : Inhabited Wy:=⟨⟨0,0,0,0,0,0⟩⟩
section
variable (e : D.Env)
def GY : Int:=bif decide (Cf e.M e.S≠0) then Cf e.M e.S else bif decide (e.Pid<0)||decide ((e.S.Procs.length:Int)<=e.Pid) then 42 else 0
def DZ : D.Proc:=A8 e.M (DP e e.Pid).Type_
def Dl : D.Loc:=(DZ e).Locs.getD (DP e e.Pid).Loc.toNat default
def DN (x:Int):Bool:=decide (0<=x)&&decide ((Aw e.M x).Op=39)
def VE : Nat->List (List D.Trans)->List (Int × List D.Trans)
 | _,[]=>[]
 | k,w::r=>((k:Int),w)::VE (k+1) r
def Fx (l:D.Loc):List (Int × List D.Trans):=VE 0 l.Esc++[(-1,l.Out)]
def Jg (ev:Evl):List Int->List Int->List Int × Int
 | out,[]=>(out,0)
 | out,x::l=>bif decide ((ev x).2≠0) then([],(ev x).2) else Jg ev (out++[(ev x).1]) l
def BM (l:List Int):List Int × Int:=Jg (AX e) [] l
def Oc (f:List D.Type)(l:List Int):List Int:=(List.range l.length).map fun i=>IR (f.getD i default) (l.getD i 0)
def Bb (c:Int):List D.Type:=(BP e.M (Cl e c).Shape).Fields
def Az (s:D.Stmt):Int × List Int × Int :=
 bif decide ((AC e s.A).2≠0) then(0,[],(AC e s.A).2)
 else bif decide ((Bb e (AC e s.A).1).length≠s.Args.length) then(0,[],49)
 else bif decide ((BM e s.Args).2≠0) then(0,[],(BM e s.Args).2)
 else((AC e s.A).1,Oc (Bb e (AC e s.A).1) (BM e s.Args).1,0)
def CZ (s:D.Stmt):List Int × Int :=
 bif decide (EP (AX e) s.Args s.Match s.Args.length≠0) then([],EP (AX e) s.Args s.Match s.Args.length) else(MR (AX e) s.Args s.Match,0)
def A9 (s:D.Stmt):Int × Int × Int :=
 bif decide ((AC e s.A).2≠0) then(0,-1,(AC e s.A).2)
 else bif decide ((Bb e (AC e s.A).1).length≠s.Args.length) then(0,-1,49)
 else bif decide ((CZ e s).2≠0) then(0,-1,(CZ e s).2)
 else((AC e s.A).1,JN (Cl e (AC e s.A).1) (CZ e s).1 s.Match (decide (s.N.tmod 2=1)),0)
def GJ (s:D.Stmt)(c:Int)(m:List Int):Bool :=
 bif decide (s.Kind≠6)||(decide (1<s.N)||decide (s.Args.length≠m.length)) then false
 else bif decide ((AC e s.A).2≠0)||decide ((AC e s.A).1≠c) then false
 else bif decide ((CZ e s).2≠0) then false else decide (JN ⟨0,[m]⟩ (CZ e s).1 s.Match false=0)
def NR : Ab:=⟨decide (e.S.Procs.length<16),0,[]⟩
def II (mt:Int->List Int->List Pn)(s:D.Stmt)(self:Bool):Ab :=
 bif decide ((AC e s.A).2≠0) then⟨true,(AC e s.A).2,[]⟩
 else bif decide ((Bb e (AC e s.A).1).length≠s.Args.length) then⟨true,49,[]⟩
 else bif decide (0<(BP e.M (Cl e (AC e s.A).1).Shape).Room) then⟨decide (((Cl e (AC e s.A).1).Queue.length:Int)<(BP e.M (Cl e (AC e s.A).1).Shape).Room),0,[]⟩
 else bif self then⟨false,0,[]⟩
 else bif decide ((Az e s).2.2≠0) then⟨true,(Az e s).2.2,[]⟩
 else⟨decide (0<(mt (AC e s.A).1 (Az e s).2.1).length),0,mt (AC e s.A).1 (Az e s).2.1⟩
def C9 (mt:Int->List Int->List Pn)(s:D.Stmt)(self:Bool):Ab :=
 if s.Kind=1 then(bif DN e s.A then NR e else⟨decide ((AX e s.A).1≠0)||decide ((AX e s.A).2≠0),(AX e s.A).2,[]⟩)
 else if s.Kind=2 then(bif DN e s.B then NR e else⟨true,0,[]⟩)
 else if s.Kind=9 then⟨decide (e.S.Chans.length<32),0,[]⟩
 else if s.Kind=5 then II e mt s self
 else if s.Kind=6 then⟨decide (0<=(A9 e s).2.1)||decide ((A9 e s).2.2≠0),(A9 e s).2.2,[]⟩
 else if s.Kind=7 then⟨false,0,[]⟩ else⟨true,0,[]⟩
def FQ (mt:Int->List Int->List Pn)(ways:List D.Trans)(self:Bool):Nat->Bool
 | 0=>false
 | n+1=>FQ mt ways self n||(C9 e mt (ways.getD n default).S self).is
def FY (mt:Int->List Int->List Pn)(ways:List D.Trans)(self:Bool)(i:Nat):Ab :=
 let x:=C9 e mt (ways.getD i default).S self
 bif decide ((ways.getD i default).S.Kind=7)&&!(FQ e mt ways self ways.length) then{ x with is:=true } else x
def Cz (mt:Int->List Int->List Pn)(ways:List D.Trans)(self:Bool):List Ab:=(List.range ways.length).map (FY e mt ways self)
def Mp : Int->List Int->List Pn:=fun _ _=>[]
def isSome (l:List Ab):Bool:=l.any Ab.is
def CN (c:Int)(m:List Int)(i:Int):Nat->List D.Trans->List Pn
 | _,[]=>[]
 | k,t::r=>(bif GJ e t.S c m then[⟨e.Pid,i,k⟩] else[])++CN c m i (k+1) r
def Ia (c:Int)(m:List Int):List (Int × List D.Trans)->List Pn
 | []=>[]
 | (i,ws)::r=>bif decide (0<(CN e c m i 0 ws).length)||isSome (Cz e Mp ws true) then CN e c m i 0 ws else Ia c m r
def Bk : Bool × Int:=bif decide ((DZ e).Provided<0) then(true,0) else(decide ((AX e (DZ e).Provided).1≠0),(AX e (DZ e).Provided).2)
def GO (c:Int)(m:List Int):List Pn:=bif !(Bk e).1||decide ((Bk e).2≠0) then[] else Ia e c m (Fx (Dl e))
def BE (q:Int):D.Env:={ e with Pid:=q }
def DW (c:Int)(m:List Int):Nat->List Pn
 | 0=>[]
 | n+1=>DW c m n++bif decide ((n:Int)≠e.Pid) then GO (BE e n) c m else[]
def Bn (c:Int)(m:List Int):List Pn:=DW e c m e.S.Procs.length
def KS (err:Int):Wy:=⟨-1,-1,-1,-1,-1,err⟩
def Jl (i:Int)(k:Nat)(err:Int)(p:Pn):Wy:=⟨i,k,p.pid,p.esc,p.way,err⟩
def GI (i:Int)(k:Nat)(x:Ab):List Wy:=(bif x.is&&decide (x.wth.length=0) then[⟨i,k,-1,-1,-1,x.err⟩] else[])++x.wth.map (Jl i k x.err)
def C3 (i:Int):Nat->List Ab->List Wy
 | _,[]=>[]
 | k,x::r=>GI i k x++C3 i (k+1) r
def FT : List (Int × List D.Trans)->List Wy
 | []=>[]
 | (i,ws)::r=>bif decide (0<(C3 i 0 (Cz e (Bn e) ws false)).length) then C3 i 0 (Cz e (Bn e) ws false) else FT r
def Bp : List Wy :=
 bif decide ((DP e e.Pid).Loc=(DZ e).Final) then(bif decide (e.Pid=(e.S.Procs.length:Int) - 1) then[KS 0] else[])
 else bif decide ((Bk e).2≠0) then[KS (Bk e).2]
 else bif !(Bk e).1 then[] else FT e (Fx (Dl e))
def Fb : List Wy × Int:=bif decide (GY e≠0) then([],GY e) else(Bp e,0)
end
section
variable {P : Program} {w:World} {E:AF} {φ:Phi} {hs hs' hs1:List Ob} {xs:List VV} {r:VV} {f:FuncId}
theorem Ah5 (hH:HRel E (Bm hs) φ w)(hφ:∀ id,φ id≠none ↔ id<hs.length)(hz:∀ k,E.fz k->k<w.heap.size)(sz:Nat)(g:Nat->List VV) :
  HRel E (Bm (hs++[.arr true 0 0 sz g])) (addP φ hs.length [Pl.arr 0 0 none]) w/\Ext w φ w (addP φ hs.length [Pl.arr 0 0 none]) /\
   (∀ id,addP φ hs.length [Pl.arr 0 0 none] id≠none ↔ id<(hs++[Ob.arr true 0 0 sz g]).length)/\addP φ hs.length [Pl.arr 0 0 none] hs.length=some (.arr 0 0 none):=by
 have hnone:φ hs.length=none:=Alt fun hn=>by have:=(hφ _).1 hn;omega
 have hroom:Room w [Pl.arr 0 0 none] w:=Room.one (Below.refl _ _) fun k hk=>by obtain⟨_,e'⟩:=hk;cases e'
 have hidn:∀ i,i<[Ob.arr true 0 0 sz g].length->φ (hs.length+i)=none:=fun i hi=>by
  simp only[AlE,AlX,AlC,Am2]at hi
  subst hi;exact hnone
 have hnews:Ee w E φ hs.length [Ob.arr true 0 0 sz g] [Pl.arr 0 0 none] w:=Ee.one hroom ⟨rfl,rfl,rfl⟩
 have hat:addP φ hs.length [Pl.arr 0 0 none] hs.length=some (.arr 0 0 none):=DJ (i:=0) rfl
 refine⟨hH.news hz hnews hidn (fun k hk=>?_) fun i o ho=>?_,hnews.ext hidn,fun id=>?_,hat⟩
 ·have:=(hφ k).1 hk
  show Bm (hs++_) k=Bm hs k
  simp[Bm,Ale this]
 ·show Bm (hs++_) (hs.length+i)=o
  unfold Bm
  rw[Alf,All (by omega),show hs.length+i - hs.length=i by omega,ho]
  rfl
 ·simp only[Alh,AlE,AlX]
  by_cases he:id=hs.length
  ·subst he;rw[hat];simp
  ·rw[DA (by simp;omega)]
   rw[hφ id];omega
theorem Ai.conv {r2:VV}{hs2:List Ob}(h:Ai P f hs xs hs1 r)
  (hc:∀ (w:World) (E:AF) (φ:Phi) (v:Value),HRel E (Bm hs1) φ w->(∀ id,φ id≠none ↔ id<hs1.length)->(∀ k,E.fz k->k<w.heap.size)->V w (E.up φ) (some φ) r v ->
   ∃ φ',HRel E (Bm hs2) φ' w/\Ext w φ w φ'/\(∀ id,φ' id≠none ↔ id<hs2.length)/\V w (E.up φ') (some φ') r2 v):Ai P f hs xs hs2 r2:=by
 refine⟨h.callable,fun w E φ vs hz hH hφ hs0=>(h.call w E φ vs hz hH hφ hs0).mono ?_⟩
 rintro e w' ⟨v,φ',rfl,h1,h2,h3,h4⟩
 obtain⟨φ2,k1,k2,k3,k4⟩:=hc w' E φ' v h1 h3 (fun k hk=>Alr (hz.lt k hk) h2.size) h4
 exact⟨v,φ2,rfl,k1,h2.trans (AmB k2),k3,k4⟩
theorem Ai.ownR {ys:List VV}(h:Ai P f hs xs hs1 (.tup ys))(j:Nat)(hj:ys[j]?=some .nl)(sz:Nat)(g:Nat->List VV):Ai P f hs xs (hs1++[.arr true 0 0 sz g]) (.tup (ys.set j (.ow hs1.length 0 0))):=by
 refine h.conv fun w E φ v hH hφ hz hv=>?_
 obtain⟨h1,h2,h3,h4⟩:=Ah5 hH hφ hz sz g
 refine⟨_,h1,h2,h3,?_⟩
 cases hv with
 | tup k1 k2 =>
  refine .tup (by simp[k1]) fun i x hx=>?_
  rw[Am1]at hx
  split at hx
  ·rename_i hij
   subst hij
   split at hx
   ·simp only[Ak1]at hx
    subst hx
    rw[(k2 j _ hj).nl_inv]
    exact .ow h4 (Ak6 _) (hd0:=none) ⟨rfl,rfl⟩ fun _=>⟨rfl,Ak6 _⟩
   ·cases hx
  ·exact(k2 i x hx).ext h2
theorem Fr.less {b b':Nat}{w w':World}{φ φ':Phi}(h:Fr b w φ w' φ')(hb:b'<=b):Fr b' w φ w' φ' :=
 ⟨h.os,h.tape,h.output,h.size,h.block,h.new,fun id p hi e=>h.kind id p (Alr hi hb) e⟩
theorem Ai.ownB {i j:Nat}{cs:List VV}(hi:hs[i]?=some (.box cs))(hj:cs[j]?=some .nl)(sz:Nat)(g:Nat->List VV)
  (h:Ai P f (hs.set i (.box (cs.set j (.ow hs.length 0 0)))++[.arr true 0 0 sz g]) xs hs' r):Ai P f hs xs hs' r:=by
 refine⟨h.callable,fun w E φ vs hz hH hφ hs0=>?_⟩
 obtain⟨h1,h2,h3,h4⟩:=Ah5 hH hφ hz.lt sz g
 have hil:i<hs.length:=(Ak3.1 hi).1
 refine(h.call w E _ vs (hz.ext h2) ⟨h1.sub,fun id p e=>?_,h1.inj,h1.free⟩ (fun id=>by rw[h3 id];simp) ⟨hs0.1,fun k x hx=>(hs0.2 k x hx).ext h2⟩).mono ?_
 ·have hob:=h1.ob id p e
  show ObV w E _ (Bm (hs.set i _++_) id) p
  by_cases he:id=i
  ·subst he
   have e1:Bm (hs++[Ob.arr true 0 0 sz g]) id=.box cs:=by simp[Bm,Ale hil,hi]
   have e2:Bm (hs.set id (.box (cs.set j (.ow hs.length 0 0)))++[Ob.arr true 0 0 sz g]) id=.box (cs.set j (.ow hs.length 0 0)):=by
    simp[Bm,Ale,hil]
   rw[e1]at hob
   rw[e2]
   cases p with
   | arr=>exact hob.elim
   | box b =>
    obtain⟨c,ty,k1,k2⟩:=hob
    refine⟨c,ty,k1,by simp[k2.1],fun k x hx=>?_⟩
    rw[Am1]at hx
    split at hx
    ·rename_i hjk
     subst hjk
     split at hx
     ·simp only[Ak1]at hx
      subst hx
      rw[(k2.2 j _ hj).nl_inv]
      exact .ow h4 (Ak6 _) (hd0:=none) ⟨rfl,rfl⟩ fun _=>⟨rfl,Ak6 _⟩
     ·cases hx
    ·exact k2.2 k x hx
  ·have e1:Bm (hs.set i (.box (cs.set j (.ow hs.length 0 0)))++[Ob.arr true 0 0 sz g]) id=Bm (hs++[Ob.arr true 0 0 sz g]) id:=by
    rcases AlL id hs.length with h' | h'
    ·simp[Bm,Ale,h',List.getElem_set_ne (Ne.symm he)]
    ·simp[Bm,All,h']
   rw[e1];exact hob
 ·rintro e w' ⟨v,φ',rfl,k1,k2,k3,k4⟩
  refine⟨v,φ',rfl,k1,(AmB h2).trans (k2.less (by simp)),k3,k4⟩
end
def Lv (x:Pn):List VV:=[Aa x.pid,Aa x.esc,Aa x.way]
def EU (l:List Pn):Nat->List VV:=fun i=>Lv (l.getD i default)
def Cr (fz:Bool)(l:List Pn):VV:=.sl fz l.length 3 fun i=>Lv (l.getD i default)
def Bq (x:Ab):List VV:=[Ac x.is,Aa x.err,Cr true x.wth]
def Ga (l:List Ab):Nat->List VV:=fun i=>Bq (l.getD i default)
def BV (fz:Bool)(l:List Ab):VV:=.sl fz l.length 3 fun i=>Bq (l.getD i default)
def AZ (x:Wy):List VV:=[Aa x.Esc,Aa x.Way,Aa x.With,Aa x.WithEsc,Aa x.WithWay,Aa x.Err]
def IK (l:List Wy):Nat->List VV:=fun i=>AZ (l.getD i default)
def A5 (fz:Bool)(l:List Wy):VV:=.sl fz l.length 6 fun i=>AZ (l.getD i default)
def Bl (x:D.Env):List VV:=[AJ true x.M.Globals,Ad true x.M.Init,Bd true x.M.Shapes,Ad true x.M.Chans,A4 true x.M.Procs,Aa x.M.Claim,Bs true x.M.Exprs,Ad true x.S.Globals,AE false x.S.Chans,Au false x.S.Procs,Aa x.S.Last,Aa x.S.Alone,Aa x.S.Claim,Aa x.Pid,Ac x.Timeout,Ba true x.Able]
def Aj1 : Shp:={ α:=List Pn,enc:=fun y=>([],Cr true y) }
def Akc : Shp:={ α:=Ab,enc:=fun y=>([],.agg (Bq y)) }
def AiH : Shp:={ α:=List Ab,enc:=fun y=>([],BV true y) }
def AjT : Shp:={ α:=Wy,enc:=fun y=>([],.agg (AZ y)) }
def Aiu : Shp:={ α:=List Wy,enc:=fun y=>([],A5 true y) }
def AiA : Shp:={ α:=D.Loc,enc:=fun y=>([],.agg (AY y)) }
def AgB : Shp:={ α:=D.Proc,enc:=fun y=>([],.agg (Bc y)) }
def Aef : Shp:={ α:=D.Trans,enc:=fun y=>([],.agg (CY y)) }
def Akb : Shp:={ α:=Bool × Int,enc:=fun y=>([],.tup [Ac y.1,Aa y.2]) }
def Aeh : Shp:={ α:=Int × List Int × Int,enc:=fun y=>([],.tup [Aa y.1,Ad true y.2.1,Aa y.2.2]) }
def Aj7 : Shp:={ α:=List Int × Int,enc:=fun y=>([],.tup [Ad true y.1,Aa y.2]) }
def AjV : Shp:={ α:=List Wy × Int,enc:=fun y=>([],.tup [A5 true y.1,Aa y.2]) }
def AiG : Shp:={ α:=List Int × Int,enc:=fun y=>([.arr true 0 y.1.length 1 (AM y.1)],.tup [.ow 0 0 y.1.length,Aa y.2]) }
def Cs (f:FuncId):Shp :=
 bif Nat.beq f 80||Nat.beq f 118||Nat.beq f 206 then Abo
 else bif Nat.beq f 84 then AiA
 else bif Nat.beq f 87 then AgB
 else bif Nat.beq f 83 then Aef
 else bif Nat.beq f 119||Nat.beq f 202||Nat.beq f 203||Nat.beq f 81||Nat.beq f 204 then AgE
 else bif Nat.beq f 122 then AiG
 else bif Nat.beq f 162 then Aeh
 else bif Nat.beq f 189 then Aj7
 else bif Nat.beq f 165 then Xd
 else bif Nat.beq f 199||Nat.beq f 191 then Aj1
 else bif Nat.beq f 89 then Akb
 else bif Nat.beq f 167||Nat.beq f 127||Nat.beq f 168 then Akc
 else bif Nat.beq f 92 then AiH
 else bif Nat.beq f 88 then AjT
 else bif Nat.beq f 60 then Aiu
 else bif Nat.beq f 86 then AjV
 else C5 f
def hsR (e:D.Env)(c:Int)(m:List Int)(out:List Pn):List Ob:=[.box (Af e),.box [Aa c],.box [Ad true m],.box [.ow 4 0 out.length],.arr true 0 out.length 3 (EU out)]
def AjA : VV:=.fn (.func 201) [.bp 0 0,.bp 1 0,.bp 2 0,.bp 3 0]
def shR (e:D.Env)(c:Int)(m:List Int)(f:FuncId):Shp :=
 bif Nat.beq f 201 then{ α:=List Pn × Bool,enc:=fun y=>(hsR e c m y.1,Ac y.2),lend:=true }
 else bif Nat.beq f 90 then{ α:=List Pn,enc:=fun y=>(hsR e c m y,.tup []),lend:=true }
 else Cs f
def hsW (e:D.Env)(out:List Wy):List Ob:=[.box (Af e),.box [.ow 2 0 out.length],.arr true 0 out.length 6 (IK out)]
def Ajz : VV:=.fn (.func 91) [.bp 0 0,.bp 1 0]
def shW (e:D.Env)(f:FuncId):Shp :=
 bif Nat.beq f 91 then{ α:=List Wy × Bool,enc:=fun y=>(hsW e y.1,Ac y.2),lend:=true }
 else bif Nat.beq f 90 then{ α:=List Wy,enc:=fun y=>(hsW e y,.tup []),lend:=true }
 else Cs f
def QE : Ann:={ keep:=fun
  | [0,1,0,1,1]=>[2,6,11,12,13]
  | _=>[] }
def QD : Ann:={ keep:=fun
  | [0,1,0,1,1,1,1,1,1,1]=>[7,9,10,53,54,55]
  | _=>[] }
def I1 : Ann:={ keep:=fun
  | [0,1,0,1,1]=>[2,3,6,16,17,18]
  | _=>[] }
def LD : Ann:={ keep:=fun
  | [0,1,0,1,1]=>[1,2,3,7,13,14]
  | _=>[] }
def F4 : Ann:={ cut:=(fun | [1,1,0,0,1,1,0,0,1,0,1,1,1]=>true | _=>false),keep:=fun
  | [0,1,0,1,1,1]=>[1,2,3,7,8,16,17,18]
  | [0,1,0,1,1,1,1]=>[7,8,40,41,42]
  | [1,1,0,0,1,1,0,0,1,0,1,1,1]=>[1,2,3,7,8,9,16,17,18]
  | _=>[] }
def Ns : Ann:={ keep:=fun
  | [0,1,0,1]=>[0,1,7,8]
  | _=>[] }
def Nr : Ann:={ keep:=fun
  | [0,1,0,1]=>[0,3,7,8]
  | _=>[] }
def JX : Ann:={ base:=5,keep:=fun
  | [0,1,0,1]=>[1,2,7,8,9]
  | _=>[] }
def JW : Ann:={ base:=3,keep:=fun
  | [0,1,0,1]=>[1,2,7,8,9]
  | _=>[] }
def QC : Ann:={ base:=5,keep:=fun
  | [0,1,0,1]=>[0,1,2,3,4,5,11,12,13]
  | _=>[] }
def G7 : Ann:={ base:=3,keep:=fun
  | [0,1,0,1]=>[0,3,14,15,16]
  | [0,1,1,1,1,0,0,1,1,0,0,1,0,1]=>[0,3,9,14,15,16,39,40,41]
  | _=>[] }
def SG (e:D.Env)(l out:List Int)(k:Int):St:=Aq [(2,.bp 0 0),(6,.ow 1 0 out.length),(11,Ad true l),(12,Aa l.length),(13,Aa k)] [.box (Bl e),.arr true 0 out.length 1 (AM out)]
def PB (c:Int)(f:List D.Type)(l:List Int)(k:Int):St:=Aq [(7,Aa c),(9,AJ true f),(10,.ow 0 0 l.length),(53,.ow 0 0 l.length),(54,Aa l.length),(55,Aa k)] [.arr true 0 l.length 1 (AM l)]
def Pz (e:D.Env)(s:D.Stmt)(want:List Int)(k:Int):St:=Aq [(2,.bp 0 0),(3,.bp 1 0),(6,.ow 2 0 want.length),(16,Ad true s.Args),(17,Aa s.Args.length),(18,Aa k)] [.box (Af e),.box (Ap s),.arr true 0 want.length 1 (AM want)]
def LX (e:D.Env)(c:Int)(m:List Int)(out:List Pn)(k:Int):St:=Aq [(1,Aa c),(2,Ad true m),(3,.bp 0 0),(7,.ow 1 0 out.length),(13,Aa e.S.Procs.length),(14,Aa k)] [.box (Af e),.arr true 0 out.length 3 (EU out)]
def SF (e:D.Env)(ws:List D.Trans)(self:Bool)(n:Nat)(F:Nat->List VV)(some:Bool)(k:Int):St:=Aq [(1,As true ws),(2,Ac self),(3,.bp 0 0),(7,.ow 1 0 n),(8,Ac some),(16,As true ws),(17,Aa ws.length),(18,Aa k)] [.box (Af e),.arr true 0 n 3 F]
def SE (e:D.Env)(ws:List D.Trans)(self:Bool)(l:List Ab)(some:Bool)(i k:Int):St:=Aq [(1,As true ws),(2,Ac self),(3,.bp 0 0),(7,.ow 1 0 l.length),(8,Ac some),(9,Aa i),(16,As true ws),(17,Aa ws.length),(18,Aa k)] [.box (Af e),.arr true 0 l.length 3 (Ga l)]
def LY (ws:List D.Trans)(l:List Ab)(some:Bool)(k:Int):St:=Aq [(7,.ow 0 0 l.length),(8,Ac some),(40,As true ws),(41,Aa ws.length),(42,Aa k)] [.arr true 0 l.length 3 (Ga l)]
def Ol (l:List Ab)(k:Int):St:=Aq [(0,BV true l),(1,.fn (.func 204) []),(7,Aa l.length),(8,Aa k)] []
def Oj (l:List Wy)(w:Wy)(k:Int):St:=Aq [(0,A5 true l),(3,.bp 0 0),(7,Aa l.length),(8,Aa k)] [.box (AZ w)]
def Kg (e:D.Env)(c:Int)(m:List Int)(out:List Pn)(l:D.Loc)(k:Int):St:=Aq [(1,AjA),(2,.bp 5 0),(7,BT true l.Esc),(8,Aa l.Esc.length),(9,Aa k)] (hsR e c m out++[.box (AY l)])
def Kf (e:D.Env)(out:List Wy)(l:D.Loc)(k:Int):St:=Aq [(1,Ajz),(2,.bp 3 0),(7,BT true l.Esc),(8,Aa l.Esc.length),(9,Aa k)] (hsW e out++[.box (AY l)])
def PA (e:D.Env)(c:Int)(m:List Int)(out:List Pn)(i:Int)(ws:List D.Trans)(k:Int):St:=Aq [(0,Aa i),(1,As true ws),(2,.bp 0 0),(3,.bp 1 0),(4,.bp 2 0),(5,.bp 3 0),(11,As true ws),(12,Aa ws.length),(13,Aa k)] (hsR e c m out)
def IE (e:D.Env)(out:List Wy)(i:Int)(l:List Ab)(k:Int):St:=Aq [(0,Aa i),(3,.bp 1 0),(14,BV true l),(15,Aa l.length),(16,Aa k)] (hsW e out)
def LW (e:D.Env)(out:List Wy)(i:Int)(l:List Ab)(k:Int)(w:Wy)(ps:List Pn)(j:Int):St:=Aq [(0,Aa i),(3,.bp 1 0),(9,.bp 3 0),(14,BV true l),(15,Aa l.length),(16,Aa k),(39,Cr true ps),(40,Aa ps.length),(41,Aa j)] (hsW e out++[.box (AZ w)])
set_option maxRecDepth 100000
theorem Agd (r:Int)(e:D.Env):(fc Cs AT Tryz.f80 [] (Aa r)).goal (St.init [] [.agg (Af e)]) =
  (∃ (y:Int),VC 38 [VV.agg (Ag e.M),VV.agg (Ae e.S)] (Aa y)/\BB (y != 0) (LQ (Aa y) (Aa r)) (BB (bif decide (e.Pid<0) then true else decide (e.Pid>=(↑e.S.Procs.length:Int))) (LQ (Aa 42) (Aa r)) (LQ (Aa 0) (Aa r)))):=by kernel_rfl
theorem Adx (l:D.Loc)(e:D.Env):(fc Cs AT Tryz.f84 [] (.agg (AY l))).goal (St.init [] [.agg (Af e)]) =
  (inX e.Pid e.S.Procs.length/\inX (e.S.Procs.getD e.Pid.toNat default).Type_ e.M.Procs.length/\inX (e.S.Procs.getD e.Pid.toNat default).Loc (e.M.Procs.getD (e.S.Procs.getD e.Pid.toNat default).Type_.toNat default).Locs.length/\LQ (VV.agg (AY ((e.M.Procs.getD (e.S.Procs.getD e.Pid.toNat default).Type_.toNat default).Locs.getD (e.S.Procs.getD e.Pid.toNat default).Loc.toNat default))) (VV.agg (AY l))):=by kernel_rfl
theorem Aan (p:D.Proc)(e:D.Env):(fc Cs AT Tryz.f87 [] (.agg (Bc p))).goal (St.init [] [.agg (Af e)]) =
  (inX e.Pid e.S.Procs.length/\inX (e.S.Procs.getD e.Pid.toNat default).Type_ e.M.Procs.length/\LQ (VV.agg (Bc (e.M.Procs.getD (e.S.Procs.getD e.Pid.toNat default).Type_.toNat default))) (VV.agg (Bc p))):=by kernel_rfl
theorem Aai (b:Bool)(m:D.Model)(x:Int):(fc Cs AT Tryz.f119 [] (Ac b)).goal (St.init [] [.agg (Ag m),Aa x]) =
  (((true&&decide (x>=0)==true)=true->inX x m.Exprs.length)/\LQ (Ac (bif decide (x>=0) then(m.Exprs.getD x.toNat default).Op==39 else false)) (Ac b)):=by kernel_rfl
theorem Adz (hs':List Ob)(r:VV)(e:D.Env)(l:List Int):(CR Tryz.prog tb Cs QE false Tryz.f122 hs' (r)).goal (St.init [] [.agg (Bl e),Ad true l]) =
  (AA (CR Tryz.prog tb Cs QE false Tryz.f122 hs' r) [1,1,0,1,0] (Aq [(2,VV.bp 0 0),(6,VV.nl),(11,Ad true l),(12,Aa (↑l.length:Int)),(13,Aa 0)] [Ob.box (Bl e)])):=by kernel_rfl
theorem Adw (r:Int × List Int × Int)(e:D.Env)(s:D.Stmt):(fc Cs QD Tryz.f162 [] (.tup [Aa r.1,Ad true r.2.1,Aa r.2.2])).goal (St.init [] [.agg (Bl e),.agg (Ap s)]) =
  (∃ (y:Int × Int),VC 183 [VV.agg (Bl e),Aa s.A] (vII y)/\BB (y.snd != 0) (LQ (VV.tup [Aa 0,VV.nl,Aa y.snd]) (VV.tup [Aa r.fst,Ad true r.snd.fst,Aa r.snd.snd])) (inX (IntKind.i64.wrap (y.fst - (1:Int))) e.S.Chans.length/\inX (e.S.Chans.getD (IntKind.i64.wrap (y.fst - (1:Int))).toNat default).Shape e.M.Shapes.length/\BB ((↑(e.M.Shapes.getD (e.S.Chans.getD (IntKind.i64.wrap (y.fst - (1:Int))).toNat default).Shape.toNat default).Fields.length:Int) != (↑s.Args.length:Int)) (LQ (VV.tup [Aa 0,VV.nl,Aa 49]) (VV.tup [Aa r.fst,Ad true r.snd.fst,Aa r.snd.snd])) (∃ (y_1:List Int × Int),Ai Tryz.prog 122 [] [VV.agg (Bl e),Ad true s.Args] [Ob.arr true 0 y_1.fst.length 1 (AM y_1.fst)] (VV.tup [VV.ow 0 0 y_1.fst.length,Aa y_1.snd])/\BB (y_1.snd != 0) (LQ (VV.tup [Aa 0,VV.nl,Aa y_1.snd]) (VV.tup [Aa r.fst,Ad true r.snd.fst,Aa r.snd.snd])) (AA (fc Cs QD Tryz.f162 [] (VV.tup [Aa r.fst,Ad true r.snd.fst,Aa r.snd.snd])) [1,1,1,1,1,1,1,0,1,0] (PB y.fst (e.M.Shapes.getD (e.S.Chans.getD (IntKind.i64.wrap (y.fst - (1:Int))).toNat default).Shape.toNat default).Fields y_1.fst (0:Int)))))):=by kernel_rfl
theorem Wb (r:List Int × Int)(e:D.Env)(s:D.Stmt):(fc Cs I1 Tryz.f189 [] (.tup [Ad true r.1,Aa r.2])).goal (St.init [] [.agg (Af e),.agg (Ap s)]) =
  (((0:Int)<=(↑s.Args.length:Int)/\(↑s.Args.length:Int)<=(↑s.Args.length:Int)/\(↑s.Args.length:Int)*(↑8:Int)<=140737488355328)/\AA (fc Cs I1 Tryz.f189 [] (VV.tup [Ad true r.fst,Aa r.snd])) [1,1,0,1,0] (Aq [(2,VV.bp 0 0),(3,VV.bp 1 0),(6,VV.ow 2 0 (↑s.Args.length:Int).toNat),(16,Ad true s.Args),(17,Aa (↑s.Args.length:Int)),(18,Aa 0)] [Ob.box (Af e),Ob.box (Ap s),Ob.arr true 0 (↑s.Args.length:Int).toNat 1 fun(_:Nat)=>((fc Cs I1 Tryz.f189 [] (VV.tup [Ad true r.fst,Aa r.snd])).T 2).zero])):=by kernel_rfl
theorem Wt (r:Int × Int × Int)(e:D.Env)(s:D.Stmt):(fc Cs AT Tryz.f165 [] (.tup [Aa r.1,Aa r.2.1,Aa r.2.2])).goal (St.init [] [.agg (Af e),.agg (Ap s)]) =
  (∃ (y:Int × Int),VC 183 [VV.agg (Af e),Aa s.A] (vII y)/\BB (y.snd != 0) (LQ (VV.tup [Aa 0,Aa (-1),Aa y.snd]) (LR r)) (inX (IntKind.i64.wrap (y.fst - (1:Int))) e.S.Chans.length/\inX (e.S.Chans.getD (IntKind.i64.wrap (y.fst - (1:Int))).toNat default).Shape e.M.Shapes.length/\BB ((↑(e.M.Shapes.getD (e.S.Chans.getD (IntKind.i64.wrap (y.fst - (1:Int))).toNat default).Shape.toNat default).Fields.length:Int) != (↑s.Args.length:Int)) (LQ (VV.tup [Aa 0,Aa (-1),Aa 49]) (LR r)) (∃ (y_1:List Int × Int),VC 189 [VV.agg (Af e),VV.agg (Ap s)] (VV.tup [Ad true y_1.fst,Aa y_1.snd])/\BB (y_1.snd != 0) (LQ (VV.tup [Aa 0,Aa (-1),Aa y_1.snd]) (LR r)) (inX (IntKind.i64.wrap (y.fst - (1:Int))) e.S.Chans.length/\(2:Int)≠(0:Int)/\∃ (y_2:Int),VC 172 [VV.agg (AB (e.S.Chans.getD (IntKind.i64.wrap (y.fst - (1:Int))).toNat default)),Ad true y_1.fst,Ad true s.Match,Ac (s.N.tmod (2:Int)==1)] (Aa y_2)/\LQ (VV.tup [Aa y.fst,Aa y_2,Aa 0]) (LR r))))):=by kernel_rfl
theorem Wd (b:Bool)(e:D.Env)(s:D.Stmt)(c:Int)(m:List Int):(fc Cs AT Tryz.f202 [] (Ac b)).goal (St.init [] [.agg (Af e),.agg (Ap s),Aa c,Ad true m]) =
  (BB (bif bif s.Kind != 6 then true else decide (s.N > 1) then true else(↑s.Args.length:Int) != (↑m.length:Int)) (LQ (Ac false) (Ac b)) (∃ (y:Int × Int),VC 183 [VV.agg (Af e),Aa s.A] (vII y)/\BB (bif y.snd != 0 then true else y.fst != c) (LQ (Ac false) (Ac b)) (∃ (y:List Int × Int),VC 189 [VV.agg (Af e),VV.agg (Ap s)] (VV.tup [Ad true y.fst,Aa y.snd])/\∃ (y_1:Int),((true&&(y.snd==0)==true)=true->VC 172 [VV.agg [Aa 0,VV.sl true 1 1 fun(i:Nat)=>List.take 1 (List.drop (i*1) [Ad true m])],Ad true y.fst,Ad true s.Match,Ac false] (Aa y_1))/\LQ (Ac (bif y.snd==0 then y_1==0 else false)) (Ac b)))):=by kernel_rfl
theorem Wl (r:List Pn)(e:D.Env)(c:Int)(m:List Int):(fc Cs LD Tryz.f191 [] (Cr true r)).goal (St.init [] [.agg (Af e),Aa c,Ad true m]) =
  (AA (fc Cs LD Tryz.f191 [] (Cr true r)) [1,1,0,1,0] (Aq [(1,Aa c),(2,Ad true m),(3,VV.bp 0 0),(7,VV.nl),(13,Aa (↑e.S.Procs.length:Int)),(14,Aa 0)] [Ob.box (Af e)])):=by kernel_rfl
theorem Aam (r:Bool × Int)(e:D.Env):(fc Cs AT Tryz.f89 [] (.tup [Ac r.1,Aa r.2])).goal (St.init [] [.agg (Af e)]) =
  (∃ (y:D.Proc),VC 87 [VV.agg (Af e)] (VV.agg (Bc y))/\BB (decide (y.Provided<0)) (LQ (VV.tup [Ac true,Aa 0]) (VV.tup [Ac r.fst,Aa r.snd])) (∃ (y_1:Int × Int),VC 61 [VV.agg (Af e),Aa y.Provided] (vII y_1)/\LQ (VV.tup [Ac (y_1.fst != 0),Aa y_1.snd]) (VV.tup [Ac r.fst,Aa r.snd]))):=by kernel_rfl
theorem Aaj (r:Ab)(e:D.Env):(fc Cs AT Tryz.f167 [] (.agg (Bq r))).goal (St.init [] [.agg (Af e)]) =
  (LQ (VV.agg [Ac (decide ((↑e.S.Procs.length:Int)<16)),Aa 0,VV.nl]) (VV.agg (Bq r))):=by kernel_rfl
theorem Aae (r:Ab)(e:D.Env)(s:D.Stmt)(self:Bool):(fc Cs AT Tryz.f127 [] (.agg (Bq r))).goal (St.init [] [.agg (Af e),.agg (Ap s),Ac self]) =
  (BB (s.Kind==1) (∃ (y:Bool),VC 119 [VV.agg (Ag e.M),Aa s.A] (Ac y)/\BB y (∃ (y:Ab),VC 167 [VV.agg (Af e)] (VV.agg (Bq y))/\LQ (VV.agg (Bq y)) (VV.agg (Bq r))) (∃ (y:Int × Int),VC 61 [VV.agg (Af e),Aa s.A] (vII y)/\LQ (VV.agg [Ac (bif y.fst != 0 then true else y.snd != 0),Aa y.snd,VV.nl]) (VV.agg (Bq r)))) (BB (s.Kind==2) (∃ (y:Bool),VC 119 [VV.agg (Ag e.M),Aa s.B] (Ac y)/\BB y (∃ (y:Ab),VC 167 [VV.agg (Af e)] (VV.agg (Bq y))/\LQ (VV.agg (Bq y)) (VV.agg (Bq r))) (LQ (VV.agg [Ac true,Aa 0,VV.nl]) (VV.agg (Bq r)))) (BB (s.Kind==9) (LQ (VV.agg [Ac (decide ((↑e.S.Chans.length:Int)<32)),Aa 0,VV.nl]) (VV.agg (Bq r))) (BB (s.Kind==5) (∃ (y:Ab),VC 168 [VV.agg (Af e),VV.agg (Ap s),Ac self] (VV.agg (Bq y))/\LQ (VV.agg (Bq y)) (VV.agg (Bq r))) (BB (s.Kind==6) (∃ (y:Int × Int × Int),VC 165 [VV.agg (Af e),VV.agg (Ap s)] (LR y)/\LQ (VV.agg [Ac (bif decide (y.snd.fst>=0) then true else y.snd.snd != 0),Aa y.snd.snd,VV.nl]) (VV.agg (Bq r))) (BB (s.Kind==7) (LQ (VV.agg [Ac false,Aa 0,VV.nl]) (VV.agg (Bq r))) (LQ (VV.agg [Ac true,Aa 0,VV.nl]) (VV.agg (Bq r))))))))):=by kernel_rfl
theorem Wh (r:Ab)(e:D.Env)(s:D.Stmt)(self:Bool):(fc Cs AT Tryz.f168 [] (.agg (Bq r))).goal (St.init [] [.agg (Af e),.agg (Ap s),Ac self]) =
  (∃ (y:Int × Int),VC 183 [VV.agg (Af e),Aa s.A] (vII y)/\BB (y.snd != 0) (LQ (VV.agg [Ac true,Aa y.snd,VV.nl]) (VV.agg (Bq r))) (inX (IntKind.i64.wrap (y.fst - (1:Int))) e.S.Chans.length/\inX (e.S.Chans.getD (IntKind.i64.wrap (y.fst - (1:Int))).toNat default).Shape e.M.Shapes.length/\BB ((↑(e.M.Shapes.getD (e.S.Chans.getD (IntKind.i64.wrap (y.fst - (1:Int))).toNat default).Shape.toNat default).Fields.length:Int) != (↑s.Args.length:Int)) (LQ (VV.agg [Ac true,Aa 49,VV.nl]) (VV.agg (Bq r))) (BB (decide ((e.M.Shapes.getD (e.S.Chans.getD (IntKind.i64.wrap (y.fst - (1:Int))).toNat default).Shape.toNat default).Room > 0)) (LQ (VV.agg [Ac (decide ((↑(e.S.Chans.getD (IntKind.i64.wrap (y.fst - (1:Int))).toNat default).Queue.length:Int)<(e.M.Shapes.getD (e.S.Chans.getD (IntKind.i64.wrap (y.fst - (1:Int))).toNat default).Shape.toNat default).Room)),Aa 0,VV.nl]) (VV.agg (Bq r))) (BB self (LQ (VV.agg [Ac false,Aa 0,VV.nl]) (VV.agg (Bq r))) (∃ (y_1:Int × List Int × Int),VC 162 [VV.agg (Af e),VV.agg (Ap s)] (VV.tup [Aa y_1.fst,Ad true y_1.snd.fst,Aa y_1.snd.snd])/\BB (y_1.snd.snd != 0) (LQ (VV.agg [Ac true,Aa y_1.snd.snd,VV.nl]) (VV.agg (Bq r))) (∃ (y_2:List Pn),VC 191 [VV.agg (Af e),Aa y.fst,Ad true y_1.snd.fst] (Cr true y_2)/\LQ (VV.agg [Ac (decide ((↑y_2.length:Int) > 0)),Aa 0,Cr true y_2]) (VV.agg (Bq r)))))))):=by kernel_rfl
theorem Ady (r:List Ab)(e:D.Env)(ws:List D.Trans)(self:Bool):(fc Cs F4 Tryz.f92 [] (BV true r)).goal (St.init [] [.agg (Af e),As true ws,Ac self]) =
  (((0:Int)<=(↑ws.length:Int)/\(↑ws.length:Int)<=(↑ws.length:Int)/\(↑ws.length:Int)*(↑40:Int)<=140737488355328)/\AA (fc Cs F4 Tryz.f92 [] (BV true r)) [1,1,1,0,1,0] (Aq [(1,As true ws),(2,Ac self),(3,VV.bp 0 0),(7,VV.ow 1 0 (↑ws.length:Int).toNat),(8,Ac false),(16,As true ws),(17,Aa (↑ws.length:Int)),(18,Aa 0)] [Ob.box (Af e),Ob.arr true 0 (↑ws.length:Int).toNat 3 fun(_:Nat)=>((fc Cs F4 Tryz.f92 [] (BV true r)).T 198).zero])):=by kernel_rfl
theorem Aaq (r:Wy)(err:Int):(fc Cs AT Tryz.f88 [] (.agg (AZ r))).goal (St.init [] [Aa err]) =
  (LQ (VV.agg [Aa (-1),Aa (-1),Aa (-1),Aa (-1),Aa (-1),Aa err]) (VV.agg (AZ r))):=by kernel_rfl
theorem AaG (r:List Wy × Int)(e:D.Env):(fc Cs AT Tryz.f86 [] (.tup [A5 true r.1,Aa r.2])).goal (St.init [] [.agg (Af e)]) =
  (∃ (y:Int),VC 80 [VV.agg (Af e)] (Aa y)/\BB (y != 0) (LQ (VV.tup [VV.nl,Aa y]) (VV.tup [A5 true r.fst,Aa r.snd])) (∃ (y:List Wy),VC 60 [VV.agg (Af e)] (A5 true y)/\LQ (VV.tup [A5 true y,Aa 0]) (VV.tup [A5 true r.fst,Aa r.snd]))):=by kernel_rfl
theorem Adt (t:D.Trans)(l:D.Loc)(esc i:Int):(fc Cs AT Tryz.f83 [] (.agg (CY t))).goal (St.init [] [.agg (AY l),Aa esc,Aa i]) =
  (BB (decide (esc<0)) (inX i l.Out.length/\LQ (VV.agg (CY (l.Out.getD i.toNat default))) (VV.agg (CY t))) (inX esc l.Esc.length/\inX i (l.Esc.getD esc.toNat []).length/\LQ (VV.agg (CY ((l.Esc.getD esc.toNat []).getD i.toNat default))) (VV.agg (CY t)))):=by kernel_rfl
theorem WA (b:Bool)(l:List Ab):(fc Cs AT Tryz.f203 [] (Ac b)).goal (St.init [] [BV true l,.fn (.func 204) []]) =
  (∃ (y:Int),VC 206 [BV true l,VV.fn (Fn.func (nat_lit 204)) []] (Aa y)/\LQ (Ac (decide (y>=0))) (Ac b)):=by kernel_rfl
theorem Aaw (r:Int)(l:List Ab):(fc Cs Ns Tryz.f206 [] (Aa r)).goal (St.init [] [BV true l,.fn (.func 204) []]) =
  (AA (fc Cs Ns Tryz.f206 [] (Aa r)) [1,0,1,0] (Ol l (0:Int))):=by kernel_rfl
theorem Aau (b:Bool)(x:Ab):(fc Cs AT Tryz.f204 [] (Ac b)).goal (St.init [] [.agg (Bq x)]) =
  (LQ (Ac x.is) (Ac b)):=by kernel_rfl
theorem Wz (b:Bool)(l:List Wy)(w:Wy):(fc Cs AT Tryz.f81 [] (Ac b)).goal (St.init [] [A5 true l,.agg (AZ w)]) =
  (∃ (y:Int),VC 118 [A5 true l,VV.agg (AZ w)] (Aa y)/\LQ (Ac (decide (y>=0))) (Ac b)):=by kernel_rfl
theorem Aav (r:Int)(l:List Wy)(w:Wy):(fc Cs Nr Tryz.f118 [] (Aa r)).goal (St.init [] [A5 true l,.agg (AZ w)]) =
  (AA (fc Cs Nr Tryz.f118 [] (Aa r)) [1,0,1,0] (Oj l w (0:Int))):=by kernel_rfl
theorem Aak (r:List Pn)(e:D.Env)(c:Int)(m:List Int):(CR Tryz.prog tb (shR e c m) AT true Tryz.f199 [] (Cr true r)).goal (St.init [] [.agg (Af e),Aa c,Ad true m]) =
  (∃ (y:Bool × Int),VC 89 [VV.agg (Af e)] (VV.tup [Ac y.fst,Aa y.snd])/\BB (bif !y.fst then true else y.snd != 0) (LQ VV.nl (Cr true r)) (∃ (y:D.Loc),VC 84 [VV.agg (Af e)] (VV.agg (AY y))/\∃ (y_1:List Pn),Ai Tryz.prog 90 [Ob.box (Af e),Ob.box [Aa c],Ob.box [Ad true m],Ob.box [VV.nl]] [VV.agg (AY y),VV.fn (Fn.func (nat_lit 201)) [VV.bp 0 0,VV.bp 1 0,VV.bp 2 0,VV.bp 3 0]] (hsR e c m y_1) (VV.tup [])/\LQ (Cr true y_1) (Cr true r))):=by kernel_rfl
theorem TS (r out:List Pn)(e:D.Env)(c:Int)(m:List Int)(l:D.Loc):(CR Tryz.prog tb (shR e c m) JX true Tryz.f90 (hsR e c m r) (.tup [])).goal (St.init (hsR e c m out) [.agg (AY l),AjA]) =
  (AA (fc (shR e c m) JX Tryz.f90 (hsR e c m r) (VV.tup [])) [1,0,1,0] (Kg e c m out l (0:Int))):=by kernel_rfl
theorem TR (r out:List Wy)(e:D.Env)(l:D.Loc):(CR Tryz.prog tb (shW e) JW true Tryz.f90 (hsW e r) (.tup [])).goal (St.init (hsW e out) [.agg (AY l),Ajz]) =
  (AA (fc (shW e) JW Tryz.f90 (hsW e r) (VV.tup [])) [1,0,1,0] (Kf e out l (0:Int))):=by kernel_rfl
theorem Adu (r out:List Pn)(b:Bool)(e:D.Env)(c:Int)(m:List Int)(i:Int)(ws:List D.Trans):(fc Cs QC Tryz.f201 (hsR e c m r) (Ac b)).goal (St.init (hsR e c m out) [Aa i,As true ws,.bp 0 0,.bp 1 0,.bp 2 0,.bp 3 0]) =
  (AA (fc Cs QC Tryz.f201 (hsR e c m r) (Ac b)) [1,0,1,0] (PA e c m out i ws (0:Int))):=by kernel_rfl
theorem Adv (r out:List Wy)(b:Bool)(e:D.Env)(i:Int)(ws:List D.Trans):(fc Cs G7 Tryz.f91 (hsW e r) (Ac b)).goal (St.init (hsW e out) [Aa i,As true ws,.bp 0 0,.bp 1 0]) =
  (∃ (y:List Ab),VC 92 [VV.agg (Af e),As true ws,Ac false] (BV true y)/\AA (fc Cs G7 Tryz.f91 (hsW e r) (Ac b)) [1,0,1,0] (IE e out i y (0:Int))):=by kernel_rfl
theorem Wk (r:List Wy)(e:D.Env):(CR Tryz.prog tb (shW e) AT true Tryz.f60 [] (A5 true r)).goal (St.init [] [.agg (Af e)]) =
  (inX e.Pid e.S.Procs.length/\∃ (y:D.Proc),VC 87 [VV.agg (Af e)] (VV.agg (Bc y))/\BB ((e.S.Procs.getD e.Pid.toNat default).Loc==y.Final) (BB (e.Pid==IntKind.i64.wrap ((↑e.S.Procs.length:Int) - (1:Int))) (∃ (y:Wy),VC 88 [Aa 0] (VV.agg (AZ y))/\LQ (VV.sl true 1 6 fun(i:Nat)=>List.take 6 (List.drop (i*6) (AZ y))) (A5 true r)) (LQ VV.nl (A5 true r))) (∃ (y:Bool × Int),VC 89 [VV.agg (Af e)] (VV.tup [Ac y.fst,Aa y.snd])/\BB (y.snd != 0) (∃ (y_1:Wy),VC 88 [Aa y.snd] (VV.agg (AZ y_1))/\LQ (VV.sl true 1 6 fun(i:Nat)=>List.take 6 (List.drop (i*6) (AZ y_1))) (A5 true r)) (BB (!y.fst) (LQ VV.nl (A5 true r)) (∃ (y:D.Loc),VC 84 [VV.agg (Af e)] (VV.agg (AY y))/\∃ (y_1:List Wy),Ai Tryz.prog 90 [Ob.box (Af e),Ob.box [VV.nl]] [VV.agg (AY y),VV.fn (Fn.func (nat_lit 91)) [VV.bp 0 0,VV.bp 1 0]] (hsW e y_1) (VV.tup [])/\LQ (A5 true y_1) (A5 true r))))):=by kernel_rfl
theorem AaE (hs':List Ob)(r:VV)(e:D.Env)(l out:List Int)(k:Int)(J:St->Prop):((CR Tryz.prog tb Cs QE false Tryz.f122 hs' (r)).loop [1,1,0,1,0] J).goal (SG e l out k) =
  (BB (decide (k<(↑l.length:Int))) (inX k l.length/\∃ (y:Int × Int),VC 61 [VV.agg (Bl e),Aa (l.getD k.toNat 0)] (vII y)/\BB (y.snd != 0) (leO [] hs'/\(VV.tup [VV.nl,Aa y.snd]).le r) ((out.length+1)*8<=140737488355328/\J (Aq [(2,VV.bp 0 0),(6,VV.ow 1 0 (out.length+1)),(11,Ad true l),(12,Aa (↑l.length:Int)),(13,Aa (IntKind.i64.wrap (k+(1:Int))))] [Ob.box (Bl e),Ob.arr true 0 (out.length+1) 1 fun(i:Nat)=>bif i.blt out.length then[Aa (out.getD i 0)] else(fun(i:Nat)=>List.take 1 (List.drop (i*1) [Aa y.fst])) (i - out.length)]))) (leO [Ob.arr true 0 out.length 1 (AM out)] hs'/\(VV.tup [VV.ow 0 0 out.length,Aa 0]).le r)):=by kernel_rfl
theorem Aas (r:Int × List Int × Int)(c:Int)(f:List D.Type)(l:List Int)(k:Int)(J:St->Prop):((fc Cs QD Tryz.f162 [] (.tup [Aa r.1,Ad true r.2.1,Aa r.2.2])).loop [1,1,1,1,1,1,1,0,1,0] J).goal (PB c f l k) =
  (BB (decide (k<(↑l.length:Int))) (inX k l.length/\inX k f.length/\∃ (y:Int),VC 37 [VV.agg (Dx (f.getD k.toNat default)),Aa (l.getD k.toNat 0)] (Aa y)/\inX k l.length/\J (Aq [(7,Aa c),(9,AJ true f),(10,VV.ow 0 0 l.length),(53,VV.ow 0 0 l.length),(54,Aa (↑l.length:Int)),(55,Aa (IntKind.i64.wrap (k+(1:Int))))] [Ob.arr true 0 l.length 1 fun(j:Nat)=>bif j.beq k.toNat then[Aa y] else[Aa (l.getD j 0)]])) (LQ (VV.tup [Aa c,Ad true l,Aa 0]) (VV.tup [Aa r.fst,Ad true r.snd.fst,Aa r.snd.snd]))):=by kernel_rfl
theorem TL (r:List Int × Int)(e:D.Env)(s:D.Stmt)(want:List Int)(k:Int)(J:St->Prop):((fc Cs I1 Tryz.f189 [] (.tup [Ad true r.1,Aa r.2])).loop [1,1,0,1,0] J).goal (Pz e s want k) =
  (BB (decide (k<(↑s.Args.length:Int))) (inX k s.Args.length/\inX k s.Match.length/\BB (s.Match.getD k.toNat 0 != 1) (J (Pz e s want (IntKind.i64.wrap (k+(1:Int))))) (∃ (y:Int × Int),VC 61 [VV.agg (Af e),Aa (s.Args.getD k.toNat 0)] (vII y)/\BB (y.snd != 0) (LQ (VV.tup [VV.nl,Aa y.snd]) (VV.tup [Ad true r.fst,Aa r.snd])) (inX k want.length/\J (Aq [(2,VV.bp 0 0),(3,VV.bp 1 0),(6,VV.ow 2 0 want.length),(16,Ad true s.Args),(17,Aa (↑s.Args.length:Int)),(18,Aa (IntKind.i64.wrap (k+(1:Int))))] [Ob.box (Af e),Ob.box (Ap s),Ob.arr true 0 want.length 1 fun(j:Nat)=>bif j.beq k.toNat then[Aa y.fst] else[Aa (want.getD j 0)]])))) (LQ (VV.tup [Ad true want,Aa 0]) (VV.tup [Ad true r.fst,Aa r.snd]))):=by kernel_rfl
theorem TQ (r:List Pn)(e:D.Env)(c:Int)(m:List Int)(out:List Pn)(k:Int)(J:St->Prop):((fc Cs LD Tryz.f191 [] (Cr true r)).loop [1,1,0,1,0] J).goal (LX e c m out k) =
  (BB (decide (k<(↑e.S.Procs.length:Int))) (BB (k != e.Pid) (∃ (y:List Pn),VC 199 [VV.agg [AJ true e.M.Globals,Ad true e.M.Init,Bd true e.M.Shapes,Ad true e.M.Chans,A4 true e.M.Procs,Aa e.M.Claim,Bs true e.M.Exprs,Ad true e.S.Globals,AE true e.S.Chans,Au true e.S.Procs,Aa e.S.Last,Aa e.S.Alone,Aa e.S.Claim,Aa k,Ac e.Timeout,Ba true e.Able],Aa c,Ad true m] (Cr true y)/\(out.length+y.length)*24<=140737488355328/\(∀ (i:Nat),i<y.length->(EU y i).all VV.mem1=true)/\J (Aq [(1,Aa c),(2,Ad true m),(3,VV.bp 0 0),(7,VV.ow 1 0 (out.length+y.length)),(13,Aa (↑e.S.Procs.length:Int)),(14,Aa (IntKind.i64.wrap (k+(1:Int))))] [Ob.box (Af e),Ob.arr true 0 (out.length+y.length) 3 fun(i:Nat)=>bif i.blt out.length then EU out i else EU y (i - out.length)])) (J (LX e c m out (IntKind.i64.wrap (k+(1:Int)))))) (LQ (Cr true out) (Cr true r))):=by kernel_rfl
theorem AaD (r:List Ab)(e:D.Env)(ws:List D.Trans)(self:Bool)(n:Nat)(F:Nat->List VV)(some:Bool)(k:Int)(J:St->Prop):((fc Cs F4 Tryz.f92 [] (BV true r)).loop [1,1,1,0,1,0] J).goal (SF e ws self n F some k) =
  (BB (decide (k<(↑ws.length:Int))) (inX k ws.length/\∃ (y:Ab),VC 127 [VV.agg (Af e),VV.agg (Ap (ws.getD k.toNat default).S),Ac self] (VV.agg (Bq y))/\inX k n/\AA ((fc Cs F4 Tryz.f92 [] (BV true r)).loop [1,1,1,0,1,0] J) [1,1,0,0,1,1] (Aq [(1,As true ws),(2,Ac self),(3,VV.bp 0 0),(7,VV.ow 1 0 n),(8,Ac some),(9,Aa k),(16,As true ws),(17,Aa (↑ws.length:Int)),(18,Aa k)] [Ob.box (Af e),Ob.arr true 0 n 3 fun(j:Nat)=>bif j.beq k.toNat then Bq y else F j])) (AA (fc Cs F4 Tryz.f92 [] (BV true r)) [1,1,1,1,0,1,0] (Aq [(7,VV.ow 0 0 n),(8,Ac some),(40,As true ws),(41,Aa (↑ws.length:Int)),(42,Aa 0)] [Ob.arr true 0 n 3 F]))):=by kernel_rfl
theorem AaB (r:List Ab)(e:D.Env)(ws:List D.Trans)(self:Bool)(l:List Ab)(some:Bool)(i k:Int)(J:St->Prop):(((fc Cs F4 Tryz.f92 [] (BV true r)).loop [1,1,1,0,1,0] J).cut [1,1,0,0,1,1]).goal (SE e ws self l some i k) =
  (((true&&some==false)=true->inX i l.length)/\J (Aq [(1,As true ws),(2,Ac self),(3,VV.bp 0 0),(7,VV.ow 1 0 l.length),(8,Ac (bif some then true else(l.getD i.toNat default).is)),(16,As true ws),(17,Aa (↑ws.length:Int)),(18,Aa (IntKind.i64.wrap (k+(1:Int))))] [Ob.box (Af e),Ob.arr true 0 l.length 3 (Ga l)])):=by kernel_rfl
theorem AaC (r:List Ab)(ws:List D.Trans)(l:List Ab)(some:Bool)(k:Int)(J:St->Prop):((fc Cs F4 Tryz.f92 [] (BV true r)).loop [1,1,1,1,0,1,0] J).goal (LY ws l some k) =
  (BB (decide (k<(↑ws.length:Int))) (inX k ws.length/\BB (bif (ws.getD k.toNat default).S.Kind==7 then !some else false) (inX k l.length/\J (Aq [(7,VV.ow 0 0 l.length),(8,Ac some),(40,As true ws),(41,Aa (↑ws.length:Int)),(42,Aa (IntKind.i64.wrap (k+(1:Int))))] [Ob.arr true 0 l.length 3 fun(j:Nat)=>bif j.beq k.toNat then[Ac true,Aa (l.getD k.toNat default).err,Cr true (l.getD k.toNat default).wth] else Bq (l.getD j default)])) (J (LY ws l some (IntKind.i64.wrap (k+(1:Int)))))) (LQ (BV true l) (BV true r))):=by kernel_rfl
theorem Wr (r:Int)(l:List Ab)(k:Int)(J:St->Prop):((fc Cs Ns Tryz.f206 [] (Aa r)).loop [1,0,1,0] J).goal (Ol l k) =
  (BB (decide (k<(↑l.length:Int))) (inX k l.length/\∃ (y:Bool),VC 204 [VV.agg (Bq (l.getD k.toNat default))] (Ac y)/\BB y (LQ (Aa k) (Aa r)) (J (Ol l (IntKind.i64.wrap (k+(1:Int)))))) (LQ (Aa (-1)) (Aa r))):=by kernel_rfl
theorem Wp (r:Int)(l:List Wy)(w:Wy)(k:Int)(J:St->Prop):((fc Cs Nr Tryz.f118 [] (Aa r)).loop [1,0,1,0] J).goal (Oj l w k) =
  (BB (decide (k<(↑l.length:Int))) (inX k l.length/\BB (w.Esc==(l.getD k.toNat default).Esc&&(w.Way==(l.getD k.toNat default).Way&&(w.With==(l.getD k.toNat default).With&&(w.WithEsc==(l.getD k.toNat default).WithEsc&&(w.WithWay==(l.getD k.toNat default).WithWay&&(w.Err==(l.getD k.toNat default).Err&&true)))))) (LQ (Aa k) (Aa r)) (J (Oj l w (IntKind.i64.wrap (k+(1:Int)))))) (LQ (Aa (-1)) (Aa r))):=by kernel_rfl
theorem Sq (r:List Pn)(e:D.Env)(c:Int)(m:List Int)(out:List Pn)(l:D.Loc)(k:Int)(J:St->Prop):((CR Tryz.prog tb (shR e c m) JX true Tryz.f90 (hsR e c m r) (.tup [])).loop [1,0,1,0] J).goal (Kg e c m out l k) =
  (BB (decide (k<(↑l.Esc.length:Int))) (inX k l.Esc.length/\∃ (y:List Pn × Bool),Ai Tryz.prog 201 (hsR e c m out) [Aa k,As true (l.Esc.getD k.toNat []),VV.bp 0 0,VV.bp 1 0,VV.bp 2 0,VV.bp 3 0] (hsR e c m y.fst) (Ac y.snd)/\BB y.snd (leO (hsR e c m y.fst) (hsR e c m r)/\(VV.tup []).le (VV.tup [])) (J (Kg e c m y.fst l (IntKind.i64.wrap (k+(1:Int)))))) (∃ (y:List Pn × Bool),Ai Tryz.prog 201 (hsR e c m out) [Aa (-1),As true l.Out,VV.bp 0 0,VV.bp 1 0,VV.bp 2 0,VV.bp 3 0] (hsR e c m y.fst) (Ac y.snd)/\leO (hsR e c m y.fst) (hsR e c m r)/\(VV.tup []).le (VV.tup []))):=by kernel_rfl
theorem So (r:List Wy)(e:D.Env)(out:List Wy)(l:D.Loc)(k:Int)(J:St->Prop):((CR Tryz.prog tb (shW e) JW true Tryz.f90 (hsW e r) (.tup [])).loop [1,0,1,0] J).goal (Kf e out l k) =
  (BB (decide (k<(↑l.Esc.length:Int))) (inX k l.Esc.length/\∃ (y:List Wy × Bool),Ai Tryz.prog 91 (hsW e out) [Aa k,As true (l.Esc.getD k.toNat []),VV.bp 0 0,VV.bp 1 0] (hsW e y.fst) (Ac y.snd)/\BB y.snd (leO (hsW e y.fst) (hsW e r)/\(VV.tup []).le (VV.tup [])) (J (Kf e y.fst l (IntKind.i64.wrap (k+(1:Int)))))) (∃ (y:List Wy × Bool),Ai Tryz.prog 91 (hsW e out) [Aa (-1),As true l.Out,VV.bp 0 0,VV.bp 1 0] (hsW e y.fst) (Ac y.snd)/\leO (hsW e y.fst) (hsW e r)/\(VV.tup []).le (VV.tup []))):=by kernel_rfl
theorem Aal (r:List Pn)(b:Bool)(e:D.Env)(c:Int)(m:List Int)(out:List Pn)(i:Int)(ws:List D.Trans)(k:Int)(J:St->Prop):((fc Cs QC Tryz.f201 (hsR e c m r) (Ac b)).loop [1,0,1,0] J).goal (PA e c m out i ws k) =
  (BB (decide (k<(↑ws.length:Int))) (inX k ws.length/\∃ (y:Bool),VC 202 [VV.agg (Af e),VV.agg (Ap (ws.getD k.toNat default).S),Aa c,Ad true m] (Ac y)/\BB y ((out.length+1)*24<=140737488355328/\J (Aq [(0,Aa i),(1,As true ws),(2,VV.bp 0 0),(3,VV.bp 1 0),(4,VV.bp 2 0),(5,VV.bp 3 0),(11,As true ws),(12,Aa (↑ws.length:Int)),(13,Aa (IntKind.i64.wrap (k+(1:Int))))] [Ob.box (Af e),Ob.box [Aa c],Ob.box [Ad true m],Ob.box [VV.ow 4 0 (out.length+1)],Ob.arr true 0 (out.length+1) 3 fun(i_1:Nat)=>bif i_1.blt out.length then Lv (out.getD i_1 default) else(fun(i_2:Nat)=>List.take 3 (List.drop (i_2*3) [Aa e.Pid,Aa i,Aa k])) (i_1 - out.length)])) (J (PA e c m out i ws (IntKind.i64.wrap (k+(1:Int)))))) (∃ (y:List Ab),((true&&decide ((↑out.length:Int) > 0)==false)=true->VC 92 [VV.agg (Af e),As true ws,Ac true] (BV true y))/\∃ (y_1:Bool),((true&&decide ((↑out.length:Int) > 0)==false)=true->VC 203 [BV true y,VV.fn (Fn.func (nat_lit 204)) []] (Ac y_1))/\leO (hsR e c m out) (hsR e c m r)/\(Ac (bif decide ((↑out.length:Int) > 0) then true else y_1)).le (Ac b))):=by kernel_rfl
theorem Aap (r:List Wy)(b:Bool)(e:D.Env)(out:List Wy)(i:Int)(l:List Ab)(k:Int)(J:St->Prop):((fc Cs G7 Tryz.f91 (hsW e r) (Ac b)).loop [1,0,1,0] J).goal (IE e out i l k) =
  (BB (decide (k<(↑l.length:Int))) (inX k l.length/\BB (bif (l.getD k.toNat default).is then(↑(l.getD k.toNat default).wth.length:Int)==0 else false) ((out.length+1)*48<=140737488355328/\AA ((fc Cs G7 Tryz.f91 (hsW e r) (Ac b)).loop [1,0,1,0] J) [1,1,0,0,1,1,1,1,0] (Aq [(0,Aa i),(3,VV.bp 1 0),(9,VV.bp 3 0),(14,BV true l),(15,Aa (↑l.length:Int)),(16,Aa k),(39,Cr true (l.getD k.toNat default).wth),(40,Aa (↑(l.getD k.toNat default).wth.length:Int)),(41,Aa 0)] [Ob.box (Af e),Ob.box [VV.ow 2 0 (out.length+1)],Ob.arr true 0 (out.length+1) 6 fun(i_1:Nat)=>bif i_1.blt out.length then AZ (out.getD i_1 default) else(fun(i_2:Nat)=>List.take 6 (List.drop (i_2*6) [Aa i,Aa k,Aa (-1),Aa (-1),Aa (-1),Aa (l.getD k.toNat default).err])) (i_1 - out.length),Ob.box [Aa i,Aa k,Aa (-1),Aa (-1),Aa (-1),Aa (l.getD k.toNat default).err]])) (AA ((fc Cs G7 Tryz.f91 (hsW e r) (Ac b)).loop [1,0,1,0] J) [1,1,0,0,1,1,1,1,0] (Aq [(0,Aa i),(3,VV.bp 1 0),(9,VV.bp 3 0),(14,BV true l),(15,Aa (↑l.length:Int)),(16,Aa k),(39,Cr true (l.getD k.toNat default).wth),(40,Aa (↑(l.getD k.toNat default).wth.length:Int)),(41,Aa 0)] [Ob.box (Af e),Ob.box [VV.ow 2 0 out.length],Ob.arr true 0 out.length 6 (IK out),Ob.box [Aa i,Aa k,Aa (-1),Aa (-1),Aa (-1),Aa (l.getD k.toNat default).err]]))) (leO (hsW e out) (hsW e r)/\(Ac (decide ((↑out.length:Int) > 0))).le (Ac b))):=by kernel_rfl
theorem Aao (r:List Wy)(b:Bool)(e:D.Env)(out:List Wy)(i:Int)(l:List Ab)(k:Int)(w:Wy)(ps:List Pn)(j:Int)(J J2:St->Prop):(((fc Cs G7 Tryz.f91 (hsW e r) (Ac b)).loop [1,0,1,0] J).loop [1,1,0,0,1,1,1,1,0] J2).goal (LW e out i l k w ps j) =
  (BB (decide (j<(↑ps.length:Int))) (inX j ps.length/\(out.length+1)*48<=140737488355328/\J2 (Aq [(0,Aa i),(3,VV.bp 1 0),(9,VV.bp 3 0),(14,BV true l),(15,Aa (↑l.length:Int)),(16,Aa k),(39,Cr true ps),(40,Aa (↑ps.length:Int)),(41,Aa (IntKind.i64.wrap (j+(1:Int))))] [Ob.box (Af e),Ob.box [VV.ow 2 0 (out.length+1)],Ob.arr true 0 (out.length+1) 6 fun(i:Nat)=>bif i.blt out.length then AZ (out.getD i default) else(fun(i:Nat)=>List.take 6 (List.drop (i*6) [Aa w.Esc,Aa w.Way,Aa (ps.getD j.toNat default).pid,Aa (ps.getD j.toNat default).esc,Aa (ps.getD j.toNat default).way,Aa w.Err])) (i - out.length),Ob.box [Aa w.Esc,Aa w.Way,Aa (ps.getD j.toNat default).pid,Aa (ps.getD j.toNat default).esc,Aa (ps.getD j.toNat default).way,Aa w.Err]])) (J (IE e out i l (IntKind.i64.wrap (k+(1:Int)))))):=by kernel_rfl
end Go.Proofs.YtmdcknlpalfhhaaGreatDoor
namespace Go.Proofs.YtmdcknlpalfhhaaGreatDoor
open Go.RowKit
structure CK (e:D.Env):Prop where
 ok:BY e
 p0:0<=e.Pid
section
variable {e : D.Env}
theorem AcX (hw:Ay e.M)(h:GY e=0):CK e:=by
 unfold GY at h
 cases c1:decide (Cf e.M e.S≠0) with
 | true=>rw[c1,Ak4]at h;exact absurd h (Ak9 c1)
 | false =>
  rw[c1,Ak0]at h
  obtain⟨h1,h2⟩:=Lz (show Cf e.M e.S=0 by simpa using c1)
  cases c2:(decide (e.Pid<0)||decide ((e.S.Procs.length:Int)<=e.Pid)) with
  | true=>rw[c2,Ak4]at h;simp at h
  | false =>
   simp only[Aln,AlB]at c2
   exact⟨⟨h2,h1,hw,by omega,by omega⟩,by omega⟩
theorem CK.small (h:CK e):A7 e.S:=h.ok.fit.small
theorem CK.lt (h:CK e):e.Pid.toNat<e.S.Procs.length:=by have:=h.ok.pid;have:=h.p0;omega
theorem CK.mem (h:CK e):DP e e.Pid∈e.S.Procs:=Av h.lt
theorem CK.facts (h:CK e):(0<=(DP e e.Pid).Type_/\(DP e e.Pid).Type_<e.M.Procs.length)/\(0<=(DP e e.Pid).Loc/\(DP e e.Pid).Loc<(DZ e).Locs.length) :=
 let hp:=Ey (h.ok.proc h.mem);⟨hp.1,hp.2.1⟩
theorem CK.wproc (h:CK e):Ka (DZ e):=h.ok.wf.Procs.2 _ (Av (by have:=h.facts.1;omega))
theorem CK.wloc (h:CK e):O6 (Dl e):=h.wproc.Locs.2 _ (Av (by have:=h.facts.2;omega))
theorem TW (hw:Ay e.M)(hs:A7 e.S):Ai Tryz.prog 80 [] [.agg (Af e)] [] (Aa (GY e)):=by
 refine Ah Al Am Tryz.func80 (by kernel_rfl) rfl (Agd _ e) ⟨_,Gr hw hs (fun h=>(GU h).clp),fun h=>C2 (ct (by simpa using h) rfl),fun h=>⟨fun h1=>C2 (cf (by simpa using h) (ct ?_ rfl)),fun h1=>C2 (cf (by simpa using h) (cf ?_ rfl))⟩⟩
 ·simp only[A3,Amu]at h1;exact h1
 ·simp only[A3,Amu]at h1;exact h1
theorem J9 (h:CK e):Ai Tryz.prog 84 [] [.agg (Af e)] [] (.agg (AY (Dl e))) :=
 Ah Al Am Tryz.func84 (by kernel_rfl) rfl (Adx _ e) ⟨⟨h.p0,h.ok.pid.2⟩,h.facts.1,h.facts.2,trivial,VV.le_refl _⟩
theorem OY (h:CK e):Ai Tryz.prog 87 [] [.agg (Af e)] [] (.agg (Bc (DZ e))) :=
 Ah Al Am Tryz.func87 (by kernel_rfl) rfl (Aan _ e) ⟨⟨h.p0,h.ok.pid.2⟩,h.facts.1,trivial,VV.le_refl _⟩
theorem Iy {x:Int}(h:0<=x->x<e.M.Exprs.length):Ai Tryz.prog 119 [] [.agg (Ag e.M),Aa x] [] (Ac (DN e x)):=by
 refine Ah Al Am Tryz.func119 (by kernel_rfl) rfl (Aai _ e.M x) ⟨fun hx=>?_,AG ?_⟩
 ·have hx:0<=x:=by simpa using hx
  exact⟨hx,h hx⟩
 ·unfold DN Aw
  rw[A6,ieq]
theorem OW : Ai Tryz.prog 167 [] [.agg (Af e)] [] (.agg (Bq (NR e))):=by
 refine Ah Al Am Tryz.func167 (by kernel_rfl) rfl (Aaj _ e) ⟨trivial,Aml ⟨Ama ?_,VV.le_refl _,AlR,trivial⟩⟩
 have:decide ((e.S.Procs.length:Int)<16)=decide (e.S.Procs.length<16):=by rw[Alq,Ak5,Ak5];omega
 rw[this]<;>rfl
theorem OZ {err:Int}:Ai Tryz.prog 88 [] [Aa err] [] (.agg (AZ (KS err))) :=
 Ah Al Am Tryz.func88 (by kernel_rfl) rfl (Aaq _ err) ⟨trivial,VV.le_refl _⟩
theorem Aad {l:D.Loc}{esc i:Int}(h1:esc<0->0<=i/\i<l.Out.length)(h2:0<=esc->esc<l.Esc.length/\0<=i/\i<(l.Esc.getD esc.toNat []).length) :
  Ai Tryz.prog 83 [] [.agg (AY l),Aa esc,Aa i] [] (.agg (CY ((bif decide (esc<0) then l.Out else l.Esc.getD esc.toNat []).getD i.toNat default))):=by
 refine Ah Al Am Tryz.func83 (by kernel_rfl) rfl (Adt _ l esc i) ⟨fun h=>⟨h1 (by simpa using h),trivial,?_⟩,fun h=>?_⟩
 ·rw[h,Ak4];exact VV.le_refl _
 ·have h0:0<=esc:=by simpa using h
  refine⟨⟨h0,(h2 h0).1⟩,(h2 h0).2,trivial,?_⟩
  rw[h,Ak0];exact VV.le_refl _
theorem NH {ev:Evl}{out:List Int}{x:Int}{l:List Int}:Jg ev out (x::l)=bif decide ((ev x).2≠0) then([],(ev x).2) else Jg ev (out++[(ev x).1]) l:=rfl
theorem TX {l:List Int}{hs':List Ob}{r:VV}(hev:∀ x∈l,Ai Tryz.prog 61 [] [.agg (Bl e),Aa x] [] (vII (AX e x)))(hl:l.length<=1048576)
  (h1:∀ er,BM e l=([],er)->er≠0->leO [] hs'/\VV.le (.tup [.nl,Aa er]) r) (h2:∀ out,BM e l=(out,0)->leO [.arr true 0 out.length 1 (AM out)] hs'/\VV.le (.tup [.ow 0 0 out.length,Aa 0]) r) :
  Ai Tryz.prog 122 [] [.agg (Bl e),Ad true l] hs' r:=by
 refine Ah Al Am Tryz.func122 (by kernel_rfl) rfl (Adz hs' r e l) ?_
 refine AA.own 1 6 1 (AM []) rfl ?_
 change AA _ _ (SG e l [] 0)
 refine Bh Al Am (fun g st=>∃ (k:Nat) (out:List Int),k<=l.length/\g=l.length - k/\out.length<=k/\Jg (AX e) out (l.drop k)=BM e l/\st=SG e l out k) (by kernel_rfl) (by kernel_rfl) ⟨_,Up.of ⟨0,[],Alc _,rfl,Alc _,rfl,rfl⟩⟩ ?_
 rintro g st ⟨k,out,hk,rfl,ho,hq,rfl⟩
 refine Alu (AaE hs' r e l out k _) ⟨fun hlt=>?_,fun hge=>?_⟩
 ·have hlt':k<l.length:=by have:=AV hlt;omega
  have hto:(k:Int).toNat=k:=by omega
  rw[hto]
  rw[B8 (d:=0) hlt',NH]at hq
  refine⟨⟨by omega,by omega⟩,AX e (l.getD k 0),hev _ (Av hlt'),fun he=>?_,fun he=>⟨by omega,l.length - (k+1),by omega,Up.mk (hs':=[.box (Bl e),.arr true 0 (out.length+1) 1 (AM (out++[(AX e (l.getD k 0)).1]))]) (AO _) ⟨Ob.le_refl _,AlM fun i hi=>AQ (B6 (f:=fun n=>[Aa n]) (d:=0) (l:=out) (r:=[(AX e (l.getD k 0)).1]) (F:=fun i=>[.sc (.int .i64 (out.getD i 0))]) (fun _ _=>rfl) Hk (by simp;omega)),trivial⟩ ⟨k+1,out++[(AX e (l.getD k 0)).1],by omega,rfl,by simp;omega,?_,?_⟩⟩⟩
  ·rw[show decide ((AX e (l.getD k 0)).2≠0)=true by simpa using he,Ak4]at hq
   exact h1 _ hq.symm (by simpa using he)
  ·rw[show decide ((AX e (l.getD k 0)).2≠0)=false by simpa using he,Ak0]at hq
   exact hq
  ·rw[An (by omega)]
   unfold SG
   rw[Alh]<;>rfl
 ·have hge':l.length<=k:=by have:=A0 hge;omega
  rw[AlK hge']at hq
  exact h2 out hq.symm
theorem MO {l:List Int}(hev:∀ x∈l,Ai Tryz.prog 61 [] [.agg (Bl e),Aa x] [] (vII (AX e x)))(hl:l.length<=1048576) :
  Ai Tryz.prog 122 [] [.agg (Bl e),Ad true l] [.arr true 0 (BM e l).1.length 1 (AM (BM e l).1)] (.tup [.ow 0 0 (BM e l).1.length,Aa (BM e l).2]):=by
 rcases hq:BM e l with⟨out,er⟩
 by_cases he:er=0
 ·subst he
  refine TX hev hl (fun er' h h'=>?_) fun out' h=>?_
  ·rw[hq]at h;exact absurd (congrArg Prod.snd h).symm h'
  ·rw[hq]at h
   obtain rfl:out=out':=congrArg Prod.fst h
   exact⟨⟨Ob.le_refl _,trivial⟩,VV.le_refl _⟩
 ·have hout:out=[]:=by
   have key:∀ (l:List Int) (o:List Int),(Jg (AX e) o l).2≠0->(Jg (AX e) o l).1=[]:=by
    intro l
    induction l with
    | nil=>intro o h;exact absurd rfl h
    | cons x l ih =>
     intro o h
     rw[NH]at h ⊢
     cases c:decide ((AX e x).2≠0) with
     | true=>rfl
     | false=>rw[c,Ak0]at h;exact ih _ h
   have:=key l [] (by have:Jg (AX e) [] l=(out,er):=hq;rw[this];exact he)
   have e2:Jg (AX e) [] l=(out,er):=hq
   rw[e2]at this;exact this
  subst hout
  have h:=TX (hs':=[]) (r:=.tup [.nl,Aa er]) hev hl (fun er' h h'=>?_) fun out' h=>?_
  ·exact h.ownR 0 rfl 1 (AM [])
  ·rw[hq]at h
   obtain rfl:er=er':=congrArg Prod.snd h
   exact⟨trivial,VV.le_refl _⟩
  ·rw[hq]at h;exact absurd (congrArg Prod.snd h) he
end
theorem BK {x:VV}(hx:x.mem=true):Pr x x:=fun _ E _ h B =>
 (h.mem (E':=⟨E.fz,B,0,[]⟩) (m':=none) hx rfl).less (fun _ h=>h.elim) fun _ h=>h
theorem MT : ∀ {l:List VV},l.all VV.mem=true->Ps l l
 | [],_=>trivial
 | x::l,h=>by
  simp only[AmV,Ak2]at h
  exact⟨BK h.1,MT h.2⟩
theorem LS {e:D.Env}:Pr (.agg (Bl e)) (.agg (Af e)) :=
 Uj ⟨BK rfl,BK rfl,BK rfl,BK rfl,BK rfl,BK rfl,BK rfl,BK rfl,Y2 fun _ _=>MT rfl,Y2 fun _ _=>MT rfl,BK rfl,BK rfl,BK rfl,BK rfl,BK rfl,BK rfl,trivial⟩
theorem Ahn {e:D.Env}:leS (.agg (Af e)) (.agg (Bl e)):=by
 refine ZL rfl fun j x y hx hy=>?_
 rcases AlL j 16 with hj | hj
 ·rcases(show j=0∨j=1∨j=2∨j=3∨j=4∨j=5∨j=6∨j=7∨j=8∨j=9∨j=10∨j=11∨j=12∨j=13∨j=14∨j=15 by omega) with rfl | rfl | rfl | rfl | rfl | rfl | rfl | rfl | rfl | rfl | rfl | rfl | rfl | rfl | rfl | rfl <;>
   (obtain rfl:=Ali hx;obtain rfl:=Ali hy;first | exact Dt _ | exact Qd)
 ·rw[Amj (by show(16:Nat)<=j;exact hj)]at hx;cases hx
section
variable {e : D.Env}
theorem Qn (hw:Ay e.M)(hs:A7 e.S)(x:Int):Ai Tryz.prog 61 [] [.agg (Bl e),Aa x] [] (vII (AX e x)) :=
 (GZ hw hs x).thaw (M4 fun x hx=>by
  simp only[AlQ,List.not_mem_nil,or_false]at hx
  rcases hx with rfl | rfl<;>exact PW) ⟨LS,Y3,trivial⟩
theorem Ajx (hw:Ay e.M)(hs:A7 e.S)(x:Int):Ai Tryz.prog 183 [] [.agg (Bl e),Aa x] [] (vII (AC e x)) :=
 (IU hw hs x).thaw (M4 fun x hx=>by
  simp only[AlQ,List.not_mem_nil,or_false]at hx
  rcases hx with rfl | rfl<;>exact PW) ⟨LS,Y3,trivial⟩
theorem Vr (t:D.Type)(v:Int):Ai Tryz.prog 37 [] [.agg (Dx t),Aa v] [] (Aa (IR t v)):=by
 refine Ai.hand ⟨_,Tryz.func37,rfl,by kernel_rfl⟩ fun w E vs hA hL hB _ hs0=>?_
 obtain⟨u1,us1,rfl,v1,hs0⟩:=hs0.cons_inv
 obtain⟨u2,us2,rfl,v2,hs0⟩:=hs0.cons_inv
 obtain rfl:=hs0.nil_inv
 obtain⟨a,b,rfl,va,vb⟩:=v1.agg2_inv
 rw[va.sc_inv,vb.sc_inv,v2.sc_inv]
 refine(Agl t.Bits v t.Signed w).mono ?_
 rintro r w' ⟨rfl,hb⟩
 exact⟨_,rfl,.sc,hb⟩
structure AhY (e:D.Env) (n:Int):Prop where
 ok:BY e
 lo:1<=n
 hi:n<=e.S.Chans.length
 le:e.S.Chans.length<=32
 sh:0<=(Cl e n).Shape/\(Cl e n).Shape<e.M.Shapes.length
 q:(Cl e n).Queue.length<=16
theorem JO (hw:Ay e.M){x:Int}(h:(AC e x).2=0):AhY e (AC e x).1:=by
 unfold AC at h ⊢
 cases c:decide (CD e x≠0) with
 | true=>rw[c,Ak4]at h;exact absurd h (Ak9 c)
 | false =>
  rw[c,Ak0]at h
  rw[Ak0]
  obtain⟨hE,_,_⟩:=IT (x:=x) hw (by simpa using c)
  have hn:=TA hE (a:=x) (by simpa using h)
  generalize (DF e (Sc e e.M.Exprs.length) x).1=n at hn ⊢
  have hm:Cl e n∈e.S.Chans:=Av (by omega)
  exact⟨hE,hn.1,hn.2.1,hn.2.2,(FE (hE.chan hm)).1,(hE.fit.q _ hm).1⟩
theorem Ge {a b:Nat}:((a:Int) != (b:Int))=decide (a≠b):=by
 rw[Alq,bne_iff_ne,Ak5];omega
theorem Akr {a c:Int}{l:List Int}{r:Int × List Int × Int}(h:(a,l,c)=r):leO [] []/\VV.le (.tup [.sc (.int .i64 a),Ad true l,.sc (.int .i64 c)]) (.tup [.sc (.int .i64 r.1),Ad true r.2.1,.sc (.int .i64 r.2.2)]):=by
 subst h;exact⟨trivial,VV.le_refl _⟩
theorem X2 {a c:Int}{r:Int × List Int × Int}(h:(a,[],c)=r):leO [] []/\VV.le (.tup [.sc (.int .i64 a),.nl,.sc (.int .i64 c)]) (.tup [.sc (.int .i64 r.1),Ad true r.2.1,.sc (.int .i64 r.2.2)]):=by
 subst h;exact⟨trivial,Amx ⟨VV.le_refl _,AlR,VV.le_refl _,trivial⟩⟩
theorem QM {l:List Int}(h:(BM e l).2=0):(BM e l).1.length=l.length:=by
 have key:∀ (l o:List Int),(Jg (AX e) o l).2=0->(Jg (AX e) o l).1.length=o.length+l.length:=by
  intro l
  induction l with
  | nil=>intro o _;rfl
  | cons x l ih =>
   intro o h
   rw[NH]at h ⊢
   cases c:decide ((AX e x).2≠0) with
   | true=>rw[c,Ak4]at h;exact absurd h (Ak9 c)
   | false =>
    rw[c,Ak0]at h
    rw[Ak0,ih _ h];simp;omega
 have:=key l [] h
 simpa[BM] using this
def JM (f:List D.Type)(l:List Int)(k:Nat):List Int:=(List.range l.length).map fun i=>if i<k then IR (f.getD i default) (l.getD i 0) else l.getD i 0
theorem KA {f:List D.Type}{l:List Int}{k:Nat}:(JM f l k).length=l.length:=by simp[JM]
theorem KC {f:List D.Type}{l:List Int}{k i:Nat}(hi:i<l.length):(JM f l k).getD i 0=if i<k then IR (f.getD i default) (l.getD i 0) else l.getD i 0:=by simp[JM,List.getD,hi]
theorem Yk {f:List D.Type}{l:List Int}:JM f l 0=l:=by
 apply List.ext_getElem (by simp[JM])
 intro i h1 h2
 simp[JM,List.getD,h2]
theorem AcS {f:List D.Type}{l:List Int}:JM f l l.length=Oc f l:=by
 unfold JM Oc
 apply Amg
 intro i hi
 rw[Alw (AlP.1 hi)]
theorem O0 {s:D.Stmt}(hw:Ay e.M)(hs:A7 e.S)(hl:s.Args.length<=1048576) :
  Ai Tryz.prog 162 [] [.agg (Bl e),.agg (Ap s)] [] (.tup [Aa (Az e s).1,Ad true (Az e s).2.1,Aa (Az e s).2.2]):=by
 have hq:Az e s=bif decide ((AC e s.A).2≠0) then(0,[],(AC e s.A).2)
  else bif decide ((Bb e (AC e s.A).1).length≠s.Args.length) then(0,[],49)
  else bif decide ((BM e s.Args).2≠0) then(0,[],(BM e s.Args).2)
  else((AC e s.A).1,Oc (Bb e (AC e s.A).1) (BM e s.Args).1,0):=rfl
 generalize Az e s=r at hq
 refine Ah Al Am Tryz.func162 (by kernel_rfl) rfl (Adw r e s) ⟨AC e s.A,Ajx hw hs s.A,fun h=>X2 ?_,fun h=>?_⟩
 ·rw[hq,show decide ((AC e s.A).2≠0)=true by simpa using h]<;>rfl
 have h0:(AC e s.A).2=0:=by simpa using h
 rw[h0]at hq
 have hc:=JO hw h0
 generalize (AC e s.A).1=n at hc hq ⊢
 have h1:=hc.lo
 have h2:=hc.hi
 have h3:=hc.le
 rw[Bt (by omega) (by omega)]
 refine⟨by omega,hc.sh,fun hf=>X2 ?_,fun hf=>⟨BM e s.Args,MO (fun x _=>Qn hw hs x) hl,fun ha=>X2 ?_,fun ha=>?_⟩⟩
 ·rw[Ge]at hf
  rw[hq]
  have:decide ((Bb e n).length≠s.Args.length)=true:=hf
  rw[this]<;>rfl
 ·rw[Ge]at hf
  rw[hq,show decide ((Bb e n).length≠s.Args.length)=false from hf,show decide ((BM e s.Args).2≠0)=true by simpa using ha]<;>rfl
 rw[Ge]at hf
 have ha0:(BM e s.Args).2=0:=by simpa using ha
 have hlen:=QM ha0
 rw[show decide ((Bb e n).length≠s.Args.length)=false from hf,ha0]at hq
 have hfl:(Bb e n).length=s.Args.length:=Classical.not_not.1 (Alk hf)
 change AA _ _ (Aq [(7,Aa n),(9,AJ true (Bb e n)),(10,.ow 0 0 (BM e s.Args).1.length),(53,.ow 0 0 (BM e s.Args).1.length),(54,Aa (BM e s.Args).1.length),(55,Aa 0)] [.arr true 0 (BM e s.Args).1.length 1 (AM (BM e s.Args).1)])
 generalize Bb e n=f at hq hfl ⊢
 generalize (BM e s.Args).1=l at hq hlen ⊢
 change r=(n,Oc f l,0) at hq
 refine Bh Al Am (fun g st=>∃ k:Nat,k<=l.length/\g=l.length - k/\st=PB n f (JM f l k) k) (by kernel_rfl) (by kernel_rfl) ⟨_,Up.of ⟨0,Alc _,rfl,by unfold PB;rw[Yk]<;>rfl⟩⟩ ?_
 rintro g st ⟨k,hk,rfl,rfl⟩
 refine Alu (Aas r n f _ k _) ⟨fun hlt=>?_,fun hge=>Akr ?_⟩
 ·rw[KA]at hlt
  have hlt':k<l.length:=by have:=AV hlt;omega
  have hto:(k:Int).toNat=k:=by omega
  rw[hto,KA,KC hlt',Alg (Am8 _)]
  refine⟨by omega,by omega,IR (f.getD k default) (l.getD k 0),Vr _ _,by omega,l.length - (k+1),by omega,Up.mk (hs':=[.arr true 0 l.length 1 (AM (JM f l (k+1)))]) (AO _) ⟨AlM fun i hi=>AQ ?_,trivial⟩ ⟨k+1,by omega,rfl,?_⟩⟩
  ·by_cases hik:i=k
   ·subst hik
    simp only[Ami,Ak4]
    unfold AM
    rw[KC hlt',Alw (Al2 _)]<;>rfl
   ·have hb:Nat.beq i k=false:=by
     cases hq:Nat.beq i k with
     | true=>exact absurd (Ak7 hq) hik
     | false=>rfl
    simp only[hb,Ak0]
    unfold AM
    rw[KC hi,KC hi]
    by_cases h:i<k
    ·rw[Alw h,Alw (by omega)]<;>rfl
    ·rw[Alg h,Alg (by omega)]<;>rfl
  ·rw[An (by omega)]
   unfold PB
   rw[KA]<;>rfl
 ·rw[KA]at hge
  have hge':k=l.length:=by have:=A0 hge;omega
  subst hge'
  rw[AcS,hq]
theorem Aar {s:D.Stmt}(hw:Ay e.M)(hs:A7 e.S)(hl:s.Args.length<=1048576) :
  Ai Tryz.prog 162 [] [.agg (Af e),.agg (Ap s)] [] (.tup [Aa (Az e s).1,Ad true (Az e s).2.1,Aa (Az e s).2.2]) :=
 (O0 hw hs hl).frz rfl fun j x y hx hy=>by
  match j,hx,hy with
  | 0,hx,hy=>obtain rfl:=Ali hx;obtain rfl:=Ali hy;exact Ahn
  | 1,hx,hy=>obtain rfl:=Ali hx;obtain rfl:=Ali hy;exact Dt _
  | j+2,hx,_=>simp at hx
end
theorem Aks {c:Int}{l:List Int}{r:List Int × Int}(h:(l,c)=r):leO [] []/\VV.le (.tup [Ad true l,.sc (.int .i64 c)]) (.tup [Ad true r.1,.sc (.int .i64 r.2)]):=by
 subst h;exact⟨trivial,VV.le_refl _⟩
theorem Ajh {c:Int}{r:List Int × Int}(h:([],c)=r):leO [] []/\VV.le (.tup [.nl,.sc (.int .i64 c)]) (.tup [Ad true r.1,.sc (.int .i64 r.2)]):=by
 subst h;exact⟨trivial,Amx ⟨AlR,VV.le_refl _,trivial⟩⟩
section
variable {e : D.Env}
theorem NK {s:D.Stmt}(hw:Ay e.M)(hs:A7 e.S)(hl:s.Args.length<=1048576)(hm:s.Match.length=s.Args.length) :
  Ai Tryz.prog 189 [] [.agg (Af e),.agg (Ap s)] [] (.tup [Ad true (CZ e s).1,Aa (CZ e s).2]):=by
 have hq:CZ e s=bif decide (EP (AX e) s.Args s.Match s.Args.length≠0) then([],EP (AX e) s.Args s.Match s.Args.length) else(MR (AX e) s.Args s.Match,0):=rfl
 generalize CZ e s=r at hq
 generalize hev:AX e=ev at hq
 have hS:∀ x,Ai Tryz.prog 61 [] [.agg (Af e),Aa x] [] (vII (ev x)):=fun x=>by rw[← hev];exact GZ hw hs x
 refine Ah Al Am Tryz.func189 (by kernel_rfl) rfl (Wb r e s) ⟨⟨by omega,by omega,by omega⟩,?_⟩
 refine Bh Al Am (fun gg st=>∃ k:Nat,k<=s.Args.length/\gg=s.Args.length - k/\(∀ i,i<k->(El ev (s.Args.getD i 0) (s.Match.getD i 0)).2=0)/\st=Pz e s (BZ ev s.Args s.Match k) k) (by kernel_rfl) (by kernel_rfl)
  ⟨s.Args.length,Up.mk (l':=[(2,.bp 0 0),(3,.bp 1 0),(6,.ow 2 0 (BZ ev s.Args s.Match 0).length),(16,Ad true s.Args),(17,Aa s.Args.length),(18,Aa ((0:Nat):Int))])
   (hs':=[.box (Af e),.box (Ap s),.arr true 0 (BZ ev s.Args s.Match 0).length 1 (AM (BZ ev s.Args s.Match 0))]) ?_ ?_ ⟨0,Alc _,rfl,fun i hi=>by omega,rfl⟩⟩ ?_
 ·rw[Ce];exact AO _
 ·rw[Ce]
  refine⟨Ob.le_refl _,Ob.le_refl _,AlM fun i hi=>AQ ?_,trivial⟩
  have hz:AM (BZ ev s.Args s.Match 0) i=[Aa 0]:=by
   unfold AM
   rw[Fk (by omega),Alg (Amq _)]
  refine Eq.trans ?_ hz.symm
  rfl
 ·rintro gg st ⟨k,hk,rfl,hI,rfl⟩
  refine Alu (TL r e s _ k _) ⟨fun hlt=>?_,fun hge=>Aks ?_⟩
  ·have hlt':k<s.Args.length:=by have:=AV hlt;omega
   have hto:(k:Int).toNat=k:=by omega
   rw[hto]
   refine⟨by omega,by omega,fun hy=>?_,fun hy=>⟨ev (s.Args.getD k 0),hS _,fun hz=>Ajh ?_,fun hz=>⟨by rw[Ce];omega,?_⟩⟩⟩
   ·rw[AH]at hy
    have h1:=Ak9 hy
    have hv:El ev (s.Args.getD k 0) (s.Match.getD k 0)=(0,0):=by unfold El;rw[AlI h1]<;>rfl
    have e1:BZ ev s.Args s.Match k=BZ ev s.Args s.Match (k+1):=by
     unfold BZ
     apply Amg
     intro i _
     by_cases hik:i=k
     ·subst hik;rw[Alg (Am8 _),Alw (Al2 _),hv]
     ·by_cases hlt2:i<k
      ·rw[Alw hlt2,Alw (by omega)]
      ·rw[Alg hlt2,Alg (by omega)]
    rw[e1,An (by omega)]
    exact⟨s.Args.length - (k+1),by omega,Up.of ⟨k+1,by omega,rfl,FM hI (by rw[hv]),rfl⟩⟩
   ·have hm1:decide (s.Match.getD k 0=1)=true:=by rw[AH]at hy;simpa using hy
    have hv:El ev (s.Args.getD k 0) (s.Match.getD k 0)=ev (s.Args.getD k 0):=by unfold El;rw[hm1]<;>rfl
    have hnz:(El ev (s.Args.getD k 0) (s.Match.getD k 0)).2≠0:=by rw[hv];simpa using hz
    have he:EP ev s.Args s.Match s.Args.length=(ev (s.Args.getD k 0)).2:=by
     unfold EP
     rw[Qm (f:=fun i=>(El ev (s.Args.getD i 0) (s.Match.getD i 0)).2) hI hnz hlt',hv]
    rw[hq,he]
    exact ct (by simpa using hz) rfl
   ·have hm1:decide (s.Match.getD k 0=1)=true:=by rw[AH]at hy;simpa using hy
    have hv:El ev (s.Args.getD k 0) (s.Match.getD k 0)=ev (s.Args.getD k 0):=by unfold El;rw[hm1]<;>rfl
    have h2:(ev (s.Args.getD k 0)).2=0:=by simpa using hz
    rw[An (by omega)]
    refine⟨s.Args.length - (k+1),by omega,Up.mk (l':=[(2,.bp 0 0),(3,.bp 1 0),(6,.ow 2 0 (BZ ev s.Args s.Match (k+1)).length),(16,Ad true s.Args),(17,Aa s.Args.length),(18,Aa ((k+1:Nat):Int))])
     (hs':=[.box (Af e),.box (Ap s),.arr true 0 (BZ ev s.Args s.Match (k+1)).length 1 (AM (BZ ev s.Args s.Match (k+1)))]) ?_ ?_ ⟨k+1,by omega,rfl,FM hI (by rw[hv];exact h2),rfl⟩⟩
    ·rw[Ce,Ce];exact AO _
    ·rw[Ce,Ce]
     refine⟨Ob.le_refl _,Ob.le_refl _,AlM fun i hi=>AQ ?_,trivial⟩
     show(bif i.beq k then[Aa (ev (s.Args.getD k 0)).1] else[Aa ((BZ ev s.Args s.Match k).getD i 0)])=[Aa ((BZ ev s.Args s.Match (k+1)).getD i 0)]
     rw[Fk hi,Fk hi]
     cases hq:i.beq k with
     | true =>
      have:=Ak7 hq;subst this
      rw[Ak4,Alw (Al2 _),hv]
     | false =>
      have:i≠k:=Nat.ne_of_beq_eq_false hq
      rw[Ak0]
      by_cases hlt2:i<k
      ·rw[Alw hlt2,Alw (by omega)]
      ·rw[Alg hlt2,Alg (by omega)]
  ·obtain rfl:k=s.Args.length:=by have:=A0 hge;omega
   have he:EP ev s.Args s.Match s.Args.length=0:=KE hI
   rw[hq,he,Pb]<;>rfl
theorem Vu {c:D.Chan}{l mt:List Int}{any:Bool}(hc:Len c.Queue.length)(hm:Len mt.length):Ai Tryz.prog 172 [] [.agg (AB c),Ad true l,Ad true mt,Ac any] [] (Aa (JN c l mt any)) :=
 (R5 hc hm).frz rfl fun j x y hx hy=>by
  match j,hx,hy with
  | 0,hx,hy=>obtain rfl:=Ali hx;obtain rfl:=Ali hy;exact Dt _
  | 1,hx,hy=>obtain rfl:=Ali hx;obtain rfl:=Ali hy;exact Qd
  | 2,hx,hy=>obtain rfl:=Ali hx;obtain rfl:=Ali hy;exact Dt _
  | 3,hx,hy=>obtain rfl:=Ali hx;obtain rfl:=Ali hy;exact Dt _
  | j+4,hx,_=>simp at hx
theorem NM {s:D.Stmt}(hw:Ay e.M)(hs:A7 e.S)(hl:s.Args.length<=1048576)(hm:s.Match.length=s.Args.length) :
  Ai Tryz.prog 165 [] [.agg (Af e),.agg (Ap s)] [] (LR (A9 e s)):=by
 have hq:A9 e s=bif decide ((AC e s.A).2≠0) then(0,-1,(AC e s.A).2)
  else bif decide ((Bb e (AC e s.A).1).length≠s.Args.length) then(0,-1,49)
  else bif decide ((CZ e s).2≠0) then(0,-1,(CZ e s).2)
  else((AC e s.A).1,JN (Cl e (AC e s.A).1) (CZ e s).1 s.Match (decide (s.N.tmod 2=1)),0):=rfl
 generalize A9 e s=r at hq
 refine Ah Al Am Tryz.func165 (by kernel_rfl) rfl (Wt r e s) ⟨AC e s.A,IU hw hs s.A,fun h=>Mu ?_,fun h=>?_⟩
 ·rw[hq,show decide ((AC e s.A).2≠0)=true by simpa using h]<;>rfl
 have h0:(AC e s.A).2=0:=by simpa using h
 rw[h0]at hq
 have hc:=JO hw h0
 generalize (AC e s.A).1=n at hc hq ⊢
 have h1:=hc.lo
 have h2:=hc.hi
 have h3:=hc.le
 have h4:=hc.q
 rw[Bt (by omega) (by omega)]
 refine⟨by omega,hc.sh,fun hf=>Mu ?_,fun hf=>⟨CZ e s,NK hw hs hl hm,fun ha=>Mu ?_,fun ha=>⟨by omega,by decide,JN (Cl e n) (CZ e s).1 s.Match (s.N.tmod 2==1),Vu (c:=Cl e n) (by unfold Len;omega) (by unfold Len;omega),Mu ?_⟩⟩⟩
 ·rw[Ge]at hf
  rw[hq,show decide ((Bb e n).length≠s.Args.length)=true from hf]<;>rfl
 ·rw[Ge]at hf
  rw[hq,show decide ((Bb e n).length≠s.Args.length)=false from hf,show decide ((CZ e s).2≠0)=true by simpa using ha]<;>rfl
 ·rw[Ge]at hf
  rw[hq,show decide ((Bb e n).length≠s.Args.length)=false from hf,show decide ((CZ e s).2≠0)=false by simpa using ha,ieq]<;>rfl
theorem Agc {s:D.Stmt}(hw:Ay e.M)(hs:A7 e.S)(hl:s.Args.length<=1048576)(hm:s.Match.length=s.Args.length) :
  Ai Tryz.prog 165 [] [.agg (Bl e),.agg (Ap s)] [] (LR (A9 e s)) :=
 (NM hw hs hl hm).thaw (M4 fun x hx=>by
  simp only[AlQ,List.not_mem_nil,or_false]at hx
  rcases hx with rfl | rfl | rfl<;>exact PW) ⟨LS,Uj ⟨BK rfl,BK rfl,BK rfl,BK rfl,BK rfl,BK rfl,BK rfl,trivial⟩,trivial⟩
theorem TM {s:D.Stmt}{c:Int}{m:List Int}(hw:Ay e.M)(hs:A7 e.S)(hl:s.Args.length<=1048576)(hm:s.Kind=6->s.Match.length=s.Args.length) :
  Ai Tryz.prog 202 [] [.agg (Af e),.agg (Ap s),Aa c,Ad true m] [] (Ac (GJ e s c m)):=by
 have hq:GJ e s c m=bif decide (s.Kind≠6)||(decide (1<s.N)||decide (s.Args.length≠m.length)) then false
  else bif decide ((AC e s.A).2≠0)||decide ((AC e s.A).1≠c) then false
  else bif decide ((CZ e s).2≠0) then false else decide (JN ⟨0,[m]⟩ (CZ e s).1 s.Match false=0):=rfl
 generalize GJ e s c m=b at hq
 have e1:(bif bif s.Kind != (6:Int) then true else decide (s.N > (1:Int)) then true else(s.Args.length:Int) != (m.length:Int))=(decide (s.Kind≠6)||(decide (1<s.N)||decide (s.Args.length≠m.length))):=by
  rw[A3,A3,AH,Ge,Amb]
 refine Ah Al Am Tryz.func202 (by kernel_rfl) rfl (Wd b e s c m) ⟨fun h=>AG ?_,fun h=>⟨AC e s.A,IU hw hs s.A,fun h2=>AG ?_,fun h2=>?_⟩⟩
 ·rw[e1]at h;rw[hq,h]<;>rfl
 ·rw[e1]at h
  rw[A3,AH,AH]at h2
  rw[hq,h,h2]<;>rfl
 ·rw[e1]at h
  rw[A3,AH,AH]at h2
  have hk:s.Kind=6:=by
   simp only[Aln,AlB,Classical.not_not]at h
   exact h.1
  have hmm:=hm hk
  refine⟨CZ e s,NK hw hs hl hmm,JN ⟨0,[m]⟩ (CZ e s).1 s.Match false,fun _=>?_,AG ?_⟩
  ·have hf:=Vu (c:=⟨0,[m]⟩) (l:=(CZ e s).1) (mt:=s.Match) (any:=false) (by unfold Len;simp) (by unfold Len;omega)
   refine hf.le trivial ⟨Aml ⟨VV.le_refl _,AmE (.inl rfl) fun i hi=>AQ ?_,trivial⟩,VV.le_refl _,VV.le_refl _,VV.le_refl _,trivial⟩ trivial (VV.le_refl _)
   obtain rfl:i=0:=by omega
   rfl
  ·rw[hq,h,h2,ieq,ieq]
   by_cases h3:(CZ e s).2=0
   ·simp[h3]
   ·simp[h3]
theorem OX (h:CK e):Ai Tryz.prog 89 [] [.agg (Af e)] [] (.tup [Ac (Bk e).1,Aa (Bk e).2]):=by
 have hq:Bk e=bif decide ((DZ e).Provided<0) then(true,0) else(decide ((AX e (DZ e).Provided).1≠0),(AX e (DZ e).Provided).2):=rfl
 generalize Bk e=r at hq
 refine Ah Al Am Tryz.func89 (by kernel_rfl) rfl (Aam r e) ⟨DZ e,OY h,fun h1=>⟨trivial,?_⟩,fun h1=>⟨AX e (DZ e).Provided,GZ h.ok.wf h.small _,trivial,?_⟩⟩
 ·rw[hq,h1];exact VV.le_refl _
 ·rw[hq,h1,AH];exact VV.le_refl _
end
theorem NP {n:Nat}:∀ {ws:List (List D.Trans)} {many k many':Nat},Iz n many k ws=some many'->∀ w∈ws,w.length<=1024/\∀ t∈w,inP n t.To=true
 | [],_,_,_,_,w,hw=>by cases hw
 | v::r,many,k,many',h,w,hw=>by
  unfold Iz at h
  cases c1:(decide (0<k)&&decide (v.length=0)) with
  | true=>rw[c1,Ak4]at h;cases h
  | false =>
  cases c2:decide (1024<many+v.length) with
  | true=>rw[c1,c2,Ak0,Ak4]at h;cases h
  | false =>
  cases c3:Ed v.length (fun i=>inP n (v.getD i default).To) with
  | false=>rw[c1,c2,c3,Ak0,Ak0,Ak0]at h;cases h
  | true =>
   rw[c1,c2,c3,Ak0,Ak0,Ak4]at h
   rcases AlQ.1 hw with rfl | hw
   ·have:=Alk c2
    exact⟨by omega,(Ck (d:=default) (f:=fun t:D.Trans=>inP n t.To)).1 c3⟩
   ·exact NP h w hw
theorem Qa {n:Nat}{final:Int}:∀ {ls:List D.Loc} {many i:Nat},JF n final many i ls=true->∀ l∈ls,∀ w∈DL l,w.length<=1024/\∀ t∈w,inP n t.To=true
 | [],_,_,_,l,hl,_,_=>by cases hl
 | v::r,many,i,h,l,hl,w,hw=>by
  unfold JF at h
  cases c1:Tg final i v with
  | true=>rw[c1,Ak4]at h;cases h
  | false =>
   rw[c1,Ak0]at h
   cases c2:Iz n many 0 (DL v) with
   | none=>rw[c2]at h;cases h
   | some many' =>
    rw[c2]at h
    rcases AlQ.1 hl with rfl | hl
    ·exact NP c2 w hw
    ·exact Qa h l hl w hw
theorem Qh {p:D.Proc}(h:EB p=true):∀ l∈p.Locs,∀ w∈DL l,w.length<=1024/\∀ t∈w,inP p.Locs.length t.To=true:=by
 unfold EB at h
 simp only[Ak2]at h
 exact Qa h.2
theorem AeS {m:D.Model}(h:Dq m=true)(i:Nat)(hi:i<m.Procs.length):DQ m i=true:=by
 obtain⟨_,_,h3⟩:=Cy h
 exact G5 (f:=fun i:Nat=>DQ m i) (by unfold JB at h3;omega) i hi
theorem AdI {m:D.Model}(h:Dq m=true){i:Nat}(hi:i<m.Procs.length){l:D.Loc}(hl:l∈(m.Procs.getD i default).Locs){w:List D.Trans}(hw:w∈DL l){t:D.Trans}(ht:t∈w):MQ m i t.S=true:=by
 have h1:=AeS h i hi
 unfold DQ at h1
 simp only[Ak2]at h1
 have h2:=(Ck (d:=default) (f:=fun l:D.Loc=>Tf m i l)).1 h1.1 l hl
 unfold Tf at h2
 have h3:=(Ck (d:=[]) (f:=fun w=>Lb m i w)).1 h2 w hw
 unfold Lb at h3
 exact(Ck (d:=default) (f:=fun t:D.Trans=>MQ m i t.S)).1 h3 t ht
structure Gm (m:D.Model) (s:D.Stmt):Prop where
 st:AL m s=true
 wf:Sr s
theorem Gm.args {m:D.Model}{s:D.Stmt}(h:Gm m s):s.Args.length<=1048576:=h.wf.Args.1
theorem Gm.k1 {m:D.Model}{s:D.Stmt}(h:Gm m s)(hk:s.Kind=1):0<=s.A/\s.A<m.Exprs.length:=by
 have:=h.st
 unfold AL at this
 rw[Alw (.inl hk)]at this
 simp only[Ak2]at this
 exact CC.1 this.1.1
theorem Gm.k2 {m:D.Model}{s:D.Stmt}(h:Gm m s)(hk:s.Kind=2):0<=s.B/\s.B<m.Exprs.length:=by
 have:=h.st
 unfold AL at this
 rw[Alg (by omega),Alw hk]at this
 simp only[Ak2]at this
 exact CC.1 this.1.2
theorem Gm.k6 {m:D.Model}{s:D.Stmt}(h:Gm m s)(hk:s.Kind=6):s.Match.length=s.Args.length:=by
 have:=h.st
 unfold AL at this
 rw[Alg (by omega),Alg (by omega),Alg (by omega),Alg (by omega),Alw hk]at this
 simp only[Ak2]at this
 have:=this.1.1.1.2
 unfold IC Cu at this
 simp only[Ak2,Ak5]at this
 exact this.1.1.1.2
structure Adp (m:D.Model) (n:Nat) (ws:List D.Trans):Prop where
 len:ws.length<=1024
 st:∀ t∈ws,Gm m t.S
 to:∀ t∈ws,inP n t.To=true
section
variable {e : D.Env}
theorem CK.ws (h:CK e){ws:List D.Trans}(hw:ws∈DL (Dl e)):Adp e.M (DZ e).Locs.length ws:=by
 have hf:=h.facts
 have hi:(DP e e.Pid).Type_.toNat<e.M.Procs.length:=by omega
 have hl:Dl e∈(DZ e).Locs:=Av (by omega)
 have hg:=Qh (DT (Cy h.ok.may).2.1 _ hi).2 _ hl _ hw
 refine⟨hg.1,fun t ht=>⟨?_,?_⟩,hg.2⟩
 ·have:=AdI h.ok.may hi hl hw ht
  unfold MQ at this
  simp only[Ak2]at this
  exact this.1.1
 ·have hwl:=h.wloc
  rcases AlQ.1 hw with rfl | hw
  ·exact(hwl.Out.2 t ht).S
  ·exact((hwl.Esc.2 _ hw).2 t ht).S
theorem Akt {b:Bool}{er:Int}{l:List Pn}{r:Ab}(h:(⟨b,er,l⟩:Ab)=r):leO [] []/\VV.le (.agg [.sc (.bool b),.sc (.int .i64 er),Cr true l]) (.agg (Bq r)):=by
 subst h;exact⟨trivial,VV.le_refl _⟩
theorem GW {b:Bool}{er:Int}{r:Ab}(h:(⟨b,er,[]⟩:Ab)=r):leO [] []/\VV.le (.agg [.sc (.bool b),.sc (.int .i64 er),.nl]) (.agg (Bq r)):=by
 subst h;exact⟨trivial,Aml ⟨VV.le_refl _,VV.le_refl _,AlR,trivial⟩⟩
abbrev MtS (e:D.Env)(mt:Int->List Int->List Pn):Prop:=∀ c m,Ai Tryz.prog 191 [] [.agg (Af e),Aa c,Ad true m] [] (Cr true (mt c m))
theorem TN {s:D.Stmt}{self:Bool}{mt:Int->List Int->List Pn}(h:CK e)(hs:Gm e.M s)(hmt:self=false->MtS e mt) :
  Ai Tryz.prog 168 [] [.agg (Af e),.agg (Ap s),Ac self] [] (.agg (Bq (II e mt s self))):=by
 have hw:=h.ok.wf
 have hsm:=h.small
 have hq:II e mt s self=bif decide ((AC e s.A).2≠0) then⟨true,(AC e s.A).2,[]⟩
  else bif decide ((Bb e (AC e s.A).1).length≠s.Args.length) then⟨true,49,[]⟩
  else bif decide (0<(BP e.M (Cl e (AC e s.A).1).Shape).Room) then⟨decide (((Cl e (AC e s.A).1).Queue.length:Int)<(BP e.M (Cl e (AC e s.A).1).Shape).Room),0,[]⟩
  else bif self then⟨false,0,[]⟩
  else bif decide ((Az e s).2.2≠0) then⟨true,(Az e s).2.2,[]⟩
  else⟨decide (0<(mt (AC e s.A).1 (Az e s).2.1).length),0,mt (AC e s.A).1 (Az e s).2.1⟩:=rfl
 generalize II e mt s self=r at hq
 refine Ah Al Am Tryz.func168 (by kernel_rfl) rfl (Wh r e s self) ⟨AC e s.A,IU hw hsm s.A,fun h1=>GW ?_,fun h1=>?_⟩
 ·rw[hq,show decide ((AC e s.A).2≠0)=true by simpa using h1]<;>rfl
 have h0:(AC e s.A).2=0:=by simpa using h1
 rw[h0]at hq
 have hc:=JO hw h0
 generalize (AC e s.A).1=n at hc hq ⊢
 have h2:=hc.lo
 have h3:=hc.hi
 have h4:=hc.le
 rw[Bt (by omega) (by omega)]
 refine⟨by omega,hc.sh,fun hf=>GW ?_,fun hf=>⟨fun hr=>GW ?_,fun hr=>⟨fun hself=>GW ?_,fun hself=>⟨Az e s,Aar hw hsm hs.args,fun ha=>GW ?_,fun ha=>⟨mt n (Az e s).2.1,hmt hself _ _,Akt ?_⟩⟩⟩⟩⟩
 ·rw[Ge]at hf
  rw[hq,show decide ((Bb e n).length≠s.Args.length)=true from hf]<;>rfl
 ·rw[Ge]at hf
  rw[hq,show decide ((Bb e n).length≠s.Args.length)=false from hf,show decide (0<(BP e.M (Cl e n).Shape).Room)=true from hr]<;>rfl
 ·rw[Ge]at hf
  rw[hq,show decide ((Bb e n).length≠s.Args.length)=false from hf,show decide (0<(BP e.M (Cl e n).Shape).Room)=false from hr,hself]<;>rfl
 ·rw[Ge]at hf
  rw[hq,show decide ((Bb e n).length≠s.Args.length)=false from hf,show decide (0<(BP e.M (Cl e n).Shape).Room)=false from hr,hself,show decide ((Az e s).2.2≠0)=true by simpa using ha]<;>rfl
 ·rw[Ge]at hf
  rw[hq,show decide ((Bb e n).length≠s.Args.length)=false from hf,show decide (0<(BP e.M (Cl e n).Shape).Room)=false from hr,hself,show decide ((Az e s).2.2≠0)=false by simpa using ha]
  show _=(⟨decide (0<(mt n (Az e s).2.1).length),0,mt n (Az e s).2.1⟩:Ab)
  have:decide (((mt n (Az e s).2.1).length:Int) > 0)=decide (0<(mt n (Az e s).2.1).length):=by rw[Alq,Ak5,Ak5];omega
  rw[this]
theorem We {s:D.Stmt}{self:Bool}{mt:Int->List Int->List Pn}(h:CK e)(hs:Gm e.M s)(hmt:self=false->MtS e mt) :
  Ai Tryz.prog 127 [] [.agg (Af e),.agg (Ap s),Ac self] [] (.agg (Bq (C9 e mt s self))):=by
 have hw:=h.ok.wf
 have hsm:=h.small
 have hq:C9 e mt s self=if s.Kind=1 then(bif DN e s.A then NR e else⟨decide ((AX e s.A).1≠0)||decide ((AX e s.A).2≠0),(AX e s.A).2,[]⟩)
  else if s.Kind=2 then(bif DN e s.B then NR e else⟨true,0,[]⟩)
  else if s.Kind=9 then⟨decide (e.S.Chans.length<32),0,[]⟩
  else if s.Kind=5 then II e mt s self
  else if s.Kind=6 then⟨decide (0<=(A9 e s).2.1)||decide ((A9 e s).2.2≠0),(A9 e s).2.2,[]⟩
  else if s.Kind=7 then⟨false,0,[]⟩ else⟨true,0,[]⟩:=rfl
 generalize C9 e mt s self=r at hq
 have lf:∀ {a:Ab},a=r->leO [] []/\VV.le (.agg (Bq a)) (.agg (Bq r)):=fun h=>by subst h;exact⟨trivial,VV.le_refl _⟩
 refine Ah Al Am Tryz.func127 (by kernel_rfl) rfl (Aae r e s self) ⟨fun k1=>⟨DN e s.A,Iy fun _=>(hs.k1 (by simpa using k1)).2,fun hr=>⟨NR e,OW,lf ?_⟩,fun hr=>⟨AX e s.A,GZ hw hsm _,GW ?_⟩⟩,
  fun k1=>⟨fun k2=>⟨DN e s.B,Iy fun _=>(hs.k2 (by simpa using k2)).2,fun hr=>⟨NR e,OW,lf ?_⟩,fun hr=>GW ?_⟩,
  fun k2=>⟨fun k9=>GW ?_,fun k9=>⟨fun k5=>⟨II e mt s self,TN h hs hmt,lf ?_⟩,fun k5=>⟨fun k6=>⟨A9 e s,NM hw hsm hs.args (hs.k6 (by simpa using k6)),GW ?_⟩,fun k6=>⟨fun k7=>GW ?_,fun k7=>GW ?_⟩⟩⟩⟩⟩⟩
 ·rw[hq,Alw (by simpa using k1),hr]<;>rfl
 ·rw[hq,Alw (by simpa using k1),hr,A3,AH,AH]<;>rfl
 ·rw[hq,Alg (by simpa using k1),Alw (by simpa using k2),hr]<;>rfl
 ·rw[hq,Alg (by simpa using k1),Alw (by simpa using k2),hr]<;>rfl
 ·rw[hq,Alg (by simpa using k1),Alg (by simpa using k2),Alw (by simpa using k9)]
  have:decide ((e.S.Chans.length:Int)<32)=decide (e.S.Chans.length<32):=by rw[Alq,Ak5,Ak5];omega
  rw[this]
 ·rw[hq,Alg (by simpa using k1),Alg (by simpa using k2),Alg (by simpa using k9),Alw (by simpa using k5)]
 ·rw[hq,Alg (by simpa using k1),Alg (by simpa using k2),Alg (by simpa using k9),Alg (by simpa using k5),Alw (by simpa using k6),A3,AH]
 ·rw[hq,Alg (by simpa using k1),Alg (by simpa using k2),Alg (by simpa using k9),Alg (by simpa using k5),Alg (by simpa using k6),Alw (by simpa using k7)]
 ·rw[hq,Alg (by simpa using k1),Alg (by simpa using k2),Alg (by simpa using k9),Alg (by simpa using k5),Alg (by simpa using k6),Alg (by simpa using k7)]
end
section
variable {e : D.Env} {mt:Int->List Int->List Pn} {ws:List D.Trans} {self:Bool}
def Oe (e:D.Env)(mt:Int->List Int->List Pn)(ws:List D.Trans)(self:Bool)(k:Nat):List Ab:=(List.range ws.length).map fun i=>if i<k then C9 e mt (ws.getD i default).S self else default
def MG (e:D.Env)(mt:Int->List Int->List Pn)(ws:List D.Trans)(self:Bool)(k:Nat):List Ab:=(List.range ws.length).map fun i=>if i<k then FY e mt ws self i else C9 e mt (ws.getD i default).S self
theorem Qy {k:Nat}:(Oe e mt ws self k).length=ws.length:=by simp[Oe]
theorem JR {k:Nat}:(MG e mt ws self k).length=ws.length:=by simp[MG]
theorem MH {k i:Nat}(hi:i<ws.length):(Oe e mt ws self k).getD i default=if i<k then C9 e mt (ws.getD i default).S self else default:=by simp[Oe,List.getD,hi]
theorem Qx {k i:Nat}(hi:i<ws.length):(MG e mt ws self k).getD i default=if i<k then FY e mt ws self i else C9 e mt (ws.getD i default).S self:=by simp[MG,List.getD,hi]
theorem AfS : MG e mt ws self ws.length=Cz e mt ws self:=by
 unfold MG Cz
 apply Amg
 intro i hi
 rw[Alw (AlP.1 hi)]
theorem AfT : Oe e mt ws self ws.length=MG e mt ws self 0:=by
 unfold MG Oe
 apply Amg
 intro i hi
 rw[Alw (AlP.1 hi),Alg (Amq _)]
theorem VP : (Cz e mt ws self).length=ws.length:=by simp[Cz]
theorem AfX {i k:Nat}(h:i≠k):Nat.beq i k=false:=by
 cases hq:Nat.beq i k with
 | true=>exact absurd (Ak7 hq) h
 | false=>rfl
set_option maxRecDepth 10000 in
theorem Q9 {n:Nat}(h:CK e)(hw:Adp e.M n ws)(hmt:self=false->MtS e mt) :
  Ai Tryz.prog 92 [] [.agg (Af e),As true ws,Ac self] [] (BV true (Cz e mt ws self)):=by
 have hwl:=hw.len
 refine Ah Al Am Tryz.func92 (by kernel_rfl) rfl (Ady _ e ws self) ⟨⟨by omega,by omega,by omega⟩,?_⟩
 refine Bh Al Am (fun g st=>∃ k:Nat,k<=ws.length/\g=ws.length - k/\st=SF e ws self ws.length (Ga (Oe e mt ws self k)) (FQ e mt ws self k) k) (by kernel_rfl) (by kernel_rfl)
  ⟨ws.length,Up.mk (l':=[(1,As true ws),(2,Ac self),(3,.bp 0 0),(7,.ow 1 0 ws.length),(8,Ac false),(16,As true ws),(17,Aa ws.length),(18,Aa ((0:Nat):Int))]) (hs':=[.box (Af e),.arr true 0 ws.length 3 (Ga (Oe e mt ws self 0))]) (AO _) ⟨Ob.le_refl _,AlM fun i hi=>?_,trivial⟩ ⟨0,Alc _,rfl,rfl⟩⟩ ?_
 ·have hz:Ga (Oe e mt ws self 0) i=Bq default:=by
   unfold Ga
   rw[MH (by omega),Alg (Amq _)]
  rw[hz]
  exact⟨VV.le_refl _,VV.le_refl _,AlR,trivial⟩
 rintro g st ⟨k,hk,rfl,rfl⟩
 refine Alu (AaD _ e ws self _ _ _ k _) ⟨fun hlt=>?_,fun hge=>?_⟩
 ·have hlt':k<ws.length:=by have:=AV hlt;omega
  have hto:(k:Int).toNat=k:=by omega
  rw[hto]
  refine⟨⟨by omega,by omega⟩,C9 e mt (ws.getD k default).S self,We h (hw.st _ (Av hlt')) hmt,⟨by omega,by omega⟩,?_⟩
  refine AA.le (hs':=[.box (Af e),.arr true 0 ws.length 3 (Ga (Oe e mt ws self (k+1)))]) (AO _) ⟨Ob.le_refl _,AlM fun i hi=>AQ ?_,trivial⟩ ?_
  ·unfold Ga
   rw[MH hi,MH hi]
   by_cases hik:i=k
   ·subst hik
    rw[Alw (Al2 _),Ami,Ak4]<;>rfl
   ·rw[AfX hik,Ak0]
    by_cases h1:i<k
    ·rw[Alw h1,Alw (by omega)]
    ·rw[Alg h1,Alg (by omega)]
  ·have e0:Aq [(1,As true ws),(2,Ac self),(3,.bp 0 0),(7,.ow 1 0 ws.length),(8,Ac (FQ e mt ws self k)),(9,Aa k),(16,As true ws),(17,Aa ws.length),(18,Aa k)] [.box (Af e),.arr true 0 ws.length 3 (Ga (Oe e mt ws self (k+1)))]=SE e ws self (Oe e mt ws self (k+1)) (FQ e mt ws self k) k k:=by
    unfold SE;rw[Qy]
   refine Eq.mpr (congrArg (AA _ _) e0) ?_
   refine OR Al Am (by kernel_rfl) (AaB _ e ws self _ _ k k _) ⟨fun _=>by rw[Qy];omega,ws.length - (k+1),by omega,Up.of ⟨k+1,hlt',rfl,?_⟩⟩
   rw[An (by omega),hto,MH hlt',Alw (Al2 _),Qy]
   have:FQ e mt ws self (k+1)=bif FQ e mt ws self k then true else(C9 e mt (ws.getD k default).S self).is:=by
    rw[A3]<;>rfl
   unfold SF
   rw[this]<;>rfl
 ·obtain rfl:k=ws.length:=by have:=A0 hge;omega
  generalize hsome:FQ e mt ws self ws.length=some
  refine Bh Al Am (fun g st=>∃ k:Nat,k<=ws.length/\g=ws.length - k/\st=LY ws (MG e mt ws self k) some k) (by kernel_rfl) (by kernel_rfl) ⟨ws.length,Up.of ⟨0,Alc _,rfl,by unfold LY;rw[JR,AfT]<;>rfl⟩⟩ ?_
  rintro g st ⟨k,hk,rfl,rfl⟩
  refine Alu (AaC _ ws _ some k _) ⟨fun hlt=>?_,fun hge=>⟨trivial,?_⟩⟩
  ·have hlt':k<ws.length:=by have:=AV hlt;omega
   have hto:(k:Int).toNat=k:=by omega
   rw[hto]
   have ek:(bif (ws.getD k default).S.Kind==(7:Int) then !some else false)=(decide ((ws.getD k default).S.Kind=7)&&!(FQ e mt ws self ws.length)):=by rw[A6,ieq,hsome]
   have ea:FY e mt ws self k=bif decide ((ws.getD k default).S.Kind=7)&&!(FQ e mt ws self ws.length) then{ C9 e mt (ws.getD k default).S self with is:=true } else C9 e mt (ws.getD k default).S self:=rfl
   refine⟨⟨by omega,by omega⟩,fun hy=>⟨by rw[JR];omega,ws.length - (k+1),by omega,Up.mk (hs':=[.arr true 0 (MG e mt ws self k).length 3 (Ga (MG e mt ws self (k+1)))]) (AO _) ⟨AlM fun i hi=>AQ ?_,trivial⟩ ⟨k+1,hlt',rfl,?_⟩⟩,fun hy=>⟨ws.length - (k+1),by omega,Up.of ⟨k+1,hlt',rfl,?_⟩⟩⟩
   ·rw[ek]at hy
    rw[JR]at hi
    rw[Qx hlt',Alg (Am8 _)]
    unfold Ga
    rw[Qx hi,Qx hi]
    by_cases hik:i=k
    ·subst hik
     rw[Alw (Al2 _),Ami,Ak4,ea,hy,Ak4]<;>rfl
    ·rw[AfX hik,Ak0]
     by_cases h1:i<k
     ·rw[Alw h1,Alw (by omega)]<;>rfl
     ·rw[Alg h1,Alg (by omega)]<;>rfl
   ·rw[An (by omega)]
    unfold LY
    rw[JR,JR]<;>rfl
   ·rw[ek]at hy
    have em:MG e mt ws self k=MG e mt ws self (k+1):=by
     unfold MG
     apply Amg
     intro i _
     by_cases hik:i=k
     ·subst hik
      rw[Alg (Am8 _),Alw (Al2 _),ea,hy,Ak0]
     ·by_cases h1:i<k
      ·rw[Alw h1,Alw (by omega)]
      ·rw[Alg h1,Alg (by omega)]
    rw[An (by omega),em]<;>rfl
  ·obtain rfl:k=ws.length:=by have:=A0 hge;omega
   rw[AfS];exact VV.le_refl _
end
def Vi : Nat->List Ab->Int
 | _,[]=>-1
 | k,x::r=>bif x.is then(k:Int) else Vi (k+1) r
theorem RZ {k:Nat}{x:Ab}{r:List Ab}:Vi k (x::r)=bif x.is then(k:Int) else Vi (k+1) r:=rfl
theorem RY : ∀ {l:List Ab} {k:Nat},decide (Vi k l>=0)=isSome l
 | [],k=>by simp[Vi,isSome]
 | x::r,k=>by
  have ih:=RY (l:=r) (k:=k+1)
  unfold isSome at *
  rw[Am9,RZ]
  cases x.is with
  | true=>simp
  | false=>rw[Ak0,ih,Ana]
abbrev Ah7 : VV:=.fn (.func 204) []
theorem Wn {x:Ab}:Ai Tryz.prog 204 [] [.agg (Bq x)] [] (Ac x.is) :=
 Ah Al Am Tryz.func204 (by kernel_rfl) rfl (Aau _ x) (AG rfl)
theorem Wq {l:List Ab}(hl:l.length<=1048576):Ai Tryz.prog 206 [] [BV true l,Ah7] [] (Aa (Vi 0 l)):=by
 refine Ah Al Am Tryz.func206 (by kernel_rfl) rfl (Aaw _ l) ?_
 refine AK Al Am l.length (fun k=>Ol l k) (fun k=>Vi 0 l=Vi k (l.drop k)) (by kernel_rfl) (by kernel_rfl) rfl ?_
 intro k hk hI J next
 refine Alu (Wr _ l k J) ⟨fun hlt=>?_,fun hge=>C2 ?_⟩
 ·have hlt':k<l.length:=by have:=AV hlt;omega
  have hto:(k:Int).toNat=k:=by omega
  rw[hto]
  rw[B8 (d:=default) hlt',RZ]at hI
  refine⟨by omega,(l.getD k default).is,Wn,fun hy=>C2 ?_,fun hy=>next _ hlt' ?_ (Up.of ?_)⟩
  ·rw[hy,Ak4]at hI;exact hI.symm
  ·rw[hy,Ak0]at hI;exact hI
  ·rw[An (by omega)]<;>rfl
 ·have hge':l.length<=k:=by have:=A0 hge;omega
  rw[hI,AlK hge']<;>rfl
theorem TV {l:List Ab}(hl:l.length<=1048576):Ai Tryz.prog 203 [] [BV true l,Ah7] [] (Ac (isSome l)) :=
 Ah Al Am Tryz.func203 (by kernel_rfl) rfl (WA _ l) ⟨_,Wq hl,AG RY⟩
section
variable {e : D.Env} {c:Int} {m:List Int}
theorem RE {i:Int}:∀ {ws:List D.Trans} {k:Nat},(CN e c m i k ws).length<=ws.length
 | [],_=>Ak6 _
 | t::r,k=>by
  have:=RE (i:=i) (ws:=r) (k:=k+1)
  unfold CN
  cases GJ e t.S c m<;>simp<;>omega
theorem Xu {i:Int}{k:Nat}{t:D.Trans}{r:List D.Trans}:CN e c m i k (t::r)=(bif GJ e t.S c m then[⟨e.Pid,i,k⟩] else[])++CN e c m i (k+1) r:=rfl
theorem AiT {out:List Pn}{x:Pn}{G:Nat->List VV}(hG:G 0=Lv x){i:Nat}(hi:i<out.length+1):(bif i.blt out.length then EU out i else G (i - out.length))=EU (out++[x]) i :=
 B6 (f:=Lv) (d:=default) (l:=out) (r:=[x]) (F:=EU out) (fun _ _=>rfl) (fun j hj=>by
  obtain rfl:j=0:=by simpa using hj
  exact hG) (by simp;omega)
theorem Q7 {n:Nat}{i:Int}{ws:List D.Trans}(h:CK e)(hw:Adp e.M n ws) :
  Ai Tryz.prog 201 (hsR e c m []) [Aa i,As true ws,.bp 0 0,.bp 1 0,.bp 2 0,.bp 3 0] (hsR e c m (CN e c m i 0 ws)) (Ac (decide (0<(CN e c m i 0 ws).length)||isSome (Cz e Mp ws true))):=by
 have hwl:=hw.len
 generalize hr:CN e c m i 0 ws=r
 refine Ah Al Am Tryz.func201 (by kernel_rfl) rfl (Adu r [] _ e c m i ws) ?_
 refine Bh Al Am (fun g st=>∃ (k:Nat) (out:List Pn),k<=ws.length/\g=ws.length - k/\out.length<=k/\out++CN e c m i k (ws.drop k)=r/\st=PA e c m out i ws k) (by kernel_rfl) (by kernel_rfl) ⟨ws.length,Up.of ⟨0,[],Alc _,rfl,Alc _,hr,rfl⟩⟩ ?_
 rintro g st ⟨k,out,hk,rfl,ho,hq,rfl⟩
 refine Alu (Aal r _ e c m out i ws k _) ⟨fun hlt=>?_,fun hge=>?_⟩
 ·have hlt':k<ws.length:=by have:=AV hlt;omega
  have hto:(k:Int).toNat=k:=by omega
  rw[hto]
  rw[B8 (d:=default) hlt',Xu]at hq
  have hs:=hw.st _ (Av (d:=default) hlt')
  refine⟨⟨by omega,by omega⟩,GJ e (ws.getD k default).S c m,TM h.ok.wf h.small hs.args hs.k6,fun hy=>⟨by omega,ws.length - (k+1),by omega,
   Up.mk (hs':=[.box (Af e),.box [Aa c],.box [Ad true m],.box [.ow 4 0 (out.length+1)],.arr true 0 (out.length+1) 3 (EU (out++[Pn.mk e.Pid i k]))]) (AO _) ⟨Ob.le_refl _,Ob.le_refl _,Ob.le_refl _,Ob.le_refl _,AlM fun j hj=>AQ (AiT (x:=Pn.mk e.Pid i k) (G:=fun j=>List.take 3 (List.drop (j*3) (Lv (Pn.mk e.Pid i k)))) rfl hj),trivial⟩ ⟨k+1,out++[Pn.mk e.Pid i k],hlt',rfl,by simp;omega,?_,?_⟩⟩,fun hy=>⟨ws.length - (k+1),by omega,Up.of ⟨k+1,out,hlt',rfl,by omega,?_,?_⟩⟩⟩
  ·rw[hy,Ak4]at hq;rw[AlS];exact hq
  ·rw[An (by omega)]
   unfold PA hsR
   rw[Alh]<;>rfl
  ·rw[hy,Ak0,AmA]at hq;exact hq
  ·rw[An (by omega)]<;>rfl
 ·have hge':ws.length<=k:=by have:=A0 hge;omega
  rw[AlK hge']at hq
  have hq:out=r:=by simpa[CN] using hq
  subst hq
  refine⟨Cz e Mp ws true,fun _=>Q9 h hw (fun h=>by cases h),isSome (Cz e Mp ws true),fun _=>TV (by rw[VP];omega),⟨Ob.le_refl _,Ob.le_refl _,Ob.le_refl _,Ob.le_refl _,Ob.le_refl _,trivial⟩,Ama ?_⟩
  have:decide ((out.length:Int) > 0)=decide (0<out.length):=by rw[Alq,Ak5,Ak5];omega
  rw[A3,this]
theorem Lg {i:Int}{ws:List D.Trans}{r:List (Int × List D.Trans)}:Ia e c m ((i,ws)::r)=bif decide (0<(CN e c m i 0 ws).length)||isSome (Cz e Mp ws true) then CN e c m i 0 ws else Ia e c m r:=rfl
theorem Sp {n:Nat}{l:D.Loc}(h:CK e)(hl:l.Esc.length<=1048576)(hw:∀ ws∈DL l,Adp e.M n ws) :
  Ai Tryz.prog 90 (hsR e c m []) [.agg (AY l),AjA] (hsR e c m (Ia e c m (Fx l))) (.tup []):=by
 generalize hr:Ia e c m (Fx l)=r
 refine Ah Al Am Tryz.func90 (by kernel_rfl) rfl (TS r [] e c m l) ?_
 refine Bh Al Am (fun g st=>∃ k:Nat,k<=l.Esc.length/\g=l.Esc.length - k/\Ia e c m (VE k (l.Esc.drop k)++[(-1,l.Out)])=r/\st=Kg e c m [] l k) (by kernel_rfl) (by kernel_rfl) ⟨l.Esc.length,Up.of ⟨0,Alc _,rfl,hr,rfl⟩⟩ ?_
 rintro g st ⟨k,hk,rfl,hq,rfl⟩
 refine Alu (Sq r e c m [] l k _) ⟨fun hlt=>?_,fun hge=>?_⟩
 ·have hlt':k<l.Esc.length:=by have:=AV hlt;omega
  have hto:(k:Int).toNat=k:=by omega
  rw[hto]
  rw[B8 (d:=[]) hlt']at hq
  unfold VE at hq
  rw[Amo,Lg]at hq
  refine⟨⟨by omega,by omega⟩,(CN e c m k 0 (l.Esc.getD k []),decide (0<(CN e c m k 0 (l.Esc.getD k [])).length)||isSome (Cz e Mp (l.Esc.getD k []) true)),Q7 h (hw _ (Alp _ (Av hlt'))),fun hy=>?_,fun hy=>⟨l.Esc.length - (k+1),by omega,Up.of ⟨k+1,hlt',rfl,?_,?_⟩⟩⟩
  ·have hy:(decide (0<(CN e c m k 0 (l.Esc.getD k [])).length)||isSome (Cz e Mp (l.Esc.getD k []) true))=true:=hy
   rw[hy,Ak4]at hq
   subst hq
   exact⟨⟨Ob.le_refl _,Ob.le_refl _,Ob.le_refl _,Ob.le_refl _,Ob.le_refl _,trivial⟩,VV.le_refl _⟩
  ·have hy:(decide (0<(CN e c m k 0 (l.Esc.getD k [])).length)||isSome (Cz e Mp (l.Esc.getD k []) true))=false:=hy
   rw[hy,Ak0]at hq;exact hq
  ·have hy:(decide (0<(CN e c m k 0 (l.Esc.getD k [])).length)||isSome (Cz e Mp (l.Esc.getD k []) true))=false:=hy
   rw[Aln]at hy
   have h0:CN e c m k 0 (l.Esc.getD k [])=[]:=Alz (by have:=Alk hy.1;omega)
   rw[An (by omega)]
   show Aq _ [_,_,_,.box [.ow 4 0 (CN e c m k 0 (l.Esc.getD k [])).length],.arr true 0 (CN e c m k 0 (l.Esc.getD k [])).length 3 (EU (CN e c m k 0 (l.Esc.getD k []))),_]=_
   rw[h0]<;>rfl
 ·have hge':l.Esc.length<=k:=by have:=A0 hge;omega
  rw[AlK hge']at hq
  refine⟨(CN e c m (-1) 0 l.Out,decide (0<(CN e c m (-1) 0 l.Out).length)||isSome (Cz e Mp l.Out true)),Q7 h (hw _ (Alb ..)),?_,VV.le_refl _⟩
  have h0:CN e c m (-1) 0 l.Out=r:=by
   rw[← hq]
   show _=Ia e c m ([]++[(-1,l.Out)])
   rw[AmA,Lg]
   cases hy:(decide (0<(CN e c m (-1) 0 l.Out).length)||isSome (Cz e Mp l.Out true)) with
   | true=>rfl
   | false =>
    rw[Aln]at hy
    exact Alz (by have:=Alk hy.1;omega)
  subst h0
  exact⟨Ob.le_refl _,Ob.le_refl _,Ob.le_refl _,Ob.le_refl _,Ob.le_refl _,trivial⟩
theorem RC {N:Nat}:∀ {ls:List (Int × List D.Trans)},(∀ p∈ls,p.2.length<=N)->(Ia e c m ls).length<=N
 | [],_=>Alc _
 | (i,ws)::r,h=>by
  have h1:=h _ (Alb ..)
  have h2:=RC (ls:=r) fun p hp=>h p (Alp _ hp)
  have h3:=RE (e:=e) (c:=c) (m:=m) (i:=i) (ws:=ws) (k:=0)
  rw[Lg]
  cases (decide (0<(CN e c m i 0 ws).length)||isSome (Cz e Mp ws true)) with
  | true=>rw[Ak4];exact Als h3 h1
  | false=>exact h2
theorem RQ : ∀ {r:List (List D.Trans)} {k:Nat} {p:Int × List D.Trans},p∈VE k r->p.2∈r
 | [],_,_,h=>by cases h
 | w::r,k,p,h=>by
  rcases AlQ.1 h with rfl | h
  ·exact Alb ..
  ·exact Alp _ (RQ h)
theorem XX {l:D.Loc}{p:Int × List D.Trans}(h:p∈Fx l):p.2∈DL l:=by
 rcases AlA.1 h with h | h
 ·exact Alp _ (RQ h)
 ·rw[Aly.1 h];exact Alb ..
theorem RF (h:CK e):(GO e c m).length<=1024:=by
 unfold GO
 cases (!(Bk e).1||decide ((Bk e).2≠0)) with
 | true=>exact Alc _
 | false=>exact RC fun p hp=>(h.ws (XX hp)).len
theorem Wj (h:CK e):Ai Tryz.prog 199 [] [.agg (Af e),Aa c,Ad true m] [] (Cr true (GO e c m)):=by
 have hq:GO e c m=bif !(Bk e).1||decide ((Bk e).2≠0) then[] else Ia e c m (Fx (Dl e)):=rfl
 generalize GO e c m=r at hq
 refine Ah Al Am Tryz.func199 (by kernel_rfl) rfl (Aak r e c m) ⟨Bk e,OX h,fun h1=>?_,fun h1=>⟨Dl e,J9 h,r,?_,trivial,VV.le_refl _⟩⟩
 ·rw[A3,AH]at h1
  rw[h1,Ak4]at hq
  rw[hq]
  exact⟨trivial,AlR⟩
 ·rw[A3,AH]at h1
  rw[h1,Ak0]at hq
  rw[hq]
  exact Ai.ownB (i:=3) (j:=0) (cs:=[.nl]) rfl rfl 3 (EU []) (Sp h h.wloc.Esc.1 fun ws hw=>h.ws hw)
theorem CK.at (h:CK e){k:Nat}(hk:k<e.S.Procs.length):CK (BE e k):=⟨⟨h.ok.fits,h.ok.may,h.ok.wf,by show -1<=(k:Int);omega,by show(k:Int)<_;exact Int.ofNat_lt.2 hk⟩,by show 0<=(k:Int);omega⟩
theorem Lk (h:CK e):∀ {n:Nat},n<=e.S.Procs.length->(DW e c m n).length<=n*1024
 | 0,_=>Alc _
 | n+1,hn=>by
  have h1:=Lk h (n:=n) (by omega)
  have h2:=RF (c:=c) (m:=m) (h.at (k:=n) (by omega))
  unfold DW
  rw[Alh]
  cases decide ((n:Int)≠e.Pid) with
  | true=>rw[Ak4];omega
  | false=>rw[Ak0,AlX,Al7];exact Als h1 (Alo _ (Amz n))
set_option maxRecDepth 10000 in
theorem TP (h:CK e):MtS e (Bn e):=by
 intro c m
 have hp:=h.ok.fit.p
 refine Ah Al Am Tryz.func191 (by kernel_rfl) rfl (Wl _ e c m) ?_
 refine AA.own 3 7 3 (EU []) rfl ?_
 refine Bh Al Am (fun g st=>∃ k:Nat,k<=e.S.Procs.length/\g=e.S.Procs.length - k/\st=LX e c m (DW e c m k) k) (by kernel_rfl) (by kernel_rfl) ⟨e.S.Procs.length,Up.of ⟨0,Alc _,rfl,rfl⟩⟩ ?_
 rintro g st ⟨k,hk,rfl,rfl⟩
 have hlen:=Lk (c:=c) (m:=m) h hk
 refine Alu (TQ _ e c m _ k _) ⟨fun hlt=>?_,fun hge=>⟨trivial,?_⟩⟩
 ·have hlt':k<e.S.Procs.length:=by have:=AV hlt;omega
  have hr:=RF (c:=c) (m:=m) (h.at hlt')
  refine⟨fun hy=>⟨GO (BE e k) c m,Wj (h.at hlt'),by omega,fun i _=>rfl,e.S.Procs.length - (k+1),by omega,
   Up.mk (hs':=[.box (Af e),.arr true 0 ((DW e c m k).length+(GO (BE e k) c m).length) 3 (EU (DW e c m k++GO (BE e k) c m))]) (AO _) ⟨Ob.le_refl _,AlM fun i hi=>AQ ?_,trivial⟩ ⟨k+1,hlt',rfl,?_⟩⟩,fun hy=>⟨e.S.Procs.length - (k+1),by omega,Up.of ⟨k+1,hlt',rfl,?_⟩⟩⟩
  ·exact B6 (f:=Lv) (d:=default) (l:=DW e c m k) (r:=GO (BE e k) c m) (F:=EU (DW e c m k)) (fun _ _=>rfl) (fun _ _=>rfl) (by simpa using hi)
  ·rw[AH]at hy
   have e1:DW e c m (k+1)=DW e c m k++GO (BE e k) c m:=by
    show DW e c m k++(bif decide ((k:Int)≠e.Pid) then _ else _)=_
    rw[hy,Ak4]
   rw[An (by omega),e1]
   unfold LX
   rw[Alh]<;>rfl
  ·rw[AH]at hy
   have e1:DW e c m (k+1)=DW e c m k:=by
    show DW e c m k++(bif decide ((k:Int)≠e.Pid) then _ else _)=_
    rw[hy,Ak0,Al4]
   rw[An (by omega),e1]<;>rfl
 ·obtain rfl:k=e.S.Procs.length:=by have:=A0 hge;omega
  exact VV.le_refl _
end
section
variable {e : D.Env}
theorem XY (h:CK e){c:Int}{m:List Int}:(Bn e c m).length<=16384:=by
 have h1:=Lk (c:=c) (m:=m) h (Ak6 _)
 have h2:=h.ok.fit.p
 have h3:e.S.Procs.length*1024<=16*1024:=Alo _ h2
 exact Als h1 h3
theorem Abb (h:CK e){s:D.Stmt}{self:Bool}:(C9 e (Bn e) s self).wth.length<=16384:=by
 have hz:([]:List Pn).length<=16384:=Alc _
 unfold C9
 split
 ·cases DN e s.A<;>exact hz
 split
 ·cases DN e s.B<;>exact hz
 split
 ·exact hz
 split
 ·unfold II
  cases decide ((AC e s.A).2≠0)
  ·cases decide ((Bb e (AC e s.A).1).length≠s.Args.length)
   ·cases decide (0<(BP e.M (Cl e (AC e s.A).1).Shape).Room)
    ·cases self
     ·cases decide ((Az e s).2.2≠0)
      ·exact XY h
      ·exact hz
     ·exact hz
    ·exact hz
   ·exact hz
  ·exact hz
 split
 ·exact hz
 split<;>exact hz
theorem Adf {mt:Int->List Int->List Pn}{ws:List D.Trans}{self:Bool}{i:Nat}:(FY e mt ws self i).wth=(C9 e mt (ws.getD i default).S self).wth:=by
 unfold FY
 cases (decide ((ws.getD i default).S.Kind=7)&&!(FQ e mt ws self ws.length))<;>rfl
theorem VO (h:CK e){ws:List D.Trans}{self:Bool}:∀ x∈Cz e (Bn e) ws self,x.wth.length<=16384:=by
 intro x hx
 unfold Cz at hx
 obtain⟨i,_,rfl⟩:=Amn.1 hx
 rw[Adf]
 exact Abb h
theorem Rh {i:Int}{k:Nat}{x:Ab}{r:List Ab}:C3 i k (x::r)=GI i k x++C3 i (k+1) r:=rfl
theorem AeG {out:List Wy}{x:Wy}{G:Nat->List VV}(hG:G 0=AZ x){i:Nat}(hi:i<out.length+1):(bif i.blt out.length then IK out i else G (i - out.length))=IK (out++[x]) i :=
 B6 (f:=AZ) (d:=default) (l:=out) (r:=[x]) (F:=IK out) (fun _ _=>rfl) (fun j hj=>by
  obtain rfl:j=0:=by simpa using hj
  exact hG) (by simp;omega)
theorem AiW {a k j w:Nat}(h:a<=k*16385+1+j)(h1:j<=w)(h2:w<=16384):a<=(k+1)*16385:=by
 rw[Anf]
 generalize k*16385=t at h ⊢
 omega
set_option maxRecDepth 10000 in
theorem Q8 {n:Nat}{i:Int}{ws:List D.Trans}(h:CK e)(hw:Adp e.M n ws) :
  Ai Tryz.prog 91 (hsW e []) [Aa i,As true ws,.bp 0 0,.bp 1 0] (hsW e (C3 i 0 (Cz e (Bn e) ws false))) (Ac (decide (0<(C3 i 0 (Cz e (Bn e) ws false)).length))):=by
 have hL:(Cz e (Bn e) ws false).length<=1024:=by rw[VP];exact hw.len
 have hwth:=VO h (ws:=ws) (self:=false)
 have hcan:=Q9 h hw (self:=false) (fun _=>TP h)
 generalize Cz e (Bn e) ws false=L at hL hwth hcan
 generalize hr:C3 i 0 L=r
 refine Ah Al Am Tryz.func91 (by kernel_rfl) rfl (Adv r [] _ e i ws) ⟨L,hcan,?_⟩
 refine Bh Al Am (fun g st=>∃ (k:Nat) (out:List Wy),k<=L.length/\g=L.length - k/\out.length<=k*16385/\out++C3 i k (L.drop k)=r/\st=IE e out i L k) (by kernel_rfl) (by kernel_rfl) ⟨L.length,Up.of ⟨0,[],Alc _,rfl,Alc _,hr,rfl⟩⟩ ?_
 rintro g st ⟨k,out,hk,rfl,ho,hq,rfl⟩
 refine Alu (Aap r _ e out i L k _) ⟨fun hlt=>?_,fun hge=>?_⟩
 ·have hlt':k<L.length:=by have:=AV hlt;omega
  have hto:(k:Int).toNat=k:=by omega
  rw[hto]
  rw[B8 (d:=default) hlt',Rh]at hq
  have hx:=hwth _ (Av (d:=default) hlt')
  generalize L.getD k default=x at hq hx ⊢
  have hko:k*16385<=1024*16385:=Alo _ (by omega)
  have key:∀ (J:St->Prop) (out1:List Wy),out1.length<=k*16385+1->out1++(x.wth.map (Jl i k x.err)++C3 i (k+1) (L.drop (k+1)))=r ->
    (∀ st',Up (fun st=>∃ out2:List Wy,out2.length<=(k+1)*16385/\out2++C3 i (k+1) (L.drop (k+1))=r/\st=IE e out2 i L ((k+1:Nat):Int)) st'->J st') ->
    AA ((CR Tryz.prog tb Cs G7 true Tryz.f91 (hsW e r) (Ac (decide (0<r.length)))).loop [1,0,1,0] J) [1,1,0,0,1,1,1,1,0] (LW e out1 i L k ⟨i,k,-1,-1,-1,x.err⟩ x.wth 0):=by
   intro J out1 ho1 hq1 hJ
   refine Bh Al Am (fun g st=>∃ (j:Nat) (w:Wy) (o:List Wy),j<=x.wth.length/\g=x.wth.length - j/\o.length<=k*16385+1+j/\o++((x.wth.drop j).map (Jl i k x.err)++C3 i (k+1) (L.drop (k+1)))=r/\(w.Esc=i/\w.Way=k/\w.Err=x.err)/\st=LW e o i L k w x.wth j) (by kernel_rfl) (by kernel_rfl)
    ⟨x.wth.length,Up.of ⟨0,_,out1,Alc _,rfl,ho1,hq1,⟨rfl,rfl,rfl⟩,rfl⟩⟩ ?_
   rintro g st ⟨j,w,o,hj,rfl,hol,hoq,⟨w1,w2,w3⟩,rfl⟩
   refine Alu (Aao r _ e o i L k w x.wth j _ _) ⟨fun hlt2=>?_,fun hge2=>?_⟩
   ·have hlt2':j<x.wth.length:=by have:=AV hlt2;omega
    have hto2:(j:Int).toNat=j:=by omega
    rw[hto2]
    rw[B8 (d:=default) hlt2',AlU,Amo]at hoq
    generalize x.wth.getD j default=p at hoq ⊢
    rw[w1,w2,w3]
    refine⟨⟨by omega,by omega⟩,by omega,x.wth.length - (j+1),by omega,Up.mk (hs':=[.box (Af e),.box [.ow 2 0 (o.length+1)],.arr true 0 (o.length+1) 6 (IK (o++[Jl i k x.err p])),.box (AZ (Jl i k x.err p))]) (AO _)
     ⟨Ob.le_refl _,Ob.le_refl _,AlM fun t ht=>AQ (AeG (x:=Jl i k x.err p) (G:=fun t=>List.take 6 (List.drop (t*6) (AZ (Jl i k x.err p)))) rfl ht),Ob.le_refl _,trivial⟩ ⟨j+1,Jl i k x.err p,o++[Jl i k x.err p],hlt2',rfl,by simp;omega,by rw[AlS];exact hoq,⟨rfl,rfl,rfl⟩,?_⟩⟩
    rw[An (by omega)]
    unfold LW hsW
    rw[Alh]<;>rfl
   ·have hge2':x.wth.length<=j:=by have:=A0 hge2;omega
    rw[AlK hge2',Amr,AmA]at hoq
    refine hJ _ (Up.of ⟨o,AiW hol hj hx,hoq,?_⟩)
    rw[An (by omega)]<;>rfl
  have next:∀ st',Up (fun st=>∃ out2:List Wy,out2.length<=(k+1)*16385/\out2++C3 i (k+1) (L.drop (k+1))=r/\st=IE e out2 i L ((k+1:Nat):Int)) st' ->
    ∃ g',g'<L.length - k/\Up (fun st=>∃ (k:Nat) (out:List Wy),k<=L.length/\g'=L.length - k/\out.length<=k*16385/\out++C3 i k (L.drop k)=r/\st=IE e out i L k) st':=by
   rintro st' ⟨s',hc,out2,h1,h2,h3⟩
   exact⟨L.length - (k+1),by omega,s',hc,k+1,out2,hlt',rfl,h1,h2,h3⟩
  have ez:((x.wth.length:Int)==0)=decide (x.wth.length=0):=by rw[Alq,beq_iff_eq,Ak5];omega
  refine⟨⟨by omega,by omega⟩,fun hy=>⟨by omega,?_⟩,fun hy=>?_⟩
  ·rw[A6,ez]at hy
   have hw0:GI i k x=Wy.mk i k (-1) (-1) (-1) x.err::x.wth.map (Jl i k x.err):=by unfold GI;rw[hy]<;>rfl
   rw[hw0]at hq
   refine AA.le (hs':=[.box (Af e),.box [.ow 2 0 (out.length+1)],.arr true 0 (out.length+1) 6 (IK (out++[Wy.mk i k (-1) (-1) (-1) x.err])),.box (AZ (Wy.mk i k (-1) (-1) (-1) x.err))]) (AO _)
     ⟨Ob.le_refl _,Ob.le_refl _,AlM fun t ht=>AQ (AeG (x:=Wy.mk i k (-1) (-1) (-1) x.err) (G:=fun t=>List.take 6 (List.drop (t*6) (AZ (Wy.mk i k (-1) (-1) (-1) x.err)))) rfl ht),Ob.le_refl _,trivial⟩ ?_
   have hk1:=key _ (out++[Wy.mk i k (-1) (-1) (-1) x.err]) (by simp;omega) (by rw[AlS];exact hq) next
   unfold LW hsW at hk1
   rw[Alh]at hk1
   exact hk1
  ·rw[A6,ez]at hy
   have hw0:GI i k x=x.wth.map (Jl i k x.err):=by unfold GI;rw[hy]<;>rfl
   rw[hw0]at hq
   exact key _ out (Nat.le_succ_of_le ho) hq next
 ·have hge':L.length<=k:=by have:=A0 hge;omega
  rw[AlK hge']at hq
  have hq:out=r:=by simpa[C3] using hq
  subst hq
  refine⟨⟨Ob.le_refl _,Ob.le_refl _,Ob.le_refl _,trivial⟩,Ama ?_⟩
  have:decide ((out.length:Int) > 0)=decide (0<out.length):=by rw[Alq,Ak5,Ak5];omega
  rw[this]
theorem PX {i:Int}{ws:List D.Trans}{r:List (Int × List D.Trans)}:FT e ((i,ws)::r)=bif decide (0<(C3 i 0 (Cz e (Bn e) ws false)).length) then C3 i 0 (Cz e (Bn e) ws false) else FT e r:=rfl
theorem Sn {n:Nat}{l:D.Loc}(h:CK e)(hl:l.Esc.length<=1048576)(hw:∀ ws∈DL l,Adp e.M n ws) :
  Ai Tryz.prog 90 (hsW e []) [.agg (AY l),Ajz] (hsW e (FT e (Fx l))) (.tup []):=by
 generalize hr:FT e (Fx l)=r
 refine Ah Al Am Tryz.func90 (by kernel_rfl) rfl (TR r [] e l) ?_
 refine Bh Al Am (fun g st=>∃ k:Nat,k<=l.Esc.length/\g=l.Esc.length - k/\FT e (VE k (l.Esc.drop k)++[(-1,l.Out)])=r/\st=Kf e [] l k) (by kernel_rfl) (by kernel_rfl) ⟨l.Esc.length,Up.of ⟨0,Alc _,rfl,hr,rfl⟩⟩ ?_
 rintro g st ⟨k,hk,rfl,hq,rfl⟩
 refine Alu (So r e [] l k _) ⟨fun hlt=>?_,fun hge=>?_⟩
 ·have hlt':k<l.Esc.length:=by have:=AV hlt;omega
  have hto:(k:Int).toNat=k:=by omega
  rw[hto]
  rw[B8 (d:=[]) hlt']at hq
  unfold VE at hq
  rw[Amo,PX]at hq
  refine⟨⟨by omega,by omega⟩,(C3 k 0 (Cz e (Bn e) (l.Esc.getD k []) false),decide (0<(C3 k 0 (Cz e (Bn e) (l.Esc.getD k []) false)).length)),Q8 h (hw _ (Alp _ (Av hlt'))),fun hy=>?_,fun hy=>⟨l.Esc.length - (k+1),by omega,Up.of ⟨k+1,hlt',rfl,?_,?_⟩⟩⟩
  ·have hy:decide (0<(C3 k 0 (Cz e (Bn e) (l.Esc.getD k []) false)).length)=true:=hy
   rw[hy,Ak4]at hq
   subst hq
   exact⟨⟨Ob.le_refl _,Ob.le_refl _,Ob.le_refl _,trivial⟩,VV.le_refl _⟩
  ·have hy:decide (0<(C3 k 0 (Cz e (Bn e) (l.Esc.getD k []) false)).length)=false:=hy
   rw[hy,Ak0]at hq;exact hq
  ·have hy:decide (0<(C3 k 0 (Cz e (Bn e) (l.Esc.getD k []) false)).length)=false:=hy
   have h0:C3 k 0 (Cz e (Bn e) (l.Esc.getD k []) false)=[]:=Alz (by have:=Alk hy;omega)
   rw[An (by omega)]
   show Aq _ [_,.box [.ow 2 0 (C3 k 0 (Cz e (Bn e) (l.Esc.getD k []) false)).length],.arr true 0 (C3 k 0 (Cz e (Bn e) (l.Esc.getD k []) false)).length 6 (IK (C3 k 0 (Cz e (Bn e) (l.Esc.getD k []) false))),_]=_
   rw[h0]<;>rfl
 ·have hge':l.Esc.length<=k:=by have:=A0 hge;omega
  rw[AlK hge']at hq
  refine⟨(C3 (-1) 0 (Cz e (Bn e) l.Out false),decide (0<(C3 (-1) 0 (Cz e (Bn e) l.Out false)).length)),Q8 h (hw _ (Alb ..)),?_,VV.le_refl _⟩
  have h0:C3 (-1) 0 (Cz e (Bn e) l.Out false)=r:=by
   rw[← hq]
   show _=FT e ([]++[(-1,l.Out)])
   rw[AmA,PX]
   cases hy:decide (0<(C3 (-1) 0 (Cz e (Bn e) l.Out false)).length) with
   | true=>rfl
   | false=>exact Alz (by have:=Alk hy;omega)
  subst h0
  exact⟨Ob.le_refl _,Ob.le_refl _,Ob.le_refl _,trivial⟩
theorem Afg {w:Wy}{r:List Wy}(h:[w]=r):leO [] []/\VV.le (.sl true 1 6 fun i=>List.take 6 (List.drop (i*6) (AZ w))) (A5 true r):=by
 subst h
 refine⟨trivial,AmE (.inl rfl) fun i hi=>AQ ?_⟩
 obtain rfl:i=0:=by omega
 rfl
theorem Jj (h:CK e):Ai Tryz.prog 60 [] [.agg (Af e)] [] (A5 true (Bp e)):=by
 have hp:=h.ok.fit.p
 have hq:Bp e=bif decide ((DP e e.Pid).Loc=(DZ e).Final) then(bif decide (e.Pid=(e.S.Procs.length:Int) - 1) then[KS 0] else[])
  else bif decide ((Bk e).2≠0) then[KS (Bk e).2]
  else bif !(Bk e).1 then[] else FT e (Fx (Dl e)):=rfl
 generalize Bp e=r at hq
 refine Ah Al Am Tryz.func60 (by kernel_rfl) rfl (Wk r e) ⟨⟨h.p0,h.ok.pid.2⟩,DZ e,OY h,fun h1=>⟨fun h2=>⟨KS 0,OZ,Afg ?_⟩,fun h2=>?_⟩,
  fun h1=>⟨Bk e,OX h,fun h2=>⟨KS (Bk e).2,OZ,Afg ?_⟩,fun h2=>⟨fun h3=>?_,fun h3=>⟨Dl e,J9 h,FT e (Fx (Dl e)),?_,?_⟩⟩⟩⟩
 ·rw[ieq]at h1
  rw[Bt (by omega) (by omega),ieq]at h2
  rw[hq,show decide ((DP e e.Pid).Loc=(DZ e).Final)=true from h1,h2]<;>rfl
 ·rw[ieq]at h1
  rw[Bt (by omega) (by omega),ieq]at h2
  rw[hq,show decide ((DP e e.Pid).Loc=(DZ e).Final)=true from h1,h2]
  exact⟨trivial,AlR⟩
 ·rw[ieq]at h1
  rw[AH]at h2
  rw[hq,show decide ((DP e e.Pid).Loc=(DZ e).Final)=false from h1,h2]<;>rfl
 ·rw[ieq]at h1
  rw[AH]at h2
  rw[hq,show decide ((DP e e.Pid).Loc=(DZ e).Final)=false from h1,h2,h3]
  exact⟨trivial,AlR⟩
 ·exact Ai.ownB (i:=1) (j:=0) (cs:=[.nl]) rfl rfl 6 (IK []) (Sn h h.wloc.Esc.1 fun ws hw=>h.ws hw)
 ·rw[ieq]at h1
  rw[AH]at h2
  rw[hq,show decide ((DP e e.Pid).Loc=(DZ e).Final)=false from h1,h2,h3]
  exact⟨trivial,VV.le_refl _⟩
theorem O1 (hw:Ay e.M)(hs:A7 e.S):Ai Tryz.prog 86 [] [.agg (Af e)] [] (.tup [A5 true (Fb e).1,Aa (Fb e).2]):=by
 have hq:Fb e=bif decide (GY e≠0) then([],GY e) else(Bp e,0):=rfl
 generalize Fb e=r at hq
 refine Ah Al Am Tryz.func86 (by kernel_rfl) rfl (AaG r e) ⟨GY e,TW hw hs,fun h1=>?_,fun h1=>⟨Bp e,Jj (AcX hw (by simpa using h1)),?_⟩⟩
 ·rw[AH]at h1
  rw[hq,h1]
  exact⟨trivial,Amx ⟨AlR,VV.le_refl _,trivial⟩⟩
 ·rw[AH]at h1
  rw[hq,h1]
  exact⟨trivial,VV.le_refl _⟩
def Vh (w:Wy):Nat->List Wy->Int
 | _,[]=>-1
 | k,x::r=>bif decide (w=x) then(k:Int) else Vh w (k+1) r
theorem RX {w x:Wy}{k:Nat}{r:List Wy}:Vh w k (x::r)=bif decide (w=x) then(k:Int) else Vh w (k+1) r:=rfl
theorem Vg {w:Wy}:∀ {l:List Wy} {k:Nat},decide (Vh w k l>=0)=decide (w∈l)
 | [],k=>by simp[Vh]
 | x::r,k=>by
  have ih:=Vg (w:=w) (l:=r) (k:=k+1)
  rw[RX]
  by_cases h:w=x
  ·simp[h]
  ·simp only[h,decide_false,Ak0,ih]
   simp[h]
theorem AjJ {w x:Wy}:(w.Esc==x.Esc&&(w.Way==x.Way&&(w.With==x.With&&(w.WithEsc==x.WithEsc&&(w.WithWay==x.WithWay&&(w.Err==x.Err&&true))))))=decide (w=x):=by
 obtain⟨a1,a2,a3,a4,a5,a6⟩:=w
 obtain⟨b1,b2,b3,b4,b5,b6⟩:=x
 rw[Alq]
 simp
theorem Wo {l:List Wy}{w:Wy}(hl:l.length<=1099511627776):Ai Tryz.prog 118 [] [A5 true l,.agg (AZ w)] [] (Aa (Vh w 0 l)):=by
 refine Ah Al Am Tryz.func118 (by kernel_rfl) rfl (Aav _ l w) ?_
 refine AK Al Am l.length (fun k=>Oj l w k) (fun k=>Vh w 0 l=Vh w k (l.drop k)) (by kernel_rfl) (by kernel_rfl) rfl ?_
 intro k hk hI J next
 refine Alu (Wp _ l w k J) ⟨fun hlt=>?_,fun hge=>C2 ?_⟩
 ·have hlt':k<l.length:=by have:=AV hlt;omega
  have hto:(k:Int).toNat=k:=by omega
  rw[hto,AjJ]
  rw[B8 (d:=default) hlt',RX]at hI
  refine⟨by omega,fun hy=>C2 ?_,fun hy=>next _ hlt' ?_ (Up.of ?_)⟩
  ·rw[hy,Ak4]at hI;exact hI.symm
  ·rw[hy,Ak0]at hI;exact hI
  ·rw[An (by omega)]<;>rfl
 ·have hge':l.length<=k:=by have:=A0 hge;omega
  rw[hI,AlK hge']<;>rfl
theorem TU {l:List Wy}{w:Wy}(hl:l.length<=1099511627776):Ai Tryz.prog 81 [] [A5 true l,.agg (AZ w)] [] (Ac (decide (w∈l))) :=
 Ah Al Am Tryz.func81 (by kernel_rfl) rfl (Wz _ l w) ⟨_,Wo hl,AG Vg⟩
end
theorem VK {xs:List Int}(hr:xs.length*8<=140737488355328):Ai Tryz.prog 30 [] [Ad true xs] [] (Ad true xs):=by
 refine Ai.hand ⟨_,Tryz.func30,rfl,by kernel_rfl⟩ fun w E vs hA hL _ _ hs=>?_
 obtain⟨u1,us1,rfl,v1,hs⟩:=hs.cons_inv
 obtain rfl:=hs.nil_inv
 obtain⟨ao,cap,rfl,h1,h2,h3⟩:=V.sl_inv v1
 refine(ME h1 h2 hr fun hp=>?_).mono ?_
 ·obtain⟨b,off,rfl,_,_,_,u,hc,hv⟩:=h3 hp
  refine⟨_,rfl,fun i hi=>?_⟩
  have c1:=hc i 0 _ hi rfl
  have c2:=(hv i 0 _ hi rfl).sc_inv
  rw[Addr.add_lit]
  rw[c2]at c1
  simpa using c1
 ·rintro e w' ⟨v',rfl,ho,hb⟩
  exact⟨v',rfl,Ud ho hA,hb⟩
def CQ (l:List D.Chan):Nat->List VV:=fun i=>AB (l.getD i default)
def Ft (l:List D.Process):Nat->List VV:=fun i=>Ar (l.getD i default)
def Xq (l:List (List Int)):Nat->List VV:=fun i=>[Ad true (l.getD i [])]
def Bi (x:D.State)(c p:VV):List VV:=[Ad true x.Globals,c,p,Aa x.Last,Aa x.Alone,Aa x.Claim]
def E3 (x:D.Env)(c p:VV):List VV:=[AJ true x.M.Globals,Ad true x.M.Init,Bd true x.M.Shapes,Ad true x.M.Chans,A4 true x.M.Procs,Aa x.M.Claim,Bs true x.M.Exprs,Ad true x.S.Globals,c,p,Aa x.S.Last,Aa x.S.Alone,Aa x.S.Claim,Aa x.Pid,Ac x.Timeout,Ba true x.Able]
def obC (s:D.State):Ob:=.arr true 0 s.Chans.length 2 (CQ s.Chans)
def obP (s:D.State):Ob:=.arr true 0 s.Procs.length 4 (Ft s.Procs)
def hsE (e:D.Env):List Ob:=[.box (E3 e (.ow 1 0 e.S.Chans.length) (.ow 2 0 e.S.Procs.length)),obC e.S,obP e.S]
def AgD : Shp:={ α:=D.State,enc:=fun y=>([obC y,obP y],.agg (Bi y (.ow 0 0 y.Chans.length) (.ow 1 0 y.Procs.length))) }
def Aka : Shp:={ α:=D.Env × Int,enc:=fun y=>(hsE y.1,Aa y.2),lend:=true }
def AiE : Shp:={ α:=D.Env × Int × Int,enc:=fun y=>(hsE y.1,.tup [Aa y.2.1,Aa y.2.2]),lend:=true }
def AiD : Shp:={ α:=D.Env × ByteArray × Int,enc:=fun y=>(hsE y.1,.tup [AD y.2.1,Aa y.2.2]),lend:=true }
def Ah3 : Shp:={ α:=D.State × ByteArray × Int,enc:=fun y=>([],.tup [.agg (Ae y.1),AD y.2.1,Aa y.2.2]) }
def AiF : Shp:={ α:=List Bool × Int,enc:=fun y=>([],.tup [Ba true y.1,Aa y.2]) }
def Ah0 : Shp:={ α:=D.State,enc:=fun y=>([],.agg (Ae y)) }
def AhZ : Shp:={ α:=ByteArray,enc:=fun y=>([],AD y) }
def L9 (f:FuncId):Shp :=
 bif Nat.beq f 14 then AgD else bif Nat.beq f 85 then AiD else bif Nat.beq f 120 then AiE else bif Nat.beq f 121||Nat.beq f 124||Nat.beq f 125||Nat.beq f 126||Nat.beq f 163 then Aka else bif Nat.beq f 82 then Ah0 else bif Nat.beq f 57 then Ah3 else bif Nat.beq f 41 then AiF else bif Nat.beq f 38 then Abo else   bif Nat.beq f 24||Nat.beq f 30 then AiB else bif Nat.beq f 123 then AhZ else Cs f
section
variable {w : World} {E:AF} {m:Option Phi} {n0:Nat}
def QO (w:World)(n0:Nat)(E:AF):Prop:=∀ k,E.fz k->k<n0∨∃ cur t,w.heap[k]?=some (.cells cur t (0,0))/\t≠D2/\t≠GS
theorem QO.off {k:Nat}{cur:Array Value}{t:TypeId}(h:QO w n0 E)(hk:n0<=k)(hb:w.heap[k]?=some (.cells cur t (0,0)))(ht:t=D2∨t=GS):¬ E.fz k:=by
 intro hf
 rcases h k hf with h1 | ⟨cur',t',h1,h2,h3⟩
 ·omega
 ·rw[hb]at h1
  simp only[Ak1,Obj.cells.injEq]at h1
  obtain⟨_,rfl,_⟩:=h1
  exact ht.elim h2 h3
theorem Zw {e:TypeId}{sz n:Nat}{a:Addr}{cap:Nat}{xs:List Value}(h:w.ownsRow n0 e sz (.slice (some a) n cap) n xs):∃ cur,n0<=a.block/\w.heap[a.block]?=some (.cells cur e (0,0)):=by
 rcases h.2 with⟨h1,_⟩ | ⟨g,cap',cur,h1,h2,h3,_⟩
 ·cases h1
 ·simp only[Value.slice.injEq,Ak1]at h1
  obtain⟨rfl,_,_⟩:=h1
  exact⟨cur,h2,h3⟩
theorem WK {v:Value}{xs:List Int}(h:I4 w n0 v xs)(hA:QO w n0 E):V w E m (Ad true xs) v:=by
 obtain⟨ao,cap,rfl,h1,h2,h3⟩:=Db h
 refine AmK h1 h2 fun hp=>?_
 obtain⟨g,rfl,hg,hlt,hc⟩:=h3 hp
 obtain⟨cur,hb0,hb⟩:=Zw h
 refine⟨g,0,rfl,hlt,hA.off hb0 hb (.inl rfl),fun i _=>rfl,fun i _=>.int .i64 (xs.getD i 0),fun i j y hi hy=>?_,fun i j y hi hy=>?_⟩
 ·match j,hy with
  | 0,_ =>
   have:=hc i (by omega)
   simp only[AlC,Nat.mul_one,Al7]
   rw[this];simp[List.getD,hi]
  | j+1,hy=>simp at hy
 ·match j,hy with
  | 0,hy=>simp only[Ala,Ak1]at hy;subst hy;exact .sc
  | j+1,hy=>simp at hy
theorem AkP {v:Value}{vs:List Value}{q:List (List Int)}(h:BN w n0 v vs q)(hA:∀ b,QO w n0 (E.at b))(hE:QO w n0 E):V w E m (BI true q) v:=by
 obtain⟨ao,cap,rfl,h1,h2,h3⟩:=Db h.row
 refine AmK h1 h2 fun hp=>?_
 obtain⟨g,rfl,hg,hlt,hc⟩:=h3 hp
 obtain⟨cur,hb0,hb⟩:=Zw h.row
 refine⟨g,0,rfl,hlt,hE.off hb0 hb (.inr rfl),fun i _=>rfl,fun i _=>vs.getD i undef,fun i j y hi hy=>?_,fun i j y hi hy=>?_⟩
 ·match j,hy with
  | 0,_ =>
   have:=hc i (by omega)
   have hv:i<vs.length:=by rw[h.len];exact hi
   simp only[AlC,Nat.mul_one,Al7]
   rw[this];simp[List.getD,hv]
  | j+1,hy=>simp at hy
 ·match j,hy with
  | 0,hy =>
   simp only[Ala,Ak1]at hy;subst hy
   have hv:i<vs.length:=by rw[h.len];exact hi
   exact WK (h.each i _ _ (by simp[List.getD,hv]) (by simp[List.getD,hi])) (hA true)
  | j+1,hy=>simp at hy
theorem UJ {e:TypeId}{sz n:Nat}{v:Value}{xs:List Value}(h:w.ownsRow n0 e sz v n xs):v.oneCell'=true:=by
 obtain⟨_,⟨rfl,_⟩ | ⟨g,cap,cur,rfl,_⟩⟩:=h<;>rfl
theorem Qv : ∀ {cs:List D.Chan} {qs:List Value},(∀ u∈qs,u.oneCell'=true)->∀ u∈E7 cs qs,u.oneCell'=true
 | [],_,_,u,h=>by simp[E7]at h
 | _::_,[],_,u,h=>by simp[E7]at h
 | c::cs,q::qs,hq,u,h=>by
  simp only[E7,AlQ]at h
  rcases h with rfl | rfl | h
  ·rfl
  ·exact hq _ Alb
  ·exact Qv (fun u hu=>hq u (Alp _ hu)) u h
theorem Qu : ∀ {ps:List D.Process} {fs:List Value},(∀ u∈fs,u.oneCell'=true)->∀ u∈Dy ps fs,u.oneCell'=true
 | [],_,_,u,h=>by simp[Dy]at h
 | _::_,[],_,u,h=>by simp[Dy]at h
 | c::cs,q::qs,hq,u,h=>by
  simp only[Dy,AlQ]at h
  rcases h with rfl | rfl | rfl | rfl | h
  ·rfl
  ·rfl
  ·rfl
  ·exact hq _ Alb
  ·exact Qu (fun u hu=>hq u (Alp _ hu)) u h
theorem R1 {l:List Value}{k:Nat}{u:Value}(h:l[k]?=some u):l.getD k undef=u:=by simp[List.getD,h]
theorem Aid {l:List Value}{k:Nat}(h:k<l.length):l[k]?=some (l.getD k undef):=by simp[List.getD,h]
theorem ZZ {α:Type}{R:Value->α->Prop}{vs:List Value}{l:List α}(hl:vs.length=l.length)(h:∀ (i:Nat) x y,vs[i]?=some x->l[i]?=some y->R x y){u:Value}(hu:u∈vs):∃ a,R u a:=by
 obtain⟨i,hi,rfl⟩:=Amh hu
 exact⟨l[i]'(by omega),h i _ _ (Ald hi) (Ald (by omega))⟩
theorem XU {w0 w':World}{s:D.State}{vg vc vp:Value}{qs fs:List Value}(hb:Below w0.heap.size w0 w')(hn:w0.heap.size<=n0)(hg:I4 w' n0 vg s.Globals)(hc:Hf w' n0 vc qs s.Chans)(hp:FL w' n0 vp fs s.Procs)(hE:∀ k,E.fz k->k<w0.heap.size)(_:∀ k,E.br k->E.fz k) :
  ∃ pls,Ee w0 E Fh 0 [obC s,obP s] pls w'/\V w' (E.up (addP Fh 0 pls)) (some (addP Fh 0 pls)) (.agg (Bi s (.ow 0 0 s.Chans.length) (.ow 1 0 s.Procs.length))) (.agg #[vg,vc,vp,.int .i64 s.Last,.int .i64 s.Alone,.int .i64 s.Claim]):=by
 obtain⟨hdC,c1,c2,c3⟩:=SV hc.row (Qv fun u hu=>by obtain⟨a,vs,hq⟩:=ZZ (R:=fun u (c:D.Chan)=>∃ vs,BN w' n0 u vs c.Queue) hc.len hc.each hu;exact UJ hq.row)
 obtain⟨hdP,p1,p2,p3⟩:=SV hp.row (Qu fun u hu=>by obtain⟨a,hq⟩:=ZZ (R:=fun u (p:D.Process)=>I4 w' n0 u p.Frame) hp.len hp.each hu;exact UJ hq)
 have hφ0:addP Fh 0 [Pl.arr 0 s.Chans.length hdC,Pl.arr 0 s.Procs.length hdP] 0=some (.arr 0 s.Chans.length hdC):=DJ (nx:=0) (i:=0) rfl
 have hφ1:addP Fh 0 [Pl.arr 0 s.Chans.length hdC,Pl.arr 0 s.Procs.length hdP] 1=some (.arr 0 s.Procs.length hdP):=DJ (nx:=0) (i:=1) rfl
 have hφx:∀ id,2<=id->addP Fh 0 [Pl.arr 0 s.Chans.length hdC,Pl.arr 0 s.Procs.length hdP] id=none:=fun id h=>DA (.inr (by simp;omega))
 generalize hφ:addP Fh 0 [Pl.arr 0 s.Chans.length hdC,Pl.arr 0 s.Procs.length hdP]=φ at hφ0 hφ1 hφx
 have hown:∀ k,Own φ k->n0<=k/\∃ cur t,w'.heap[k]?=some (.cells cur t (0,0))/\(t=D1∨t=Eo):=by
  rintro k ⟨id,hbk⟩
  obtain⟨p,hp',hpb⟩:=AI.1 hbk
  rcases(show id=0∨id=1∨2<=id by omega) with rfl | rfl | h
  ·rw[hφ0]at hp';obtain rfl:=Ali hp'
   obtain⟨cap,hd⟩:=hpb
   obtain⟨_,h1,cur,h2⟩:=c2 k cap hd
   exact⟨h1,cur,_,h2,.inl rfl⟩
  ·rw[hφ1]at hp';obtain rfl:=Ali hp'
   obtain⟨cap,hd⟩:=hpb
   obtain⟨_,h1,cur,h2⟩:=p2 k cap hd
   exact⟨h1,cur,_,h2,.inr rfl⟩
  ·rw[hφx id h]at hp';cases hp'
 have hty:QO w' n0 (E.up φ):=by
  rintro k (hk | hk)
  ·have:=hE k hk;exact .inl (by omega)
  ·obtain⟨_,cur,t,h1,h2⟩:=hown k hk
   exact .inr ⟨cur,t,h1,by rcases h2 with rfl | rfl<;>decide,by rcases h2 with rfl | rfl<;>decide⟩
 have hat:∀ {b b'},QO w' n0 (((E.up φ).at b).at b'):=fun{b b'}=>by cases b<;>cases b'<;>exact hty
 refine⟨[Pl.arr 0 s.Chans.length hdC,Pl.arr 0 s.Procs.length hdP],⟨⟨hb,fun i p k hi hk=>?_,fun i j p q k hi hj h1 h2=>?_⟩,rfl,fun i o p ho hi=>?_⟩,?_⟩
 ·have hm:Own φ k:=by
   refine⟨i,AI.2 ⟨p,?_,hk⟩⟩
   rw[← hφ]
   have:=DJ (φ:=Fh) (nx:=0) hi
   rwa [AlC]at this
  have:=(hown k hm).1;omega
 ·have ty:∀ (i:Nat) (p:Pl),[Pl.arr 0 s.Chans.length hdC,Pl.arr 0 s.Procs.length hdP][i]?=some p->PlB p k->∃ cur,w'.heap[k]?=some (.cells cur (if i=0 then D1 else Eo) (0,0))/\i<2:=by
   intro i p hi hk
   match i,hi with
   | 0,hi=>obtain rfl:=Ali hi;obtain⟨cap,hd⟩:=hk;obtain⟨_,_,cur,h2⟩:=c2 k cap hd;exact⟨cur,h2,by omega⟩
   | 1,hi=>obtain rfl:=Ali hi;obtain⟨cap,hd⟩:=hk;obtain⟨_,_,cur,h2⟩:=p2 k cap hd;exact⟨cur,h2,by omega⟩
   | i+2,hi=>simp at hi
  obtain⟨cu,a1,a2⟩:=ty i p hi h1
  obtain⟨cv,b1,b2⟩:=ty j q hj h2
  rw[a1]at b1
  simp only[Ak1,Obj.cells.injEq]at b1
  have hne:D1≠Eo:=by decide
  rcases(show i=0∨i=1 by omega) with rfl | rfl<;>rcases(show j=0∨j=1 by omega) with rfl | rfl
  ·rfl
  ·exact absurd b1.2.1 (by simpa using hne)
  ·exact absurd b1.2.1.symm (by simpa using hne)
  ·rfl
 ·rw[hφ]
  match i,ho,hi with
  | 0,ho,hi =>
   obtain rfl:=Ali ho
   obtain rfl:=Ali hi
   refine⟨rfl,rfl,c3 E φ (CQ s.Chans) (fun i _=>rfl) fun i j x hi hx=>?_⟩
   have hv:i<qs.length:=by rw[hc.len];exact hi
   obtain⟨x0,x1⟩:=Qw hc.len hi
   match j,hx with
   | 0,hx =>
    obtain rfl:=Ali hx
    rw[Al7,R1 x0];exact .sc
   | 1,hx =>
    obtain rfl:=Ali hx
    rw[R1 (x1.trans (Aid hv))]
    obtain⟨vs,hq⟩:=hc.each i (qs.getD i undef) (s.Chans.getD i default) (by simp[List.getD,hv]) (by simp[List.getD,hi])
    exact AkP (m:=none) (E:=(E.up φ).hold) hq (fun b=>hat (b:=true) (b':=b)) (hat (b:=true) (b':=false))
   | j+2,hx=>simp[CQ,AB]at hx
  | 1,ho,hi =>
   obtain rfl:=Ali ho
   obtain rfl:=Ali hi
   refine⟨rfl,rfl,p3 E φ (Ft s.Procs) (fun i _=>rfl) fun i j x hi hx=>?_⟩
   have hv:i<fs.length:=by rw[hp.len];exact hi
   obtain⟨x0,x1,x2,x3⟩:=LA hp.len hi
   match j,hx with
   | 0,hx =>
    obtain rfl:=Ali hx
    rw[Al7,R1 x0];exact .sc
   | 1,hx =>
    obtain rfl:=Ali hx
    rw[R1 x1];exact .sc
   | 2,hx =>
    obtain rfl:=Ali hx
    rw[R1 x2];exact .sc
   | 3,hx =>
    obtain rfl:=Ali hx
    rw[R1 (x3.trans (Aid hv))]
    exact WK (m:=none) (E:=(E.up φ).hold) (hp.each i (fs.getD i undef) (s.Procs.getD i default) (by simp[List.getD,hv]) (by simp[List.getD,hi])) (hat (b:=true) (b':=false))
   | j+4,hx=>simp[Ft,Ar]at hx
  | i+2,ho,hi=>simp at ho
 ·rw[hφ]
  refine .agg rfl fun j x hx=>?_
  match j,hx with
  | 0,hx=>obtain rfl:=Ali hx;exact WK hg hty
  | 1,hx=>obtain rfl:=Ali hx;exact .ow hφ0 (Ak6 _) c1 fun _=>⟨rfl,Ak6 _⟩
  | 2,hx=>obtain rfl:=Ali hx;exact .ow hφ1 (Ak6 _) p1 fun _=>⟨rfl,Ak6 _⟩
  | 3,hx=>obtain rfl:=Ali hx;exact .sc
  | 4,hx=>obtain rfl:=Ali hx;exact .sc
  | 5,hx=>obtain rfl:=Ali hx;exact .sc
  | j+6,hx=>simp[Bi]at hx
end
theorem Pw {e:D.Env}(hw:Ay e.M)(hs:A7 e.S)(x v:Int):Ai Tryz.prog 161 [] [.agg (Bl e),Aa x,Aa v] [obC (AW e x v).1,obP (AW e x v).1]
  (.tup [.agg (Bi (AW e x v).1 (.ow 0 0 (AW e x v).1.Chans.length) (.ow 1 0 (AW e x v).1.Procs.length)),Aa (AW e x v).2]):=by
 refine Ai.handN ⟨_,Tryz.func161,rfl,by kernel_rfl⟩ fun w E vs hA hL hB hbr hs0=>?_
 obtain⟨u1,us1,rfl,v1,hs0⟩:=hs0.cons_inv
 obtain⟨u2,us2,rfl,v2,hs0⟩:=hs0.cons_inv
 obtain⟨u3,us3,rfl,v3,hs0⟩:=hs0.cons_inv
 obtain rfl:=hs0.nil_inv
 obtain rfl:=v2.sc_inv
 obtain rfl:=v3.sc_inv
 have v1':=LS w E u1 v1 (fun _=>False)
 obtain⟨c0,c1,c2,c3,c4,c6,c7,c8,c9,c15,rfl,hat⟩:=AhG v1'
 refine(Aa8 hw hs hL hB v1' hat).mono ?_
 rintro r w' ⟨vs,rfl,hv,hb⟩
 obtain⟨vg,vc,vp,qs,fs,rfl,h1,h2,h3⟩:=hv
 obtain⟨pls,hn,hV⟩:=XU hb (Ak6 _) h1 h2 h3 hA hbr
 exact⟨_,pls,rfl,hn,MS hV .sc⟩
def FI : Ann:={ keep:=fun
  | [0,1,0,1,1,1,1]=>[1,2,3,19,20,21]
  | [0,1,0,1,1,0,0,1,1,0,0,1,0,1,1,1,1]=>[1,2,3,5,6,19,20,21,26,27,28]
  | [0,1,0,1,1,1,1,1]=>[2,3,49,50,51]
  | _=>[] }
def KL : Ann:={ keep:=fun
  | [0,1,0,1,1,1]=>[2,3,7,21,22]
  | _=>[] }
def Adn : Ann:={ base:=3,keep:=fun _=>[] }
def Y7 (m:D.Model)(s:D.State)(l:List Bool)(k:Int):St:=Aq [(2,.bp 0 0),(3,.bp 1 0),(7,.ow 2 0 l.length),(21,Aa s.Procs.length),(22,Aa k)] [.box (Ag m),.box (Ae s),.arr true 0 l.length 1 (HH l)]
def Q6 : List VV:=[.nl,.nl,.nl,Aa 0,Aa 0,Aa 0]
def Zg (s:D.State)(cs:List D.Chan)(k:Int):St:=Aq [(1,.bp 0 0),(2,.bp 1 0),(3,.bp 2 0),(19,AE true s.Chans),(20,Aa s.Chans.length),(21,Aa k)] [.box (Ae s),.box Q6,.box (Bi s (.ow 3 0 cs.length) .nl),.arr true 0 cs.length 2 (CQ cs)]
def Ze (s:D.State)(cs:List D.Chan)(ps:List D.Process)(k:Int):St:=Aq [(2,.bp 0 0),(3,.bp 1 0),(49,Au true s.Procs),(50,Aa s.Procs.length),(51,Aa k)] [.box Q6,.box (Bi s (.ow 2 0 cs.length) (.ow 3 0 ps.length)),.arr true 0 cs.length 2 (CQ cs),.arr true 0 ps.length 4 (Ft ps)]
def Zf (s:D.State)(cs:List D.Chan)(k:Int)(c:D.Chan)(q:List (List Int))(j:Int):St:=Aq [(1,.bp 0 0),(2,.bp 1 0),(3,.bp 2 0),(5,.bp 4 0),(6,.ow 5 0 q.length),(19,AE true s.Chans),(20,Aa s.Chans.length),(21,Aa k),(26,BI true c.Queue),(27,Aa c.Queue.length),(28,Aa j)] [.box (Ae s),.box Q6,.box (Bi s (.ow 3 0 cs.length) .nl),.arr true 0 cs.length 2 (CQ cs),.box (AB c),.arr true 0 q.length 1 (Xq q)]
set_option maxRecDepth 100000
theorem Aaz (hs':List Ob)(r:VV)(s:D.State):(CR Tryz.prog tb L9 FI false Tryz.f14 hs' (r)).goal (St.init [] [.agg (Ae s)]) =
  (∃ (y:List Int),VC 24 [Ad true s.Globals] (Ad true y)/\AA (CR Tryz.prog tb L9 FI false Tryz.f14 hs' r) [1,1,1,1,0,1,0] (Aq [(1,VV.bp 0 0),(2,VV.bp 1 0),(3,VV.bp 2 0),(19,AE true s.Chans),(20,Aa (↑s.Chans.length:Int)),(21,Aa 0)] [Ob.box (Ae s),Ob.box [VV.nl,VV.nl,VV.nl,Aa 0,Aa 0,Aa 0],Ob.box [Ad true y,VV.nl,VV.nl,Aa s.Last,Aa s.Alone,Aa s.Claim]])):=by kernel_rfl
theorem Agb (r:D.State × ByteArray × Int)(e:D.Env)(w:Wy):(fc L9 AT Tryz.f57 [] (.tup [.agg (Ae r.1),AD r.2.1,Aa r.2.2])).goal (St.init [] [.agg (Af e),.agg (AZ w)]) =
  (∃ (y:Int),VC 80 [VV.agg (Af e)] (Aa y)/\BB (y != 0) (LQ (VV.tup [VV.agg [VV.nl,VV.nl,VV.nl,Aa 0,Aa 0,Aa 0],AD (⟨#[]⟩:ByteArray),Aa y]) (VV.tup [VV.agg (Ae r.fst),AD r.snd.fst,Aa r.snd.snd])) (∃ (y:List Wy),VC 60 [VV.agg (Af e)] (A5 true y)/\∃ (y_1:Bool),VC 81 [A5 true y,VV.agg (AZ w)] (Ac y_1)/\BB (!y_1) (LQ (VV.tup [VV.agg [VV.nl,VV.nl,VV.nl,Aa 0,Aa 0,Aa 0],AD (⟨#[]⟩:ByteArray),Aa 42]) (VV.tup [VV.agg (Ae r.fst),AD r.snd.fst,Aa r.snd.snd])) (BB (w.Err != 0) (LQ (VV.tup [VV.agg [VV.nl,VV.nl,VV.nl,Aa 0,Aa 0,Aa 0],AD (⟨#[]⟩:ByteArray),Aa w.Err]) (VV.tup [VV.agg (Ae r.fst),AD r.snd.fst,Aa r.snd.snd])) (BB (decide (w.Way<0)) (∃ (y:D.State),VC 82 [VV.agg (Af e)] (VV.agg (Ae y))/\LQ (VV.tup [VV.agg (Ae y),AD (⟨#[]⟩:ByteArray),Aa 0]) (VV.tup [VV.agg (Ae r.fst),AD r.snd.fst,Aa r.snd.snd])) (∃ (y:D.State),Ai Tryz.prog 14 [] [VV.agg (Ae e.S)] [obC y,obP y] (VV.agg (Bi y (VV.ow 0 0 y.Chans.length) (VV.ow 1 0 y.Procs.length)))/\∃ (y_2:D.Loc),VC 84 [VV.agg (Af e)] (VV.agg (AY y_2))/\∃ (y_3:D.Trans),VC 83 [VV.agg (AY y_2),Aa w.Esc,Aa w.Way] (VV.agg (CY y_3))/\∃ (y_4:D.Env × ByteArray × Int),Ai Tryz.prog 85 [Ob.box [AJ true e.M.Globals,Ad true e.M.Init,Bd true e.M.Shapes,Ad true e.M.Chans,A4 true e.M.Procs,Aa e.M.Claim,Bs true e.M.Exprs,Ad true y.Globals,VV.ow 1 0 y.Chans.length,VV.ow 2 0 y.Procs.length,Aa y.Last,Aa y.Alone,Aa y.Claim,Aa e.Pid,Ac e.Timeout,Ba true e.Able],obC y,obP y] [VV.bp 0 0,VV.agg (Ap y_3.S),VV.agg (AZ w)] (hsE y_4.fst) (VV.tup [AD y_4.snd.fst,Aa y_4.snd.snd])/\BB (y_4.snd.snd != 0) (LQ (VV.tup [VV.agg [VV.nl,VV.nl,VV.nl,Aa 0,Aa 0,Aa 0],AD (⟨#[]⟩:ByteArray),Aa y_4.snd.snd]) (VV.tup [VV.agg (Ae r.fst),AD r.snd.fst,Aa r.snd.snd])) (BB (decide (w.With>=0)) (∃ (y:D.Loc),VC 84 [VV.agg [AJ true e.M.Globals,Ad true e.M.Init,Bd true e.M.Shapes,Ad true e.M.Chans,A4 true e.M.Procs,Aa e.M.Claim,Bs true e.M.Exprs,Ad true e.S.Globals,AE true e.S.Chans,Au true e.S.Procs,Aa e.S.Last,Aa e.S.Alone,Aa e.S.Claim,Aa w.With,Ac e.Timeout,Ba true e.Able]] (VV.agg (AY y))/\∃ (y_5:D.Trans),VC 83 [VV.agg (AY y),Aa w.WithEsc,Aa w.WithWay] (VV.agg (CY y_5))/\inX w.With y_4.fst.S.Procs.length/\inX e.Pid y_4.fst.S.Procs.length/\LQ (VV.tup [VV.agg [Ad true y_4.fst.S.Globals,AE true y_4.fst.S.Chans,VV.sl true y_4.fst.S.Procs.length 4 fun(j:Nat)=>bif j.beq e.Pid.toNat then bif Nat.beq 1 4 then[Aa y_3.To] else List.take 1 ((fun(j:Nat)=>bif j.beq w.With.toNat then[Aa (y_4.fst.S.Procs.getD w.With.toNat default).Type_,Aa y_5.To,Aa (y_4.fst.S.Procs.getD w.With.toNat default).Prio,Ad true (y_4.fst.S.Procs.getD w.With.toNat default).Frame] else Ar (y_4.fst.S.Procs.getD j default)) e.Pid.toNat)++[Aa y_3.To]++List.drop 2 ((fun(j:Nat)=>bif j.beq w.With.toNat then[Aa (y_4.fst.S.Procs.getD w.With.toNat default).Type_,Aa y_5.To,Aa (y_4.fst.S.Procs.getD w.With.toNat default).Prio,Ad true (y_4.fst.S.Procs.getD w.With.toNat default).Frame] else Ar (y_4.fst.S.Procs.getD j default)) e.Pid.toNat) else(fun(j:Nat)=>bif j.beq w.With.toNat then[Aa (y_4.fst.S.Procs.getD w.With.toNat default).Type_,Aa y_5.To,Aa (y_4.fst.S.Procs.getD w.With.toNat default).Prio,Ad true (y_4.fst.S.Procs.getD w.With.toNat default).Frame] else Ar (y_4.fst.S.Procs.getD j default)) j,Aa e.Pid,Aa y_4.fst.S.Alone,Aa y_4.fst.S.Claim],AD y_4.snd.fst,Aa 0]) (VV.tup [VV.agg (Ae r.fst),AD r.snd.fst,Aa r.snd.snd])) (inX e.Pid y_4.fst.S.Procs.length/\LQ (VV.tup [VV.agg [Ad true y_4.fst.S.Globals,AE true y_4.fst.S.Chans,VV.sl true y_4.fst.S.Procs.length 4 fun(j:Nat)=>bif j.beq e.Pid.toNat then[Aa (y_4.fst.S.Procs.getD e.Pid.toNat default).Type_,Aa y_3.To,Aa (y_4.fst.S.Procs.getD e.Pid.toNat default).Prio,Ad true (y_4.fst.S.Procs.getD e.Pid.toNat default).Frame] else Ar (y_4.fst.S.Procs.getD j default),Aa e.Pid,Aa y_4.fst.S.Alone,Aa y_4.fst.S.Claim],AD y_4.snd.fst,Aa 0]) (VV.tup [VV.agg (Ae r.fst),AD r.snd.fst,Aa r.snd.snd])))))))):=by kernel_rfl
theorem AaF (l:List Bool)(r:Int)(m:D.Model)(s:D.State):(fc L9 KL Tryz.f41 [] (.tup [Ba true l,Aa r])).goal (St.init [] [.agg (Ag m),.agg (Ae s)]) =
  (∃ (y:Int),VC 38 [VV.agg (Ag m),VV.agg (Ae s)] (Aa y)/\BB (y != 0) (LQ (VV.tup [VV.nl,Aa y]) (VV.tup [Ba true l,Aa r])) (((0:Int)<=(↑s.Procs.length:Int)/\(↑s.Procs.length:Int)<=(↑s.Procs.length:Int)/\(↑s.Procs.length:Int)*(↑1:Int)<=140737488355328)/\AA (fc L9 KL Tryz.f41 [] (VV.tup [Ba true l,Aa r])) [1,1,1,0,1,0] (Aq [(2,VV.bp 0 0),(3,VV.bp 1 0),(7,VV.ow 2 0 (↑s.Procs.length:Int).toNat),(21,Aa (↑s.Procs.length:Int)),(22,Aa 0)] [Ob.box (Ag m),Ob.box (Ae s),Ob.arr true 0 (↑s.Procs.length:Int).toNat 1 fun(_:Nat)=>((fc L9 KL Tryz.f41 [] (VV.tup [Ba true l,Aa r])).T 4).zero]))):=by kernel_rfl
theorem Aay (y:D.Env)(t:ByteArray)(r:Int)(e:D.Env)(s:D.Stmt)(w:Wy):(CR Tryz.prog tb L9 Adn false Tryz.f85 (hsE y) (.tup [AD t,Aa r])).goal (St.init (hsE e) [.bp 0 0,.agg (Ap s),.agg (AZ w)]) =
  (BB (s.Kind==1) (∃ (y_1:Bool),VC 119 [VV.agg (Ag e.M),Aa s.A] (Ac y_1)/\BB y_1 (∃ (y_2:D.Env × Int × Int),Ai Tryz.prog 120 (hsE e) [VV.bp 0 0,Aa s.A] (hsE y_2.fst) (vII y_2.snd)/\leO (hsE y_2.fst) (hsE y)/\(VV.tup [AD (⟨#[]⟩:ByteArray),Aa y_2.snd.snd]).le (VV.tup [AD t,Aa r])) (leO (hsE e) (hsE y)/\(VV.tup [AD (⟨#[]⟩:ByteArray),Aa 0]).le (VV.tup [AD t,Aa r]))) (BB (s.Kind==2) (∃ (y_1:D.Env × Int),Ai Tryz.prog 121 (hsE e) [VV.bp 0 0,VV.agg (Ap s)] (hsE y_1.fst) (Aa y_1.snd)/\leO (hsE y_1.fst) (hsE y)/\(VV.tup [AD (⟨#[]⟩:ByteArray),Aa y_1.snd]).le (VV.tup [AD t,Aa r])) (BB (s.Kind==3) (∃ (y_1:Int × Int),VC 61 [VV.agg (Bl e),Aa s.A] (vII y_1)/\BB (bif y_1.snd==0 then y_1.fst==0 else false) (leO (hsE e) (hsE y)/\(VV.tup [AD (⟨#[]⟩:ByteArray),Aa 50]).le (VV.tup [AD t,Aa r])) (leO (hsE e) (hsE y)/\(VV.tup [AD (⟨#[]⟩:ByteArray),Aa y_1.snd]).le (VV.tup [AD t,Aa r]))) (BB (s.Kind==4) (∃ (y_1:List Int × Int),Ai Tryz.prog 122 [] [VV.agg (Bl e),Ad true s.Args] [Ob.arr true 0 y_1.fst.length 1 (AM y_1.fst)] (VV.tup [VV.ow 0 0 y_1.fst.length,Aa y_1.snd])/\BB (y_1.snd != 0) (leO (hsE e) (hsE y)/\(VV.tup [AD (⟨#[]⟩:ByteArray),Aa y_1.snd]).le (VV.tup [AD t,Aa r])) (∃ (y_2:ByteArray),VC 123 [AD s.Text,Ad false y_1.fst] (AD y_2)/\leO (hsE e) (hsE y)/\(VV.tup [AD y_2,Aa 0]).le (VV.tup [AD t,Aa r]))) (BB (s.Kind==9) ((e.S.Chans.length+1)*32<=140737488355328/\∃ (y_1:D.Env × Int),Ai Tryz.prog 124 [Ob.box (E3 e (VV.ow 1 0 (e.S.Chans.length+1)) (VV.ow 2 0 e.S.Procs.length)),Ob.arr true 0 (e.S.Chans.length+1) 2 fun(i:Nat)=>bif i.blt e.S.Chans.length then AB (e.S.Chans.getD i default) else(fun(i:Nat)=>List.take 2 (List.drop (i*2) [Aa s.N,VV.nl])) (i - e.S.Chans.length),obP e.S] [VV.bp 0 0,Aa s.A,Aa (↑(e.S.Chans.length+1):Int)] (hsE y_1.fst) (Aa y_1.snd)/\leO (hsE y_1.fst) (hsE y)/\(VV.tup [AD (⟨#[]⟩:ByteArray),Aa y_1.snd]).le (VV.tup [AD t,Aa r])) (BB (s.Kind==5) (∃ (y_1:D.Env × Int),Ai Tryz.prog 125 (hsE e) [VV.bp 0 0,VV.agg (Ap s),VV.agg (AZ w)] (hsE y_1.fst) (Aa y_1.snd)/\leO (hsE y_1.fst) (hsE y)/\(VV.tup [AD (⟨#[]⟩:ByteArray),Aa y_1.snd]).le (VV.tup [AD t,Aa r])) (BB (s.Kind==6) (∃ (y_1:D.Env × Int),Ai Tryz.prog 126 (hsE e) [VV.bp 0 0,VV.agg (Ap s)] (hsE y_1.fst) (Aa y_1.snd)/\leO (hsE y_1.fst) (hsE y)/\(VV.tup [AD (⟨#[]⟩:ByteArray),Aa y_1.snd]).le (VV.tup [AD t,Aa r])) (leO (hsE e) (hsE y)/\(VV.tup [AD (⟨#[]⟩:ByteArray),Aa 0]).le (VV.tup [AD t,Aa r]))))))))):=by kernel_rfl
theorem WC (l:List Bool)(r:Int)(m:D.Model)(s:D.State)(l':List Bool)(k:Int)(J:St->Prop):((fc L9 KL Tryz.f41 [] (.tup [Ba true l,Aa r])).loop [1,1,1,0,1,0] J).goal (Y7 m s l' k) =
  (BB (decide (k<(↑s.Procs.length:Int))) (∃ (y:List Wy),VC 60 [VV.agg [AJ true m.Globals,Ad true m.Init,Bd true m.Shapes,Ad true m.Chans,A4 true m.Procs,Aa m.Claim,Bs true m.Exprs,Ad true s.Globals,AE true s.Chans,Au true s.Procs,Aa s.Last,Aa s.Alone,Aa s.Claim,Aa k,Ac false,VV.nl]] (A5 true y)/\inX k l'.length/\J (Aq [(2,VV.bp 0 0),(3,VV.bp 1 0),(7,VV.ow 2 0 l'.length),(21,Aa (↑s.Procs.length:Int)),(22,Aa (IntKind.i64.wrap (k+(1:Int))))] [Ob.box (Ag m),Ob.box (Ae s),Ob.arr true 0 l'.length 1 fun(j:Nat)=>bif j.beq k.toNat then[Ac (decide ((↑y.length:Int) > 0))] else[Ac (l'.getD j false)]])) (LQ (VV.tup [Ba true l',Aa 0]) (VV.tup [Ba true l,Aa r]))):=by kernel_rfl
theorem Wx (hs':List Ob)(r:VV)(s:D.State)(cs:List D.Chan)(k:Int)(J:St->Prop):((CR Tryz.prog tb L9 FI false Tryz.f14 hs' (r)).loop [1,1,1,1,0,1,0] J).goal (Zg s cs k) =
  (BB (decide (k<(↑s.Chans.length:Int))) (inX k s.Chans.length/\AA ((CR Tryz.prog tb L9 FI false Tryz.f14 hs' r).loop [1,1,1,1,0,1,0] J) [1,1,0,0,1,1,0,1,0] (Aq [(1,VV.bp 0 0),(2,VV.bp 1 0),(3,VV.bp 2 0),(5,VV.bp 4 0),(6,VV.nl),(19,AE true s.Chans),(20,Aa (↑s.Chans.length:Int)),(21,Aa k),(26,BI true (s.Chans.getD k.toNat default).Queue),(27,Aa (↑(s.Chans.getD k.toNat default).Queue.length:Int)),(28,Aa 0)] [Ob.box (Ae s),Ob.box [VV.nl,VV.nl,VV.nl,Aa 0,Aa 0,Aa 0],Ob.box (Bi s (VV.ow 3 0 cs.length) VV.nl),Ob.arr true 0 cs.length 2 (CQ cs),Ob.box (AB (s.Chans.getD k.toNat default))])) (AA (CR Tryz.prog tb L9 FI false Tryz.f14 hs' r) [1,1,1,1,1,0,1,0] (Aq [(2,VV.bp 0 0),(3,VV.bp 1 0),(49,Au true s.Procs),(50,Aa (↑s.Procs.length:Int)),(51,Aa 0)] [Ob.box [VV.nl,VV.nl,VV.nl,Aa 0,Aa 0,Aa 0],Ob.box (Bi s (VV.ow 2 0 cs.length) VV.nl),Ob.arr true 0 cs.length 2 (CQ cs)]))):=by kernel_rfl
theorem Wv (hs':List Ob)(r:VV)(s:D.State)(cs:List D.Chan)(ps:List D.Process)(k:Int)(J:St->Prop):((CR Tryz.prog tb L9 FI false Tryz.f14 hs' (r)).loop [1,1,1,1,1,0,1,0] J).goal (Ze s cs ps k) =
  (BB (decide (k<(↑s.Procs.length:Int))) (inX k s.Procs.length/\∃ (y:List Int),VC 24 [Ad true (s.Procs.getD k.toNat default).Frame] (Ad true y)/\(ps.length+1)*48<=140737488355328/\J (Aq [(2,VV.bp 0 0),(3,VV.bp 1 0),(49,Au true s.Procs),(50,Aa (↑s.Procs.length:Int)),(51,Aa (IntKind.i64.wrap (k+(1:Int))))] [Ob.box [VV.nl,VV.nl,VV.nl,Aa 0,Aa 0,Aa 0],Ob.box (Bi s (VV.ow 2 0 cs.length) (VV.ow 3 0 (ps.length+1))),Ob.arr true 0 cs.length 2 (CQ cs),Ob.arr true 0 (ps.length+1) 4 fun(i:Nat)=>bif i.blt ps.length then Ar (ps.getD i default) else(fun(i:Nat)=>List.take 4 (List.drop (i*4) [Aa (s.Procs.getD k.toNat default).Type_,Aa (s.Procs.getD k.toNat default).Loc,Aa (s.Procs.getD k.toNat default).Prio,Ad true y])) (i - ps.length)])) (leO [Ob.arr true 0 cs.length 2 (CQ cs),Ob.arr true 0 ps.length 4 (Ft ps)] hs'/\(VV.agg (Bi s (VV.ow 0 0 cs.length) (VV.ow 1 0 ps.length))).le r)):=by kernel_rfl
theorem Ww (hs':List Ob)(r:VV)(s:D.State)(cs:List D.Chan)(k:Int)(c:D.Chan)(q:List (List Int))(j:Int)(J J2:St->Prop):(((CR Tryz.prog tb L9 FI false Tryz.f14 hs' (r)).loop [1,1,1,1,0,1,0] J).loop [1,1,0,0,1,1,0,1,0] J2).goal (Zf s cs k c q j) =
  (BB (decide (j<(↑c.Queue.length:Int))) (inX j c.Queue.length/\∃ (y:List Int),VC 30 [Ad true (c.Queue.getD j.toNat [])] (Ad true y)/\(q.length+1)*24<=140737488355328/\J2 (Aq [(1,VV.bp 0 0),(2,VV.bp 1 0),(3,VV.bp 2 0),(5,VV.bp 4 0),(6,VV.ow 5 0 (q.length+1)),(19,AE true s.Chans),(20,Aa (↑s.Chans.length:Int)),(21,Aa k),(26,BI true c.Queue),(27,Aa (↑c.Queue.length:Int)),(28,Aa (IntKind.i64.wrap (j+(1:Int))))] [Ob.box (Ae s),Ob.box [VV.nl,VV.nl,VV.nl,Aa 0,Aa 0,Aa 0],Ob.box (Bi s (VV.ow 3 0 cs.length) VV.nl),Ob.arr true 0 cs.length 2 (CQ cs),Ob.box (AB c),Ob.arr true 0 (q.length+1) 1 fun(i:Nat)=>bif i.blt q.length then[Ad true (q.getD i [])] else(fun(i:Nat)=>List.take 1 (List.drop (i*1) [Ad true y])) (i - q.length)])) ((cs.length+1)*32<=140737488355328/\J (Aq [(1,VV.bp 0 0),(2,VV.bp 1 0),(3,VV.bp 2 0),(19,AE true s.Chans),(20,Aa (↑s.Chans.length:Int)),(21,Aa (IntKind.i64.wrap (k+(1:Int))))] [Ob.box (Ae s),Ob.box [VV.nl,VV.nl,VV.nl,Aa 0,Aa 0,Aa 0],Ob.box (Bi s (VV.ow 3 0 (cs.length+1)) VV.nl),Ob.arr true 0 (cs.length+1) 2 fun(i:Nat)=>bif i.blt cs.length then AB (cs.getD i default) else(fun(i:Nat)=>(List.map (fun(x:List VV × List Nat)=>x.fst) [([Aa c.Shape,BI true q],List.flatMap (fun(x:VV × List Nat)=>x.snd) [(Aa c.Shape,[]),(BI true q,[5])])]).getD i []) (i - cs.length)]))):=by kernel_rfl
end Go.Proofs.YtmdcknlpalfhhaaGreatDoor
namespace Go.Proofs.YtmdcknlpalfhhaaGreatDoor
open Go.RowKit
theorem AA.cv {c:Ctx}{rel:List Nat}{st st':St}(h:Cv st st')(k:AA c rel st'):AA c rel st:=Sat.cv h k
theorem No {s:D.State}(hf:Fit s):Ai Tryz.prog 14 [] [.agg (Ae s)] [obC s,obP s] (.agg (Bi s (.ow 0 0 s.Chans.length) (.ow 1 0 s.Procs.length))):=by
 have hg:=hf.g
 have hc:=hf.c
 have hp:=hf.p
 refine Ah Al Am Tryz.func14 (by kernel_rfl) rfl (Aaz [obC s,obP s] (.agg (Bi s (.ow 0 0 s.Chans.length) (.ow 1 0 s.Procs.length))) s) ⟨s.Globals,Ly (by omega),?_⟩
 refine Bh Al Am (fun g st=>∃ k:Nat,k<=s.Chans.length/\g=s.Chans.length - k/\st=Zg s (s.Chans.take k) k) (by kernel_rfl) (by kernel_rfl) ⟨_,Up.cv (Am7 2 1 2 (CQ []) rfl rfl) (Up.of ⟨0,Alc _,rfl,rfl⟩)⟩ ?_
 rintro g st ⟨k,hk,rfl,rfl⟩
 have hlk:(s.Chans.take k).length=k:=by simp;omega
 refine Alu (Wx _ _ s (s.Chans.take k) k _) ⟨fun hlt=>?_,fun hge=>?_⟩
 ·have hlt':k<s.Chans.length:=by have:=AV hlt;omega
  have hto:(k:Int).toNat=k:=by omega
  rw[hto]
  have hpush:s.Chans.take (k+1)=s.Chans.take k++[s.Chans.getD k default]:=H7 hlt'
  have hq:=hf.q _ (Av (d:=default) hlt')
  generalize s.Chans.getD k default=c at hpush hq ⊢
  refine⟨⟨by omega,by omega⟩,?_⟩
  refine AA.own 4 6 1 (Xq []) rfl ?_
  refine Bh Al Am (fun g st=>∃ j:Nat,j<=c.Queue.length/\g=c.Queue.length - j/\st=Zf s (s.Chans.take k) k c (c.Queue.take j) j) (by kernel_rfl) (by kernel_rfl) ⟨_,Up.of ⟨0,Alc _,rfl,rfl⟩⟩ ?_
  rintro g st ⟨j,hj,rfl,rfl⟩
  have hlj:(c.Queue.take j).length=j:=by simp;omega
  refine Alu (Ww _ _ s (s.Chans.take k) k c (c.Queue.take j) j _ _) ⟨fun hlt2=>?_,fun hge2=>?_⟩
  ·have hlt2':j<c.Queue.length:=by have:=AV hlt2;omega
   have hto2:(j:Int).toNat=j:=by omega
   rw[hto2]
   have hpush2:c.Queue.take (j+1)=c.Queue.take j++[c.Queue.getD j []]:=H7 hlt2'
   have hm:=hq.2 _ (Av (d:=[]) hlt2')
   refine⟨⟨by omega,by omega⟩,c.Queue.getD j [],VK (by omega),by rw[hlj];omega,c.Queue.length - (j+1),by omega,?_⟩
   rw[An (by omega)]
   refine Up.mk (l':=[(1,.bp 0 0),(2,.bp 1 0),(3,.bp 2 0),(5,.bp 4 0),(6,.ow 5 0 (c.Queue.take (j+1)).length),(19,AE true s.Chans),(20,Aa s.Chans.length),(21,Aa k),(26,BI true c.Queue),(27,Aa c.Queue.length),(28,Aa ((j+1:Nat):Int))])
    (hs':=[.box (Ae s),.box Q6,.box (Bi s (.ow 3 0 (s.Chans.take k).length) .nl),.arr true 0 (s.Chans.take k).length 2 (CQ (s.Chans.take k)),.box (AB c),.arr true 0 (c.Queue.take (j+1)).length 1 (Xq (c.Queue.take (j+1)))]) ?_ ?_ ⟨j+1,by omega,rfl,rfl⟩
   ·rw[hpush2,Alh];exact AO _
   ·rw[hpush2,Alh]
    refine⟨Ob.le_refl _,Ob.le_refl _,Ob.le_refl _,Ob.le_refl _,Ob.le_refl _,AlM fun i hi=>AQ ?_,trivial⟩
    refine B6 (l:=c.Queue.take j) (r:=[c.Queue.getD j []]) (f:=fun w=>[Ad true w]) (d:=[]) (F:=fun i=>[Ad true ((c.Queue.take j).getD i [])]) (G:=fun i=>List.take 1 (List.drop (i*1) [Ad true (c.Queue.getD j [])])) (fun i hi=>rfl) (fun i hi=>?_) (by simpa using hi)
    obtain rfl:i=0:=by simpa using hi
    rfl
  ·have hge2':c.Queue.length<=j:=by have:=A0 hge2;omega
   rw[AmY hge2']
   refine⟨by rw[hlk];omega,s.Chans.length - (k+1),by omega,?_⟩
   rw[An (by omega)]
   refine Up.mk (l':=[(1,.bp 0 0),(2,.bp 1 0),(3,.bp 2 0),(19,AE true s.Chans),(20,Aa s.Chans.length),(21,Aa ((k+1:Nat):Int))])
    (hs':=[.box (Ae s),.box Q6,.box (Bi s (.ow 3 0 (s.Chans.take (k+1)).length) .nl),.arr true 0 (s.Chans.take (k+1)).length 2 (CQ (s.Chans.take (k+1)))]) ?_ ?_ ⟨k+1,by omega,rfl,rfl⟩
   ·exact AO _
   ·rw[hpush,Alh]
    refine⟨Ob.le_refl _,Ob.le_refl _,Ob.le_refl _,AlM fun i hi=>AQ ?_,trivial⟩
    exact B6 (l:=s.Chans.take k) (r:=[c]) (f:=AB) (d:=default) (F:=fun i=>AB ((s.Chans.take k).getD i default)) (G:=fun i=>[AB c].getD i []) (fun i hi=>rfl) (fun i hi=>by
     obtain rfl:i=0:=by simpa using hi
     rfl) (by simpa using hi)
 ·have hge':s.Chans.length<=k:=by have:=A0 hge;omega
  rw[AmY hge']
  refine Bh Al Am (fun g st=>∃ k:Nat,k<=s.Procs.length/\g=s.Procs.length - k/\st=Ze s s.Chans (s.Procs.take k) k) (by kernel_rfl) (by kernel_rfl) ⟨_,Up.cv (Am7 1 2 4 (Ft []) rfl rfl) (Up.of ⟨0,Alc _,rfl,rfl⟩)⟩ ?_
  rintro g st ⟨k,hk,rfl,rfl⟩
  have hlk:(s.Procs.take k).length=k:=by simp;omega
  refine Alu (Wv _ _ s s.Chans (s.Procs.take k) k _) ⟨fun hlt=>?_,fun hge=>?_⟩
  ·have hlt':k<s.Procs.length:=by have:=AV hlt;omega
   have hto:(k:Int).toNat=k:=by omega
   rw[hto]
   have hpush:s.Procs.take (k+1)=s.Procs.take k++[s.Procs.getD k default]:=H7 hlt'
   have hq:=hf.f _ (Av (d:=default) hlt')
   generalize s.Procs.getD k default=p at hpush hq ⊢
   refine⟨⟨by omega,by omega⟩,p.Frame,Ly (by omega),by rw[hlk];omega,s.Procs.length - (k+1),by omega,?_⟩
   rw[An (by omega)]
   refine Up.mk (l':=[(2,.bp 0 0),(3,.bp 1 0),(49,Au true s.Procs),(50,Aa s.Procs.length),(51,Aa ((k+1:Nat):Int))])
    (hs':=[.box Q6,.box (Bi s (.ow 2 0 s.Chans.length) (.ow 3 0 (s.Procs.take (k+1)).length)),.arr true 0 s.Chans.length 2 (CQ s.Chans),.arr true 0 (s.Procs.take (k+1)).length 4 (Ft (s.Procs.take (k+1)))]) ?_ ?_ ⟨k+1,by omega,rfl,rfl⟩
   ·exact AO _
   ·rw[hpush,Alh]
    refine⟨Ob.le_refl _,Ob.le_refl _,Ob.le_refl _,AlM fun i hi=>AQ ?_,trivial⟩
    exact B6 (l:=s.Procs.take k) (r:=[p]) (f:=Ar) (d:=default) (F:=fun i=>Ar ((s.Procs.take k).getD i default)) (G:=fun i=>List.take 4 (List.drop (i*4) (Ar p))) (fun i hi=>rfl) (fun i hi=>by
     obtain rfl:i=0:=by simpa using hi
     rfl) (by simpa using hi)
  ·have hge2:s.Procs.length<=k:=by have:=A0 hge;omega
   rw[AmY hge2]
   exact⟨⟨Ob.le_refl _,Ob.le_refl _,trivial⟩,VV.le_refl _⟩
def Cc (l:D.Loc)(esc:Int):List D.Trans:=bif decide (esc<0) then l.Out else l.Esc.getD esc.toNat []
theorem U4 : ∀ {r:List (List D.Trans)} {k:Nat} {i:Int} {ws:List D.Trans},(i,ws)∈VE k r->∃ j:Nat,i=((k+j:Nat):Int)/\r[j]?=some ws
 | [],k,i,ws,h=>by cases h
 | w::r,k,i,ws,h=>by
  rcases AlQ.1 h with h | h
  ·simp only[AlH]at h
   obtain⟨rfl,rfl⟩:=h
   exact⟨0,by omega,rfl⟩
  ·obtain⟨j,hj,hw⟩:=U4 h
   exact⟨j+1,by omega,by simpa using hw⟩
theorem Ii {l:D.Loc}{i:Int}{ws:List D.Trans}(h:(i,ws)∈Fx l):Cc l i=ws/\-1<=i/\i<l.Esc.length/\(ws=l.Out∨ws∈l.Esc):=by
 rcases AlA.1 h with h | h
 ·obtain⟨j,rfl,hj⟩:=U4 h
  obtain⟨hlt,rfl⟩:=Ak3.1 hj
  refine⟨?_,by omega,by omega,.inr (AmD _)⟩
  unfold Cc
  rw[AlI (by omega),Ak0]
  simp[List.getD,hlt]
 ·simp only[Aly,AlH]at h
  obtain⟨rfl,rfl⟩:=h
  exact⟨rfl,by omega,by omega,.inl rfl⟩
section
variable {e : D.Env} {mt:Int->List Int->List Pn} {ws:List D.Trans} {self:Bool}
theorem AdX {s:D.Stmt}(h:(C9 e mt s self).is=false):(C9 e mt s self).wth=[]:=by
 unfold C9 at h ⊢
 split
 ·cases DN e s.A<;>rfl
 ·rename_i n1
  rw[Alg n1]at h
  split
  ·cases DN e s.B<;>rfl
  ·rename_i n2
   rw[Alg n2]at h
   split
   ·rfl
   ·rename_i n3
    rw[Alg n3]at h
    split
    ·rename_i n4
     rw[Alw n4]at h
     unfold II at h ⊢
     cases c1:decide ((AC e s.A).2≠0) with
     | true=>rfl
     | false =>
     rw[c1,Ak0]at h
     rw[Ak0]
     cases c2:decide ((Bb e (AC e s.A).1).length≠s.Args.length) with
     | true=>rfl
     | false =>
     rw[c2,Ak0]at h
     rw[Ak0]
     cases c3:decide (0<(BP e.M (Cl e (AC e s.A).1).Shape).Room) with
     | true=>rfl
     | false =>
     rw[c3,Ak0]at h
     rw[Ak0]
     cases c4:self with
     | true=>rfl
     | false =>
     rw[c4,Ak0]at h
     rw[Ak0]
     cases c5:decide ((Az e s).2.2≠0) with
     | true=>rfl
     | false =>
     rw[c5,Ak0]at h
     rw[Ak0]
     exact Alz (Nat.eq_zero_of_not_pos (Alk h))
    split
    ·rfl
    split<;>rfl
theorem Aba {s:D.Stmt}(h:s.Kind=7):C9 e mt s self=⟨false,0,[]⟩:=by
 unfold C9
 rw[Alg (by omega),Alg (by omega),Alg (by omega),Alg (by omega),Alg (by omega),Alw h]
theorem Uz : ∀ {n:Nat},FQ e mt ws self n=false->∀ j,j<n->(C9 e mt (ws.getD j default).S self).is=false
 | 0,_,j,hj=>absurd hj (Amq j)
 | n+1,h,j,hj=>by
  unfold FQ at h
  rw[Aln]at h
  rcases AlD.1 hj with h' | rfl
  ·exact Uz h.1 j h'
  ·exact h.2
def AhX (x:Ab):Prop:=x.is=true∨x.wth≠[]
theorem AfR {j:Nat}(hk:(ws.getD j default).S.Kind=7)(h:AhX (FY e mt ws self j)):FQ e mt ws self ws.length=false:=by
 unfold FY at h
 rw[Aba hk,show decide ((ws.getD j default).S.Kind=7)=true by simpa using hk]at h
 cases hs:FQ e mt ws self ws.length with
 | false=>rfl
 | true =>
  rw[hs]at h
  rcases h with h | h
  ·cases h
  ·exact absurd rfl h
theorem AfQ {j:Nat}(hj:j<ws.length)(hs:FQ e mt ws self ws.length=false)(h:AhX (FY e mt ws self j)):(ws.getD j default).S.Kind=7:=by
 refine Alt fun hn=>?_
 have his:=Uz hs j hj
 have hw:=AdX his
 unfold FY at h
 rw[show decide ((ws.getD j default).S.Kind=7)=false by simpa using hn]at h
 rcases h with h | h
 ·have h':(C9 e mt (ws.getD j default).S self).is=true:=h
  rw[his]at h';cases h'
 ·exact h hw
theorem Acm {i:Int}{k:Nat}{x:Ab}{w:Wy}(h:w∈GI i k x):w.Esc=i/\w.Way=k/\AhX x:=by
 rcases AlA.1 h with h | h
 ·cases c:(x.is&&decide (x.wth.length=0)) with
  | false=>rw[c]at h;cases h
  | true =>
   rw[c]at h
   obtain rfl:=Aly.1 h
   simp only[Ak2]at c
   exact⟨rfl,rfl,.inl c.1⟩
 ·obtain⟨p,hp,rfl⟩:=Amn.1 h
  refine⟨rfl,rfl,.inr ?_⟩
  intro hn;rw[hn]at hp;cases hp
theorem P6 {i:Int}:∀ {l:List Ab} {k:Nat} {w:Wy},w∈C3 i k l->∃ (j:Nat) (x:Ab),l[j]?=some x/\w.Esc=i/\w.Way=((k+j:Nat):Int)/\AhX x
 | [],k,w,h=>by cases h
 | x::r,k,w,h=>by
  rcases AlA.1 (show w∈GI i k x++C3 i (k+1) r from h) with h | h
  ·obtain⟨h1,h2,h3⟩:=Acm h
   exact⟨0,x,rfl,h1,h2,h3⟩
  ·obtain⟨j,y,h1,h2,h3,h4⟩:=P6 h
   exact⟨j+1,y,h1,h2,by rw[h3];congr 1;omega,h4⟩
theorem TB {j:Nat}{x:Ab}(h:(Cz e mt ws self)[j]?=some x):j<ws.length/\x=FY e mt ws self j:=by
 unfold Cz at h
 simp only[Alv,Alj]at h
 obtain⟨a,ha,rfl⟩:=h
 obtain⟨h1,h2⟩:=Ak3.1 ha
 simp at h1 h2
 subst h2
 exact⟨h1,rfl⟩
theorem NU : ∀ {r:List (Int × List D.Trans)},FT e r=[]∨∃ i ws,(i,ws)∈r/\FT e r=C3 i 0 (Cz e (Bn e) ws false)
 | []=>.inl rfl
 | (i,ws)::r=>by
  have hq:FT e ((i,ws)::r)=bif decide (0<(C3 i 0 (Cz e (Bn e) ws false)).length) then C3 i 0 (Cz e (Bn e) ws false) else FT e r:=rfl
  rw[hq]
  cases decide (0<(C3 i 0 (Cz e (Bn e) ws false)).length) with
  | true=>exact .inr ⟨i,ws,Alb,rfl⟩
  | false =>
   rcases NU (r:=r) with h | ⟨i',ws',h1,h2⟩
   ·exact .inl h
   ·exact .inr ⟨i',ws',Alp _ h1,h2⟩
theorem Hm : Bp e=[]∨(∃ er,Bp e=[KS er])∨∃ i ws,(i,ws)∈Fx (Dl e)/\Bp e=C3 i 0 (Cz e (Bn e) ws false):=by
 unfold Bp
 cases decide ((DP e e.Pid).Loc=(DZ e).Final) with
 | true =>
  cases decide (e.Pid=(e.S.Procs.length:Int) - 1) with
  | true=>exact .inr (.inl ⟨0,rfl⟩)
  | false=>exact .inl rfl
 | false =>
  cases decide ((Bk e).2≠0) with
  | true=>exact .inr (.inl ⟨_,rfl⟩)
  | false =>
   cases (Bk e).1 with
   | false=>exact .inl rfl
   | true =>
    rcases NU (e:=e) (r:=Fx (Dl e)) with h | h
    ·exact .inl h
    ·exact .inr (.inr h)
theorem T4 {w:Wy}(hw:w∈Bp e) :
  (w.Way<0->(Bp e).length=1)/\(0<=w.Way->-1<=w.Esc/\w.Esc<(Dl e).Esc.length/\∀ w'∈Bp e,w'.Esc=w.Esc/\0<=w'.Way/\w'.Way<(Cc (Dl e) w.Esc).length /\
   (((Cc (Dl e) w.Esc).getD w.Way.toNat default).S.Kind=7->((Cc (Dl e) w.Esc).getD w'.Way.toNat default).S.Kind=7)):=by
 rcases Hm (e:=e) with h | ⟨er,h⟩ | ⟨i,ws,hi,h⟩
 ·rw[h]at hw;cases hw
 ·rw[h]at hw
  obtain rfl:=Aly.1 hw
  exact⟨fun _=>by rw[h]<;>rfl,fun h0=>by unfold KS at h0;simp at h0⟩
 ·rw[h]at hw ⊢
  obtain⟨hl,h1,h2,_⟩:=Ii hi
  obtain⟨j,x,a1,a2,a3,a4⟩:=P6 hw
  obtain⟨b1,rfl⟩:=TB a1
  refine⟨fun hn=>by rw[a3]at hn;omega,fun _=>⟨by omega,by omega,fun w' hw'=>?_⟩⟩
  obtain⟨j',x',c1,c2,c3,c4⟩:=P6 hw'
  obtain⟨d1,rfl⟩:=TB c1
  rw[a2,hl]
  refine⟨c2,by rw[c3];omega,by rw[c3];omega,fun hk=>?_⟩
  rw[show w.Way.toNat=j by rw[a3];omega]at hk
  rw[show w'.Way.toNat=j' by rw[c3];omega]
  exact AfQ d1 (AfR hk a4) c4
end
section
variable {e : D.Env}
theorem T6 {i:Int}:∀ {l:List Ab} {k:Nat},(∀ x∈l,x.wth.length<=16384)->(C3 i k l).length<=l.length*16385
 | [],_,_=>Alc _
 | x::r,k,h=>by
  rw[Rh,Alh,AlE,Anf]
  have h1:=T6 (i:=i) (k:=k+1) fun y hy=>h y (Alp _ hy)
  have h2:(GI i k x).length<=16385:=by
   have hx:=h x Alb
   unfold GI
   rw[Alh,Al8]
   cases (x.is&&decide (x.wth.length=0))
   ·simp;omega
   ·simp;omega
  omega
theorem Kt (h:CK e):(Bp e).length<=16778240:=by
 rcases Hm (e:=e) with h' | ⟨er,h'⟩ | ⟨i,ws,hi,h'⟩
 ·rw[h'];simp
 ·rw[h'];simp
 ·rw[h']
  obtain⟨_,_,_,hm⟩:=Ii hi
  have hws:=(h.ws (ws:=ws) (by rcases hm with rfl | hm;exact Alb;exact Alp _ hm)).len
  have h1:=T6 (i:=i) (k:=0) (l:=Cz e (Bn e) ws false) (VO h)
  have h2:(Cz e (Bn e) ws false).length=ws.length:=by simp[Cz]
  rw[h2]at h1
  have:=Alo 16385 hws
  omega
end
section
variable {e : D.Env} {w:Wy}
def BO : D.State:=⟨[],[],[],0,0,0⟩
theorem Qb {c:Int}:VV.le (.tup [.agg [.nl,.nl,.nl,Aa 0,Aa 0,Aa 0],AD ⟨#[]⟩,Aa c]) (.tup [.agg (Ae BO),AD ⟨#[]⟩,Aa c]) :=
 Amx ⟨Aml ⟨AlR,AlR,AlR,VV.le_refl _,VV.le_refl _,VV.le_refl _,trivial⟩,VV.le_refl _,VV.le_refl _,trivial⟩
theorem PK {l:List D.Process}{t j:Nat}{p:D.Process}(hj:j<l.length):(bif j.beq t then Ar p else Ar (l.getD j default))=Ar ((l.set t p).getD j default):=by
 cases hq:j.beq t with
 | true =>
  have:=Ak7 hq;subst this
  simp[List.getD,hj]
 | false =>
  have hne:t≠j:=by rintro rfl;simp at hq
  simp[List.getD,hne]
def AfJ (m:D.Model)(s:D.State)(k:Int):D.Env:=⟨m,s,k,false,[]⟩
def Aie (m:D.Model)(s:D.State)(k:Nat):Bool:=decide (((Bp (AfJ m s k)).length:Int) > 0)
def CA (m:D.Model)(s:D.State)(k:Nat):List Bool:=(List.range s.Procs.length).map fun i=>bif Nat.blt i k then Aie m s i else false
theorem FK {m:D.Model}{s:D.State}{k:Nat}:(CA m s k).length=s.Procs.length:=by simp[CA]
theorem QN {m:D.Model}{s:D.State}{k j:Nat}(hj:j<s.Procs.length):(CA m s k).getD j false=bif Nat.blt j k then Aie m s j else false:=by
 simp[CA,List.getD,hj]
theorem Sj {m:D.Model}{s:D.State}(hw:Ay m)(hs:A7 s)(hc:Cf m s=0):Ai Tryz.prog 41 [] [.agg (Ag m),.agg (Ae s)] [] (.tup [Ba true (CA m s s.Procs.length),Aa 0]):=by
 obtain⟨hm,hf⟩:=Lz hc
 have hfit:=Tt hm hf
 have hp:=hfit.p
 have hpid:∀ k:Nat,k<s.Procs.length->CK (AfJ m s k):=fun k hk=>⟨⟨hf,hm,hw,by show -1<=(k:Int);omega,by show(k:Int)<s.Procs.length;omega⟩,by show 0<=(k:Int);omega⟩
 refine Ah Al Am Tryz.func41 (by kernel_rfl) rfl (AaF (CA m s s.Procs.length) 0 m s) ⟨Cf m s,Gr hw hs (fun h=>(GU h).clp),fun h1=>?_,fun _=>⟨⟨by omega,by omega,by omega⟩,?_⟩⟩
 ·rw[hc]at h1;cases h1
 have hn0:((s.Procs.length:Int).toNat)=(CA m s 0).length:=by rw[FK];omega
 rw[hn0]
 refine AA.le (l':=[(2,.bp 0 0),(3,.bp 1 0),(7,.ow 2 0 (CA m s 0).length),(21,Aa s.Procs.length),(22,Aa 0)]) (hs':=[.box (Ag m),.box (Ae s),.arr true 0 (CA m s 0).length 1 (HH (CA m s 0))]) (AO _) ⟨Ob.le_refl _,Ob.le_refl _,AlM fun i hi=>AQ ?_,trivial⟩ ?_
 ·rw[FK]at hi
  show _=[Ac ((CA m s 0).getD i false)]
  rw[QN hi]<;>rfl
 refine AK Al Am s.Procs.length (fun k=>Y7 m s (CA m s k) k) (fun _=>True) (by kernel_rfl) (by kernel_rfl) trivial ?_
 intro k hk _ J next
 refine Alu (WC _ 0 m s (CA m s k) k J) ⟨fun hlt=>?_,fun hge=>?_⟩
 ·have hlt':k<s.Procs.length:=by have:=AV hlt;omega
  have hto:(k:Int).toNat=k:=by omega
  rw[hto]
  refine⟨Bp (AfJ m s k),(Jj (hpid k hlt')).le trivial ⟨Aml ⟨VV.le_refl _,VV.le_refl _,VV.le_refl _,VV.le_refl _,VV.le_refl _,VV.le_refl _,VV.le_refl _,VV.le_refl _,VV.le_refl _,VV.le_refl _,VV.le_refl _,VV.le_refl _,VV.le_refl _,VV.le_refl _,VV.le_refl _,AlR,trivial⟩,trivial⟩ trivial (VV.le_refl _),⟨by omega,by rw[FK];omega⟩,next _ hlt' trivial ?_⟩
  rw[An (by omega)]
  refine Up.mk (l':=[(2,.bp 0 0),(3,.bp 1 0),(7,.ow 2 0 (CA m s (k+1)).length),(21,Aa s.Procs.length),(22,Aa ((k+1:Nat):Int))]) (hs':=[.box (Ag m),.box (Ae s),.arr true 0 (CA m s (k+1)).length 1 (HH (CA m s (k+1)))]) ?_ ?_ rfl
  ·rw[FK,FK];exact AO _
  ·rw[FK,FK]
   refine⟨Ob.le_refl _,Ob.le_refl _,AlM fun i hi=>AQ ?_,trivial⟩
   show _=[Ac ((CA m s (k+1)).getD i false)]
   rw[QN (k:=k+1) hi]
   cases hq:i.beq k with
   | true =>
    have:=Ak7 hq;subst this
    rw[Ak4,E5 (Al2 _)]<;>rfl
   | false =>
    rw[Ak0,QN (k:=k) hi]
    have hne:i≠k:=by rintro rfl;simp at hq
    rcases AlL i k with h | h
    ·rw[E5 h,E5 (by omega)]<;>rfl
    ·rw[Gx h,Gx (by omega)]<;>rfl
 ·have hge':k=s.Procs.length:=by have:=A0 hge;omega
  subst hge'
  exact⟨trivial,VV.le_refl _⟩
end
def Ic (is:List Nat)(φ:Phi):Phi:=fun j=>(is[j]?).bind φ
def US (is:List Nat)(hs:List Ob):List Ob:=is.map fun i=>UM false (idx is) (fun _ g=>some g) (fun g=>g) (Bm hs i)
theorem Xs (p:Pl):Ff (fun g=>g) p=p:=by cases p<;>rfl
theorem Ai.pick {P:Program}{f:FuncId}{hs hs1:List Ob}{xs:List VV}{r:VV}(is:List Nat)(h:Ai P f hs xs hs1 r)(hok:Et hs1.length is=true)
  (hl:∀ j,j<hs.length->is[j]?=some j∨((∀ cs,Bm hs j≠.box cs)/\∃ i,is[j]?=some i/\∀ cs,Bm hs1 i≠.box cs)) :
  Ai P f hs xs (US is hs1) (Mf false (idx is) (fun _ g=>some g) 8 r):=by
 refine⟨h.callable,fun w E φ vs hz hH hφ hs0=>(h.call w E φ vs hz hH hφ hs0).mono ?_⟩
 rintro e w' ⟨v,φ',rfl,h1,h2,h3,h4⟩
 have hsub:∀ k,Own (Ic is φ') k->Own φ' k:=by
  rintro k ⟨j,hb⟩
  obtain⟨p,hp,hpb⟩:=AI.1 hb
  unfold Ic at hp
  cases hq:is[j]? with
  | none=>rw[hq]at hp;cases hp
  | some i=>rw[hq]at hp;exact⟨i,AI.2 ⟨p,hp,hpb⟩⟩
 have hrel:Sk false (idx is) (fun _ g=>some g) (E.up φ') φ' (E.up (Ic is φ')) (Ic is φ'):=by
  refine⟨fun k hk=>hk.imp id (hsub k),fun _ k hk=>hk.imp id (hsub k),fun id i b hi hb=>?_,fun id i gen g c len hd hi hg hph hle=>?_⟩
  ·unfold Ic;rw[DR hi];exact hb
  ·obtain rfl:=Ali hg
   refine⟨c,?_,hle,fun e=>e⟩
   unfold Ic;rw[DR hi];exact hph
 have hat:∀ j i,is[j]?=some i->Ic is φ' j=φ' i:=fun j i hj=>by unfold Ic;rw[hj];rfl
 refine⟨v,Ic is φ',rfl,⟨h1.sub,fun j p e=>?_,fun i j k hi hj=>?_,fun k hk=>h1.free k (hsub k hk)⟩,⟨h2.os,h2.tape,h2.output,h2.size,h2.block,fun k hk=>h2.new k (hsub k hk),fun id p hid e=>?_⟩,fun j=>?_,EV hrel 8 _ _ h4⟩
 ·cases hq:is[j]? with
  | none=>unfold Ic at e;rw[hq]at e;cases e
  | some i =>
   rw[hat j i hq]at e
   have:=Me (og:=fun g=>g) hrel (h1.ob i p e)
   rw[Xs]at this
   have e1:Bm (US is hs1) j=UM false (idx is) (fun _ g=>some g) (fun g=>g) (Bm hs1 i):=by
    unfold US Bm
    rw[Alf,Alv,hq];rfl
   rw[e1];exact this
 ·have toOld:∀ j k,Blk (Ic is φ') j k->∃ i,is[j]?=some i/\Blk φ' i k:=by
   intro j k hb
   obtain⟨p,hp,hpb⟩:=AI.1 hb
   unfold Ic at hp
   cases hq:is[j]? with
   | none=>rw[hq]at hp;cases hp
   | some i=>rw[hq]at hp;exact⟨i,rfl,AI.2 ⟨p,hp,hpb⟩⟩
  obtain⟨a,ha,hab⟩:=toOld i k hi
  obtain⟨b,hb,hbb⟩:=toOld j k hj
  obtain rfl:=h1.inj a b k hab hbb
  have e1:=Lp hok i a ha
  have e2:=Lp hok j a hb
  rw[e1]at e2
  exact Ali e2
 ·rcases hl id hid with hi | ⟨n1,i,hi,n2⟩
  ·obtain⟨p',e1,e2⟩:=h2.kind id p hid e
   exact⟨p',by rw[hat id id hi];exact e1,e2⟩
  ·have hlt:i<hs1.length:=by
    have:=(h3 i)
    exact Alt fun hn=>by
     have hj:=FV hok _ _ hi
     exact hn hj
   obtain⟨q,hq⟩:∃ q,φ' i=some q:=AmM.1 ((h3 i).2 hlt)
   refine⟨q,by rw[hat id i hi];exact hq,?_⟩
   have o1:=hH.ob id p e
   have o2:=h1.ob i q hq
   cases p with
   | box b =>
    exfalso
    generalize hx:Bm hs id=x at o1 n1
    cases x with
    | box cs=>exact n1 cs rfl
    | arr=>exact o1.elim
    | gone=>exact o1.elim
   | arr c n hd =>
    cases q with
    | arr c' n' hd'=>exact⟨c',n',hd',rfl⟩
    | box b =>
     exfalso
     generalize hx:Bm hs1 i=x at o2 n2
     cases x with
     | box cs=>exact n2 cs rfl
     | arr=>exact o2.elim
     | gone=>exact o2.elim
 ·have hlen:(US is hs1).length=is.length:=by simp[US]
  rw[hlen]
  constructor
  ·intro hn
   refine Alt fun hge=>hn ?_
   unfold Ic
   rw[Amj (by omega)];rfl
  ·intro hlt
   have hj:is[j]?=some is[j]:=Ald hlt
   rw[hat j _ hj]
   exact(h3 _).2 (FV hok _ _ hj)
def Aeg : Shp:={ α:=D.State × Int,enc:=fun y=>([obC y.1,obP y.1],.tup [.agg (Bi y.1 (.ow 0 0 y.1.Chans.length) (.ow 1 0 y.1.Procs.length)),Aa y.2]) }
def Aix : Shp:={ α:=D.Chan × Int,enc:=fun y=>([],.tup [.agg (AB y.1),Aa y.2]) }
def UB (f:FuncId):Shp:=bif Nat.beq f 161 then Aeg else bif Nat.beq f 162 then Aeh else bif Nat.beq f 164 then Aix else L9 f
def LF : Ann:={ base:=3,keep:=fun
  | [0,1,0,1]=>[0,2,4,11,12,13]
  | _=>[] }
def Ki (e:D.Env)(s:D.Stmt)(m:List Int)(k:Int):St:=Aq [(0,.bp 0 0),(2,Ad true m),(4,.bp 3 0),(11,Ad true s.Args),(12,Aa s.Args.length),(13,Aa k)] (hsE e++[.box (Ap s)])
set_option maxRecDepth 100000
theorem OU (hs':List Ob)(r:Int)(e:D.Env)(x v:Int):(CR Tryz.prog tb UB Adn false Tryz.f124 hs' (Aa r)).goal (St.init (hsE e) [.bp 0 0,Aa x,Aa v]) =
  (∃ (y:D.State × Int),Ai Tryz.prog 161 [] [VV.agg (Bl e),Aa x,Aa v] [obC y.fst,obP y.fst] (VV.tup [VV.agg (Bi y.fst (VV.ow 0 0 y.fst.Chans.length) (VV.ow 1 0 y.fst.Procs.length)),Aa y.snd])/\BB (y.snd==0) (leO [Ob.box [AJ true e.M.Globals,Ad true e.M.Init,Bd true e.M.Shapes,Ad true e.M.Chans,A4 true e.M.Procs,Aa e.M.Claim,Bs true e.M.Exprs,Ad true y.fst.Globals,VV.ow 3 0 y.fst.Chans.length,VV.ow 4 0 y.fst.Procs.length,Aa y.fst.Last,Aa y.fst.Alone,Aa y.fst.Claim,Aa e.Pid,Ac e.Timeout,Ba true e.Able],obC e.S,obP e.S,obC y.fst,obP y.fst] hs'/\(Aa y.snd).le (Aa r)) (leO (hsE e) hs'/\(Aa y.snd).le (Aa r))):=by kernel_rfl
theorem Ws (y:D.Env)(r:Int)(e:D.Env)(s:D.Stmt)(m:List Int):(CR Tryz.prog tb UB LF false Tryz.f163 (hsE y) (Aa r)).goal (St.init (hsE e) [.bp 0 0,.agg (Ap s),Ad true m]) =
  (AA (CR Tryz.prog tb UB LF false Tryz.f163 (hsE y) (Aa r)) [1,0,1,0] (Ki e s m (0:Int))):=by kernel_rfl
theorem TT (y:D.Env)(r:Int)(e:D.Env)(s:D.Stmt)(m:List Int)(k:Int)(J:St->Prop):((CR Tryz.prog tb UB LF false Tryz.f163 (hsE y) (Aa r)).loop [1,0,1,0] J).goal (Ki e s m k) =
  (BB (decide (k<(↑s.Args.length:Int))) (inX k s.Args.length/\inX k s.Match.length/\BB (s.Match.getD k.toNat 0 != 0) (J (Ki e s m (IntKind.i64.wrap (k+(1:Int))))) (inX k m.length/\∃ (y_1:D.Env × Int),Ai Tryz.prog 124 (hsE e) [VV.bp 0 0,Aa (s.Args.getD k.toNat 0),Aa (m.getD k.toNat 0)] (hsE y_1.fst) (Aa y_1.snd)/\BB (y_1.snd != 0) (leO (hsE y_1.fst) (hsE y)/\(Aa y_1.snd).le (Aa r)) (J (Ki y_1.fst s m (IntKind.i64.wrap (k+(1:Int))))))) (leO (hsE e) (hsE y)/\(Aa 0).le (Aa r))):=by kernel_rfl
theorem Aag (hs':List Ob)(r:Int)(e:D.Env)(s:D.Stmt)(w:Wy):(CR Tryz.prog tb UB Adn false Tryz.f125 hs' (Aa r)).goal (St.init (hsE e) [.bp 0 0,.agg (Ap s),.agg (AZ w)]) =
  (∃ (y:Int × List Int × Int),VC 162 [VV.agg (Bl e),VV.agg (Ap s)] (VV.tup [Aa y.fst,Ad true y.snd.fst,Aa y.snd.snd])/\BB (y.snd.snd != 0) (leO (hsE e) hs'/\(Aa y.snd.snd).le (Aa r)) (BB (decide (w.With>=0)) (∃ (y_1:D.Loc),VC 84 [VV.agg [AJ true e.M.Globals,Ad true e.M.Init,Bd true e.M.Shapes,Ad true e.M.Chans,A4 true e.M.Procs,Aa e.M.Claim,Bs true e.M.Exprs,Ad true e.S.Globals,AE false e.S.Chans,Au false e.S.Procs,Aa e.S.Last,Aa e.S.Alone,Aa e.S.Claim,Aa w.With,Ac e.Timeout,Ba true e.Able]] (VV.agg (AY y_1))/\∃ (y_2:D.Trans),VC 83 [VV.agg (AY y_1),Aa w.WithEsc,Aa w.WithWay] (VV.agg (CY y_2))/\∃ (y_3:D.Env × Int),Ai Tryz.prog 163 [Ob.box [AJ true e.M.Globals,Ad true e.M.Init,Bd true e.M.Shapes,Ad true e.M.Chans,A4 true e.M.Procs,Aa e.M.Claim,Bs true e.M.Exprs,Ad true e.S.Globals,VV.ow 1 0 e.S.Chans.length,VV.ow 2 0 e.S.Procs.length,Aa e.S.Last,Aa e.S.Alone,Aa e.S.Claim,Aa w.With,Ac e.Timeout,Ba true e.Able],obC e.S,obP e.S] [VV.bp 0 0,VV.agg (Ap y_2.S),Ad true y.snd.fst] (hsE y_3.fst) (Aa y_3.snd)/\leO [Ob.box [AJ true e.M.Globals,Ad true e.M.Init,Bd true e.M.Shapes,Ad true e.M.Chans,A4 true e.M.Procs,Aa e.M.Claim,Bs true e.M.Exprs,Ad true y_3.fst.S.Globals,VV.ow 1 0 y_3.fst.S.Chans.length,VV.ow 2 0 y_3.fst.S.Procs.length,Aa y_3.fst.S.Last,Aa y_3.fst.S.Alone,Aa y_3.fst.S.Claim,Aa e.Pid,Ac e.Timeout,Ba true e.Able],obC y_3.fst.S,obP y_3.fst.S] hs'/\(Aa y_3.snd).le (Aa r)) (inX (IntKind.i64.wrap (y.fst - (1:Int))) e.S.Chans.length/\inX (e.S.Chans.getD (IntKind.i64.wrap (y.fst - (1:Int))).toNat default).Shape e.M.Shapes.length/\∃ (y_1:D.Chan × Int),VC 164 [VV.agg (FC (e.M.Shapes.getD (e.S.Chans.getD (IntKind.i64.wrap (y.fst - (1:Int))).toNat default).Shape.toNat default)),VV.agg (AB (e.S.Chans.getD (IntKind.i64.wrap (y.fst - (1:Int))).toNat default)),Ad true y.snd.fst,Ac (s.N==1)] (VV.tup [VV.agg (AB y_1.fst),Aa y_1.snd])/\inX (IntKind.i64.wrap (y.fst - (1:Int))) e.S.Chans.length/\leO [Ob.box (E3 e (VV.ow 1 0 e.S.Chans.length) (VV.ow 2 0 e.S.Procs.length)),Ob.arr true 0 e.S.Chans.length 2 fun(j:Nat)=>bif j.beq (IntKind.i64.wrap (y.fst - (1:Int))).toNat then AB y_1.fst else AB (e.S.Chans.getD j default),obP e.S] hs'/\(Aa y_1.snd).le (Aa r)))):=by kernel_rfl
theorem Aat (l:D.Loc)(e:D.Env):(fc UB AT Tryz.f84 [] (.agg (AY l))).goal (St.init [] [.agg (Bl e)]) =
  (inX e.Pid e.S.Procs.length/\inX (e.S.Procs.getD e.Pid.toNat default).Type_ e.M.Procs.length/\inX (e.S.Procs.getD e.Pid.toNat default).Loc (e.M.Procs.getD (e.S.Procs.getD e.Pid.toNat default).Type_.toNat default).Locs.length/\LQ (VV.agg (AY ((e.M.Procs.getD (e.S.Procs.getD e.Pid.toNat default).Type_.toNat default).Locs.getD (e.S.Procs.getD e.Pid.toNat default).Loc.toNat default))) (VV.agg (AY l))):=by kernel_rfl
end Go.Proofs.YtmdcknlpalfhhaaGreatDoor
namespace Go.Proofs.YtmdcknlpalfhhaaGreatDoor
open Go.RowKit
def stE (e:D.Env)(x v:Int):D.Env:=bif decide ((AW e x v).2=0) then{ e with S:=(AW e x v).1 } else e
def Gj (m mt:List Int):Nat->List Int->D.Env->D.Env × Int
 | _,[],e=>(e,0)
 | k,x::r,e=>bif decide (mt.getD k 0≠0) then Gj m mt (k+1) r e
   else bif decide ((AW e x (m.getD k 0)).2≠0) then(e,(AW e x (m.getD k 0)).2) else Gj m mt (k+1) r (stE e x (m.getD k 0))
def Du (e:D.Env)(s:D.Stmt)(m:List Int):D.Env × Int:=Gj m s.Match 0 s.Args e
structure Oh (e e':D.Env):Prop where
 M:e'.M=e.M
 pid:e'.Pid=e.Pid
 t:e'.Timeout=e.Timeout
 a:e'.Able=e.Able
 chans:e'.S.Chans=e.S.Chans
 procs:e'.S.Procs.length=e.S.Procs.length
theorem Oh.refl (e:D.Env):Oh e e:=⟨rfl,rfl,rfl,rfl,rfl,rfl⟩
theorem Oh.trans {a b c:D.Env}(h:Oh a b)(k:Oh b c):Oh a c:=⟨k.M.trans h.M,k.pid.trans h.pid,k.t.trans h.t,k.a.trans h.a,k.chans.trans h.chans,k.procs.trans h.procs⟩
theorem Abv (m:D.Model)(s:D.State)(who k v:Int):(Oa m s who k v).Chans=s.Chans/\(Oa m s who k v).Procs.length=s.Procs.length:=by
 unfold Oa
 cases decide (who<0) with
 | true=>exact⟨rfl,rfl⟩
 | false=>exact⟨rfl,by simp[setO]⟩
theorem WZ {e:D.Env}{x v:Int}(h:(AW e x v).2=0):(AW e x v).1.Chans=e.S.Chans/\(AW e x v).1.Procs.length=e.S.Procs.length:=by
 unfold AW at h ⊢
 cases c1:decide (CD e x≠0) with
 | true =>
  rw[c1,Ak4]at h
  exact absurd h (Ak9 c1)
 | false =>
  rw[c1,Ak0]at h
  rw[Ak0]
  cases c2:decide ((BC e (Fp e) (Aw e.M x)).2.2≠0) with
  | true =>
   rw[c2,Ak4]at h
   exact absurd h (Ak9 c2)
  | false=>rw[Ak0];exact Abv _ _ _ _ _
theorem PG (e:D.Env)(x v:Int):Oh e (stE e x v):=by
 unfold stE
 cases c:decide ((AW e x v).2=0) with
 | true =>
  obtain⟨h1,h2⟩:=WZ (Ak9 c)
  exact⟨rfl,rfl,rfl,rfl,h1,h2⟩
 | false=>exact Oh.refl e
theorem JI (m mt:List Int):∀ (l:List Int) (k:Nat) (e:D.Env),Oh e (Gj m mt k l e).1
 | [],_,e=>Oh.refl e
 | x::r,k,e=>by
  unfold Gj
  cases decide (mt.getD k 0≠0) with
  | true=>exact JI m mt r (k+1) e
  | false =>
   rw[Ak0]
   cases decide ((AW e x (m.getD k 0)).2≠0) with
   | true=>exact Oh.refl e
   | false=>exact(PG e x _).trans (JI m mt r (k+1) _)
theorem RD {e:D.Env}{c:Int}{m:List Int}{i:Int}{p:Pn}:∀ {ws:List D.Trans} {k:Nat},p∈CN e c m i k ws->p.pid=e.Pid/\p.esc=i/\∃ j:Nat,p.way=((k+j:Nat):Int)/\j<ws.length/\GJ e (ws.getD j default).S c m=true
 | [],_,h=>by cases h
 | t::r,k,h=>by
  rcases AlA.1 (show p∈(bif GJ e t.S c m then[(⟨e.Pid,i,k⟩:Pn)] else[])++CN e c m i (k+1) r from h) with h | h
  ·cases q:GJ e t.S c m with
   | false=>rw[q]at h;cases h
   | true =>
    rw[q]at h
    obtain rfl:=Aly.1 h
    exact⟨rfl,rfl,0,rfl,Nat.succ_pos _,q⟩
  ·obtain⟨h1,h2,j,h3,h4,h5⟩:=RD h
   exact⟨h1,h2,j+1,by rw[h3];congr 1;omega,Nat.succ_lt_succ h4,h5⟩
theorem RB {e:D.Env}{c:Int}{m:List Int}{p:Pn}:∀ {l:List (Int × List D.Trans)},p∈Ia e c m l->∃ i ws,(i,ws)∈l/\p∈CN e c m i 0 ws
 | [],h=>by cases h
 | (i,ws)::r,h=>by
  have hq:Ia e c m ((i,ws)::r)=bif decide (0<(CN e c m i 0 ws).length)||isSome (Cz e Mp ws true) then CN e c m i 0 ws else Ia e c m r:=rfl
  rw[hq]at h
  cases c1:(decide (0<(CN e c m i 0 ws).length)||isSome (Cz e Mp ws true)) with
  | true=>rw[c1]at h;exact⟨i,ws,Alb,h⟩
  | false =>
   rw[c1]at h
   obtain⟨i',ws',h1,h2⟩:=RB h
   exact⟨i',ws',Alp _ h1,h2⟩
theorem AbP {e:D.Env}{c:Int}{m:List Int}{p:Pn}(h:p∈GO e c m):p.pid=e.Pid/\-1<=p.esc/\p.esc<(Dl e).Esc.length/\0<=p.way/\p.way<(Cc (Dl e) p.esc).length /\
  ((Cc (Dl e) p.esc).getD p.way.toNat default).S.Kind=6/\((Cc (Dl e) p.esc).getD p.way.toNat default).S.Args.length=m.length:=by
 unfold GO at h
 cases c1:(!(Bk e).1||decide ((Bk e).2≠0)) with
 | true=>rw[c1]at h;cases h
 | false =>
  rw[c1,Ak0]at h
  obtain⟨i,ws,hi,hp⟩:=RB h
  obtain⟨e1,e2,j,e3,e4,e5⟩:=RD hp
  obtain⟨l1,l2,l3,_⟩:=Ii hi
  rw[e2,l1]
  refine⟨e1,l2,l3,by rw[e3];omega,by rw[e3];omega,?_⟩
  rw[show p.way.toNat=j by rw[e3];omega]
  unfold GJ at e5
  cases c2:(decide ((ws.getD j default).S.Kind≠6)||(decide (1<(ws.getD j default).S.N)||decide ((ws.getD j default).S.Args.length≠m.length))) with
  | true=>rw[c2]at e5;cases e5
  | false =>
   simp only[Aln,AlB,ne_eq,Decidable.not_not]at c2
   exact⟨c2.1,c2.2.2⟩
theorem P7 {e:D.Env}{c:Int}{m:List Int}{p:Pn}:∀ {n:Nat},p∈DW e c m n->∃ q:Nat,q<n/\(q:Int)≠e.Pid/\p∈GO (BE e q) c m
 | 0,h=>by cases h
 | n+1,h=>by
  rcases AlA.1 (show p∈DW e c m n++(bif decide ((n:Int)≠e.Pid) then GO (BE e n) c m else[]) from h) with h | h
  ·obtain⟨q,h1,h2⟩:=P7 h
   exact⟨q,by omega,h2⟩
  ·cases c1:decide ((n:Int)≠e.Pid) with
   | true=>rw[c1]at h;exact⟨n,Al2 _,Ak9 c1,h⟩
   | false=>rw[c1]at h;cases h
theorem V3 {ev:Evl}:∀ {l out:List Int},(Jg ev out l).2=0->(Jg ev out l).1.length=out.length+l.length
 | [],out,_=>rfl
 | x::l,out,h=>by
  have hq:Jg ev out (x::l)=bif decide ((ev x).2≠0) then([],(ev x).2) else Jg ev (out++[(ev x).1]) l:=rfl
  rw[hq]at h ⊢
  cases c:decide ((ev x).2≠0) with
  | true=>rw[c]at h;exact absurd h (Ak9 c)
  | false =>
   rw[c,Ak0]at h
   rw[Ak0,V3 h]
   simp;omega
theorem JE {e:D.Env}{s:D.Stmt}(h:(Az e s).2.2=0):(Az e s).2.1.length=s.Args.length:=by
 unfold Az at h ⊢
 cases c1:decide ((AC e s.A).2≠0) with
 | true=>rw[c1]at h;exact absurd h (Ak9 c1)
 | false =>
  rw[c1,Ak0]at h
  rw[Ak0]
  cases c2:decide ((Bb e (AC e s.A).1).length≠s.Args.length) with
  | true=>rw[c2]at h;cases h
  | false =>
   rw[c2,Ak0]at h
   rw[Ak0]
   cases c3:decide ((BM e s.Args).2≠0) with
   | true=>rw[c3]at h;exact absurd h (Ak9 c3)
   | false =>
    rw[Ak0]
    have h0:(BM e s.Args).2=0:=by simpa using c3
    have:=V3 (ev:=AX e) (l:=s.Args) (out:=[]) h0
    rw[AlX,AlC]at this
    show(Oc _ _).length=_
    unfold Oc
    rw[Al8,Am0]
    exact this
theorem Aa9 {e:D.Env}{mt:Int->List Int->List Pn}{s:D.Stmt}{self:Bool}{p:Pn}(h:p∈(C9 e mt s self).wth):s.Kind=5/\(Az e s).2.2=0/\p∈mt (AC e s.A).1 (Az e s).2.1:=by
 have no:∀ {q:Prop},p∈([]:List Pn)->q:=fun h=>by cases h
 unfold C9 at h
 split at h
 ·cases q:DN e s.A<;>rw[q]at h<;>exact no h
 split at h
 ·cases q:DN e s.B<;>rw[q]at h<;>exact no h
 split at h
 ·exact no h
 split at h
 ·rename_i hk
  refine⟨hk,?_⟩
  unfold II at h
  cases c1:decide ((AC e s.A).2≠0) with
  | true=>rw[c1]at h;exact no h
  | false =>
  rw[c1,Ak0]at h
  cases c2:decide ((Bb e (AC e s.A).1).length≠s.Args.length) with
  | true=>rw[c2]at h;exact no h
  | false =>
  rw[c2,Ak0]at h
  cases c3:decide (0<(BP e.M (Cl e (AC e s.A).1).Shape).Room) with
  | true=>rw[c3]at h;exact no h
  | false =>
  rw[c3,Ak0]at h
  cases c4:self with
  | true=>rw[c4]at h;exact no h
  | false =>
  rw[c4,Ak0]at h
  cases c5:decide ((Az e s).2.2≠0) with
  | true=>rw[c5]at h;exact no h
  | false =>
  rw[c5,Ak0]at h
  exact⟨by simpa using c5,h⟩
 split at h
 ·exact no h
 split at h<;>exact no h
theorem Afb {e:D.Env}{w:Wy}(hw:w∈Bp e) :
  (w.With<0->w.WithEsc=-1/\w.WithWay=-1) /\
  (0<=w.With->0<=w.Way/\w.With≠e.Pid/\w.With<e.S.Procs.length/\((Cc (Dl e) w.Esc).getD w.Way.toNat default).S.Kind=5/\-1<=w.WithEsc/\w.WithEsc<(Dl (BE e w.With)).Esc.length/\0<=w.WithWay /\
   w.WithWay<(Cc (Dl (BE e w.With)) w.WithEsc).length/\((Cc (Dl (BE e w.With)) w.WithEsc).getD w.WithWay.toNat default).S.Kind=6 /\
   ((Cc (Dl e) w.Esc).getD w.Way.toNat default).S.Args.length=((Cc (Dl (BE e w.With)) w.WithEsc).getD w.WithWay.toNat default).S.Args.length):=by
 rcases Hm (e:=e) with h | ⟨er,h⟩ | ⟨i,ws,hi,h⟩
 ·rw[h]at hw;cases hw
 ·rw[h]at hw
  obtain rfl:=Aly.1 hw
  exact⟨fun _=>⟨rfl,rfl⟩,fun h0=>by unfold KS at h0;simp at h0⟩
 ·rw[h]at hw
  obtain⟨hl,h1,h2,_⟩:=Ii hi
  have key:∀ {l:List Ab} {k:Nat},w∈C3 i k l->∃ (j:Nat) (x:Ab),l[j]?=some x/\w∈GI i (k+j) x:=by
   intro l
   induction l with
   | nil=>intro k h;cases h
   | cons x r ih =>
    intro k h
    rcases AlA.1 (show w∈GI i k x++C3 i (k+1) r from h) with h | h
    ·exact⟨0,x,rfl,h⟩
    ·obtain⟨j,y,a,b⟩:=ih h
     exact⟨j+1,y,a,by rw[show k+(j+1)=k+1+j by omega];exact b⟩
  obtain⟨j,x,a1,a2⟩:=key hw
  obtain⟨b1,rfl⟩:=TB a1
  rw[AlC]at a2
  rcases AlA.1 a2 with a2 | a2
  ·cases c:((FY e (Bn e) ws false j).is&&decide ((FY e (Bn e) ws false j).wth.length=0)) with
   | false=>rw[c]at a2;cases a2
   | true =>
    rw[c]at a2
    obtain rfl:=Aly.1 a2
    exact⟨fun _=>⟨rfl,rfl⟩,fun h0=>absurd (show(0:Int)<=-1 from h0) (by decide)⟩
  ·obtain⟨p,hp,rfl⟩:=Amn.1 a2
   have hwth:(FY e (Bn e) ws false j).wth=(C9 e (Bn e) (ws.getD j default).S false).wth:=by
    unfold FY
    cases (decide ((ws.getD j default).S.Kind=7)&&!(FQ e (Bn e) ws false ws.length))<;>rfl
   rw[hwth]at hp
   obtain⟨s1,s2,s3⟩:=Aa9 hp
   obtain⟨q,q1,q2,q3⟩:=P7 (show p∈DW e _ _ e.S.Procs.length from s3)
   obtain⟨r1,r2,r3,r4,r5,r6,r7⟩:=AbP q3
   have r1':p.pid=q:=r1
   have hat:BE e p.pid=BE e q:=by rw[r1']
   refine⟨fun h0=>?_,fun _=>?_⟩
   ·have h0':p.pid<0:=h0
    rw[r1']at h0';omega
   ·show 0<=(j:Int)/\p.pid≠e.Pid/\p.pid<e.S.Procs.length/\((Cc (Dl e) i).getD (j:Int).toNat default).S.Kind=5/\-1<=p.esc/\p.esc<(Dl (BE e p.pid)).Esc.length/\0<=p.way/\p.way<(Cc (Dl (BE e p.pid)) p.esc).length /\
     ((Cc (Dl (BE e p.pid)) p.esc).getD p.way.toNat default).S.Kind=6/\((Cc (Dl e) i).getD (j:Int).toNat default).S.Args.length=((Cc (Dl (BE e p.pid)) p.esc).getD p.way.toNat default).S.Args.length
    rw[hat,hl,show((j:Nat):Int).toNat=j by omega]
    exact⟨by omega,by rw[r1'];exact q2,by rw[r1'];omega,s1,r2,r3,r4,r5,r6,by rw[r7,JE s2]⟩
end Go.Proofs.YtmdcknlpalfhhaaGreatDoor
namespace Go.Proofs.YtmdcknlpalfhhaaGreatDoor.Ch
def EZ : List Int->List Int->Bool
 | a::aa,b::bs=>if a=b then EZ aa bs else decide (a<b)
 | [],_::_=>true
 | _,[]=>false
theorem Ln : ∀ (n:Nat) (xs ys:List Int),n<=xs.length->n<=ys.length->(∀ j,j<n->xs.getD j 0=ys.getD j 0)->EZ xs ys=EZ (xs.drop n) (ys.drop n)
 | 0,_,_,_,_,_=>rfl
 | n+1,a::aa,b::bs,h1,h2,h=>by
  have h0:=h 0 (by omega)
  simp only[List.getD_cons_zero]at h0
  subst h0
  rw[EZ,Alw rfl,List.drop_succ_cons,List.drop_succ_cons]
  exact Ln n aa bs (by simpa using h1) (by simpa using h2) fun j hj=>by simpa using h (j+1) (by omega)
 | n+1,[],_,h1,_,_=>by simp at h1
 | n+1,_::_,[],_,h2,_=>by simp at h2
theorem OQ {α:Type}[Inhabited α](xs:List α)(n:Nat)(d:α)(h:n<xs.length):xs.drop n=xs.getD n d::xs.drop (n+1):=by
 rw[Al5 h];simp[List.getD,h]
theorem Th (n:Nat)(xs ys:List Int)(h1:n<xs.length)(h2:n<ys.length)(h:∀ j,j<n->xs.getD j 0=ys.getD j 0)(hne:xs.getD n 0≠ys.getD n 0):EZ xs ys=decide (xs.getD n 0<ys.getD n 0):=by
 rw[Ln n xs ys (by omega) (by omega) h,OQ xs n 0 h1,OQ ys n 0 h2,EZ,Alg hne]
theorem RT (n:Nat)(xs ys:List Int)(h1:n<=xs.length)(h2:n<=ys.length)(h3:n=xs.length∨n=ys.length)(h:∀ j,j<n->xs.getD j 0=ys.getD j 0):EZ xs ys=decide (xs.length<ys.length):=by
 rw[Ln n xs ys h1 h2 h]
 by_cases hx:n=xs.length
 ·rw[hx,AmQ]
  by_cases hy:xs.length<ys.length
  ·rw[OQ ys _ 0 hy,EZ];simp[hy]
  ·rw[Amp (by omega),EZ];simp[hy]
 ·have hy:n=ys.length:=by omega
  subst hy
  rw[AmQ,OQ xs _ 0 (by omega),EZ];simp;omega
def Ea (x:List Int):List (List Int)->Nat
 | []=>0
 | y::q=>if EZ x y then 0 else Ea x q+1
theorem R3 (x:List Int):∀ q,Ea x q<=q.length
 | []=>Ak6 _
 | y::q=>by
  unfold Ea
  have:=R3 x q
  split<;>simp;omega
theorem Qk (x:List Int):∀ (q:List (List Int)) (k:Nat) (y:List Int),q[k]?=some y->(∀ j y',j<k->q[j]?=some y'->EZ x y'=false)->EZ x y=true->Ea x q=k
 | [],k,y,h,_,_=>by simp at h
 | z::q,0,y,h,_,h2=>by
  simp at h;subst h
  simp[Ea,h2]
 | z::q,k+1,y,h,h1,h2=>by
  have h0:=h1 0 z (by omega) rfl
  rw[Ea,h0]
  simp only[AmI,if_false]
  rw[Qk x q k y (by simpa using h) (fun j y' hj hy=>h1 (j+1) y' (by omega) (by simpa using hy)) h2]
theorem N2 (x:List Int):∀ (q:List (List Int)),(∀ (j:Nat) (y':List Int),q[j]?=some y'->EZ x y'=false)->Ea x q=q.length
 | [],_=>rfl
 | z::q,h=>by
  rw[Ea,h 0 z rfl]
  simp only[AmI,if_false]
  rw[N2 x q fun j y' hy=>h (j+1) y' (by simpa using hy)];rfl
def IQ (x:List Int)(q:List (List Int)):Int:=if Ea x q<q.length then Ea x q else -1
end Go.Proofs.YtmdcknlpalfhhaaGreatDoor.Ch
namespace Go.Proofs.YtmdcknlpalfhhaaGreatDoor.Ch
open Go.RowKit
def pM : Pkg (List Int):=Pkg.slice 1 8 (Pkg.int .i64)
def pQ : Pkg (List (List Int)):=Pkg.slice 1 24 pM
theorem LV : Pkg.Stays pM:=Pkg.stays_slice (Pkg.stays_int _)
theorem Y6 : Pkg.Stays pQ:=Pkg.stays_slice LV
set_option maxHeartbeats 400000 in
theorem X1 {w:World}{va vb:Value}{xs ys:List Int}(ha:Is pM w [va] xs)(hb:Is pM w [vb] ys) :
  Calls Tryz.prog 187 #[va,vb] w fun e w'=>e=.returned (.bool (EZ xs ys))/\∃ n,w'=w.drewN n:=by
 obtain⟨ao,ca,rfl,ha1,ha2,_,ha3⟩:=Ky ha
 obtain⟨bo,cb,rfl,hb1,hb2,_,hb3⟩:=Ky hb
 clear ha hb
 unfold maxLen at ha2 hb2
 go_enter Tryz.func187,Tryz.ntmps187
 go_wp2
 go_step3
 go_wp2
 refine wp_label ?_
 rename_i K hK
 refine hK _ _ ?_
 clear hK K
 go_wp2
 go_loopw [5] (fun i wr=>∃ k:Nat,k<=xs.length/\k<=ys.length/\i=.int .i64 k/\(∀ j,j<k->xs.getD j 0=ys.getD j 0)/\∃ n,wr=w.drewN n) (fun i _=>xs.length - (intOf i).toNat)
 case atStart=>exact⟨0,Alc _,Alc _,rfl,fun j h=>by omega,0,rfl⟩
 case round =>
  obtain⟨k,hk1,hk2,rfl,hs,nq,rfl⟩:=hrel
  by_cases hx:k<xs.length
  ·by_cases hy:k<ys.length
   ·obtain⟨b,off,rfl,hbl,hc⟩:=ha3 (by omega)
    obtain⟨b',off',rfl,hbl',hc'⟩:=hb3 (by omega)
    have c1:=hc k hx
    have c2:=hc' k hy
    by_cases he:xs.getD k 0=ys.getD k 0
    ·have HS:Hid (∀ j,j<k+1->xs.getD j 0=ys.getD j 0):=fun j hj=>by
      by_cases e:j=k
      ·subst e;exact he
      ·exact hs j (by omega)
     rw[← he]at c2
     clear hs hc hc' ha3 hb3 he
     generalize xs.getD k 0=z at *
     go_wp2
     go_quiet (fail)
     go_wp2
     go_roundw
     case rel=>exact⟨k+1,by omega,by omega,by go_num,HS.out,_,rfl⟩
     case measure=>simp[intOf];omega
    ·have HL:=Lib.hid (Th k xs ys hx hy hs he)
     have hne:(xs.getD k 0 != ys.getD k 0)=true:=by simpa using he
     clear hs hc hc' ha3 hb3 he
     generalize xs.getD k 0=z at *
     generalize ys.getD k 0=z' at *
     go_wp2
     go_quiet (fail)
     go_wp2
     go_quiet (fail)
     go_wp2
     rw[Exit.noGoto_ret]
     go_ret
     exact⟨by rw[HL.out];rfl,_,World.drewN_drewN _ _ _⟩
   ·have HL:=Lib.hid (RT k xs ys hk1 hk2 (.inr (by omega)) hs)
    clear hs ha3 hb3
    go_wp2
    rw[Exit.noGoto_ret]
    go_ret
    exact⟨by rw[HL.out];rfl,_,rfl⟩
  ·have HL:=Lib.hid (RT k xs ys hk1 hk2 (.inl (by omega)) hs)
   clear hs ha3 hb3
   go_wp2
   rw[Exit.noGoto_ret]
   go_ret
   exact⟨by rw[HL.out];rfl,_,rfl⟩
def typeP (t:D.Type):Bool:=decide (1<=t.Bits)&&decide (t.Bits<=32)&&(!t.Signed||decide (t.Bits=16)||decide (t.Bits=32))
def tyV (t:D.Type):Value:=.agg #[.int .i64 t.Bits,.bool t.Signed]
theorem AeJ {a b:Bool}(h:a=b):Ending.returned (.bool a)=.returned (.bool b):=by rw[h]
set_option maxHeartbeats 400000 in
theorem Vl (t:D.Type)(w:World) :
  Calls Tryz.prog 108 #[tyV t] w fun e w'=>e=.returned (.bool (typeP t))/\Below w.heap.size w w':=by
 obtain⟨b,s⟩:=t
 unfold tyV
 go_enter Tryz.func108,Tryz.ntmps108
 go_wp2
 all_goals
  go_ret
  refine⟨AeJ ?_,ED _ _⟩
  first
   | (simp[typeP, *];done)
   | (rw[Alq];simp[typeP, *];done)
   | (rw[Alq];simp[typeP, *];omega)
end Go.Proofs.YtmdcknlpalfhhaaGreatDoor.Ch
namespace Go.Proofs.YtmdcknlpalfhhaaGreatDoor
open Go.RowKit
section
variable {P : Program} (w:World)
theorem YI (base:Nat)(t ty e:TypeId)(i:TypeInfo)(z:Value)(size bytes:Nat)(ht:P.underlying t=some (.slice e))(hi:P.info? e=some i)(hz:i.zero=some z)
  (hsize:i.size=size) (hby:i.bytes=bytes) (v:Value) (n:Nat) (xs:List Value) (hown:w.ownsRow base e size v n xs)
  (a:Addr) (m c:Nat) (news:List Value) (hl:news.length=m*size) (hnews:∀ j u,news[j]?=some u->w.cell? (a.add j)=some u) (h1:∀ u∈news,u.oneCell'=true)
  (h63:n+m<=maxLen) (hbytes:(n+m)*bytes<=140737488355328)
  (v':Value) (w':World) (hrun:(Builtin.append_ #[t,t] ty #[v,.slice (some a) m c]).run P w=.ok v' w') :
  v'.ownBlock=v.ownBlock∨v'.ownBlock=some w.heap.size:=by
 subst hsize
 subst hby
 have hsmall:n+m<=9223372036854775807:=by simp only[maxLen]at h63;omega
 rcases hown.2 with⟨rfl,rfl⟩ | ⟨g,cap,cur,rfl,_,hg,hnc,hcm,hcs,_⟩
 ·by_cases hm:m=0
  ·subst hm
   have hr:(Builtin.append_ #[t,t] ty #[.slice none 0 0,.slice (some a) 0 c]).run P w=.ok (.slice none 0 0) w:=by
    have hn:news=[]:=Alz (by simpa using hl)
    subst hn
    simp[Builtin.append_,run_underlying ht,sizeOf,typeInfo,hi,Builtin.lenOf,Builtin.firstCells,loadCells,loadCellsFrom]
   rw[hr]at hrun
   simp only[Result.ok.injEq]at hrun
   exact .inl (by rw[← hrun.1])
  ·have hr:=run_append_nil (P:=P) w t ty e i z ht hi hz a m c news hl hnews (by omega) (by omega) (by have hb:=hbytes;simp only[AlC]at hb;omega)
   rw[hr]at hrun
   simp only[Result.ok.injEq]at hrun
   exact .inr (by rw[← hrun.1];rfl)
 ·by_cases hroom:n+m<=cap
  ·have hfit:n*i.size+news.length<=cur.size:=by rw[hl,hcs,← AlY];exact Alo _ hroom
   have hr:=run_append_room (P:=P) w t ty e i ht hi g n cap cur hg a m c news hl hnews h1 hroom hfit
   rw[hr]at hrun
   simp only[Result.ok.injEq]at hrun
   exact .inl (by rw[← hrun.1];rfl)
  ·have holds:∀ j u,xs[j]?=some u->w.cell? ((⟨g,0,none⟩:Addr).add j)=some u:=hown.cells (g:=g) rfl
   have hr:=run_append_grow (P:=P) w t ty e i z ht hi hz ⟨g,0,none⟩ n cap xs hown.1 holds a m c news hl hnews (by omega) (by omega) (growslice_fits (by omega) hbytes)
   rw[hr]at hrun
   simp only[Result.ok.injEq]at hrun
   exact .inr (by rw[← hrun.1];rfl)
theorem O3 {ops:Array Oper}{rest:List Oper}{o:Oper}{a:Act}{Q:Exit->Act->World->Prop}(hgd:o.guard=none)(s x:Operand)(t:TypeId)
  (ho:o.op=.call { callee:=.builtin .append,args:=#[s,x],argTypes:=#[t,t] })
  (base:Nat) (e:TypeId) (i:TypeInfo) (z:Value) (size bytes:Nat) (ht:P.underlying t=some (.slice e)) (hi:P.info? e=some i) (hz:i.zero=some z)
  (hsize:i.size=size) (hby:i.bytes=bytes) (hzs:z.cells.size=size) (hsz:0<size)
  (v:Value) (n:Nat) (xs:List Value) (hs:a.eval s=v) (hown:w.ownsRow base e size v n xs)
  (ad:Addr) (m c:Nat) (news:List Value) (hx:a.eval x=.slice (some ad) m c) (hl:news.length=m*size) (hnews:∀ j u,news[j]?=some u->w.cell? (ad.add j)=some u) (h1:∀ u∈news,u.oneCell'=true)
  (h63:n+m<=maxLen) (hbytes:(n+m)*bytes<=140737488355328) (hbase:base<=w.heap.size)
  (h:∀ v' w',w'.ownsRow base e size v' (n+m) (xs++news)->w.grownBy w' v.ownBlock->(v'.ownBlock=v.ownBlock∨v'.ownBlock=some w.heap.size)->wpList P ops Q rest (a.put o.dst v') w'):wpList P ops Q (o::rest) a w:=by
 refine wpList_plain hgd fun K hK=>?_
 obtain⟨v',w',hr,h2,h3,_⟩:=run_append_own (P:=P) w base t o.type e i z size bytes ht hi hz hsize hby hzs hsz v n xs hown ad m c news hl hnews h1 h63 hbytes hbase
 have h4:=YI w base t o.type e i z size bytes ht hi hz hsize hby v n xs hown ad m c news hl hnews h1 h63 hbytes v' w' hr
 unfold Oper.wp execOp
 simp only[ho,resolve,invoke,builtin,Sem.run_bind,Sem.run_pure,Result.andThen_ok,AmP,AlU,Amr,hs,hx,hr]
 exact hK _ _ (h v' w' h2 h3 h4)
end
end Go.Proofs.YtmdcknlpalfhhaaGreatDoor
namespace Go.Proofs.YtmdcknlpalfhhaaGreatDoor.Ch
open Go.RowKit
theorem B7 {P:Program}{t:TypeId}{z:Value}{s b:Nat}(h:(P.info? t).map (fun i=>(i.zero,i.size,i.bytes))=some (some z,s,b)):∃ i,P.info? t=some i/\i.zero=some z/\i.size=s/\i.bytes=b:=by
 cases hi:P.info? t with
 | none=>rw[hi]at h;cases h
 | some i=>rw[hi]at h;simp only[AmG,Ak1,AlH]at h;exact⟨i,rfl,h⟩
theorem JH : (Tryz.prog.info? 2).map (fun i=>(i.zero,i.size,i.bytes))=some (some (.int .i64 0),1,8):=by kernel_rfl
theorem GX : (Tryz.prog.info? 98).map (fun i=>(i.zero,i.size,i.bytes))=some (some (.slice none 0 0),1,24):=by kernel_rfl
structure F7 (w:World) (n0:Nat) (v:Value) (xs:List Int):Prop where
 row:w.ownsRow n0 2 1 v xs.length (xs.map (Value.int .i64))
 wf:∀ i,i<xs.length->(Lit.int .i64 (xs.getD i 0)).wf=true
structure BN (w:World) (n0:Nat) (v:Value) (vs:List Value) (q:List (List Int)):Prop where
 row:w.ownsRow n0 98 1 v q.length vs
 len:vs.length=q.length
 each:∀ (i:Nat) (u:Value) (m:List Int),vs[i]?=some u->q[i]?=some m->F7 w n0 u m
theorem F7.same {w w':World}{n0:Nat}{v:Value}{xs:List Int}(h:F7 w n0 v xs)(hs:∀ k,v.ownBlock=some k->w'.heap[k]?=w.heap[k]?):F7 w' n0 v xs :=
 ⟨CB h.row hs,h.wf⟩
theorem F7.base {w:World}{n0 n1:Nat}{v:Value}{xs:List Int}(h:F7 w n0 v xs)(hb:n1<=n0):F7 w n1 v xs :=
 ⟨⟨h.row.1,h.row.2.imp id fun⟨g,cap,cur,e,h1,h2⟩=>⟨g,cap,cur,e,Als hb h1,h2⟩⟩,h.wf⟩
theorem Eh {w:World}{n0:Nat}{e:TypeId}{v:Value}{n:Nat}{xs:List Value}(h:w.ownsRow n0 e 1 v n xs) :
  ∃ ao cap,v=.slice ao n cap/\n<=cap/\cap<=maxLen/\(0<n->∃ g,ao=some ⟨g,0,none⟩/\n0<=g/\g<w.heap.size/\∀ j,j<n->w.cell? ⟨g,j,none⟩=xs[j]?):=by
 rcases h.2 with⟨rfl,rfl⟩ | ⟨g,cap,cur,rfl,hb,hg,h1,h2,_⟩
 ·exact⟨none,0,rfl,Ak6 _,Alc _,fun h=>by omega⟩
 ·exact⟨_,cap,rfl,h1,h2,fun _=>⟨g,rfl,hb,BJ hg,fun j hj=>h.cellAt j (by omega)⟩⟩
theorem F7.is {w:World}{n0:Nat}{v:Value}{xs:List Int}(h:F7 w n0 v xs):Is pM w [v] xs:=by
 obtain⟨ao,cap,rfl,h1,h2,h3⟩:=Eh h.row
 refine⟨ao,cap,rfl,h1,h2,fun hp=>?_⟩
 obtain⟨g,rfl,hb,hg,hc⟩:=h3 hp
 refine⟨g,0,rfl,hg,fun i x hx=>⟨[.int .i64 x],rfl,fun k hk=>?_,rfl,?_⟩⟩
 ·obtain rfl:k=0:=by omega
  have hi:i<xs.length:=(Ak3.1 hx).1
  have:=hc i hi
  rw[Alv,hx]at this
  simpa using this
 ·obtain⟨hi,rfl⟩:=Ak3.1 hx
  have:=h.wf i hi
  simpa[List.getD,hi] using this
theorem BN.is {w:World}{n0:Nat}{v:Value}{vs:List Value}{q:List (List Int)}(h:BN w n0 v vs q):Is pQ w [v] q:=by
 obtain⟨ao,cap,rfl,h1,h2,h3⟩:=Eh h.row
 refine⟨ao,cap,rfl,h1,h2,fun hp=>?_⟩
 obtain⟨g,rfl,hb,hg,hc⟩:=h3 hp
 refine⟨g,0,rfl,hg,fun i x hx=>?_⟩
 have hi:i<q.length:=(Ak3.1 hx).1
 have hv:i<vs.length:=by rw[h.len];exact hi
 refine⟨[vs[i]],rfl,fun k hk=>?_,(h.each i vs[i] x (by simp[hv]) hx).is⟩
 obtain rfl:k=0:=by omega
 have:=hc i hi
 simpa[hv] using this
theorem BN.same {w w':World}{n0:Nat}{v:Value}{vs:List Value}{q:List (List Int)}(h:BN w n0 v vs q)(hs:∀ k,n0<=k->k<w.heap.size->w'.heap[k]?=w.heap[k]?):BN w' n0 v vs q :=
 ⟨CB h.row fun k hk=>hs k (h.row.lt k hk).1 (h.row.lt k hk).2,h.len,fun i u m hu hm=>(h.each i u m hu hm).same fun _ hk=>hs _ ((h.each i u m hu hm).row.lt _ hk).1 ((h.each i u m hu hm).row.lt _ hk).2⟩
theorem X6 {w:World}{b off:Nat}{xs:List Int}(hc:∀ i,i<xs.length->w.cell? ⟨b,off+i,none⟩=some (.int .i64 (xs.getD i 0))) :
  ∀ (j:Nat) (u:Value),(xs.map (Value.int .i64))[j]?=some u->w.cell? ((⟨b,off,none⟩:Addr).add j)=some u:=by
 intro j u hj
 rw[Alv]at hj
 obtain⟨x,hx,rfl⟩:=Alj.1 hj
 obtain⟨hi,rfl⟩:=Ak3.1 hx
 rw[Addr.add_lit,hc j hi];simp[List.getD,hi]
set_option maxHeartbeats 1000000 in
theorem FX {w:World}{v:Value}{xs:List Int}(h:Is pM w [v] xs)(hr:xs.length*8<=140737488355328) :
  Calls Tryz.prog 30 #[v] w fun e w'=>∃ v',e=.returned v'/\F7 w' w.heap.size v' xs/\Below w.heap.size w w':=by
 obtain⟨ao,cap,rfl,h1,h2,hw,h3⟩:=Ky h
 have q22:∀ (w:World) (a:Option Addr) (n c n' c':Nat),(binOp .eql 98 (.slice a n c) (.slice none n' c')).run Tryz.prog w=.ok (.bool a.isNone) w:=fun w a n c n' c'=>Lib.run_eql_slice_nil w _ _ a n c n' c' Tryz.underlying98
 obtain⟨ki,khi,khz0,khz1,khz2⟩:=B7 JH
 cases ao with
 | none =>
  have h0:xs=[]:=by
   apply Alz
   apply Alt
   intro hp
   obtain⟨_,_,e,_⟩:=h3 (by omega)
   cases e
  subst h0
  clear h3
  go_enter Tryz.func30,Tryz.ntmps30
  go_wp2
  go_ret
  exact⟨_,rfl,⟨World.ownsRow_nil _ _ _ _,fun i hi=>by simp at hi⟩,Below.refl _ _⟩
 | some a =>
  have hn:∀ (j:Nat) (u:Value),(xs.map (Value.int .i64))[j]?=some u->w.cell? (a.add j)=some u:=by
   intro j u hj
   have hp:0<xs.length:=by have:=(Ak3.1 hj).1;simp at this;omega
   obtain⟨b,off,e,_,hc⟩:=h3 hp
   simp only[Ak1]at e
   subst e
   exact X6 hc j u hj
  have HN:=Lib.hid hn
  clear h3 hn h
  have hlen:=h2
  unfold maxLen at hlen
  go_enter Tryz.func30,Tryz.ntmps30
  go_wp2_with (at_builtin;refine wpList_append_own _ rfl _ _ 98 rfl w.heap.size 2 ki (.int .i64 0) 1 8 Tryz.underlying98 khi khz0 khz1 khz2 rfl (by decide) _ _ _ rfl (World.ownsRow_made w #[] 0 (Ak6 _) (Alc _) (by simp)) a xs.length cap (xs.map (Value.int .i64)) rfl ?qc1 ?qc2 ?qc3 ?qc4 ?qc5 ?qc6 ?_)
  case qc1=>simp
  case qc2=>intro j u hj;have:=HN.out j u hj;exact Lib.cell?_alloc_some _ this
  case qc3=>intro u hu;simp at hu;obtain⟨x,_,rfl⟩:=hu;rfl
  case qc4=>unfold maxLen;omega
  case qc5=>omega
  case qc6=>simp
  intro v' w1 hown hgrow _
  go_wp2
  go_ret
  exact⟨v',rfl,⟨by simpa using hown,hw⟩,((Below.refl _ w).alloc (Ak6 _) _).grown hgrow (by simp) (by intro k hk;simp[Value.ownBlock]at hk;omega)⟩
def Small (q:List (List Int)):Prop:=q.length*24<=140737488355328/\∀ m∈q,m.length*8<=140737488355328
theorem GB {α:Type}{q:List α}{k:Nat}{m:α}(h:q[k]?=some m):q.take (k+1)=q.take k++[m]:=by
 obtain⟨hk,rfl⟩:=Ak3.1 h
 rw[List.take_succ_eq_append_getElem hk]
theorem BN.more {w w':World}{n0:Nat}{v v' u:Value}{vs:List Value}{q:List (List Int)}{m:List Int}(h:BN w n0 v vs q)(hm:F7 w n0 u m)
  (hr:w'.ownsRow n0 98 1 v' (q.length+1) (vs++[u])) (hg:w.grownBy w' v.ownBlock):BN w' n0 v' (vs++[u]) (q++[m]):=by
 have sep:∀ (x:Value) (l:List Int),F7 w n0 x l->F7 w' n0 x l:=fun x l hx=>hx.same fun k hk=>hg.block k (hx.row.lt k hk).2 fun e=>by
  obtain⟨c1,e1⟩:=AU hx.row hk
  obtain⟨c2,e2⟩:=AU h.row e.symm
  exact Ec e1 e2 (by decide) rfl
 refine⟨by simpa using hr,by simp[h.len],fun i x l hx hl=>?_⟩
 by_cases hi:i<q.length
 ·rw[Ale (by rw[h.len];exact hi)]at hx
  rw[Ale hi]at hl
  exact sep x l (h.each i x l hx hl)
 ·have hil:i<q.length+1:=by have:=(Ak3.1 hl).1;simpa using this
  obtain rfl:i=q.length:=by omega
  rw[All (Ak6 _)]at hl
  rw[All (by rw[h.len];exact Ak6 _)]at hx
  simp[h.len]at hx hl
  subst hx hl
  exact sep _ _ hm
theorem BN.set {w:World}{n0 B i:Nat}{v:Value}{vs:List Value}{q:List (List Int)}{c:Array Value}{t:TypeId}{f:Nat × Nat}(h:BN w n0 v vs q)(hB:w.heap[B]?=some (.cells c t f))
  (h1:98≠t) (h2:2≠t) (u:Value):BN (w.setCell ⟨B,i,none⟩ u) n0 v vs q :=
 ⟨CB h.row fun k hk=>Below.heap_setCell _ _ _ _ (by rintro rfl;obtain⟨cur,hcur⟩:=AU h.row hk;exact Ec hcur hB h1 rfl),h.len,fun j x m hx hm=>(h.each j x m hx hm).same fun k hk =>
  Below.heap_setCell _ _ _ _ (by rintro rfl;obtain⟨cur,hcur⟩:=AU (h.each j x m hx hm).row hk;exact Ec hcur hB h2 rfl)⟩
theorem BN.alloc {w:World}{n0:Nat}{v:Value}{vs:List Value}{q:List (List Int)}(h:BN w n0 v vs q)(o:Obj):BN (w.alloc o) n0 v vs q :=
 h.same fun _ _ hk=>Below.heap_alloc _ _ _ hk
theorem F7.alloc {w:World}{n0:Nat}{v:Value}{m:List Int}(h:F7 w n0 v m)(o:Obj):F7 (w.alloc o) n0 v m :=
 h.same fun _ hk=>Below.heap_alloc _ _ _ (h.row.lt _ hk).2
theorem BN.nil (w:World)(n0:Nat):BN w n0 (.slice none 0 0) [] []:=⟨World.ownsRow_nil _ _ _ _,rfl,fun i x m h=>by simp at h⟩
set_option maxRecDepth 100000 in
set_option maxHeartbeats 1000000 in
theorem MD {w:World}{qv:Value}{q:List (List Int)}(sh:Int)(h:Is pQ w [qv] q)(hr:Small q) :
    Calls Tryz.prog 184 #[.agg #[.int .i64 sh,qv]] w fun e w'=>∃ ov vs,e=.returned (.agg #[.int .i64 sh,ov])/\BN w' w.heap.size ov vs q/\Below w.heap.size w w':=by
  obtain⟨ao,cap,rfl,h1,h2,h3⟩:=GG h
  obtain⟨ki,khi,khz0,khz1,khz2⟩:=B7 GX
  have hlen:=h2
  unfold maxLen at hlen
  obtain⟨hr1,hr2⟩:=hr
  go_enter Tryz.func184,Tryz.ntmps184
  go_wp2
  go_loopw [12] (fun i wr=>∃ k:Nat,k<=q.length/\i=.int .i64 k/\∃ ov vs,wr.heap[w.heap.size+1]?=some (.cells #[.int .i64 0,.slice none 0 0] 86 (0,0))/\wr.heap[w.heap.size+2]?=some (.cells #[.int .i64 sh,ov] 86 (0,0))/\BN wr w.heap.size ov vs (q.take k)/\Below w.heap.size w wr) (fun i _=>q.length - (intOf i).toNat)
  case atStart =>
    refine⟨0,Alc _,rfl,.slice none 0 0,[],?_,?_,by simpa using BN.nil _ _,?_⟩
    · have:=heap_alloc_new (w.alloc (.cells #[.int .i64 sh,.slice ao q.length cap] 86)) (.cells #[.int .i64 0,.slice none 0 0] 86)
      rw[Below.heap_alloc _ _ _ (by simp)]
      simpa using this
    · have:=heap_alloc_new ((w.alloc (.cells #[.int .i64 sh,.slice ao q.length cap] 86)).alloc (.cells #[.int .i64 0,.slice none 0 0] 86)) (.cells #[.int .i64 sh,.slice none 0 0] 86)
      simpa using this
    · exact(((Below.refl _ w).alloc (Ak6 _) _).alloc (by simp) _).alloc (by simp;omega) _
  case round =>
    obtain⟨k,hk,rfl,ov,vs,hres,hblk,hown,hb⟩:=hrel
    by_cases hlt:k<q.length
    · obtain⟨b,off,rfl,hbl,hc⟩:=h3 (by omega)
      obtain⟨u,hu,hm⟩:=hc k q[k] (by simp[hlt])
      rw[← hb.cell (p:=⟨b,off+k,none⟩) hbl]at hu
      have hm':=hm.below LV hb
      have hml:=hr2 q[k] (by simp)
      have hc1:wr.cell? ⟨w.heap.size+2,1,none⟩=some ov:=Aj hblk rfl
      have hf1:wr.frozen? ⟨w.heap.size+2,1,none⟩=false:=Ax hblk
      have hsz:=BJ hblk
      have hkl:(q.take k).length=k:=by simp;omega
      have HQ:Hid (q[k]?=some q[k]):=by unfold Hid;simp[hlt]
      clear hr2 hc h3 h
      generalize q[k]=m at *
      go_wp2
      go_region_law (first
        | (go_simp;go_at_call 30;refine(FX (hm'.drewN LV _) hml).mono ?_;rintro e w2 ⟨v',rfl,hm2,hb2⟩
           obtain⟨ao',cap',rfl,_⟩:=Eh hm2.row
           obtain⟨hc2,hf2⟩:=AfZ hb2
           have hown2:BN w2 w.heap.size ov vs (q.take k):=hown.same fun _ _ hk=>hb2.block _ hk
           have hs2:=hb2.size
           simp at hs2
           have hblk2:w2.heap[w.heap.size+2]?=some (.cells #[.int .i64 sh,ov] 86 (0,0)):=(hb2.block _ hsz).trans hblk
           have c2:w2.cell? ⟨w.heap.size+2,1,none⟩=some ov:=Aj hblk2 rfl
           have hs3:=BJ hblk2
           have c3:=Lib.cell?_alloc_some (.cells #[.slice ao' m.length cap'] 98) c2)
        | (refine step_append_lies _ rfl (.tmp 17) (.tmp 20) 84 rfl w.heap.size 98 ki (.slice none 0 0) 1 24 Tryz.underlying84 khi khz0 khz1 khz2 rfl (by decide) ov k vs (by simp[Act.eval]) (by have:=hown2.row.alloc (.cells #[.slice ao' m.length cap'] 98);rwa [hkl]at this) ⟨w2.heap.size,0,none⟩ 1 1 [.slice ao' m.length cap'] (by simp[Act.eval]) rfl (cell_one_new _ _ _) (by intro u hu;simp at hu;subst hu;rfl) (by decide) (by unfold maxLen;omega) (by omega) (by simp;omega) _ rfl ?_
           intro g cap3 w3 hown3 hgrow3 hat3 hlt3
           have hblk3:w3.heap[w.heap.size+2]?=some (.cells #[.int .i64 sh,ov] 86 (0,0)):=by
             rw[hgrow3.block _ (by simp;omega) (fun e=>by obtain⟨cur,hcur⟩:=AU hown2.row e.symm;exact Ec hcur hblk2 (by decide) rfl),Below.heap_alloc _ _ _ (BJ hblk2)];exact hblk2
           have e0:w3.cell? ⟨w.heap.size+2,1,none⟩=some ov:=Aj hblk3 rfl
           have e1:w3.frozen? ⟨w.heap.size+2,1,none⟩=false:=Ax hblk3))
      all_goals
        have HO:Hid (BN (w3.setCell ⟨w.heap.size+2,1,none⟩ (.slice (some ⟨g,0,none⟩) (k+1) cap3)) w.heap.size (.slice (some ⟨g,0,none⟩) (k+1) cap3) (vs++[.slice ao' m.length cap']) (q.take (k+1))):=by
          unfold Hid
          rw[GB HQ.out]
          exact((hown2.alloc _).more ((hm2.base hb.size).alloc _) (by rw[hkl];exact hown3) hgrow3).set hblk3 (by decide) (by decide) _
        have HB:Hid (Below w.heap.size w (w3.setCell ⟨w.heap.size+2,1,none⟩ (.slice (some ⟨g,0,none⟩) (k+1) cap3))) :=
          ((((below_drewN hb 1).trans (hb2.mono hb.size)).alloc (Als hb.size hs2) _).grown hgrow3 (by simp;have:=hb.size;omega) (fun k hk=>(hown2.row.lt k hk).1)).setCell (by simp) _
        have HK:Hid ((w3.setCell ⟨w.heap.size+2,1,none⟩ (.slice (some ⟨g,0,none⟩) (k+1) cap3)).heap[w.heap.size+2]?=some (.cells #[.int .i64 sh,.slice (some ⟨g,0,none⟩) (k+1) cap3] 86 (0,0))):=by
          unfold Hid;rw[A1 hblk3];rfl
        have HR:Hid ((w3.setCell ⟨w.heap.size+2,1,none⟩ (.slice (some ⟨g,0,none⟩) (k+1) cap3)).heap[w.heap.size+1]?=some (.cells #[.int .i64 0,.slice none 0 0] 86 (0,0))):=by
          unfold Hid
          have hres2:w2.heap[w.heap.size+1]?=_:=(hb2.block _ (BJ hres)).trans hres
          rw[Below.heap_setCell _ _ _ _ (by simp),hgrow3.block _ (by simp;omega) (fun e=>by obtain⟨cur,hcur⟩:=AU hown2.row e.symm;exact Ec hcur hres2 (by decide) rfl),Below.heap_alloc _ _ _ (BJ hres2)];exact hres2
        clear hgrow3 hown3 hown2 hm2 hb2 hc2 hf2 hat3 e0 hblk3
        go_wp2
        go_roundw
        case rel=>exact⟨k+1,by omega,by go_num,_,_,HR.out,HK.out,HO.out,HB.out⟩
        case measure=>simp[intOf];omega
    · obtain rfl:k=q.length:=by omega
      have hc0:wr.cell? ⟨w.heap.size+2,0,none⟩=some (.int .i64 sh):=Aj hblk rfl
      have hc1:wr.cell? ⟨w.heap.size+2,1,none⟩=some ov:=Aj hblk rfl
      have hsz:=BJ hblk
      have r0:wr.cell? ⟨w.heap.size+1,0,none⟩=some (.int .i64 0):=Aj hres rfl
      have r1:wr.cell? ⟨w.heap.size+1,1,none⟩=some (.slice none 0 0):=Aj hres rfl
      have f0:wr.frozen? ⟨w.heap.size+1,0,none⟩=false:=Ax hres
      have f1:wr.frozen? ⟨w.heap.size+1,1,none⟩=false:=Ax hres
      obtain⟨ao',cap',rfl,_⟩:=Eh hown.row
      rw[Ame]at hown
      go_wp2
      have hres':((wr.setCell ⟨w.heap.size+1,0,none⟩ (.int .i64 sh)).setCell ⟨w.heap.size+1,1,none⟩ (.slice ao' q.length cap')).heap[w.heap.size+1]?=some (.cells #[.int .i64 sh,.slice ao' q.length cap'] 86 (0,0)):=by
        rw[A1 (A1 hres _)];rfl
      refine Ry rfl rfl hres' Tryz.underlying86 rfl (by kernel_rfl) rfl ⟨_,vs,rfl,?_,?_⟩
      · exact(hown.set hres (by decide) (by decide) _).set (A1 hres _) (by decide) (by decide) _
      · exact(hb.setCell (by simp) _).setCell (by simp) _
end Go.Proofs.YtmdcknlpalfhhaaGreatDoor.Ch
namespace Go.Proofs.YtmdcknlpalfhhaaGreatDoor.Ch
open Go.RowKit Go.Lib
section
variable {P : Program}
theorem Jt {ops:Array Oper}{o:Oper}{a:Act}{w:World}{K:Act->World->Prop}{Q:Exit->Act->World->Prop}{E:Prop}
  (hg:o.guard=none) (d x:Operand) (dT sT:TypeId) (hop:o.op=Op.call { callee:=Callee.builtin Builtin.copy,args:=#[d,x],argTypes:=#[dT,sT] })
  (v u:Value) (hd:a.eval d=v) (hx:a.eval x=u) {v':Value} {w':World} (hr:(Builtin.copy_ #[dT,sT] o.type #[v,u]).run P w=.ok v' w') (hK:K (a.put o.dst v') w') :
  if Region.wanted o (yielded ops a.tmps)=true then Oper.wp P o a w K Q else E:=by
 have hw:Region.wanted o (yielded ops a.tmps)=true:=by simp[Region.wanted,hg]
 rw[Alw hw]
 unfold Oper.wp
 simp[execOp,hop,resolve,invoke,builtin,hd,hx,hr,Result.andThen]
 exact hK
theorem KW (b:Nat):∀ (vs:List Value) (o:Nat) (w:World),(w.setCells b o vs).drew=w.drew.setCells b o vs
 | [],_,_=>rfl
 | v::r,o,w=>by rw[World.setCells,World.setCells,KW b r];rfl
theorem Gh (b:Nat)(vs:List Value)(o:Nat)(w:World)(h:∀ j,j<vs.length->(w.cell? ⟨b,o+j,none⟩).isSome=true)(k:Nat)(hk:(w.cell? ⟨b,k,none⟩).isSome=true):((w.setCells b o vs).cell? ⟨b,k,none⟩).isSome=true:=by
 by_cases hin:o<=k/\k<o+vs.length
 ·have:=World.cell?_setCells_in b vs o w h (k - o) (by omega)
  rw[show o+(k - o)=k by omega]at this
  rw[this];rfl
 ·rw[World.cell?_setCells_out b vs o w ⟨b,k,none⟩ (fun _ _=>by show k<o∨o+vs.length<=k;omega)]
  exact hk
end
set_option maxHeartbeats 4000000 in
set_option maxRecDepth 100000 in
theorem Tl (b off n c i vb voff m vc:Nat)(cs vs:List Value)(w:World)(hi:i<n)(hm:0<m)(hroom:n+m<=c)(hc63:c<=9223372036854775807)(hvb:vb≠b)
  (hcl:cs.length=n) (hvl:vs.length=m)
  (hcs:∀ j v,cs[j]?=some v->w.cell? ⟨b,off+j,none⟩=some v) (hsp:∀ j,j<n+m->(w.cell? ⟨b,off+j,none⟩).isSome=true) (hfz:∀ j,j<n+m->w.frozen? ⟨b,off+j,none⟩=false)
  (hvs:∀ j v,vs[j]?=some v->w.cell? ⟨vb,voff+j,none⟩=some v) (h1c:∀ v∈cs,v.oneCell'=true) (h1v:∀ v∈vs,v.oneCell'=true)
  (tA tB:TypeId) (kA kB:Nat) (hsa:w.shape? vb=some (tA,kA)) (hsb:w.shape? b=some (tB,kB)) (hkB:kB≠0) (hfa:w.frozen? ⟨vb,voff,none⟩=false) (hfe:w.frozen? ⟨vb,kA,none⟩=false) :
  Calls Tryz.prog 188 #[.slice (some ⟨b,off,none⟩) n c,.int .i64 i,.slice (some ⟨vb,voff,none⟩) m vc] w fun e w' =>
   e=.returned (.slice (some ⟨b,off,none⟩) (n+m) c)/\w'=(w.drew.setCells b (off+(i+m)) (cs.drop i)).setCells b (off+i) vs:=by
 have hz1:¬ ((m:Int)=0):=by omega
 have hz2:¬ ((i:Int)=(n:Int)):=by omega
 have hsz:(Tryz.prog.info? 98).map (·.size)=some 1:=by
  obtain⟨i0,hi0,h0,h1,h2⟩:=B7 GX
  rw[hi0];simp[h1]
 have hov:∀ lb cb,(callFunc 197 #[.slice (some ⟨vb,voff,none⟩) m vc,.slice (some ⟨b,off+(i+m),none⟩) lb cb]).run Tryz.prog w=.ok (.value (.bool false)) w:=fun lb cb=>by
  rw[run_callFunc_extern Tryz.func197 (by kernel_rfl) (by kernel_rfl) (by kernel_rfl) (e:=Extern.SlicesOverlaps.overlaps #[84,84] #[4]) (by kernel_rfl),
   Lib.run_overlaps_apart w 84 4 98 Tryz.underlying84 1 Tryz.sizeOf98 ⟨vb,voff,none⟩ ⟨b,off+(i+m),none⟩ m vc lb cb hvb tA tB kA kB hsa hsb hkB hfa hfe]
  rfl
 have hdl:(cs.drop i).length=n - i:=by rw[List.length_drop,hcl]
 have hw1:IntKind.i64.wrap ((i:Int)+(m:Int))=(i:Int)+(m:Int):=by rw[IntKind.wrap_i64];omega
 have hb1:(0:Int)<=(i:Int)+(m:Int):=by omega
 have hin:i<=n:=by omega
 have htn:((i:Int)+(m:Int)).toNat=i+m:=by omega
 have hb2:¬ (c=i+m):=by omega
 have hb3:(i:Int)<=(n:Int)+(m:Int):=by omega
 have hb4:¬ (c=i):=by omega
 have hcp1:∀ ty dc sc,(Builtin.copy_ #[84,84] ty #[.slice (some ⟨b,off+(i+m),none⟩) (n+m - (i+m)) dc,.slice (some ⟨b,off+i,none⟩) (n+m - i) sc]).run Tryz.prog w.drew=.ok (goInt (cs.drop i).length) (w.drew.setCells b (off+(i+m)) (cs.drop i)):=fun ty dc sc =>
  run_copy_cells w.drew _ _ ty 98 b (off+(i+m)) (n+m - (i+m)) dc ⟨b,off+i,none⟩ (n+m - i) sc (cs.drop i) Tryz.underlying84 hsz (by rw[hdl];simp only[Nat.min_def];split<;>omega)
   (fun j v hj=>by rw[Addr.add_lit,Al3];exact hcs (i+j) v (by rwa [Alx]at hj))
   (fun j hj=>by rw[Al3];exact hsp _ (by omega)) (fun j hj=>by rw[Al3];exact hfz _ (by omega)) (fun v hv=>h1c v (AmN hv))
 obtain⟨W1,hW1⟩:∃ W1,W1=w.drew.setCells b (off+(i+m)) (cs.drop i):=⟨_,rfl⟩
 have hsp1:∀ k,k<n+m->(W1.cell? ⟨b,off+k,none⟩).isSome=true:=fun k hk=>by
  rw[hW1]
  exact Gh b _ _ _ (fun j hj=>by rw[Al3];exact hsp _ (by omega)) _ (hsp k hk)
 have hcp2:∀ (W:World),(∀ x,W.cell? x=W1.cell? x)->(∀ x,W.frozen? x=W1.frozen? x)->∀ ty dc,(Builtin.copy_ #[84,84] ty #[.slice (some ⟨b,off+i,none⟩) (n+m - i) dc,.slice (some ⟨vb,voff,none⟩) m vc]).run Tryz.prog W=.ok (goInt vs.length) (W.setCells b (off+i) vs):=fun W hWc hWf ty dc =>
  run_copy_cells W _ _ ty 98 b (off+i) (n+m - i) dc ⟨vb,voff,none⟩ m vc vs Tryz.underlying84 hsz (by rw[hvl];simp only[Nat.min_def];split<;>omega)
   (fun j v hj=>by
    rw[Addr.add_lit,hWc,hW1,World.cell?_setCells_out b _ _ _ _ (fun h _=>absurd h hvb)]
    exact hvs j v hj)
   (fun j hj=>by rw[hWc,Al3];exact hsp1 _ (by omega)) (fun j hj=>by rw[hWf,hW1,World.frozen?_setCells,Al3];exact hfz _ (by omega)) h1v
 rw[← hW1]at hcp1
 go_enter Tryz.func188,Tryz.ntmps188
 go_wp2_with (simp only[hov])
 go_region_law (refine Jt rfl _ _ 84 84 rfl _ _ (by simp[Act.eval,Act.put]) (by simp[Act.eval,Act.put]) (hcp1 _ _ _) ?_)
 go_wp2_with (at_builtin;refine wpList_copy_runI _ rfl _ _ 84 84 rfl _ _ rfl rfl (hcp2 _ (fun _=>rfl) (fun _=>rfl) _ _) ?_)
 go_ret
 first | exact⟨rfl,rfl⟩ | exact⟨rfl,by rw[hW1]⟩
set_option maxHeartbeats 4000000 in
set_option maxRecDepth 100000 in
theorem Ve (b off n c i vb voff m vc:Nat)(cs vs:List Value)(w:World)(hi:i<n)(hm:0<m)(hnc:n<=c)(hroom:c<n+m)(hbig:(n+m)*24<=140737488355328)
  (hcl:cs.length=n) (hvl:vs.length=m)
  (hcs:∀ j v,cs[j]?=some v->w.cell? ⟨b,off+j,none⟩=some v)
  (hvs:∀ j v,vs[j]?=some v->w.cell? ⟨vb,voff+j,none⟩=some v) (h1c:∀ v∈cs,v.oneCell'=true) (h1v:∀ v∈vs,v.oneCell'=true) :
  Calls Tryz.prog 188 #[.slice (some ⟨b,off,none⟩) n c,.int .i64 i,.slice (some ⟨vb,voff,none⟩) m vc] w fun e w' =>
   e=.returned (.slice (some ⟨w.heap.size,0,none⟩) (n+m) (grownCap w (n+m) c 98)) /\
   w'=(((w.alloc (.cells ((cs.take i).toArray++Builtin.zeroCells (Value.slice none 0 0).cells (n+m - i)++Builtin.zeroCells (Value.slice none 0 0).cells (grownCap w (n+m) c 98 - (n+m))) 98)).drew.setCells w.heap.size i vs).drew).setCells w.heap.size (i+m) (cs.drop i):=by
 obtain⟨i0,hi0,hz0,hzs,hzb⟩:=B7 GX
 have hz1:¬ ((m:Int)=0):=by omega
 have hz2:¬ ((i:Int)=(n:Int)):=by omega
 have hz3:(c:Int)<(n:Int)+(m:Int):=by omega
 have hsz:(Tryz.prog.info? 98).map (·.size)=some 1:=by rw[hi0];simp[hzs]
 have hbw:b<w.heap.size:=block_lt_of_cell (hcs 0 _ (Ald (by omega)))
 have hvw:vb<w.heap.size:=block_lt_of_cell (hvs 0 _ (Ald (by omega)))
 have hkk:(n:Int)+(m:Int) - (i:Int)=((n+m - i:Nat):Int):=by omega
 have hik:i+(n+m - i)=n+m:=by omega
 have hold:(Builtin.firstCells i0.size i (.slice (some ⟨b,off,none⟩) i c)).run Tryz.prog w.drew=.ok (cs.take i).toArray w.drew:=by
  rw[hzs]
  exact run_firstCells_some w.drew 1 i ⟨b,off,none⟩ i c (cs.take i) (by rw[Amf];omega) (fun j v hj=>by
   rw[Addr.add_lit]
   rw[Al0]at hj
   split at hj
   ·exact hcs j v hj
   ·cases hj)
 have hrz:∀ ty,(Builtin.append_ #[84,3] ty #[.slice (some ⟨b,off,none⟩) i c,.int .i64 ((n:Int)+(m:Int) - (i:Int))]).run Tryz.prog w =
   .ok (.slice (some ⟨w.heap.size,0,none⟩) (n+m) (grownCap w (n+m) c 98)) (w.drew.alloc (.cells ((cs.take i).toArray++Builtin.zeroCells (Value.slice none 0 0).cells (n+m - i)++Builtin.zeroCells (Value.slice none 0 0).cells (grownCap w (n+m) c 98 - (n+m))) 98)):=fun ty=>by
  have h:=Lib.run_append_grow_zeros w 84 3 ty 98 i0 _ .i64 .i64 Tryz.underlying84 Tryz.underlying3 hi0 hz0 (some ⟨b,off,none⟩) i c (cs.take i) hold (n+m - i) (by omega) (by omega) (by omega) (by omega) (by rw[hzb];omega) (by rw[hzb,hik];exact growslice_fits hroom hbig)
  rw[hik]at h
  rw[hkk]
  exact h
 obtain⟨G,hG⟩:∃ G,G=grownCap w (n+m) c 98:=⟨_,rfl⟩
 obtain⟨ROW,hROW⟩:∃ ROW:Array Value,ROW=(cs.take i).toArray++Builtin.zeroCells (Value.slice none 0 0).cells (n+m - i)++Builtin.zeroCells (Value.slice none 0 0).cells (G - (n+m)):=⟨_,rfl⟩
 rw[← hG]at hrz ⊢
 rw[← hROW]at hrz ⊢
 have hRl:n+m<=ROW.size:=by
  rw[hROW]
  simp[Builtin.zeroCells,Value.cells]
  omega
 obtain⟨W1,hW1⟩:∃ W1,W1=w.drew.alloc (.cells ROW 98):=⟨_,rfl⟩
 rw[← hW1]at hrz
 have hN:∀ j,j<n+m->(W1.cell? ⟨w.heap.size,j,none⟩).isSome=true:=fun j hj=>by
  rw[hW1,World.cell?_alloc_at (w:=w.drew) ROW _ w.heap.size j rfl,Al6 (by omega)];rfl
 have hNf:∀ j,W1.frozen? ⟨w.heap.size,j,none⟩=false:=fun j=>by rw[hW1];exact World.frozen?_alloc_at (w:=w.drew) ROW _ w.heap.size j rfl
 have hOb:∀ j v,w.cell? ⟨b,j,none⟩=some v->W1.cell? ⟨b,j,none⟩=some v:=fun j v h=>by rw[hW1,World.cell?_alloc_past (w:=w.drew) _ b j hbw];exact h
 have hOv:∀ j v,w.cell? ⟨vb,j,none⟩=some v->W1.cell? ⟨vb,j,none⟩=some v:=fun j v h=>by rw[hW1,World.cell?_alloc_past (w:=w.drew) _ vb j hvw];exact h
 have hcpA:∀ (W:World),(∀ x,W.cell? x=W1.cell? x)->(∀ x,W.frozen? x=W1.frozen? x)->∀ ty dc,(Builtin.copy_ #[84,84] ty #[.slice (some ⟨w.heap.size,i,none⟩) (n+m - i) dc,.slice (some ⟨vb,voff,none⟩) m vc]).run Tryz.prog W=.ok (goInt vs.length) (W.setCells w.heap.size i vs):=fun W hWc hWf ty dc =>
  run_copy_cells W _ _ ty 98 w.heap.size i (n+m - i) dc ⟨vb,voff,none⟩ m vc vs Tryz.underlying84 hsz (by rw[hvl];simp only[Nat.min_def];split<;>omega)
   (fun j v hj=>by rw[Addr.add_lit,hWc];exact hOv _ v (hvs j v hj))
   (fun j hj=>by rw[hWc];exact hN _ (by omega)) (fun j hj=>by rw[hWf];exact hNf _) h1v
 have hGn:n+m<=G:=by rw[hG];exact grownCap_ge w _ _ _
 have hG63:G<=9223372036854775807:=by
  have:=grownCap_le_maxLen w (n+m) c 98 (by unfold maxLen;omega)
  rw[← hG]at this
  unfold maxLen at this
  omega
 have hGi:¬ (G=i):=by omega
 have hGim:¬ (G=i+m):=by omega
 have hci:¬ (c=i):=by omega
 have hbN:b≠w.heap.size:=by omega
 have hdl:(cs.drop i).length=n - i:=by rw[List.length_drop,hcl]
 have hcpB:∀ (W:World),(∀ x,W.cell? x=(W1.setCells w.heap.size i vs).cell? x)->(∀ x,W.frozen? x=(W1.setCells w.heap.size i vs).frozen? x)->∀ ty dc sc,(Builtin.copy_ #[84,84] ty #[.slice (some ⟨w.heap.size,i+m,none⟩) (n+m - (i+m)) dc,.slice (some ⟨b,off+i,none⟩) (n - i) sc]).run Tryz.prog W=.ok (goInt (cs.drop i).length) (W.setCells w.heap.size (i+m) (cs.drop i)):=fun W hWc hWf ty dc sc =>
  run_copy_cells W _ _ ty 98 w.heap.size (i+m) (n+m - (i+m)) dc ⟨b,off+i,none⟩ (n - i) sc (cs.drop i) Tryz.underlying84 hsz (by rw[hdl];simp only[Nat.min_def];split<;>omega)
   (fun j v hj=>by
    rw[Addr.add_lit,hWc,World.cell?_setCells_out _ _ _ _ _ (fun h _=>absurd h hbN),Al3]
    exact hOb _ v (hcs (i+j) v (by rwa [Alx]at hj)))
   (fun j hj=>by rw[hWc];exact Gh _ _ _ _ (fun t ht=>hN _ (by omega)) _ (hN _ (by omega)))
   (fun j hj=>by rw[hWf,World.frozen?_setCells];exact hNf _) (fun v hv=>h1c v (AmN hv))
 subst hW1
 have hE1:∀ x,((w.alloc (.cells ROW 98)).drew).cell? x=(w.drew.alloc (.cells ROW 98)).cell? x:=fun x=>rfl
 have hE2:∀ x,((w.alloc (.cells ROW 98)).drew).frozen? x=(w.drew.alloc (.cells ROW 98)).frozen? x:=fun x=>rfl
 have hF1:∀ x,(((w.alloc (.cells ROW 98)).drew.setCells w.heap.size i vs).drew).cell? x=((w.drew.alloc (.cells ROW 98)).setCells w.heap.size i vs).cell? x:=fun x=>rfl
 have hF2:∀ x,(((w.alloc (.cells ROW 98)).drew.setCells w.heap.size i vs).drew).frozen? x=((w.drew.alloc (.cells ROW 98)).setCells w.heap.size i vs).frozen? x:=fun x=>rfl
 have hw1:IntKind.i64.wrap ((i:Int)+(m:Int))=(i:Int)+(m:Int):=by rw[IntKind.wrap_i64];omega
 have hb1:(0:Int)<=(i:Int)+(m:Int):=by omega
 have hin:i<=n:=by omega
 have htn:((i:Int)+(m:Int)).toNat=i+m:=by omega
 have hb3:(i:Int)<=(n:Int):=by omega
 clear hkk hik hold hROW hG hRl
 go_enter Tryz.func188,Tryz.ntmps188
 go_wp2_with (first
  | (at_builtin;refine Lib.wpList_append_run _ rfl _ _ _ _ rfl _ _ rfl rfl _ _ (hrz _) ?_)
  | (at_builtin;refine wpList_copy_runI _ rfl _ _ 84 84 rfl _ _ rfl rfl (hcpA _ hE1 hE2 _ _) ?_)
  | (at_builtin;refine wpList_copy_runI _ rfl _ _ 84 84 rfl _ _ rfl rfl (hcpB _ (fun _=>rfl) (fun _=>rfl) _ _ _) ?_))
 go_region_law (refine Jt rfl _ _ 84 84 rfl (.slice (some ⟨w.heap.size,i+m,none⟩) (n+m - (i+m)) (G - (i+m))) (.slice (some ⟨b,off+i,none⟩) (n - i) (c - i)) (by simp[Act.eval,Act.put]) (by simp[Act.eval,Act.put]) (hcpB _ hF1 hF2 3 (G - (i+m)) (c - i)) ?_)
 go_wp2
 go_ret
 exact⟨rfl,rfl⟩
end Go.Proofs.YtmdcknlpalfhhaaGreatDoor.Ch
namespace Go.Proofs.YtmdcknlpalfhhaaGreatDoor.Ch
open Go.RowKit
theorem Fw {w:World}{n0 g cap n:Nat}{e:TypeId}{cur:Array Value}{xs:List Value}(hg:w.heap[g]?=some (.cells cur e (0,0)))(hb:n0<=g)(hn:n<=cap)(hm:cap<=maxLen)(hs:cur.size=cap)(hl:xs.length=n)
  (hc:∀ j,j<n->w.cell? ⟨g,j,none⟩=xs[j]?):w.ownsRow n0 e 1 (.slice (some ⟨g,0,none⟩) n cap) n xs:=by
 refine⟨by simpa using hl,.inr ⟨g,cap,cur,rfl,hb,hg,hn,hm,by simpa using hs,?_⟩⟩
 apply List.ext_getElem?
 intro j
 rw[Al0]
 by_cases hj:j<n
 ·rw[Alw (by omega),← hc j hj]
  simp[World.cell?,hg]
 ·rw[Alg (by omega),Amj (by omega)]
theorem DI {g:Nat}{t:TypeId}:∀ (vs:List Value) (o:Nat) (w:World) (cur:Array Value),w.heap[g]?=some (.cells cur t (0,0))->∃ cur',(w.setCells g o vs).heap[g]?=some (.cells cur' t (0,0))/\cur'.size=cur.size
 | [],_,_,cur,h=>⟨cur,h,rfl⟩
 | v::r,o,w,cur,h=>by
  obtain⟨c',h1,h2⟩:=DI r (o+1) (w.setCell ⟨g,o,none⟩ v) _ (heap_setCell_same w g o cur t v h)
  exact⟨c',h1,by simpa using h2⟩
theorem FR {g o j:Nat}{vs:List Value}{w:World}(h:∀ j,j<vs.length->(w.cell? ⟨g,o+j,none⟩).isSome=true)(h1:o<=j)(h2:j<o+vs.length):(w.setCells g o vs).cell? ⟨g,j,none⟩=vs[j - o]?:=by
 have:=World.cell?_setCells_in g vs o w h (j - o) (by omega)
 rw[show o+(j - o)=j by omega]at this
 rw[this,Ald (by omega)]
theorem Da {g o j:Nat}{vs:List Value}{w:World}(h:j<o∨o+vs.length<=j):(w.setCells g o vs).cell? ⟨g,j,none⟩=w.cell? ⟨g,j,none⟩ :=
 World.cell?_setCells_out g vs o w _ fun _ _=>h
theorem KR {g o k:Nat}{vs:List Value}{w:World}(h:∀ j,j<vs.length->(w.cell? ⟨g,o+j,none⟩).isSome=true)(hk:(w.cell? ⟨g,k,none⟩).isSome=true):((w.setCells g o vs).cell? ⟨g,k,none⟩).isSome=true :=
 Gh g vs o w h k hk
theorem DH {g k:Nat}(hk:k≠g):∀ (vs:List Value) (o:Nat) (w:World),(w.setCells g o vs).heap[k]?=w.heap[k]?
 | [],_,_=>rfl
 | v::r,o,w=>by rw[World.setCells,DH hk r,Below.heap_setCell _ _ _ _ hk]
theorem Dg : ∀ (vs:List Value) (o g:Nat) (w:World),(w.setCells g o vs).os=w.os/\(w.setCells g o vs).tape=w.tape/\(w.setCells g o vs).output=w.output/\(w.setCells g o vs).heap.size=w.heap.size
 | [],_,_,_=>⟨rfl,rfl,rfl,rfl⟩
 | v::r,o,g,w=>by
  obtain⟨h1,h2,h3,h4⟩:=Dg r (o+1) g (w.setCell ⟨g,o,none⟩ v)
  exact⟨h1,h2,h3,h4.trans (by simp[World.setCell])⟩
def putAt {α:Type}(l:List α)(i:Nat)(x:α):List α:=l.take i++x::l.drop i
theorem GD {α:Type}{l:List α}{i:Nat}{x:α}(h:i<=l.length):(putAt l i x).length=l.length+1:=by
 unfold putAt;simp;omega
theorem PS {α:Type}{l:List α}{i j:Nat}{x:α}(h:i<=l.length)(hj:j<i):(putAt l i x)[j]?=l[j]?:=by
 unfold putAt
 rw[Ale (by simp;omega),Al0,Alw hj]
theorem PU {α:Type}{l:List α}{i:Nat}{x:α}(h:i<=l.length):(putAt l i x)[i]?=some x:=by
 unfold putAt
 rw[All (by simp;omega)]
 simp[show i - min i l.length=0 by omega]
theorem PT {α:Type}{l:List α}{i j:Nat}{x:α}(h:i<=l.length)(hj:i<j):(putAt l i x)[j]?=l[j - 1]?:=by
 unfold putAt
 rw[All (by simp;omega),Amf,show min i l.length=i by omega,show j - i=(j - 1 - i)+1 by omega,AlN,Alx]
 congr 1;omega
theorem AbX {α:Type}(l:List α)(x:α):putAt l l.length x=l++[x]:=by simp[putAt]
theorem UN {w:World}{g i n:Nat}{vs:List Value}{xv:Value}(hl:vs.length=n)(hi:i<n)(hsp:∀ j,j<n+1->(w.cell? ⟨g,j,none⟩).isSome=true)(hlo:∀ j,j<i->w.cell? ⟨g,j,none⟩=vs[j]?)(j:Nat)(hj:j<n+1) :
  ((w.setCells g (i+1) (vs.drop i)).setCells g i [xv]).cell? ⟨g,j,none⟩=(putAt vs i xv)[j]?:=by
 have hd:(vs.drop i).length=n - i:=by simp[hl]
 have h0:∀ k,k<(vs.drop i).length->(w.cell? ⟨g,i+1+k,none⟩).isSome=true:=fun k hk=>hsp _ (by omega)
 rcases Nat.lt_trichotomy j i with h | h | h
 ·rw[Da (.inl h),Da (.inl (by omega)),hlo j h,PS (by omega) h]
 ·subst h
  rw[FR (fun k hk=>by simp at hk;subst hk;exact KR h0 (hsp _ (by omega))) (Ak6 _) (by simp),PU (by omega)];simp
 ·rw[Da (.inr (by simp;omega)),FR h0 (by omega) (by omega),PT (by omega) h,Alx]
  congr 1;omega
theorem SX {w:World}{g i n:Nat}{vs:List Value}{xv:Value}(hl:vs.length=n)(hi:i<n)(hsp:∀ j,j<n+1->(w.cell? ⟨g,j,none⟩).isSome=true)(hlo:∀ j,j<i->w.cell? ⟨g,j,none⟩=vs[j]?)(j:Nat)(hj:j<n+1) :
  ((w.setCells g i [xv]).setCells g (i+1) (vs.drop i)).cell? ⟨g,j,none⟩=(putAt vs i xv)[j]?:=by
 have hd:(vs.drop i).length=n - i:=by simp[hl]
 have h1:∀ k,k<[xv].length->(w.cell? ⟨g,i+k,none⟩).isSome=true:=fun k hk=>hsp _ (by simp at hk;omega)
 have h0:∀ k,k<(vs.drop i).length->((w.setCells g i [xv]).cell? ⟨g,i+1+k,none⟩).isSome=true:=fun k hk=>KR h1 (hsp _ (by omega))
 rcases Nat.lt_trichotomy j i with h | h | h
 ·rw[Da (.inl (by omega)),Da (.inl h),hlo j h,PS (by omega) h]
 ·subst h
  rw[Da (.inl (by omega)),FR h1 (Ak6 _) (by simp),PU (by omega)];simp
 ·rw[FR h0 (by omega) (by omega),PT (by omega) h,Alx]
  congr 1;omega
theorem BN.putAt {w w':World}{n0 i:Nat}{v v' u:Value}{vs:List Value}{q:List (List Int)}{m:List Int}(h:BN w n0 v vs q)(hm:F7 w n0 u m)(hi:i<=q.length)
  (hr:w'.ownsRow n0 98 1 v' (q.length+1) (putAt vs i u)) (ht:∀ k,k<w.heap.size->v.ownBlock≠some k->w'.heap[k]?=w.heap[k]?):BN w' n0 v' (putAt vs i u) (putAt q i m):=by
 have hl:=h.len
 have sep:∀ (x:Value) (l:List Int),F7 w n0 x l->F7 w' n0 x l:=fun x l hx=>hx.same fun k hk=>ht k (hx.row.lt k hk).2 fun e=>by
  obtain⟨c1,e1⟩:=AU hx.row hk
  obtain⟨c2,e2⟩:=AU h.row e
  exact Ec e1 e2 (by decide) rfl
 refine⟨by rw[GD hi];exact hr,by rw[GD hi,GD (by omega),hl],fun j x l hx hl'=>?_⟩
 rcases Nat.lt_trichotomy j i with hj | hj | hj
 ·rw[PS (by omega) hj]at hx hl'
  exact sep x l (h.each j x l hx hl')
 ·subst hj
  rw[PU (by omega)]at hx hl'
  cases hx;cases hl'
  exact sep _ _ hm
 ·rw[PT (by omega) hj]at hx hl'
  exact sep x l (h.each _ x l hx hl')
theorem Gc {w:World}{n0 n:Nat}{e:TypeId}{v:Value}{xs:List Value}(h:w.ownsRow n0 e 1 v n xs):v.oneCell'=true:=by
 rcases h.2 with⟨rfl,_⟩ | ⟨g,cap,cur,rfl,_⟩<;>rfl
set_option maxHeartbeats 1000000 in
set_option maxRecDepth 100000 in
theorem Tm {w:World}{n0 V:Nat}{qv xv:Value}{vs:List Value}{q:List (List Int)}{x:List Int}(i:Nat)(hq:BN w n0 qv vs q)(hV:w.heap[V]?=some (.cells #[xv] 98 (0,0)))(hne:qv.ownBlock≠some V)
  (hx:F7 w n0 xv x) (hi:i<=q.length) (hbig:(q.length+1)*24<=140737488355328) (hn0:n0<=w.heap.size) :
  Calls Tryz.prog 188 #[qv,.int .i64 i,.slice (some ⟨V,0,none⟩) 1 1] w fun e w' =>
   ∃ v',e=.returned v'/\BN w' n0 v' (putAt vs i xv) (putAt q i x)/\Ca w w' (fun k=>qv.ownBlock=some k):=by
 have hxv:=Gc hx.row
 have hV0:w.cell? ⟨V,0,none⟩=some xv:=Aj hV rfl
 have hlen:=hq.len
 by_cases hin:i=q.length
 ·subst hin
  obtain⟨ki,khi,khz0,khz1,khz2⟩:=B7 GX
  obtain⟨ao,cap,rfl,hcl,_⟩:=Eh hq.row
  rcases Nat.eq_or_lt_of_le hcl with rfl | hcl
  all_goals
   go_enter Tryz.func188,Tryz.ntmps188
   go_wp2_with (at_builtin;refine O3 _ rfl (.tmp 23) (.tmp 24) 84 rfl n0 98 ki (.slice none 0 0) 1 24 Tryz.underlying84 khi khz0 khz1 khz2 rfl (by decide) _ q.length vs rfl hq.row ⟨V,0,none⟩ 1 1 [xv] rfl rfl ?k1 ?k2 ?k3 ?k4 hn0 ?kK)
   case k1 =>
    intro j u hj
    obtain rfl:j=0:=by have:=(Ak3.1 hj).1;simpa using this
    simp at hj;subst hj;exact hV0
   case k2=>intro u hu;simp at hu;subst hu;exact hxv
   case k3=>unfold maxLen;omega
   case k4=>omega
   case kK =>
    intro kv w2 hown2 hgrow2 _
    have HQ:Hid (BN w2 n0 kv (putAt vs q.length xv) (putAt q q.length x)) :=
     hq.putAt hx (Ak6 _) (by rw[show putAt vs q.length xv=vs++[xv] by rw[← hlen];exact AbX _ _];exact hown2) fun k hk hne=>hgrow2.block k hk fun e=>hne e.symm
    have HT:Hid (Ca w w2 (fun k=>(Value.slice ao q.length _).ownBlock=some k)):=(Ca.refl w _).grown hgrow2 fun k hk=>.inl hk
    clear hgrow2 hown2
    go_wp2
    go_ret
    exact⟨_,rfl,HQ.out,HT.out⟩
 ·have hlt:i<q.length:=by omega
  rcases hq.row.2 with⟨rfl,h0⟩ | ⟨g,cap,cur,rfl,hb,hg,h1,h2,h3,h4⟩
  ·omega
  ·have hcs:∀ (j:Nat) (v:Value),vs[j]?=some v->w.cell? ⟨g,0+j,none⟩=some v:=by
    intro j v hj
    have:=hq.row.cellAt j (by have:=(Ak3.1 hj).1;omega)
    rw[AlC,this,hj]
   have hvs:∀ (j:Nat) (v:Value),[xv][j]?=some v->w.cell? ⟨V,0+j,none⟩=some v:=by
    intro j v hj
    obtain rfl:j=0:=by have:=(Ak3.1 hj).1;simpa using this
    simp at hj;subst hj
    exact hV0
   have h1c:∀ v∈vs,v.oneCell'=true:=by
    intro v hv
    obtain⟨j,hj,rfl⟩:=Amh hv
    exact Gc (hq.each j vs[j] q[j] (by simp[hj]) (by simp[show j<q.length by omega])).row
   have h1v:∀ v∈[xv],v.oneCell'=true:=by intro v hv;simp at hv;subst hv;exact hxv
   have hgV:V≠g:=by rintro rfl;exact hne rfl
   have hm2:=h2
   unfold maxLen at hm2
   by_cases hroom:q.length+1<=cap
   ·refine(Tl g 0 q.length cap i V 0 1 1 vs [xv] w hlt (by omega) hroom (by omega) hgV hlen rfl hcs (fun j hj=>?_) (fun j _=>by rw[AlC];exact Ax hg) hvs h1c h1v _ _ 1 cur.size (by simp[World.shape?,hV];rfl) (by simp[World.shape?,hg];rfl) (by omega) (Ax hV) (Ax hV)).mono ?_
    ·rw[AlC,Aj hg (by rw[Al6 (by omega)])];rfl
    ·rintro e w' ⟨rfl,rfl⟩
     rw[AlC,AlC]
     obtain⟨c1,e1,z1⟩:=DI (vs.drop i) (i+1) w.drew cur hg
     obtain⟨c2,e2,z2⟩:=DI [xv] i _ c1 e1
     obtain⟨s1,s2,s3,s4⟩:=Dg (vs.drop i) (i+1) g w.drew
     obtain⟨s5,s6,s7,s8⟩:=Dg [xv] i g (w.drew.setCells g (i+1) (vs.drop i))
     have far:∀ k,k≠g->((w.drew.setCells g (i+1) (vs.drop i)).setCells g i [xv]).heap[k]?=w.heap[k]?:=fun k hk=>by rw[DH hk,DH hk];rfl
     refine⟨_,rfl,hq.putAt hx hi (Fw e2 hb hroom h2 (by omega) (by rw[GD (by omega),hlen]) fun j hj=>UN hlen hlt (fun k hk=>?_) (fun k hk=>?_) j hj) fun k _ hne=>far k fun e=>hne (by rw[e];rfl),
      ⟨s5.trans s1,s6.trans s2,s7.trans s3,by rw[s8,s4];exact Ak6 _,fun k _ hne=>far k fun e=>hne (by rw[e];rfl)⟩⟩
     ·show(w.cell? _).isSome=true
      rw[Aj hg (by rw[Al6 (by omega)])];rfl
     ·show w.cell? _=_
      exact hq.row.cellAt k (by omega)
   ·refine(Ve g 0 q.length cap i V 0 1 1 vs [xv] w hlt (by omega) h1 (by omega) hbig hlen rfl hcs hvs h1c h1v).mono ?_
    rintro e w' ⟨rfl,rfl⟩
    generalize hROW:(vs.take i).toArray++Builtin.zeroCells (Value.slice none 0 0).cells (q.length+1 - i)++Builtin.zeroCells (Value.slice none 0 0).cells (grownCap w (q.length+1) cap 98 - (q.length+1))=ROW
    have hge:=grownCap_ge w (q.length+1) cap 98
    have hle:=grownCap_le_maxLen w (q.length+1) cap 98 (by unfold maxLen;omega)
    have hsz:ROW.size=grownCap w (q.length+1) cap 98:=by rw[← hROW];simp[Builtin.zeroCells,Value.cells];omega
    have hlo:∀ k,k<i->ROW[k]?=vs[k]?:=fun k hk=>by
     rw[← hROW,Array.append_assoc,Ane (by simp;omega)];simp[hk]
    generalize grownCap w (q.length+1) cap 98=G at *
    obtain⟨W1,hW1⟩:∃ W1,W1=(w.alloc (.cells ROW 98)).drew:=⟨_,rfl⟩
    rw[← hW1]
    have hN:W1.heap[w.heap.size]?=some (.cells ROW 98 (0,0)):=by rw[hW1];exact heap_alloc_new w _
    have e0:(W1.setCells w.heap.size i [xv]).drew.setCells w.heap.size (i+1) (vs.drop i)=((W1.setCells w.heap.size i [xv]).setCells w.heap.size (i+1) (vs.drop i)).drew:=(KW _ _ _ _).symm
    rw[e0]
    obtain⟨c1,e1,z1⟩:=DI [xv] i W1 ROW hN
    obtain⟨c2,e2,z2⟩:=DI (vs.drop i) (i+1) _ c1 e1
    obtain⟨s1,s2,s3,s4⟩:=Dg [xv] i w.heap.size W1
    obtain⟨s5,s6,s7,s8⟩:=Dg (vs.drop i) (i+1) w.heap.size (W1.setCells w.heap.size i [xv])
    have far:∀ k,k<w.heap.size->((W1.setCells w.heap.size i [xv]).setCells w.heap.size (i+1) (vs.drop i)).heap[k]?=w.heap[k]?:=fun k hk=>by
     rw[DH (by omega),DH (by omega),hW1];exact Below.heap_alloc _ _ _ hk
    refine⟨_,rfl,hq.putAt hx hi (Fw (w:=((W1.setCells w.heap.size i [xv]).setCells w.heap.size (i+1) (vs.drop i)).drew) e2 hn0 hge hle (by omega) (by rw[GD (by omega),hlen]) fun j hj=>SX hlen hlt (fun k hk=>?_) (fun k hk=>?_) j hj) fun k hk _=>far k hk,
     ⟨?_,?_,?_,?_,fun k hk _=>far k hk⟩⟩
    ·rw[Aj hN (by rw[Al6 (by omega)])];rfl
    ·have:ROW[k]?=some ROW[k]:=by rw[Al6 (by omega)]
     rw[Aj hN this,← this];exact hlo k hk
    ·exact(s5.trans s1).trans (by rw[hW1];rfl)
    ·exact(s6.trans s2).trans (by rw[hW1];rfl)
    ·exact(s7.trans s3).trans (by rw[hW1];rfl)
    ·show w.heap.size<=(World.heap _).size
     have:W1.heap.size=w.heap.size+1:=by rw[hW1];simp
     show w.heap.size<=((W1.setCells w.heap.size i [xv]).setCells w.heap.size (i+1) (vs.drop i)).heap.size
     rw[s8,s4];omega
end Go.Proofs.YtmdcknlpalfhhaaGreatDoor.Ch
namespace Go.Proofs.YtmdcknlpalfhhaaGreatDoor.Ch
open Go.RowKit
set_option maxHeartbeats 1000000 in
theorem XA {w:World}{yv xv:Value}{x y:List Int}{X:Nat}(hy:Is pM w [yv] y)(hX:w.cell? ⟨X,0,none⟩=some xv)(hx:Is pM w [xv] x) :
  Calls Tryz.prog 186 #[yv,.pointer (some ⟨X,0,none⟩)] w fun e w'=>e=.returned (.bool (EZ x y))/\∃ n,w'=w.drewN n:=by
 have HC:=X1 hx hy
 obtain⟨ao,ca,rfl,_⟩:=Ky hx
 obtain⟨bo,cb,rfl,_⟩:=Ky hy
 go_enter Tryz.func186,Tryz.ntmps186
 go_wp2_with fail
 refine HC.mono ?_;rintro e w1 ⟨rfl,nq,rfl⟩
 go_wp2
 go_ret
 exact⟨rfl,_,rfl⟩
set_option maxHeartbeats 1000000 in
theorem Vf {w:World}{qv xv:Value}{x:List Int}{q:List (List Int)}{X:Nat}(hq:Is pQ w [qv] q)(hX:w.cell? ⟨X,0,none⟩=some xv)(hx:Is pM w [xv] x) :
  Calls Tryz.prog 185 #[qv,.func (.func 186) #[] #[.pointer (some ⟨X,0,none⟩)]] w fun e w'=>e=.returned (.int .i64 (IQ x q))/\∃ n,w'=w.drewN n:=by
 obtain⟨ao,cap,rfl,h1,h2,h3⟩:=GG hq
 clear hq
 unfold maxLen at h2
 go_enter Tryz.func185,Tryz.ntmps185
 go_wp2
 go_loopw [8] (fun i wr=>∃ k:Nat,k<=q.length/\i=.int .i64 k/\(∀ j y,j<k->q[j]?=some y->EZ x y=false)/\∃ n,wr=w.drewN n) (fun i _=>q.length - (intOf i).toNat)
 case atStart=>exact⟨0,Alc _,rfl,fun j y h=>by omega,0,rfl⟩
 case round =>
  obtain⟨k,hk,rfl,hs,nq,rfl⟩:=hrel
  by_cases hlt:k<q.length
  ·obtain⟨b,off,rfl,hbl,hc⟩:=h3 (by omega)
   obtain⟨u,hu,hm⟩:=hc k q[k] (by simp[hlt])
   have HQ:q[k]?=some q[k]:=by simp[hlt]
   have HC:=XA (hm.drewN LV nq) (X:=X) hX (hx.drewN LV nq)
   cases hl:EZ x q[k] with
   | true =>
    have HI:Hid (IQ x q=k):=by unfold Hid IQ;rw[Qk x q k _ HQ hs hl,Alw hlt]
    rw[hl]at HC
    clear hs hc h3 hl HQ
    generalize q[k]=m at *
    go_wp2_with (go_at_call 186;refine HC.mono ?_;rintro e w1 ⟨rfl,n1,rfl⟩)
    go_ret
    exact⟨by rw[HI.out];rfl,_,rfl⟩
   | false =>
    have HS:Hid (∀ j y,j<k+1->q[j]?=some y->EZ x y=false):=by
     intro j y hj hy
     by_cases e:j=k
     ·subst e;rw[HQ]at hy;cases hy;exact hl
     ·exact hs j y (by omega) hy
    rw[hl]at HC
    clear hs hc h3 hl HQ
    generalize q[k]=m at *
    go_wp2_with (go_at_call 186;refine HC.mono ?_;rintro e w1 ⟨rfl,n1,rfl⟩)
    go_roundw
    case rel=>exact⟨k+1,by omega,by go_num,HS.out,_,rfl⟩
    case measure=>simp[intOf];omega
  ·obtain rfl:k=q.length:=by omega
   have HI:Hid (IQ x q=-1):=by unfold Hid IQ;rw[N2 x q fun j y hy=>hs j y (Ak3.1 hy).1 hy,Alg (by omega)]
   clear hs h3
   go_wp2
   go_ret
   exact⟨by rw[HI.out];rfl,_,rfl⟩
def fitM (fs:List D.Type)(m:List Int):List Int:=List.zipWith (fun t v=>Ej t.Bits t.Signed v) fs m
def putE (room:Int)(fs:List D.Type)(q:List (List Int))(m:List Int):Int :=
 if m.length≠fs.length then 42 else if fs.all typeP=false then 42 else if room<=q.length then 45 else 0
def putX (fs:List D.Type)(q:List (List Int))(m:List Int)(sorted:Bool):List (List Int):=putAt q (if sorted then Ea (fitM fs m) q else q.length) (fitM fs m)
theorem Aac (n:Nat):(madeCells #[Value.int .i64 0] n).toList=List.replicate n (Value.int .i64 0):=toList_madeCells_one (.int .i64 0) n
def putSh (room:Int)(fs:List D.Type)(q:List (List Int))(m:List Int)(sh:Int):Int:=if putE room fs q m=0 then sh else 0
def putQ (room:Int)(fs:List D.Type)(q:List (List Int))(m:List Int)(sorted:Bool):List (List Int):=if putE room fs q m=0 then putX fs q m sorted else[]
theorem M3 {room sh:Int}{fs:List D.Type}{q:List (List Int)}{m:List Int}{e:Int}(h:putE room fs q m=e)(he:e≠0):putSh room fs q m sh=0:=by unfold putSh;rw[h,Alg he]
theorem PR {room:Int}{fs:List D.Type}{q:List (List Int)}{m:List Int}{sorted:Bool}{e:Int}(h:putE room fs q m=e)(he:e≠0):putQ room fs q m sorted=[]:=by unfold putQ;rw[h,Alg he]
def Hn (fs:List D.Type)(m:List Int)(k:Nat):List Int:=(fitM fs m).take k++List.replicate (m.length - k) 0
theorem fitM_len {fs:List D.Type}{m:List Int}(h:m.length=fs.length):(fitM fs m).length=m.length:=by simp[fitM,h]
theorem R2 {fs:List D.Type}{m:List Int}{k:Nat}(h:m.length=fs.length)(hk:k<=m.length):(Hn fs m k).length=m.length:=by
 simp[Hn,fitM_len h];omega
theorem AcR {fs:List D.Type}{m:List Int}(h:m.length=fs.length):Hn fs m m.length=fitM fs m:=by
 simp[Hn];rw[← fitM_len h,Ame]
theorem AcQ {fs:List D.Type}{m:List Int}{k:Nat}(h:m.length=fs.length)(hk:k<m.length)(t:D.Type)(ht:fs[k]?=some t) :
  (Hn fs m k).set k (Ej t.Bits t.Signed (m.getD k 0))=Hn fs m (k+1):=by
 have hl:=fitM_len h
 have he:(fitM fs m)[k]?=some (Ej t.Bits t.Signed (m.getD k 0)):=by
  simp[fitM,List.getElem?_zipWith,ht,List.getD,hk]
 unfold Hn
 rw[List.set_append_right _ _ (by simp;omega),GB he,show m.length - k=(m.length - (k+1))+1 by omega,List.replicate_succ]
 simp[show k - min k (fitM fs m).length=0 by omega]
theorem Ajq (b v:Int)(s:Bool):(Lit.int .i64 (Ej b s v)).wf=true:=by
 rw[AdD]
 unfold Ej
 split
 ·rename_i hb
  have hp:=AeU b hb.1 hb.2
  have e1:=Anc (v+2 ^ b.toNat / 2) (show(2:Int) ^ b.toNat≠0 by omega)
  have e2:=Int.emod_lt_of_pos (v+2 ^ b.toNat / 2) (show(0:Int)<2 ^ b.toNat by omega)
  have e3:=Anc v (show(2:Int) ^ b.toNat≠0 by omega)
  have e4:=Int.emod_lt_of_pos v (show(0:Int)<2 ^ b.toNat by omega)
  split<;>omega
 ·omega
structure PF (w wr:World) (room sh:Int) (fv qv:Value) (X L:Nat) (ys:List Int):Prop where
 b0:wr.heap[w.heap.size]?=some (.cells #[.int .i64 room,fv] 166 (0,0))
 b1:wr.heap[w.heap.size+1]?=some (.cells #[.int .i64 sh,qv] 86 (0,0))
 b2:wr.heap[w.heap.size+2]?=some (.cells #[.int .i64 0,.slice none 0 0] 86 (0,0))
 b4:wr.heap[X]?=some (.cells #[.slice (some ⟨w.heap.size+3,0,none⟩) L L] 98 (0,0))
 x:F7 wr w.heap.size (.slice (some ⟨w.heap.size+3,0,none⟩) L L) ys
 len:ys.length=L
 below:Below w.heap.size w wr
section
variable {w wr w2:World} {room sh:Int} {fv qv:Value} {X L:Nat} {ys:List Int}
theorem PF.lt (h:PF w wr room sh fv qv X L ys):w.heap.size+2<wr.heap.size/\X<wr.heap.size:=⟨BJ h.b2,BJ h.b4⟩
theorem PF.nx (h:PF w wr room sh fv qv X L ys)(k:Nat)(hk:(Value.slice (some ⟨w.heap.size+3,0,none⟩) L L).ownBlock=some k):X≠k:=by
 rintro rfl;obtain⟨c,hc⟩:=AU h.x.row hk;exact Ec h.b4 hc (by decide) rfl
theorem PF.kept (h:PF w wr room sh fv qv X L ys)(hb:Below wr.heap.size wr w2):PF w w2 room sh fv qv X L ys :=
 have hl:=h.lt
 ⟨(hb.block _ (by omega)).trans h.b0,(hb.block _ (by omega)).trans h.b1,(hb.block _ (by omega)).trans h.b2,(hb.block _ (by omega)).trans h.b4,h.x.same fun k hk=>hb.block k (h.x.row.lt k hk).2,h.len,h.below.trans (hb.mono h.below.size)⟩
theorem PF.cell (h:PF w wr room sh fv qv X L ys){k:Nat}(hk:k<L):wr.cell? ⟨w.heap.size+3,k,none⟩=some (.int .i64 (ys.getD k 0)):=by
 have hrow:=h.x.row
 rw[h.len]at hrow
 have:=h.len
 rw[hrow.cellAt k (by omega)];simp[List.getD,show k<ys.length by omega]
theorem PF.free (h:PF w wr room sh fv qv X L ys)(k:Nat):wr.frozen? ⟨w.heap.size+3,k,none⟩=false:=by
 have hrow:=h.x.row
 rw[h.len]at hrow
 exact hrow.frozenAt k
theorem PF.set (h:PF w wr room sh fv qv X L ys){k:Nat}{n:Int}(hn:(Lit.int .i64 n).wf=true)(hk:k<L):PF w (wr.setCell ⟨w.heap.size+3,k,none⟩ (.int .i64 n)) room sh fv qv X L (ys.set k n):=by
 have hrow:=h.x.row
 rw[h.len]at hrow
 have hst:=hrow.stored k (.int .i64 n)
 refine⟨?_,?_,?_,?_,⟨?_,fun i hi=>?_⟩,by rw[AlT];exact h.len,h.below.setCell (by simp) _⟩
 ·rw[Below.heap_setCell _ _ _ _ (by simp)];exact h.b0
 ·rw[Below.heap_setCell _ _ _ _ (by simp)];exact h.b1
 ·rw[Below.heap_setCell _ _ _ _ (by simp)];exact h.b2
 ·rw[Below.heap_setCell _ _ _ _ (h.nx (w.heap.size+3) rfl)];exact h.b4
 ·rw[AlT,h.len,List.map_set];exact hst.1
 ·rw[AlT]at hi
  by_cases e:i=k
  ·subst e;simp[List.getD,hi];exact hn
  ·have:=h.x.wf i hi
   simpa[List.getD,Am6 (Ne.symm e)] using this
end
theorem BN.base {w:World}{n0 n1:Nat}{v:Value}{vs:List Value}{q:List (List Int)}(h:BN w n0 v vs q)(hb:n1<=n0):BN w n1 v vs q :=
 ⟨⟨h.row.1,h.row.2.imp id fun⟨g,cap,cur,e,h1,h2⟩=>⟨g,cap,cur,e,Als hb h1,h2⟩⟩,h.len,fun i u m hu hm=>(h.each i u m hu hm).base hb⟩
theorem Zr {w wO:World}{room sh:Int}{fv qv ov:Value}{vs:List Value}{X L O:Nat}{x:List Int}{q:List (List Int)}(hp:PF w wO room sh fv qv X L x)(hown:BN wO w.heap.size ov vs q)
  (hO:wO.heap[O]?=some (.cells #[.int .i64 sh,ov] 86 (0,0))) (i V:Nat) (hV:wO.heap.size=V) (hi:i<=q.length) (hbig:(q.length+1)*24<=140737488355328) :
  Calls Tryz.prog 188 #[ov,.int .i64 i,.slice (some ⟨V,0,none⟩) 1 1] (wO.alloc (.cells #[.slice (some ⟨w.heap.size+3,0,none⟩) L L] 98)) fun e w' =>
   ∃ ao cap vs',e=.returned (.slice ao (q.length+1) cap)/\BN w' w.heap.size (.slice ao (q.length+1) cap) vs' (putAt q i x)/\w'.heap[O]?=some (.cells #[.int .i64 sh,ov] 86 (0,0)) /\
    w'.heap[w.heap.size+2]?=some (.cells #[.int .i64 0,.slice none 0 0] 86 (0,0))/\Below w.heap.size w w':=by
 subst hV
 have hsz:=hp.below.size
 have hlt:=hp.lt
 have hOl:=BJ hO
 refine(Tm i (hown.alloc _) (heap_alloc_new wO _) (fun e=>by have:=(hown.row.lt _ e).2;omega) (hp.x.alloc _) hi hbig (by simp;omega)).mono ?_
 rintro e w' ⟨v',rfl,hq',ht⟩
 obtain⟨ao,cap,rfl,_⟩:=Eh hq'.row
 rw[GD hi]at hq' ⊢
 have far:∀ (k:Nat) (c:Array Value) (t:TypeId),wO.heap[k]?=some (.cells c t (0,0))->t≠98->w'.heap[k]?=some (.cells c t (0,0)):=fun k c t hk hne=>by
  have hkl:=BJ hk
  rw[ht.block k (by simp;omega) (fun e=>by obtain⟨cur,hcur⟩:=AU hown.row e;exact Ec hk hcur hne rfl),Below.heap_alloc _ _ _ hkl];exact hk
 refine⟨ao,cap,_,rfl,hq',far O _ _ hO (by decide),far _ _ _ hp.b2 (by decide),?_⟩
 exact(hp.below.alloc hsz _).trans (ht.below (by simp;omega) fun k hk=>(hown.row.lt k hk).1)
theorem Afk {w:World}{v:Value}{fs:List D.Type}(h:Is (Pkg.slice 2 16 HM) w [v] fs) :
  ∃ ao cap,v=.slice ao fs.length cap/\fs.length<=cap/\cap<=maxLen/\(0<fs.length->∃ b off,ao=some ⟨b,off,none⟩/\b<w.heap.size /\
   ∀ i t,fs[i]?=some t->w.cell? ⟨b,off+i*2,none⟩=some (.int .i64 t.Bits)/\w.cell? ⟨b,off+i*2+1,none⟩=some (.bool t.Signed)):=by
 obtain⟨ao,cap,e,h1,h2,h3⟩:=Qf h
 refine⟨ao,cap,e,h1,h2,fun hp=>?_⟩
 obtain⟨b,off,e2,hb,hel⟩:=h3 hp
 refine⟨b,off,e2,hb,fun i t ht=>?_⟩
 obtain⟨es,_,h5,h6⟩:=hel i t ht
 simp only[HM,Afj,Vd,Tk,ZM]at h6
 obtain⟨_,rfl,_,_,rfl,rfl⟩:=h6
 exact⟨by have:=h5 0 (by omega);exact this,by have:=h5 1 (by omega);exact this⟩
end Go.Proofs.YtmdcknlpalfhhaaGreatDoor.Ch
namespace Go.Proofs.YtmdcknlpalfhhaaGreatDoor.Ch
open Go.RowKit Go.Lib
def cutAt {α:Type}(l:List α)(i:Nat):List α:=l.take i++l.drop (i+1)
theorem KF {α:Type}{l:List α}{i:Nat}(h:i<l.length):(cutAt l i).length=l.length - 1:=by
 unfold cutAt;simp;omega
theorem VH {α:Type}{l:List α}{i j:Nat}(h:i<l.length)(hj:j<i):(cutAt l i)[j]?=l[j]?:=by
 unfold cutAt
 rw[Ale (by simp;omega),Al0,Alw hj]
theorem VI {α:Type}{l:List α}{i j:Nat}(h:i<l.length)(hj:i<=j):(cutAt l i)[j]?=l[j+1]?:=by
 unfold cutAt
 rw[All (by simp;omega),Amf,Alx]
 congr 1;omega
theorem BN.cutAt {w w':World}{n0 i:Nat}{v v':Value}{vs:List Value}{q:List (List Int)}(h:BN w n0 v vs q)(hi:i<q.length)
  (hr:w'.ownsRow n0 98 1 v' (q.length - 1) (cutAt vs i)) (ht:∀ k,k<w.heap.size->v.ownBlock≠some k->w'.heap[k]?=w.heap[k]?):BN w' n0 v' (cutAt vs i) (cutAt q i):=by
 have hl:=h.len
 have sep:∀ (x:Value) (l:List Int),F7 w n0 x l->F7 w' n0 x l:=fun x l hx=>hx.same fun k hk=>ht k (hx.row.lt k hk).2 fun e=>by
  obtain⟨c1,e1⟩:=AU hx.row hk
  obtain⟨c2,e2⟩:=AU h.row e
  exact Ec e1 e2 (by decide) rfl
 refine⟨by rw[KF hi];exact hr,by rw[KF hi,KF (by omega),hl],fun j x l hx hl'=>?_⟩
 by_cases hj:j<i
 ·rw[VH (by omega) hj]at hx hl'
  exact sep x l (h.each j x l hx hl')
 ·rw[VI (by omega) (by omega)]at hx hl'
  exact sep x l (h.each _ x l hx hl')
set_option maxHeartbeats 1000000 in
set_option maxRecDepth 100000 in
theorem Tu {w:World}{n0:Nat}{qv:Value}{vs:List Value}{q:List (List Int)}(i:Nat)(hq:BN w n0 qv vs q)(hi:i<q.length) :
  Calls Tryz.prog 190 #[qv,.int .i64 i,.int .i64 ((i:Int)+1)] w fun e w' =>
   ∃ ao cap vs',e=.returned (.slice ao (q.length - 1:Nat) cap)/\BN w' n0 (.slice ao (q.length - 1:Nat) cap) vs' (cutAt q i)/\Ca w w' (fun k=>qv.ownBlock=some k):=by
 have hlen:=hq.len
 obtain⟨ki,khi,khz0,khz1,khz2⟩:=B7 GX
 rcases hq.row.2 with⟨rfl,h0⟩ | ⟨g,cap,cur,rfl,hb,hg,h1,h2,h3,h4⟩
 ·omega
 have hm2:=h2
 unfold maxLen at hm2
 have hcell:∀ j,j<cap->(w.cell? ⟨g,j,none⟩).isSome=true:=fun j hj=>by
  rw[Aj hg (by rw[Al6 (by omega)])];rfl
 obtain⟨news,hnews⟩:∃ news,news=vs.drop (i+1):=⟨_,rfl⟩
 have hnl:news.length=q.length - (i+1):=by rw[hnews];simp[hlen]
 obtain⟨A,hA,hsrc⟩:∃ A:Addr,(if cap=i+1 then some (⟨g,0,none⟩:Addr) else some ⟨g,i+1,none⟩)=some A/\Hid (∀ (t:Nat) (u:Value),news[t]?=some u->w.drew.cell? (A.add t)=some u):=by
  by_cases h:cap=i+1
  ·refine⟨⟨g,0,none⟩,by simp[h],fun t u hu=>?_⟩
   have:=(Ak3.1 hu).1
   omega
  ·refine⟨⟨g,i+1,none⟩,by simp[h],fun t u hu=>?_⟩
   have ht:=(Ak3.1 hu).1
   rw[hnews,Alx]at hu
   rw[Addr.add_lit]
   have:=hq.row.cellAt (i+1+t) (by omega)
   rw[hu]at this;exact this
 have s1:Hid (news.length=(q.length - (i+1))*1):=by rw[Nat.mul_one];exact hnl
 have s2:Hid (∀ u∈news,u.oneCell'=true):=by
  intro u hu
  rw[hnews]at hu
  obtain⟨j,hj,rfl⟩:=Amh (AmN hu)
  exact Gc (hq.each j vs[j] q[j] (by simp[hj]) (by simp[show j<q.length by omega])).row
 have s3:Hid (∀ t,t<news.length->(w.drew.cell? ⟨g,0+i*1+t,none⟩).isSome=true/\w.drew.frozen? ⟨g,0+i*1+t,none⟩=false):=by
  intro t ht
  exact⟨hcell _ (by omega),Ax hg⟩
 obtain⟨W1,hW1⟩:∃ W1,W1=w.drew.setCells g (0+i*1) news:=⟨_,rfl⟩
 obtain⟨c1,e1,z1⟩:=DI news (0+i*1) w.drew cur hg
 rw[← hW1]at e1
 have hcl:∀ ty,(Builtin.clear_ #[84] ty #[.slice (some ⟨g,i+(q.length - (i+1)),none⟩) (q.length - (i+(q.length - (i+1)))) (cap - (i+(q.length - (i+1))))]).run Tryz.prog W1=.ok (.tuple #[]) (W1.setCells g (i+(q.length - (i+1))) (List.replicate (q.length - (i+(q.length - (i+1)))) (.slice none 0 0))) :=
  fun ty=>Lib.run_clear_slice W1 _ _ ty _ Tryz.underlying84 Tryz.zeroValue98 rfl rfl g (i+(q.length - (i+1))) _ _ (by omega) (fun t ht=>by rw[Aj e1 (by rw[Al6 (by omega)])];rfl) (fun t ht=>Ax e1)
 have hic:i<=cap:=by omega
 have hjc:i+1<=cap:=by omega
 have hj0:(0:Int)<=(i:Int)+1:=by omega
 have hjn:(i:Int)+1<=(q.length:Int):=by omega
 have hW:Hid (W1=w.drew.setCells g (0+i*1) news):=hW1
 have HF:Hid (∃ ao cap' vs',(Value.slice (some ⟨g,0,none⟩) (i+(q.length - (i+1))) cap)=.slice ao (q.length - 1:Nat) cap'/\BN (W1.setCells g (i+(q.length - (i+1))) (List.replicate (q.length - (i+(q.length - (i+1)))) (.slice none 0 0))) n0 (.slice ao (q.length - 1:Nat) cap') vs' (cutAt q i)/\Ca w (W1.setCells g (i+(q.length - (i+1))) (List.replicate (q.length - (i+(q.length - (i+1)))) (.slice none 0 0))) (fun k=>(Value.slice (some ⟨g,0,none⟩) q.length cap).ownBlock=some k)):=by
  have n1:i+(q.length - (i+1))=q.length - 1:=by omega
  rw[n1,show q.length - (q.length - 1)=1 by omega]
  obtain⟨c2,e2,z2⟩:=DI (List.replicate 1 (Value.slice none 0 0)) (q.length - 1) W1 c1 e1
  have far:∀ k,k≠g->(W1.setCells g (q.length - 1) (List.replicate 1 (Value.slice none 0 0))).heap[k]?=w.heap[k]?:=fun k hk=>by rw[DH hk,hW1,DH hk];rfl
  obtain⟨s1,s2,s3,s4⟩:=Dg news (0+i*1) g w.drew
  obtain⟨s5,s6,s7,s8⟩:=Dg (List.replicate 1 (Value.slice none 0 0)) (q.length - 1) g W1
  rw[← hW1]at s1 s2 s3 s4
  refine⟨_,_,cutAt vs i,rfl,hq.cutAt hi (Fw e2 hb (by omega) h2 (by omega) (by rw[KF (by omega),hlen]) fun j hj=>?_) fun k _ hne=>far k fun e=>hne (by rw[e];rfl),
   ⟨s5.trans s1,s6.trans s2,s7.trans s3,by rw[s8,s4];exact Ak6 _,fun k _ hne=>far k fun e=>hne (by rw[e];rfl)⟩⟩
  rw[Da (.inl hj),hW1]
  by_cases hji:j<i
  ·rw[Da (.inl (by omega)),VH (by omega) hji]
   exact hq.row.cellAt j (by omega)
  ·rw[FR (w:=w.drew) (o:=0+i*1) (vs:=news) (fun k hk=>hcell (0+i*1+k) (by omega)) (by omega) (by omega),VI (by omega) (by omega),hnews,Alx]
   congr 1;omega
 clear hW1 e1 hcell
 go_enter Tryz.func190,Tryz.ntmps190
 go_wp2_with fail
 go_region_law (refine step_append_room rfl (.tmp 22) (.tmp 25) 84 rfl 98 ki 1 Tryz.underlying84 khi khz1 g 0 i cap (by simp[Act.eval,Act.put]) A (q.length - (i+1)) (cap - (i+1)) news (by simp[Act.eval,Act.put]) s1.out hsrc.out s2.out (by omega) s3.out ?_;rw[← hW.out])
 go_wp2
 go_ret
 obtain⟨ao,cap',vs',e,h5,h6⟩:=HF.out
 exact⟨ao,cap',vs',by rw[← e];rfl,h5,h6⟩
theorem BN.base' {w:World}{n0 n1:Nat}{v:Value}{vs:List Value}{q:List (List Int)}(h:BN w n0 v vs q)(hb:n1<=n0):BN w n1 v vs q :=
 ⟨⟨h.row.1,h.row.2.imp id fun⟨g,cap,cur,e,h1,h2⟩=>⟨g,cap,cur,e,Als hb h1,h2⟩⟩,h.len,fun i u m hu hm=>(h.each i u m hu hm).base hb⟩
set_option maxRecDepth 100000 in
set_option maxHeartbeats 1000000 in
theorem Aa3 {w:World}{qv:Value}{q:List (List Int)}(sh n:Int)(hq:Is pQ w [qv] q)(hn:n<0∨(q.length:Int)<=n) :
  Calls Tryz.prog 166 #[.agg #[.int .i64 sh,qv],.int .i64 n] w fun e w'=>e=.returned (.tuple #[.agg #[.int .i64 0,.slice none 0 0],.slice none 0 0,.int .i64 46])/\Below w.heap.size w w':=by
 obtain⟨qo,qc,rfl,_⟩:=GG hq
 have hres:((w.alloc (.cells #[.int .i64 sh,.slice qo q.length qc] 86)).alloc (.cells #[.int .i64 0,.slice none 0 0] 86)).heap[w.heap.size+1]?=some (.cells #[.int .i64 0,.slice none 0 0] 86 (0,0)):=by
  have:=heap_alloc_new (w.alloc (.cells #[.int .i64 sh,.slice qo q.length qc] 86)) (.cells #[.int .i64 0,.slice none 0 0] 86)
  simpa using this
 have hb:Below w.heap.size w ((w.alloc (.cells #[.int .i64 sh,.slice qo q.length qc] 86)).alloc (.cells #[.int .i64 0,.slice none 0 0] 86)):=((Below.refl _ w).alloc (Ak6 _) _).alloc (by simp) _
 rcases hn with hn | hn
 ·go_enter Tryz.func166,Tryz.ntmps166
  go_wp2
  exact M1 rfl rfl hres Tryz.underlying86 rfl (by kernel_rfl) rfl ⟨rfl,hb⟩
 ·have hd:decide (n<0)=false:=by simp;omega
  go_enter Tryz.func166,Tryz.ntmps166
  go_wp2
  exact M1 rfl rfl hres Tryz.underlying86 rfl (by kernel_rfl) rfl ⟨rfl,hb⟩
set_option maxRecDepth 100000 in
set_option maxHeartbeats 1000000 in
theorem WW {w:World}{qv:Value}{q:List (List Int)}(sh:Int)(n:Nat)(hq:Is pQ w [qv] q)(hsm:Small q)(hn:n<q.length) :
  Calls Tryz.prog 166 #[.agg #[.int .i64 sh,qv],.int .i64 n] w fun e w'=>∃ ov vs mv,e=.returned (.tuple #[.agg #[.int .i64 sh,ov],mv,.int .i64 0]) /\
   BN w' w.heap.size ov vs (cutAt q n)/\F7 w' w.heap.size mv (q.getD n [])/\Below w.heap.size w w':=by
 obtain⟨qo,qc,rfl,_⟩:=GG hq
 generalize hw0:(w.alloc (.cells #[.int .i64 sh,.slice qo q.length qc] 86)).alloc (.cells #[.int .i64 0,.slice none 0 0] 86)=w0
 have hb0:Below w.heap.size w w0:=by rw[← hw0];exact((Below.refl _ w).alloc (Ak6 _) _).alloc (by simp) _
 have hres0:w0.heap[w.heap.size+1]?=some (.cells #[.int .i64 0,.slice none 0 0] 86 (0,0)):=by
  have:=heap_alloc_new (w.alloc (.cells #[.int .i64 sh,.slice qo q.length qc] 86)) (.cells #[.int .i64 0,.slice none 0 0] 86)
  rw[← hw0];simpa using this
 have HC:=MD sh (hq.below Y6 hb0) hsm
 rw[← hw0]at HC
 have HW:=Lib.hid hw0
 clear hw0
 have hnd:(n:Int)<(q.length:Int):=by omega
 have hql:=hsm.1
 obtain⟨mm,hmm⟩:∃ mm,mm=q.getD n []:=⟨_,rfl⟩
 rw[← hmm]
 have HMM:=Lib.hid hmm
 clear hmm
 go_enter Tryz.func166,Tryz.ntmps166
 go_wp2_with fail
 (with_reducible refine HC.mono ?_);rintro e w2 ⟨ov,vs,rfl,hown2,hb2⟩
 rw[HW.out]at hown2 hb2
 obtain⟨oo,oc,rfl,_,_,h3⟩:=Eh hown2.row
 obtain⟨g,rfl,hg1,hg2,hg3⟩:=h3 (by omega)
 have hvn:n<vs.length:=by rw[hown2.len];exact hn
 have hmv:=hown2.each n vs[n] mm (by simp[hvn]) (by rw[HMM.out];simp[List.getD,hn])
 obtain⟨mo,mc,hme,_⟩:=Eh hmv.row
 have hmc:=hg3 n hn
 rw[Ald hvn,hme]at hmc
 rw[hme]at hmv
 have hg2':=hg2
 have hs0:w.heap.size<=w0.heap.size:=hb0.size
 have hs2:w0.heap.size<=w2.heap.size:=hb2.size
 have hres2:w2.heap[w.heap.size+1]?=_:=(hb2.block _ (BJ hres0)).trans hres0
 have hl2:=BJ hres2
 have hn1:w.heap.size+1≠w2.heap.size:=by omega
 have hn2:w2.heap.size≠w.heap.size+1:=fun e=>hn1 e.symm
 have HD:=Tu n ((hown2.base' hs0).alloc (.cells #[.int .i64 sh,.slice (some ⟨g,0,none⟩) q.length oc] 86)) hn
 clear hme h3 hg3
 go_wp2_with fail
 (with_reducible refine HD.mono ?_);rintro e w4 ⟨ao,cap,vs',rfl,hq4,ht4⟩
 have hO4:w4.heap[w2.heap.size]?=some (.cells #[.int .i64 sh,.slice (some ⟨g,0,none⟩) q.length oc] 86 (0,0)):=by
  rw[ht4.block _ (by simp) (by simp[Value.ownBlock];omega)];exact heap_alloc_new _ _
 have hr4:w4.heap[w.heap.size+1]?=some (.cells #[.int .i64 0,.slice none 0 0] 86 (0,0)):=by
  rw[ht4.block _ (by simp;omega) (by intro e;obtain⟨cur,hcur⟩:=AU hown2.row e;exact Ec hres2 hcur (by decide) rfl),Below.heap_alloc _ _ _ hl2];exact hres2
 have hm4:F7 w4 w.heap.size (.slice mo mm.length mc) mm:=(hmv.base hs0).same fun k hk=>by
  have hkl:=(hmv.row.lt k hk).2
  rw[ht4.block _ (by simp;omega) (by intro e;obtain⟨cur,hcur⟩:=AU hown2.row e;obtain⟨cur',hcur'⟩:=AU hmv.row hk;exact Ec hcur' hcur (by decide) rfl),Below.heap_alloc _ _ _ hkl]
 have hb4:Below w.heap.size w w4:=((hb0.trans (hb2.mono hs0)).alloc (by omega) _).trans (ht4.below (by simp;omega) fun k hk=>Als hs0 (hown2.row.lt k hk).1)
 have cO0:w4.cell? ⟨w2.heap.size,0,none⟩=some (.int .i64 sh):=Aj hO4 rfl
 have cO1:w4.cell? ⟨w2.heap.size,1,none⟩=some (.slice (some ⟨g,0,none⟩) q.length oc):=Aj hO4 rfl
 have fO1:w4.frozen? ⟨w2.heap.size,1,none⟩=false:=Ax hO4
 have r0:w4.cell? ⟨w.heap.size+1,0,none⟩=some (.int .i64 0):=Aj hr4 rfl
 have r1:w4.cell? ⟨w.heap.size+1,1,none⟩=some (.slice none 0 0):=Aj hr4 rfl
 have f0:w4.frozen? ⟨w.heap.size+1,0,none⟩=false:=Ax hr4
 have f1:w4.frozen? ⟨w.heap.size+1,1,none⟩=false:=Ax hr4
 clear hown2 hmv ht4 hmc
 go_wp2
 have hr5:(w4.setCell ⟨w2.heap.size,1,none⟩ (.slice ao (q.length - 1) cap)).heap[w.heap.size+1]?=_:=(Below.heap_setCell _ _ _ _ hn1).trans hr4
 have hres:(((w4.setCell ⟨w2.heap.size,1,none⟩ (.slice ao (q.length - 1) cap)).setCell ⟨w.heap.size+1,0,none⟩ (.int .i64 sh)).setCell ⟨w.heap.size+1,1,none⟩ (.slice ao (q.length - 1) cap)).heap[w.heap.size+1]?=some (.cells #[.int .i64 sh,.slice ao (q.length - 1) cap] 86 (0,0)):=by
  rw[A1 (A1 hr5 _)];rfl
 refine M1 rfl rfl hres Tryz.underlying86 rfl (by kernel_rfl) rfl ⟨.slice ao (q.length - 1) cap,vs',.slice mo mm.length mc,rfl,?_,?_,?_⟩
 ·exact((hq4.set hO4 (by decide) (by decide) _).set hr5 (by decide) (by decide) _).set (A1 hr5 _) (by decide) (by decide) _
 ·refine hm4.same fun k hk=>?_
  have e:∀ {B:Nat} {c:Array Value},w4.heap[B]?=some (.cells c 86 (0,0))->k≠B:=fun hB e=>by
   subst e;obtain⟨cur,hcur⟩:=AU hm4.row hk;exact Ec hcur hB (by decide) rfl
  rw[Below.heap_setCell _ _ _ _ (e hr4),Below.heap_setCell _ _ _ _ (e hr4),Below.heap_setCell _ _ _ _ (e hO4)]
 ·exact((hb4.setCell (p:=⟨w2.heap.size,1,none⟩) (by simp;omega) _).setCell (p:=⟨w.heap.size+1,0,none⟩) (AlW _ _) _).setCell (p:=⟨w.heap.size+1,1,none⟩) (AlW _ _) _
end Go.Proofs.YtmdcknlpalfhhaaGreatDoor.Ch
namespace Go.Proofs.YtmdcknlpalfhhaaGreatDoor
open Go.RowKit
def LC (f:List D.Type)(args init:List Int)(k:Nat):List Int:=(List.range init.length).map fun i=>if i<k then IR (f.getD i default) (args.getD i 0) else init.getD i 0
def G4 (m:D.Model)(typ:Int)(args:List Int):D.Process:=⟨typ,(A8 m typ).Start,(A8 m typ).Prio,LC (A8 m typ).Frame args (A8 m typ).Init args.length⟩
def Ae7 : D.Process:=⟨0,0,0,[]⟩
def GM (m:D.Model)(typ:Int)(args:List Int):D.Process × Int :=
 bif !Dq m then(Ae7,40)
 else bif decide (typ<0)||(decide ((m.Procs.length:Int)<=typ)||(decide (typ=m.Claim)||decide ((args.length:Int)≠(A8 m typ).Params))) then(Ae7,42)
 else(G4 m typ args,0)
def N7 (e:D.Env)(p:D.Process):D.Env:={ e with S:={ e.S with Procs:=e.S.Procs++[p] } }
def BR (e:D.Env)(x:Int):D.Env × Int × Int :=
 bif decide ((BM e (Aw e.M x).Args).2≠0) then(e,0,(BM e (Aw e.M x).Args).2)
 else bif decide ((GM e.M (Aw e.M x).N (BM e (Aw e.M x).Args).1).2≠0) then(e,0,(GM e.M (Aw e.M x).N (BM e (Aw e.M x).Args).1).2)
 else(N7 e (GM e.M (Aw e.M x).N (BM e (Aw e.M x).Args).1).1,e.S.Procs.length,0)
def CM (e:D.Env)(x v:Int):D.Env × Int:=(stE e x v,(AW e x v).2)
def I7 (e:D.Env)(s:D.Stmt):D.Env × Int :=
 bif DN e s.B then(bif decide ((BR e s.B).2.2≠0) then((BR e s.B).1,(BR e s.B).2.2) else CM (BR e s.B).1 s.A (BR e s.B).2.1)
 else bif decide ((AX e s.B).2≠0) then(e,(AX e s.B).2) else CM e s.A (AX e s.B).1
def I8 (e:D.Env)(c:Int)(k:D.Chan):D.Env:={ e with S:={ e.S with Chans:=e.S.Chans.set (c - 1).toNat k } }
def En (k:D.Chan)(n:Int):D.Chan × List Int × Int :=
 bif decide (n<0)||decide ((k.Queue.length:Int)<=n) then(⟨0,[]⟩,[],46) else(⟨k.Shape,Ch.cutAt k.Queue n.toNat⟩,k.Queue.getD n.toNat [],0)
def Gb (e:D.Env)(s:D.Stmt):D.Env × Int :=
 bif decide ((A9 e s).2.2≠0) then(e,(A9 e s).2.2)
 else bif decide ((En (Cl e (A9 e s).1) (A9 e s).2.1).2.2≠0) then(e,(En (Cl e (A9 e s).1) (A9 e s).2.1).2.2)
 else Du (bif decide (s.N<2) then I8 e (A9 e s).1 (En (Cl e (A9 e s).1) (A9 e s).2.1).1 else e) s (En (Cl e (A9 e s).1) (A9 e s).2.1).2.1
def QY (m:D.Model)(k:D.Chan)(l:List Int)(sorted:Bool):D.Chan × Int :=
 (⟨Ch.putSh (BP m k.Shape).Room (BP m k.Shape).Fields k.Queue l k.Shape,Ch.putQ (BP m k.Shape).Room (BP m k.Shape).Fields k.Queue l sorted⟩,Ch.putE (BP m k.Shape).Room (BP m k.Shape).Fields k.Queue l)
def Aeq (e:D.Env)(s:D.Stmt):D.Env × Int :=
 (I8 e (Az e s).1 (QY e.M (Cl e (Az e s).1) (Az e s).2.1 (decide (s.N=1))).1,(QY e.M (Cl e (Az e s).1) (Az e s).2.1 (decide (s.N=1))).2)
def CL (e:D.Env)(w:Wy):D.Trans:=(Cc (Dl e) w.Esc).getD w.Way.toNat default
def Hu (e:D.Env)(w:Wy):D.Trans:=(Cc (Dl (BE e w.With)) w.WithEsc).getD w.WithWay.toNat default
def I9 (e:D.Env)(s:D.Stmt)(w:Wy):D.Env × Int :=
 bif decide ((Az e s).2.2≠0) then(e,(Az e s).2.2)
 else bif decide (0<=w.With) then({ e with S:=(Du (BE e w.With) (Hu e w).S (Az e s).2.1).1.S },(Du (BE e w.With) (Hu e w).S (Az e s).2.1).2)
 else Aeq e s
def Hb (e:D.Env)(n:Int):D.Env:={ e with S:={ e.S with Chans:=e.S.Chans++[⟨n,[]⟩] } }
def I0 (e:D.Env)(s:D.Stmt):Int:=bif decide ((AX e s.A).2=0)&&decide ((AX e s.A).1=0) then 50 else(AX e s.A).2
def Dk (pr:ByteArray->List Int->ByteArray)(e:D.Env)(s:D.Stmt)(w:Wy):D.Env × ByteArray × Int :=
 if s.Kind=1 then(bif DN e s.A then((BR e s.A).1,⟨#[]⟩,(BR e s.A).2.2) else(e,⟨#[]⟩,0))
 else if s.Kind=2 then((I7 e s).1,⟨#[]⟩,(I7 e s).2)
 else if s.Kind=3 then(e,⟨#[]⟩,I0 e s)
 else if s.Kind=4 then(e,bif decide ((BM e s.Args).2≠0) then⟨#[]⟩ else pr s.Text (BM e s.Args).1,(BM e s.Args).2)
 else if s.Kind=9 then((CM (Hb e s.N) s.A (e.S.Chans.length+1:Nat)).1,⟨#[]⟩,(CM (Hb e s.N) s.A (e.S.Chans.length+1:Nat)).2)
 else if s.Kind=5 then((I9 e s w).1,⟨#[]⟩,(I9 e s w).2)
 else if s.Kind=6 then((Gb e s).1,⟨#[]⟩,(Gb e s).2)
 else(e,⟨#[]⟩,0)
def Em (l:List D.Process)(k to:Int):List D.Process:=l.set k.toNat { l.getD k.toNat default with Loc:=to }
def KU (e:D.Env)(w:Wy)(s:D.State):D.State :=
 { s with Procs:=Em (bif decide (0<=w.With) then Em s.Procs w.With (Hu e w).To else s.Procs) e.Pid (CL e w).To,Last:=e.Pid }
def Ac3 (e:D.Env):D.State:={ e.S with Procs:=e.S.Procs.take e.Pid.toNat,Last:=e.Pid,Alone:=bif decide (e.Pid<=e.S.Alone) then -1 else e.S.Alone }
def YN : D.State:=⟨[],[],[],0,0,0⟩
def goE (pr:ByteArray->List Int->ByteArray)(e:D.Env)(w:Wy):D.State × ByteArray × Int :=
 bif decide (w.Err≠0) then(YN,⟨#[]⟩,w.Err) else bif decide (w.Way<0) then(Ac3 e,⟨#[]⟩,0)
 else bif decide ((Dk pr e (CL e w).S w).2.2≠0) then(YN,⟨#[]⟩,(Dk pr e (CL e w).S w).2.2)
 else(KU e w (Dk pr e (CL e w).S w).1.S,(Dk pr e (CL e w).S w).2.1,0)
end Go.Proofs.YtmdcknlpalfhhaaGreatDoor
namespace Go.Proofs.YtmdcknlpalfhhaaGreatDoor
open Go.RowKit
structure EF (m:D.Model) (s:D.State):Prop where
 g:Bx m.Globals s.Globals=true
 cl:s.Chans.length<=32
 pl:s.Procs.length<=16
 l:0<=s.Last/\s.Last<16
 a:-1<=s.Alone/\s.Alone<s.Procs.length
 c:∀ c∈s.Chans,Dd m c=true
 p:∀ p∈s.Procs,A2 m p=true
 k:Gy m s=true
theorem D9 {m:D.Model}{s:D.State}:DG m s=true ↔ EF m s:=by
 unfold DG KT
 simp only[Ak2,Ak5]
 rw[Ck (d:=default) (f:=fun c=>Dd m c),Ck (d:=default) (f:=fun p=>A2 m p)]
 exact⟨fun⟨⟨⟨⟨⟨⟨⟨⟨⟨h1,h2⟩,h3⟩,h4⟩,h5⟩,h6⟩,h7⟩,h8⟩,h9⟩,h10⟩=>⟨h1,h2,h3,⟨h4,h5⟩,⟨h6,h7⟩,h8,h9,h10⟩,
  fun h=>⟨⟨⟨⟨⟨⟨⟨⟨⟨h.g,h.cl⟩,h.pl⟩,h.l.1⟩,h.l.2⟩,h.a.1⟩,h.a.2⟩,h.c⟩,h.p⟩,h.k⟩⟩
structure F8 (b:Int->Prop) (s t:D.State):Prop where
 last:t.Last=s.Last
 alone:t.Alone=s.Alone
 claim:t.Claim=s.Claim
 len:s.Procs.length<=t.Procs.length
 old:∀ i:Nat,i<s.Procs.length->(t.Procs.getD i default).Type_=(s.Procs.getD i default).Type_/\(t.Procs.getD i default).Loc=(s.Procs.getD i default).Loc/\(¬ b i->(t.Procs.getD i default).Frame=(s.Procs.getD i default).Frame)
theorem F8.refl {b:Int->Prop}{s:D.State}:F8 b s s:=⟨rfl,rfl,rfl,Ak6 _,fun _ _=>⟨rfl,rfl,fun _=>rfl⟩⟩
theorem F8.trans {b:Int->Prop}{s t u:D.State}(h:F8 b s t)(k:F8 b t u):F8 b s u :=
 ⟨k.last.trans h.last,k.alone.trans h.alone,k.claim.trans h.claim,Als h.len k.len,fun i hi=>by
  obtain⟨a1,a2,a3⟩:=h.old i hi
  obtain⟨b1,b2,b3⟩:=k.old i (Alr hi h.len)
  exact⟨b1.trans a1,b2.trans a2,fun hb=>(b3 hb).trans (a3 hb)⟩⟩
theorem F8.less {b c:Int->Prop}{s t:D.State}(h:F8 b s t)(hb:∀ i,b i->c i):F8 c s t :=
 ⟨h.last,h.alone,h.claim,h.len,fun i hi=>⟨(h.old i hi).1,(h.old i hi).2.1,fun hn=>(h.old i hi).2.2 fun hbi=>hn (hb _ hbi)⟩⟩
theorem Mz {α:Type}{l:List α}{t j:Nat}{p d:α}:(l.set t p).getD j d=if t=j/\j<l.length then p else l.getD j d:=by
 simp only[Alf,Am1]
 by_cases h:t=j
 ·subst h
  by_cases h2:t<l.length<;>simp[h2]
 ·simp[h]
theorem MB {t:D.Type}{v:Int}(h:Hx t=true):DD t (IR t v)=true:=by
 have h0:=h
 unfold Hx at h
 simp only[Ak2,Ak5]at h
 obtain⟨h1,h2,h3⟩:=h
 unfold DD IR Ej
 rw[h0,Alw ⟨h1,h2⟩,AlV]
 cases hs:t.Signed with
 | true =>
  rw[hs]at h3
  simp at h3
  rcases h3 with h3 | h3<;>rw[h3]<;>simp<;>omega
 | false =>
  have hp:(0:Int)<2 ^ t.Bits.toNat:=Int.pow_pos (by decide)
  have:=Anc v (Int.ne_of_gt hp)
  have:=Int.emod_lt_of_pos v hp
  simp;omega
theorem Uh {t:D.Type}{v:Int}(h:DD t v=true):Hx t=true:=by
 unfold DD at h
 simp only[Ak2]at h
 exact h.1
theorem AaU {t:List D.Type}{l:List Int}{k:Nat}(h:Bx t l=true)(hk:k<l.length):DD (t.getD k default) (l.getD k 0)=true:=by
 unfold Bx at h
 simp only[Ak2,Ak5]at h
 exact Bz.1 h.2 k hk
theorem Jp {t:List D.Type}{l:List Int}(hl:t.length=l.length)(h:∀ k,k<l.length->DD (t.getD k default) (l.getD k 0)=true):Bx t l=true:=by
 unfold Bx
 simp only[Ak2,Ak5]
 exact⟨hl,Bz.2 h⟩
theorem Rm {t:List D.Type}{l:List Int}(h:Bx t l=true)(k:Nat)(v:Int):Bx t (l.set k (IR (t.getD k default) v))=true:=by
 have hl:=EI h
 refine Jp (by simp[hl]) fun i hi=>?_
 rw[AlT]at hi
 have hx:=AaU h hi
 rw[Mz]
 split
 ·rename_i hk
  obtain⟨rfl,_⟩:=hk
  exact MB (Uh hx)
 ·exact hx
section
variable {m : D.Model} {s:D.State}
theorem EF.setP (h:EF m s){l:List D.Process}(hl:l.length=s.Procs.length)(hp:∀ p∈l,A2 m p=true):EF m { s with Procs:=l } :=
 ⟨h.g,h.cl,by show l.length<=16;rw[hl];exact h.pl,h.l,⟨h.a.1,by show s.Alone<(l.length:Int);rw[hl];exact h.a.2⟩,h.c,hp,h.k⟩
theorem EF.addP (h:EF m s){p:D.Process}(hl:s.Procs.length<16)(hp:A2 m p=true):EF m { s with Procs:=s.Procs++[p] }:=by
 refine⟨h.g,h.cl,by show(s.Procs++[p]).length<=16;simp;omega,h.l,⟨h.a.1,?_⟩,h.c,fun q hq=>?_,h.k⟩
 ·have:=h.a.2
  show s.Alone<((s.Procs++[p]).length:Int)
  simp;omega
 ·rcases AlA.1 hq with hq | hq
  ·exact h.p _ hq
  ·obtain rfl:=Aly.1 hq;exact hp
theorem EF.setC (h:EF m s){k:Nat}{c:D.Chan}(hc:Dd m c=true):EF m { s with Chans:=s.Chans.set k c } :=
 ⟨h.g,by show(s.Chans.set k c).length<=32;rw[AlT];exact h.cl,h.pl,h.l,h.a,fun x hx=>(FN hx).elim (h.c x) fun e=>by rw[e];exact hc,h.p,h.k⟩
theorem XE {p:D.Process}{f:List Int}(h:A2 m p=true)(hf:Bx (A8 m p.Type_).Frame f=true):A2 m { p with Frame:=f }=true:=by
 unfold A2 at h ⊢
 simp only[Ak2]at h ⊢
 exact⟨h.1,hf⟩
theorem AeR {p:D.Process}{to:Int}(h:A2 m p=true)(ht:inP (A8 m p.Type_).Locs.length to=true):A2 m { p with Loc:=to }=true:=by
 unfold A2 at h ⊢
 simp only[Ak2]at h ⊢
 exact⟨⟨⟨h.1.1.1,ht⟩,h.1.2⟩,h.2⟩
theorem Ajd {l:List D.Process}{i:Nat}(h:i<l.length):l.getD i default∈l:=Av h
theorem EF.put (h:EF m s){who k v:Int}(hi:0<=who->who<s.Procs.length):EF m (Oa m s who k v):=by
 unfold Oa
 cases c:decide (who<0) with
 | true=>exact⟨Rm h.g _ _,h.cl,h.pl,h.l,h.a,h.c,h.p,h.k⟩
 | false =>
  have h0:0<=who:=by have:=Alk c;omega
  have hw:=hi h0
  refine h.setP (AlT ..) fun p hp=>?_
  rcases FN hp with hp | rfl
  ·exact h.p _ hp
  ·have hq:=h.p _ (Ajd (i:=who.toNat) (by omega))
   exact XE hq (Rm (Ey hq).2.2.2.1 _ _)
theorem AcA {who k v:Int}{b:Int->Prop}(hb:0<=who->b who):F8 b s (Oa m s who k v):=by
 unfold Oa
 cases c:decide (who<0) with
 | true=>exact⟨rfl,rfl,rfl,Ak6 _,fun _ _=>⟨rfl,rfl,fun _=>rfl⟩⟩
 | false =>
  have h0:0<=who:=by have:=Alk c;omega
  refine⟨rfl,rfl,rfl,by show s.Procs.length<=(s.Procs.set _ _).length;rw[AlT];exact Ak6 _,fun i hi=>?_⟩
  show((s.Procs.set who.toNat (Aen m (s.Procs.getD who.toNat default) k v)).getD i default).Type_=_/\((s.Procs.set who.toNat (Aen m (s.Procs.getD who.toNat default) k v)).getD i default).Loc=_/\(_->((s.Procs.set who.toNat (Aen m (s.Procs.getD who.toNat default) k v)).getD i default).Frame=_)
  rw[Mz]
  split
  ·rename_i hk
   obtain⟨rfl,_⟩:=hk
   exact⟨rfl,rfl,fun hn=>absurd (by rw[Int.toNat_of_nonneg h0];exact hb h0) hn⟩
  ·exact⟨rfl,rfl,fun _=>rfl⟩
end
theorem Aeb {e:D.Env}{ev:Evl}{x:D.Expr}(hs:x.V.Scope≠2)(h0:0<=x.V.Scope/\x.V.Scope<=2)(h:0<=(BC e ev x).1)(h2:(BC e ev x).2.2=0):(BC e ev x).1=e.Pid:=by
 unfold BC at h h2 ⊢
 cases c0:decide (x.Op≠2) with
 | true=>rw[c0,Ak4]at h2;simp at h2
 | false =>
 rw[c0,Ak0]at h h2
 rw[Ak0]
 cases c1:decide ((Dm e ev x.V).2≠0) with
 | true=>rw[c1,Ak4]at h2;exact absurd h2 (Ak9 c1)
 | false =>
 rw[c1,Ak0]at h h2
 rw[Ak0]
 cases c2:decide ((FW ev x.V.Slot x.V.Dims).2≠0) with
 | true=>rw[c2,Ak4]at h2;exact absurd h2 (Ak9 c2)
 | false =>
 rw[c2,Ak0]at h
 rw[Ak0]
 show(Dm e ev x.V).1=e.Pid
 have h:0<=(Dm e ev x.V).1:=h
 unfold Dm at h c1 ⊢
 cases d1:decide (x.V.Scope=0) with
 | true =>
  rw[d1,Ak4]at h c1
  cases d2:decide ((e.S.Globals.length:Int)<Es x.V) with
  | true=>rw[d2,Ak4]at c1;simp at c1
  | false=>rw[d2,Ak0]at h;exact absurd h (by decide)
 | false =>
  rw[d1,Ak0]at h c1
  rw[Ak0]
  have hs1:x.V.Scope=1:=by have:=Alk d1;omega
  rw[AlO hs1,Ak4]at c1 ⊢
  cases d2:(decide (e.Pid<0)||decide (((DP e e.Pid).Frame.length:Int)<Es x.V)) with
  | true=>rw[d2,Ak4]at c1;simp at c1
  | false=>rfl
theorem Rs {e:D.Env}{x v:Int}(hw:Ay e.M)(hs:(Aw e.M x).V.Scope≠2)(h:(AW e x v).2=0):EF e.M e.S/\EF e.M (AW e x v).1/\F8 (fun i=>i=e.Pid) e.S (AW e x v).1:=by
 unfold AW at h ⊢
 cases c1:decide (CD e x≠0) with
 | true=>rw[c1,Ak4]at h;exact absurd h (Ak9 c1)
 | false =>
 rw[c1,Ak0]at h
 rw[Ak0]
 obtain⟨hE,h0,h1⟩:=IT (x:=x) hw (by simpa using c1)
 cases c2:decide ((BC e (Fp e) (Aw e.M x)).2.2≠0) with
 | true=>rw[c2,Ak4]at h;exact absurd h (Ak9 c2)
 | false =>
 rw[Ak0]
 have hz:(BC e (Fp e) (Aw e.M x)).2.2=0:=by simpa using c2
 have hin:=Kl hE h0 h1 hz
 have hf:=D9.1 hE.fits
 have hop:(Aw e.M x).Op=2:=by
  unfold BC at hz
  cases c0:decide ((Aw e.M x).Op≠2) with
  | true=>rw[c0,Ak4]at hz;simp at hz
  | false=>simpa using c0
 exact⟨hf,hf.put fun hp=>(hin.own hp).1,AcA fun hp=>Aeb hs (K8 ((AfB hE h0 h1).var hop)).scope hp hz⟩
structure QR (b:Int->Prop) (e f:D.Env) (er:Int):Prop where
 M:f.M=e.M
 pid:f.Pid=e.Pid
 keep:F8 b e.S f.S
 more:f.S.Procs.length<=e.S.Procs.length+1
 fits:er=0->EF e.M f.S
section
variable {e : D.Env} {b:Int->Prop}
theorem QR.none {er:Int}(h:EF e.M e.S):QR b e e er:=⟨rfl,rfl,F8.refl,Amz _,fun _=>h⟩
theorem QR.bad {er:Int}(h:er≠0):QR b e e er:=⟨rfl,rfl,F8.refl,Amz _,fun h'=>absurd h' h⟩
theorem ID {x v:Int}(hw:Ay e.M)(hs:(Aw e.M x).V.Scope≠2) :
  F8 (fun i=>i=e.Pid) e.S (CM e x v).1.S/\(CM e x v).1.S.Procs.length=e.S.Procs.length/\(CM e x v).1.M=e.M/\(CM e x v).1.Pid=e.Pid/\((CM e x v).2=0->EF e.M (CM e x v).1.S):=by
 show F8 _ e.S (stE e x v).S/\(stE e x v).S.Procs.length=e.S.Procs.length/\(stE e x v).M=e.M/\(stE e x v).Pid=e.Pid/\((AW e x v).2=0->EF e.M (stE e x v).S)
 have hl:=PG e x v
 refine⟨?_,hl.procs,hl.M,hl.pid,fun h=>?_⟩
 ·unfold stE
  cases c:decide ((AW e x v).2=0) with
  | true=>exact(Rs hw hs (Ak9 c)).2.2
  | false=>exact F8.refl
 ·unfold stE
  rw[AlO h]
  exact(Rs hw hs h).2.1
theorem Ng (m mt:List Int):∀ (l:List Int) (k:Nat) (e:D.Env),Ay e.M->(∀ j,j<l.length->mt.getD (k+j) 0=0->(Aw e.M (l.getD j 0)).V.Scope≠2) ->
  F8 (fun i=>i=e.Pid) e.S (Gj m mt k l e).1.S/\((Gj m mt k l e).2=0->EF e.M e.S->EF e.M (Gj m mt k l e).1.S)
 | [],k,e,hw,_=>⟨F8.refl,fun _ h=>h⟩
 | x::r,k,e,hw,ht=>by
  have hr:∀ j,j<r.length->mt.getD (k+1+j) 0=0->(Aw e.M (r.getD j 0)).V.Scope≠2:=fun j hj h=>by
   have:=ht (j+1) (Nat.succ_lt_succ hj) (by rw[show k+(j+1)=k+1+j by omega];exact h)
   simpa[List.getD] using this
  unfold Gj
  cases c1:decide (mt.getD k 0≠0) with
  | true=>exact Ng m mt r (k+1) e hw hr
  | false =>
   rw[Ak0]
   have h0:=ht 0 (Nat.succ_pos _) (by rw[Al7];simpa using c1)
   obtain⟨k1,k2,k3,k4,k5⟩:=ID (v:=m.getD k 0) hw (show(Aw e.M x).V.Scope≠2 from h0)
   have k3:(stE e x (m.getD k 0)).M=e.M:=k3
   have k4:(stE e x (m.getD k 0)).Pid=e.Pid:=k4
   cases c2:decide ((AW e x (m.getD k 0)).2≠0) with
   | true=>exact⟨F8.refl,fun h=>absurd h (Ak9 c2)⟩
   | false =>
    rw[Ak0]
    obtain⟨g1,g2⟩:=Ng m mt r (k+1) (stE e x (m.getD k 0)) (by rw[k3];exact hw) (by rw[k3];exact hr)
    rw[k4]at g1
    rw[k3]at g2
    exact⟨F8.trans k1 g1,fun h _=>g2 h (k5 (show(AW e x (m.getD k 0)).2=0 by simpa using c2))⟩
def V7 (m:D.Model)(s:D.Stmt):Prop:=∀ j,j<s.Args.length->s.Match.getD j 0=0->(Aw m (s.Args.getD j 0)).V.Scope≠2
theorem Lq {s:D.Stmt}{m:List Int}(hw:Ay e.M)(ht:V7 e.M s) :
  F8 (fun i=>i=e.Pid) e.S (Du e s m).1.S/\((Du e s m).2=0->EF e.M e.S->EF e.M (Du e s m).1.S)/\Oh e (Du e s m).1:=by
 obtain⟨h1,h2⟩:=Ng m s.Match s.Args 0 e hw (fun j hj h=>ht j hj (by rwa [AlC]at h))
 exact⟨h1,h2,JI m s.Match s.Args 0 e⟩
theorem IB {m:D.Model}{a:Int}(h:CT m a=true):(Aw m a).V.Scope≠2:=by
 unfold CT at h
 simp only[Ak2,Ak5]at h
 exact h.2
theorem Gm.t2 {m:D.Model}{s:D.Stmt}(h:Gm m s)(hk:s.Kind=2):(Aw m s.A).V.Scope≠2:=by
 have:=h.st
 unfold AL at this
 rw[Alg (by omega),Alw hk]at this
 simp only[Ak2]at this
 exact IB this.1.1
theorem Gm.t9 {m:D.Model}{s:D.Stmt}(h:Gm m s)(hk:s.Kind=9):(Aw m s.A).V.Scope≠2:=by
 have:=h.st
 unfold AL at this
 rw[Alg (by omega),Alg (by omega),Alg (by omega),Alg (by omega),Alg (by omega),Alg (by omega),Alw hk]at this
 simp only[Ak2]at this
 exact IB this.1.1.1.1
theorem Gm.t6 {m:D.Model}{s:D.Stmt}(h:Gm m s)(hk:s.Kind=6):V7 m s:=by
 have h6:=h.k6 hk
 have:=h.st
 unfold AL at this
 rw[Alg (by omega),Alg (by omega),Alg (by omega),Alg (by omega),Alw hk]at this
 simp only[Ak2]at this
 have:=this.1.1.1.2
 unfold IC at this
 simp only[Ak2]at this
 intro j hj hm
 have:=Bz.1 this.2 j (by omega)
 rw[AlO hm]at this
 exact IB (by simpa using this)
theorem VX {m:D.Model}{typ:Int}{args:List Int}(hm:Dq m=true)(h0:0<=typ/\typ<m.Procs.length)(hc:typ≠m.Claim):A2 m (G4 m typ args)=true:=by
 obtain⟨_,h2,_⟩:=Cy hm
 obtain⟨f1,f2⟩:=DT h2 typ.toNat (by omega)
 have f1:Di (A8 m typ)=true:=f1
 have f2:EB (A8 m typ)=true:=f2
 unfold Di at f1
 unfold EB at f2
 simp only[Ak2,Ak5]at f1 f2
 have hi:=f1.1.1.1.1.1.1.2
 have ht:∀ i,i<(A8 m typ).Frame.length->DD ((A8 m typ).Frame.getD i default) ((A8 m typ).Init.getD i 0)=true:=G5 (by have:=f1.1.1.1.1.1.1.1.2;unfold Fm at *;omega)
 unfold A2 DY G4
 simp only[Ak2,Ak5]
 have hl:(LC (A8 m typ).Frame args (A8 m typ).Init args.length).length=(A8 m typ).Init.length:=by simp[LC]
 refine⟨⟨⟨⟨⟨h0.1,h0.2⟩,hc⟩,f2.1.1.2⟩,trivial⟩,Jp (by rw[hl];omega) fun k hk=>?_⟩
 rw[hl]at hk
 have hx:=ht k (by omega)
 have:(LC (A8 m typ).Frame args (A8 m typ).Init args.length).getD k 0=if k<args.length then IR ((A8 m typ).Frame.getD k default) (args.getD k 0) else(A8 m typ).Init.getD k 0:=by simp[LC,List.getD,hk]
 rw[this]
 split
 ·exact MB (Uh hx)
 ·exact hx
theorem AgO {m:D.Model}{typ:Int}{args:List Int}(h:(GM m typ args).2=0):A2 m (GM m typ args).1=true:=by
 unfold GM at h ⊢
 cases c1:Dq m with
 | false=>rw[c1]at h;exact absurd (show(40:Int)=0 from h) (by decide)
 | true =>
  rw[c1]at h
  rw[AmL,Ak0]at h ⊢
  cases c2:(decide (typ<0)||(decide ((m.Procs.length:Int)<=typ)||(decide (typ=m.Claim)||decide ((args.length:Int)≠(A8 m typ).Params)))) with
  | true=>rw[c2]at h;exact absurd (show(42:Int)=0 from h) (by decide)
  | false =>
   simp only[Aln,AlB]at c2
   exact VX c1 ⟨by omega,by omega⟩ c2.2.2.1
theorem Vc {p:D.Process}:F8 b e.S (N7 e p).S:=by
 refine⟨rfl,rfl,rfl,by show _<=(e.S.Procs++[p]).length;simp,fun i hi=>?_⟩
 have:(e.S.Procs++[p]).getD i default=e.S.Procs.getD i default:=by simp[List.getD,Ale hi]
 show((e.S.Procs++[p]).getD i default).Type_=_/\((e.S.Procs++[p]).getD i default).Loc=_/\(_->((e.S.Procs++[p]).getD i default).Frame=_)
 rw[this]
 exact⟨rfl,rfl,fun _=>rfl⟩
theorem JU {x:Int}:((BR e x).1=e/\(BR e x).2.2≠0)∨(∃ p,(BR e x).1=N7 e p/\(BR e x).2.2=0/\A2 e.M p=true):=by
 unfold BR
 cases c1:decide ((BM e (Aw e.M x).Args).2≠0) with
 | true=>exact .inl ⟨rfl,Ak9 c1⟩
 | false =>
  rw[Ak0]
  cases c2:decide ((GM e.M (Aw e.M x).N (BM e (Aw e.M x).Args).1).2≠0) with
  | true=>exact .inl ⟨rfl,Ak9 c2⟩
  | false=>exact .inr ⟨_,rfl,rfl,AgO (by simpa using c2)⟩
theorem Adi {x:Int}(h:EF e.M e.S)(hr:e.S.Procs.length<16):QR b e (BR e x).1 (BR e x).2.2:=by
 rcases JU (e:=e) (x:=x) with⟨h1,h2⟩ | ⟨p,h1,h2,h3⟩
 ·rw[h1];exact .bad h2
 ·rw[h1]
  exact⟨rfl,rfl,Vc,by show(e.S.Procs++[p]).length<=_;simp,fun _=>h.addP hr h3⟩
theorem Aek {s:D.Stmt}(hw:Ay e.M)(_:EF e.M e.S)(hs:(Aw e.M s.A).V.Scope≠2):QR (fun i=>i=e.Pid) e (I7 e s).1 (I7 e s).2:=by
 unfold I7
 cases c0:DN e s.B with
 | true =>
  rw[Ak4]
  rcases JU (e:=e) (x:=s.B) with⟨h1,h2⟩ | ⟨p,h1,h2,h3⟩
  ·rw[AlO h2,Ak4,h1];exact .bad h2
  ·rw[AlI (fun hn=>hn h2),Ak0,h1]
   obtain⟨k1,k2,k3,k4,k5⟩:=ID (e:=N7 e p) (x:=s.A) (v:=(BR e s.B).2.1) hw hs
   exact⟨k3,k4,Vc.trans k1,by rw[k2];show(e.S.Procs++[p]).length<=_;simp,k5⟩
 | false =>
  rw[Ak0]
  cases c1:decide ((AX e s.B).2≠0) with
  | true=>exact .bad (Ak9 c1)
  | false =>
   obtain⟨k1,k2,k3,k4,k5⟩:=ID (e:=e) (x:=s.A) (v:=(AX e s.B).1) hw hs
   exact⟨k3,k4,k1,by rw[Ak0,k2];omega,k5⟩
theorem Qe {c:Int}{k:D.Chan}:F8 b e.S (I8 e c k).S:=⟨rfl,rfl,rfl,Ak6 _,fun _ _=>⟨rfl,rfl,fun _=>rfl⟩⟩
theorem Y4 {m:D.Model}{k:D.Chan}{n:Int}(h:Dd m k=true)(h0:(En k n).2.2=0):Dd m (En k n).1=true:=by
 unfold En at h0 ⊢
 cases c:(decide (n<0)||decide ((k.Queue.length:Int)<=n)) with
 | true=>rw[c]at h0;exact absurd (show(46:Int)=0 from h0) (by decide)
 | false =>
  rw[Ak0]
  obtain⟨⟨a1,a2⟩,a3,a4⟩:=FE h
  have hsub:∀ x∈Ch.cutAt k.Queue n.toNat,x∈k.Queue:=fun x hx=>(AlA.1 hx).elim List.mem_of_mem_take AmN
  have hlen:(Ch.cutAt k.Queue n.toNat).length<=k.Queue.length:=by unfold Ch.cutAt;simp;omega
  unfold Dd
  simp only[Ak2,Ak5]
  exact⟨⟨CC.2 ⟨a1,a2⟩,by show((Ch.cutAt k.Queue n.toNat).length:Int)<=_;omega⟩,(Ck (d:=[]) (f:=fun x=>Bx (BP m k.Shape).Fields x)).2 fun x hx=>a4 x (hsub x hx)⟩
theorem Ai5 {m:D.Model}{k:D.Chan}{l:List Int}{sorted:Bool}(h:Dd m k=true)(h0:(QY m k l sorted).2=0):Dd m (QY m k l sorted).1=true:=by
 have h0:Ch.putE (BP m k.Shape).Room (BP m k.Shape).Fields k.Queue l=0:=h0
 unfold QY Ch.putSh Ch.putQ
 rw[h0,Alw rfl,Alw rfl]
 obtain⟨⟨a1,a2⟩,a3,a4⟩:=FE h
 unfold Ch.putE at h0
 split at h0
 ·cases h0
 split at h0
 ·cases h0
 split at h0
 ·cases h0
 rename_i g1 g2 g3
 have g1:l.length=(BP m k.Shape).Fields.length:=Classical.not_not.1 g1
 have g2:(BP m k.Shape).Fields.all Ch.typeP=true:=by simpa using g2
 have hmem:∀ x∈Ch.putX (BP m k.Shape).Fields k.Queue l sorted,x∈k.Queue∨x=Ch.fitM (BP m k.Shape).Fields l:=fun x hx=>by
  rcases AlA.1 hx with hx | hx
  ·exact .inl (List.mem_of_mem_take hx)
  ·rcases AlQ.1 hx with hx | hx
   ·exact .inr hx
   ·exact .inl (AmN hx)
 have hlen:(Ch.putX (BP m k.Shape).Fields k.Queue l sorted).length<=k.Queue.length+1:=by unfold Ch.putX Ch.putAt;simp;omega
 have hfit:Bx (BP m k.Shape).Fields (Ch.fitM (BP m k.Shape).Fields l)=true:=by
  have hl:(Ch.fitM (BP m k.Shape).Fields l).length=l.length:=Ch.fitM_len g1
  refine Jp (by omega) fun j hj=>?_
  rw[hl]at hj
  have hj2:j<(BP m k.Shape).Fields.length:=by omega
  have e1:(Ch.fitM (BP m k.Shape).Fields l).getD j 0=IR ((BP m k.Shape).Fields.getD j default) (l.getD j 0):=by
   have hj3:j<(Ch.fitM (BP m k.Shape).Fields l).length:=by omega
   have e2:(Ch.fitM (BP m k.Shape).Fields l).getD j 0=(Ch.fitM (BP m k.Shape).Fields l)[j]:=by simp[List.getD,hj3]
   have e3:(BP m k.Shape).Fields.getD j default=(BP m k.Shape).Fields[j]:=by simp[List.getD,hj2]
   have e4:l.getD j 0=l[j]:=by simp[List.getD,hj]
   rw[e2,e3,e4]
   simp[Ch.fitM,IR]
  rw[e1]
  refine MB ?_
  have:=AlF.1 g2 _ (Av (d:=default) hj2)
  unfold Ch.typeP at this
  unfold Hx
  simp only[Ak2,Amd]at this ⊢
  exact⟨this.1.1,this.1.2,this.2.elim (fun h=>h.elim .inl fun h=>.inr (.inl h)) fun h=>.inr (.inr h)⟩
 unfold Dd
 simp only[Ak2,Ak5]
 refine⟨⟨CC.2 ⟨a1,a2⟩,by show((Ch.putX _ _ _ _).length:Int)<=(BP m k.Shape).Room;omega⟩,(Ck (d:=[]) (f:=fun x=>Bx (BP m k.Shape).Fields x)).2 fun x hx=>?_⟩
 rcases hmem x hx with h | h
 ·exact a4 x h
 ·rw[h];exact hfit
theorem OT (hf:EF e.M e.S){n:Int}(h:AhY e n):Dd e.M (Cl e n)=true:=hf.c _ (Av (by have:=h.lo;have:=h.hi;omega))
theorem Vn {s:D.Stmt}(hw:Ay e.M)(h:(A9 e s).2.2=0):AhY e (A9 e s).1/\(Bb e (A9 e s).1).length=s.Args.length:=by
 unfold A9 at h ⊢
 cases d1:decide ((AC e s.A).2≠0) with
 | true=>rw[d1,Ak4]at h;exact absurd h (Ak9 d1)
 | false =>
 rw[d1,Ak0]at h
 rw[Ak0]
 cases d2:decide ((Bb e (AC e s.A).1).length≠s.Args.length) with
 | true=>rw[d2]at h;exact absurd (show(49:Int)=0 from h) (by decide)
 | false =>
 rw[d2,Ak0]at h
 rw[Ak0]
 cases d3:decide ((CZ e s).2≠0) with
 | true=>rw[d3,Ak4]at h;exact absurd h (Ak9 d3)
 | false=>exact⟨JO hw (by simpa using d1),by simpa using d2⟩
theorem AbO {s:D.Stmt}(hw:Ay e.M)(h:EF e.M e.S)(ht:V7 e.M s):QR (fun i=>i=e.Pid) e (Gb e s).1 (Gb e s).2:=by
 unfold Gb
 cases c1:decide ((A9 e s).2.2≠0) with
 | true=>exact .bad (Ak9 c1)
 | false =>
 rw[Ak0]
 cases c2:decide ((En (Cl e (A9 e s).1) (A9 e s).2.1).2.2≠0) with
 | true=>exact .bad (Ak9 c2)
 | false =>
 rw[Ak0]
 have hin:=(Vn hw (show(A9 e s).2.2=0 by simpa using c1)).1
 have hk:=Y4 (OT h hin) (by simpa using c2)
 generalize En (Cl e (A9 e s).1) (A9 e s).2.1=t at hk
 cases decide (s.N<2) with
 | true =>
  rw[Ak4]
  obtain⟨g1,g2,g3⟩:=Lq (e:=I8 e (A9 e s).1 t.1) (s:=s) (m:=t.2.1) hw ht
  exact⟨g3.M,g3.pid,Qe.trans g1,by rw[g3.procs];exact Amz _,fun h0=>g2 h0 (h.setC hk)⟩
 | false =>
  rw[Ak0]
  obtain⟨g1,g2,g3⟩:=Lq (e:=e) (s:=s) (m:=t.2.1) hw ht
  exact⟨g3.M,g3.pid,g1,by rw[g3.procs];exact Amz _,fun h0=>g2 h0 h⟩
theorem P5 {s:D.Stmt}(hw:Ay e.M)(h:(Az e s).2.2=0):AhY e (Az e s).1/\Bx (Bb e (Az e s).1) (Az e s).2.1=true:=by
 unfold Az at h ⊢
 cases d1:decide ((AC e s.A).2≠0) with
 | true=>rw[d1,Ak4]at h;exact absurd h (Ak9 d1)
 | false =>
 rw[d1,Ak0]at h
 rw[Ak0]
 cases d2:decide ((Bb e (AC e s.A).1).length≠s.Args.length) with
 | true=>rw[d2]at h;exact absurd (show(49:Int)=0 from h) (by decide)
 | false =>
 rw[d2,Ak0]at h
 rw[Ak0]
 cases d3:decide ((BM e s.Args).2≠0) with
 | true=>rw[d3,Ak4]at h;exact absurd h (Ak9 d3)
 | false =>
  have hin:=JO hw (show(AC e s.A).2=0 by simpa using d1)
  refine⟨hin,?_⟩
  show Bx (Bb e (AC e s.A).1) (Oc (Bb e (AC e s.A).1) (BM e s.Args).1)=true
  have hsh:=hin.sh
  have ht:=hin.ok.tab.shape (Cl e (AC e s.A).1).Shape.toNat (by omega)
  have hl:=QM (show(BM e s.Args).2=0 by simpa using d3)
  have hf:(Bb e (AC e s.A).1).length=s.Args.length:=by simpa using d2
  unfold D5 at ht
  simp only[Ak2,Ak5]at ht
  have ht:=Bz.1 ht.2
  change ∀ i,i<(Bb e (AC e s.A).1).length->Hx ((Bb e (AC e s.A).1).getD i default)=true at ht
  have hL:(Oc (Bb e (AC e s.A).1) (BM e s.Args).1).length=(BM e s.Args).1.length:=by simp[Oc]
  refine Jp (by omega) fun k hk=>?_
  rw[hL]at hk
  have:(Oc (Bb e (AC e s.A).1) (BM e s.Args).1).getD k 0=IR ((Bb e (AC e s.A).1).getD k default) ((BM e s.Args).1.getD k 0):=by simp[Oc,List.getD,hk]
  rw[this]
  exact MB (ht k (by omega))
theorem Aep {s:D.Stmt}{w:Wy}(hw:Ay e.M)(h:EF e.M e.S)(ht:0<=w.With->V7 e.M (Hu e w).S):QR (fun i=>i=e.Pid∨i=w.With) e (I9 e s w).1 (I9 e s w).2:=by
 unfold I9
 cases c1:decide ((Az e s).2.2≠0) with
 | true=>exact .bad (Ak9 c1)
 | false =>
 rw[Ak0]
 cases c2:decide (0<=w.With) with
 | true =>
  rw[Ak4]
  obtain⟨g1,g2,g3⟩:=Lq (e:=BE e w.With) (s:=(Hu e w).S) (m:=(Az e s).2.1) hw (ht (Ak9 c2))
  exact⟨rfl,rfl,g1.less fun i hi=>.inr hi,by show(Du (BE e w.With) _ _).1.S.Procs.length<=_;rw[g3.procs];exact Amz _,fun h0=>g2 h0 h⟩
 | false =>
  rw[Ak0]
  have hin:=(P5 hw (show(Az e s).2.2=0 by simpa using c1)).1
  exact⟨rfl,rfl,Qe,Amz _,fun h0=>h.setC (Ai5 (OT h hin) h0)⟩
theorem VF {pr:ByteArray->List Int->ByteArray}{s:D.Stmt}{w:Wy}(hw:Ay e.M)(h:EF e.M e.S)(hs:Gm e.M s)(hr:s.Kind=1->DN e s.A=true->e.S.Procs.length<16)(ht:0<=w.With->V7 e.M (Hu e w).S) :
  QR (fun i=>i=e.Pid∨i=w.With) e (Dk pr e s w).1 (Dk pr e s w).2.2:=by
 have up:∀ {f:D.Env} {er:Int},QR (fun i=>i=e.Pid) e f er->QR (fun i=>i=e.Pid∨i=w.With) e f er:=fun g=>⟨g.M,g.pid,g.keep.less fun i hi=>.inl hi,g.more,g.fits⟩
 unfold Dk
 split
 ·rename_i hk
  cases c:DN e s.A with
  | true=>exact Adi h (hr hk c)
  | false=>exact .none h
 split
 ·rename_i hk;exact up (Aek hw h (hs.t2 hk))
 split
 ·exact .none h
 split
 ·exact .none h
 split
 ·rename_i hk
  obtain⟨k1,k2,k3,k4,k5⟩:=ID (e:=Hb e s.N) (x:=s.A) (v:=(e.S.Chans.length+1:Nat)) hw (hs.t9 hk)
  have k0:F8 (fun i=>i=e.Pid) e.S (Hb e s.N).S:=⟨rfl,rfl,rfl,Ak6 _,fun _ _=>⟨rfl,rfl,fun _=>rfl⟩⟩
  exact up ⟨k3,k4,F8.trans k0 k1,by show(CM (Hb e s.N) s.A _).1.S.Procs.length<=_;rw[k2];exact Amz _,k5⟩
 split
 ·exact Aep hw h ht
 split
 ·rename_i hk;exact up (AbO hw h (hs.t6 hk))
 exact .none h
end
def AgC : Shp:={ α:=List Int,enc:=fun y=>([.arr true 0 y.length 1 (AM y)],.ow 0 0 y.length) }
def Aj0 : Shp:={ α:=D.Process,enc:=fun y=>([],.agg (Ar y)) }
def Aiy : Shp:={ α:=D.Process × Int,enc:=fun y=>([],.tup [.agg (Ar y.1),Aa y.2]) }
def AgA : Shp:={ α:=D.Chan × List Int × Int,enc:=fun y=>([],.tup [.agg (AB y.1),Ad true y.2.1,Aa y.2.2]) }
def Abr (f:FuncId):Shp:=bif Nat.beq f 153 then Aiy else bif Nat.beq f 25 then Aj0 else bif Nat.beq f 166 then AgA else UB f
def AiK (f:FuncId):Shp:=bif Nat.beq f 24 then AgC else UB f
def QG : Ann:={ keep:=fun
  | [0,1,0,1,1,1]=>[6,7,8,25,26,27]
  | _=>[] }
def SJ (m:D.Model)(typ:Int)(args l:List Int)(k:Int):St:=Aq [(6,.bp 0 0),(7,.bp 1 0),(8,.bp 2 0),(25,Ad false args),(26,Aa args.length),(27,Aa k)] [.box [Aa 0,Aa 0,Aa 0,.nl],.box (Bc (A8 m typ)),.box [Aa typ,Aa (A8 m typ).Start,Aa (A8 m typ).Prio,.ow 3 0 l.length],.arr true 0 l.length 1 (AM l)]
end Go.Proofs.YtmdcknlpalfhhaaGreatDoor
