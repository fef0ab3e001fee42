/-
  Texts, joined: EbZ, VjThaw, EbT, EgS, EcP, VjThawF, VjOwn, EcE, EcA, EcH, EcW1, EcW2, EcW3, EcW4, EcW5, EcW6, EcW7, EgE, EgT, EgU, EgA, EgH, VjPubl, EgW1, EcQ, EgV, EgW3, VjPick, EmA, EmH, EmP, CsPlain, CsMsg, Append, CsMade, CsInsert, CsInsert2, CsPut, CsTake, WhP, WhI.
-/
import Derived.Test.YtmdcknlpalfhhaaGreatDoorSkC
import Derived.Deep.RegionHeld3
import Derived.KernelRfl
import Derived.BigQuiet
import Derived.Deep.QuietTactic
import Derived.Lib.Hide
import Derived.WalkKit
import Derived.BigRegion
import Derived.Deep.RegionLaw
import Derived.Deep.AppendLies
import Derived.Lib.SliceRun
import Derived.Lib.Walk
import Derived.Lib.JoinLaws
import Derived.Lib.AppendZeros
import Derived.Lib.AppendZerosOnto
import Derived.Lib.Overlaps
import Derived.Laws.Externs
import Derived.Laws.IdiomCopy
import Derived.Laws.NewBlocks
import Derived.Lib.SlicesDelete
namespace Go.Proofs.YtmdcknlpalfhhaaGreatDoor
open Go.RowKit
theorem JX {w:World}{g i b o:Nat}{u:Value}(h:b≠g):(w.setCell ⟨g,i,none⟩ u).cell? ⟨b,o,none⟩=w.cell? ⟨b,o,none⟩:=World.cell?_of_block (Below.heap_setCell _ _ _ _ h)
theorem WS {w w2 w6 w7:World}{e:D.Env}{x v:Int}{i kn:Nat}{p:D.Process}{ty:D.Type}{vs:Array Value}(HQ:Hid (AX e x v=(setO e.M e.S i kn v,0)))(HP:Hid (e.S.Procs.getD i default=p))(HTY:Hid ((A9 e.M p.Type_).Frame.getD kn default=ty))
  (HV:Hid (Fc w6 w2.heap.size { e.S with Procs:=e.S.Procs.set i { e.S.Procs.getD i default with Frame:=(e.S.Procs.getD i default).Frame.set kn (Em ty.Bits ty.Signed v) } } vs)) (HB:Below w.heap.size w w6)
  (hT:Cb w6 w7 (fun k=>k=w.heap.size+1)) (hr:w.heap.size+1<w2.heap.size):LP w e x v (.returned (.tuple #[.agg vs,.int .i64 0])) w7:=by
 refine⟨vs,by rw[HQ.out],?_,HB.trans (hT.below HB.size fun j hj=>by have hj:j=w.heap.size+1:=hj;omega)⟩
 rw[HQ.out]
 have e1:setO e.M e.S i kn v={ e.S with Procs:=e.S.Procs.set i { e.S.Procs.getD i default with Frame:=(e.S.Procs.getD i default).Frame.set kn (Em ty.Bits ty.Signed v) } }:=by
  unfold setO AdT IW
  rw[show((kn:Nat):Int).toNat=kn by omega,show((i:Nat):Int).toNat=i by omega,HP.out,HTY.out]
 rw[e1]
 exact(Fc.aside (b:=w.heap.size+1) (B:=w2.heap.size) HV.out hr hT).base (by omega)
set_option maxRecDepth 100000 in
set_option maxHeartbeats 8000000 in
theorem AaL {w:World}{e:D.Env}{x v who k:Int}{c0 c1 c2 c3 c4 c6 c7 c8 c9 c15:Value}(hw:Av e.M)(hs:Be e.S)(hL:Cn w)(hB:∀ k,k∈D8->k<w.heap.size)
  (hV:V w P0 none (.agg (Ag e)) (.agg (LD e c0 c1 c2 c3 c4 c6 c7 c8 c9 c15))) (hat:QO w e c0 c1 c2 c3 c4 c6 c7 c8 c9 c15) (hgood:CG e x=0) (hsl:BG e (Fp e) (Ax e.M x)=(who,k,0)) (hwho:0<=who) :
  Calls Tryz.prog 161 #[.agg (LD e c0 c1 c2 c3 c4 c6 c7 c8 c9 c15),.int .i64 x,.int .i64 v] w (LP w e x v):=by
 have HQ0:Hid (AX e x v=(setO e.M e.S who k v,0)):=by
  unfold Hid AX N9
  rw[Alm (by omega),AkN,hsl]
  show(bif decide ((0:Int)≠0) then _ else _)=_
  rw[Alm (by simp),AkN,Alm (by omega),AkN]
 have HC:=Lib.hid (En hw hs x)
 have HS:=Lib.hid (PB hw hgood)
 obtain⟨hE,hx0,hx1⟩:=IX hw hgood
 have hin:=(Ks hE hx0 hx1 (ev:=Fp e) (by rw[hsl])).own (by rw[hsl];exact hwho)
 have hfit:=hE.fit
 rw[hsl]at hin HS
 obtain⟨i,rfl⟩:∃ i:Nat,who=i:=⟨who.toNat,by omega⟩
 change(i:Int)<e.S.Procs.length/\0<=k/\k<(e.S.Procs.getD (i:Int).toNat default).Frame.length at hin
 rw[show((i:Nat):Int).toNat=i by omega]at hin
 obtain⟨kn,rfl⟩:∃ kn:Nat,k=kn:=⟨k.toNat,by omega⟩
 have hi:i<e.S.Procs.length:=by omega
 have HQ:=HQ0
 have hpf:=EB (hE.proc (p:=e.S.Procs.getD i default) (Aw hi))
 obtain⟨p,hp⟩:∃ p,e.S.Procs.getD i default=p:=⟨_,rfl⟩
 rw[hp]at hin hpf
 have HP:=Lib.hid hp
 have hkn:kn<p.Frame.length:=by omega
 obtain⟨tn,htn⟩:∃ tn:Nat,p.Type_=tn:=⟨p.Type_.toNat,by omega⟩
 have htm:tn<e.M.Procs.length:=by omega
 have hfl:=hpf.2.2.1
 have hpr:A9 e.M p.Type_=e.M.Procs.getD tn default:=by unfold A9;rw[htn,show((tn:Nat):Int).toNat=tn by omega]
 rw[hpr]at hfl
 obtain⟨mb,moff,mcap,tb,toff,tcap,rfl,hm1,hm2,hmb,hmc,ht1,ht2,htb,htc⟩:∃ mb moff mcap tb toff tcap,c4=.slice (some ⟨mb,moff,none⟩) e.M.Procs.length mcap/\e.M.Procs.length<=mcap/\mcap<=maxLen/\mb<w.heap.size /\
   w.cell? ⟨mb,moff+tn*10+2,none⟩=some (.slice (some ⟨tb,toff,none⟩) p.Frame.length tcap)/\p.Frame.length<=tcap/\tcap<=maxLen/\tb<w.heap.size /\
   ∀ j,j<p.Frame.length->w.cell? ⟨tb,toff+j*2,none⟩=some (.int .i64 ((A9 e.M p.Type_).Frame.getD j default).Bits)/\w.cell? ⟨tb,toff+j*2+1,none⟩=some (.bool ((A9 e.M p.Type_).Frame.getD j default).Signed):=by
  obtain⟨ao,cap,rfl,h1,h2,h3⟩:=hat.f
  obtain⟨b,off,rfl,h4,h5⟩:=h3 (by omega)
  obtain⟨u,h6,ao',cap',rfl,h7,h8,h9⟩:=h5 tn htm
  rw[← hfl]at h6 h7 h9
  obtain⟨b',off',rfl,h10,h11⟩:=h9 (by omega)
  rw[hpr]
  exact⟨b,off,cap,b',off',cap',rfl,h1,h2,h4,h6,h7,h8,h10,h11⟩
 obtain⟨ty0,ty1⟩:=htc kn hkn
 obtain⟨ty,hty⟩:∃ ty,(A9 e.M p.Type_).Frame.getD kn default=ty:=⟨_,rfl⟩
 rw[hty]at ty0 ty1
 have HTY:=Lib.hid hty
 have hwi:((i:Int)<0)=False:=by simp
 clear htc hty hp hpr hfl hpf hin hsl hE HQ0 hwho
 unfold LD at hV ⊢
 rw[hgood]at HC
 go_enter Tryz.func161,Tryz.ntmps161
 obtain⟨B0,B1,B2,BB⟩:=IE w (.cells #[c0,c1,c2,c3,.slice (some ⟨mb,moff,none⟩) e.M.Procs.length mcap,.int .i64 e.M.Claim,c6,c7,c8,c9,.int .i64 e.S.Last,.int .i64 e.S.Alone,.int .i64 e.S.Claim,.int .i64 e.Pid,.bool e.Timeout,c15] Aht (0,0)) (.cells #[.slice none 0 0,.slice none 0 0,.slice none 0 0,.int .i64 0,.int .i64 0,.int .i64 0] BJ (0,0))
 go_wp2_with (first
  | (go_at_call 93;refine(HC.out.at hL hB BB (PG (hV.keep BB) .sc)).mono ?_;rintro r w1 ⟨u,rfl,hb1,hu⟩;obtain rfl:=hu.sc_inv;have Z0:=(hb1.block _ (by omega)).trans B0;have Z1:=(hb1.block _ (by omega)).trans B1;have BW:=BB.trans (hb1.mono (by omega)))
  | (go_at_call 128;refine(HS.out.at hL hB BW (PG (Yc Z0 (hV.keep BW)) .sc)).mono ?_;rintro r w2 ⟨u,rfl,hb2,hu⟩;obtain rfl:=Pg hu;have Y0:=(hb2.block _ (BO Z0)).trans Z0;have Y1:=(hb2.block _ (BO Z1)).trans Z1;have BX:=BW.trans (hb2.mono BW.size);have s7:w2.cell? ⟨w.heap.size,7,none⟩=some c7:=Ai Y0 rfl;have s8:w2.cell? ⟨w.heap.size,8,none⟩=some c8:=Ai Y0 rfl;have s9:w2.cell? ⟨w.heap.size,9,none⟩=some c9:=Ai Y0 rfl;have s10:w2.cell? ⟨w.heap.size,10,none⟩=some (.int .i64 e.S.Last):=Ai Y0 rfl;have s11:w2.cell? ⟨w.heap.size,11,none⟩=some (.int .i64 e.S.Alone):=Ai Y0 rfl;have s12:w2.cell? ⟨w.heap.size,12,none⟩=some (.int .i64 e.S.Claim):=Ai Y0 rfl)
  | (go_at_call 14;refine(Qm hfit (hat.below BX).g (hat.below BX).c (hat.below BX).p).mono ?_;rintro r w3 ⟨vg,vc,vp,n1,qs,fs,w4,rfl,hcp⟩;obtain⟨ag,ggcap,rfl,_⟩:=Dd hcp.g;obtain⟨ac,ccap,rfl,_⟩:=Dd hcp.c.row;obtain⟨ap,pcap,rfl,hp1,hp2,hp3⟩:=Dd hcp.p.row))
 have hz3:=hcp.below.size
 have hz2:=BX.size
 have hsz0:=BO Y1
 obtain⟨pb,rfl,hpbb,hpbl,hpc⟩:=hp3 (by omega)
 obtain⟨q0,-,-,q3⟩:=LJ hcp.p.len hi
 have hfi:i<fs.length:=by rw[hcp.p.len];exact hi
 have hpi:e.S.Procs[i]?=some p:=by have:=HP.out;simp[List.getD,hi]at this;simp[hi,this]
 obtain⟨ag2,gcap,hu,hg1,hg2,hg3⟩:=Dd (hcp.p.each i (fs[i]) p (by simp[hfi]) hpi)
 obtain⟨g,rfl,hgb,hgl,hgc⟩:=hg3 (by omega)
 have hfu:fs[i]?=some (.slice (some ⟨g,0,none⟩) p.Frame.length gcap):=by simp[hfi,hu]
 obtain⟨gcur,hgk⟩:=AW (hcp.p.each i _ p hfu hpi) (k:=g) rfl
 have hn2:=hcp.n2
 have hn0:=hcp.n0
 rw[HP.out,htn]at q0
 rw[hfu]at q3
 have p0:w3.cell? ⟨pb,i*4,none⟩=some (.int .i64 tn):=(hpc (i*4) (by omega)).trans q0
 have p3:w3.cell? ⟨pb,i*4+3,none⟩=some (.slice (some ⟨g,0,none⟩) p.Frame.length gcap):=(hpc (i*4+3) (by omega)).trans q3
 have K0:=(Below.heap_alloc w3 (.cells #[.slice ag e.S.Globals.length ggcap,.slice ac e.S.Chans.length ccap,.slice (some ⟨pb,0,none⟩) e.S.Procs.length pcap,.int .i64 e.S.Last,.int .i64 e.S.Alone,.int .i64 e.S.Claim] BJ (0,0)) _ (by omega)).trans ((hcp.below.block _ (BO Y0)).trans Y0)
 have K1:=(Below.heap_alloc w3 (.cells #[.slice ag e.S.Globals.length ggcap,.slice ac e.S.Chans.length ccap,.slice (some ⟨pb,0,none⟩) e.S.Procs.length pcap,.int .i64 e.S.Last,.int .i64 e.S.Alone,.int .i64 e.S.Claim] BJ (0,0)) _ (by omega)).trans ((hcp.below.block _ (BO Y1)).trans Y1)
 have K2:=heap_alloc_new w3 (.cells #[.slice ag e.S.Globals.length ggcap,.slice ac e.S.Chans.length ccap,.slice (some ⟨pb,0,none⟩) e.S.Procs.length pcap,.int .i64 e.S.Last,.int .i64 e.S.Alone,.int .i64 e.S.Claim] BJ (0,0))
 have KB:Below w3.heap.size w3 (w3.alloc (.cells #[.slice ag e.S.Globals.length ggcap,.slice ac e.S.Chans.length ccap,.slice (some ⟨pb,0,none⟩) e.S.Procs.length pcap,.int .i64 e.S.Last,.int .i64 e.S.Alone,.int .i64 e.S.Claim] BJ (0,0))):=(Below.refl _ w3).alloc (AkU _) _
 have KZ:(w3.alloc (.cells #[.slice ag e.S.Globals.length ggcap,.slice ac e.S.Chans.length ccap,.slice (some ⟨pb,0,none⟩) e.S.Procs.length pcap,.int .i64 e.S.Last,.int .i64 e.S.Alone,.int .i64 e.S.Claim] BJ (0,0))).heap.size=w3.heap.size+1:=by simp
 generalize w3.alloc (.cells #[.slice ag e.S.Globals.length ggcap,.slice ac e.S.Chans.length ccap,.slice (some ⟨pb,0,none⟩) e.S.Procs.length pcap,.int .i64 e.S.Last,.int .i64 e.S.Alone,.int .i64 e.S.Claim] BJ (0,0))=wd at *
 have BD:Below w.heap.size w wd:=(BX.trans (hcp.below.mono hz2)).trans (KB.mono (by omega))
 rw[← BD.cell (p:=⟨tb,toff+kn*2,none⟩) htb]at ty0
 rw[← BD.cell (p:=⟨tb,toff+kn*2+1,none⟩) htb]at ty1
 rw[← BD.cell (p:=⟨mb,moff+tn*10+2,none⟩) hmb]at hmc
 rw[← KB.cell (p:=⟨pb,i*4,none⟩) hpbl]at p0
 rw[← KB.cell (p:=⟨pb,i*4+3,none⟩) hpbl]at p3
 have x0:wd.cell? ⟨w.heap.size,4,none⟩=some (.slice (some ⟨mb,moff,none⟩) e.M.Procs.length mcap):=Ai K0 rfl
 have x1:wd.cell? ⟨w3.heap.size,2,none⟩=some (.slice (some ⟨pb,0,none⟩) e.S.Procs.length pcap):=Ai K2 rfl
 have hgw:wd.heap[g]?=some (.cells gcur D3 (0,0)):=(KB.block _ hgl).trans hgk
 have xg:wd.cell? ⟨g,kn,none⟩=some (.int .i64 (p.Frame.getD kn 0)):=by
  rw[KB.cell (p:=⟨g,kn,none⟩) hgl,hgc kn (by omega)];simp[List.getD,hkn]
 have hgd:g<wd.heap.size:=by omega
 have hsd:w3.heap.size<wd.heap.size:=by omega
 have hpd:pb<wd.heap.size:=by omega
 have hsg:w3.heap.size≠(⟨g,kn,none⟩:Addr).block:=by simp;omega
 have hrg:w.heap.size+1≠(⟨g,kn,none⟩:Addr).block:=by simp;omega
 have hrd:w.heap.size+1<wd.heap.size:=by omega
 have hng:w.heap.size<=(⟨g,kn,none⟩:Addr).block:=by simp;omega
 have hrw:w.heap.size+1<w2.heap.size:=hsz0
 clear s7 s8 s9 s10 s11 s12 hgc hg3 hpc hp3 hu q0 q3
 have hg2':=hg2
 have ht2':=ht2
 have hm2':=hm2
 have hp2':=hp2
 unfold maxLen at hg2' ht2' hm2' hp2'
 obtain⟨pcur,hpk⟩:=AW hcp.p.row (k:=pb) rfl
 have hpg:pb≠g:=Ef hpk hgk (by decide)
 have hf1:w3.heap.size≠g:=by omega
 have hf2:w.heap.size≠g:=by omega
 have hf3:mb≠g:=by omega
 have hf4:tb≠g:=by omega
 have hbd0:w.heap.size<wd.heap.size:=by omega
 have htd:tb<wd.heap.size:=by omega
 have hmd:mb<wd.heap.size:=by omega
 have hkI:(0:Int)<=(kn:Int):=by omega
 have hiI:(0:Int)<=(i:Int):=by omega
 have htI:(0:Int)<=(tn:Int):=by omega
 have hkF:(kn:Int)<(p.Frame.length:Int):=by omega
 have hiF:(i:Int)<(e.S.Procs.length:Int):=by omega
 have htF:(tn:Int)<(e.M.Procs.length:Int):=by omega
 go_region_held3 (fun w'=>w'.cell? ⟨w3.heap.size,2,none⟩=some (.slice (some ⟨pb,0,none⟩) e.S.Procs.length pcap)/\w'.cell? ⟨pb,i*4+3,none⟩=some (.slice (some ⟨g,0,none⟩) p.Frame.length gcap)/\w'.cell? ⟨w.heap.size,4,none⟩=some (.slice (some ⟨mb,moff,none⟩) e.M.Procs.length mcap)/\w'.cell? ⟨pb,i*4,none⟩=some (.int .i64 tn)/\w'.cell? ⟨mb,moff+tn*10+2,none⟩=some (.slice (some ⟨tb,toff,none⟩) p.Frame.length tcap)/\w'.cell? ⟨tb,toff+kn*2,none⟩=some (.int .i64 ty.Bits)/\w'.cell? ⟨tb,toff+kn*2+1,none⟩=some (.bool ty.Signed)) (first | (refine⟨?_,?_,?_,?_,?_,?_,?_⟩<;>(first | (rw[JX hf1];assumption) | (rw[JX hpg];assumption) | (rw[JX hf2];assumption) | (rw[JX hf3];assumption) | (rw[JX hf4];assumption))) | go_keep)
  ((go_at_call 37;go_loud ((with_reducible refine(AfW _ _ _ _).mono ?_);rintro r w5 ⟨rfl,hb5⟩;have hb5':Below wd.heap.size wd w5:=⟨hb5.os,hb5.tape,hb5.output,hb5.size,hb5.block⟩;have x5:w5.cell? ⟨g,kn,none⟩=_:=(hb5'.cell (p:=⟨g,kn,none⟩) hgd).trans xg;have y1:w5.cell? ⟨w3.heap.size,2,none⟩=_:=(hb5'.cell (p:=⟨w3.heap.size,2,none⟩) hsd).trans x1;have y2:w5.cell? ⟨pb,i*4+3,none⟩=_:=(hb5'.cell (p:=⟨pb,i*4+3,none⟩) hpd).trans p3;have y3:w5.cell? ⟨w.heap.size,4,none⟩=_:=(hb5'.cell (p:=⟨w.heap.size,4,none⟩) hbd0).trans x0;have y4:w5.cell? ⟨pb,i*4,none⟩=_:=(hb5'.cell (p:=⟨pb,i*4,none⟩) hpd).trans p0;have y5:w5.cell? ⟨mb,moff+tn*10+2,none⟩=_:=(hb5'.cell (p:=⟨mb,moff+tn*10+2,none⟩) hmd).trans hmc;have y6:w5.cell? ⟨tb,toff+kn*2,none⟩=_:=(hb5'.cell (p:=⟨tb,toff+kn*2,none⟩) htd).trans ty0;have y7:w5.cell? ⟨tb,toff+kn*2+1,none⟩=_:=(hb5'.cell (p:=⟨tb,toff+kn*2+1,none⟩) htd).trans ty1;have f5:w5.frozen? ⟨g,kn,none⟩=false:=Ay ((hb5'.block _ hgd).trans hgw))))
 all_goals
  have L0:(w5.setCell ⟨g,kn,none⟩ (.int .i64 (Em ty.Bits ty.Signed v))).heap[w3.heap.size]?=_:=(Below.heap_setCell _ _ _ _ hsg).trans ((hb5'.block _ hsd).trans K2)
  have L1:(w5.setCell ⟨g,kn,none⟩ (.int .i64 (Em ty.Bits ty.Signed v))).heap[w.heap.size+1]?=_:=(Below.heap_setCell _ _ _ _ hrg).trans ((hb5'.block _ hrd).trans K1)
  have HV:Hid (Fc (w5.setCell ⟨g,kn,none⟩ (.int .i64 (Em ty.Bits ty.Signed v))) w2.heap.size { e.S with Procs:=e.S.Procs.set i { e.S.Procs.getD i default with Frame:=(e.S.Procs.getD i default).Frame.set kn (Em ty.Bits ty.Signed v) } } #[.slice ag e.S.Globals.length ggcap,.slice ac e.S.Chans.length ccap,.slice (some ⟨pb,0,none⟩) e.S.Procs.length pcap,.int .i64 e.S.Last,.int .i64 e.S.Alone,.int .i64 e.S.Claim]) :=
   AcG hcp hi (by rw[HP.out];exact hfu) (fun k h0 h1=>(hb5'.block k (by omega)).trans (KB.block k h1)) _
  have HB:Below w.heap.size w (w5.setCell ⟨g,kn,none⟩ (.int .i64 (Em ty.Bits ty.Signed v))):=(BD.trans (hb5'.mono (by omega))).setCell (p:=⟨g,kn,none⟩) hng _
  obtain⟨t0,t1,t2,t3,t4,t5,-⟩:=M2 L0
  obtain⟨d0,d1,d2,d3,d4,d5,g0,g1,g2,g3,g4,g5⟩:=M2 L1
  clear x5 y1 y2 y3 y4 y5 y6 y7 f5 hb5 hb5'
  generalize w5.setCell ⟨g,kn,none⟩ (.int .i64 (Em ty.Bits ty.Signed v))=w6 at *
  go_wp2
  have hres:=MN L1 (.slice ag e.S.Globals.length ggcap) (.slice ac e.S.Chans.length ccap) (.slice (some ⟨pb,0,none⟩) e.S.Procs.length pcap) (.int .i64 e.S.Last) (.int .i64 e.S.Alone) (.int .i64 e.S.Claim)
  have hT:=Ic (w:=w6) (b:=w.heap.size+1) (.slice ag e.S.Globals.length ggcap) (.slice ac e.S.Chans.length ccap) (.slice (some ⟨pb,0,none⟩) e.S.Procs.length pcap) (.int .i64 e.S.Last) (.int .i64 e.S.Alone) (.int .i64 e.S.Claim)
  refine DV rfl rfl hres Tryz.underlying35 rfl (by kernel_rfl) rfl ?_
  exact WS HQ HP HTY HV HB hT hrw
def Pj (y x:VV):Prop:=∀ (w:World) (E:AF) (v:Value),V w E none y v->∀ B,V w ⟨fun _=>False,B,0,[]⟩ none x v
def Pk : List VV->List VV->Prop
 | [],[]=>True
 | y::ys,x::xs=>Pj y x/\Pk ys xs
 | _,_=>False
theorem Kl : ∀ {ys xs:List VV},Pk ys xs->ys.length=xs.length
 | [],[],_=>rfl
 | y::ys,x::xs,h=>by simp[Kl h.2]
 | [],_::_,h=>h.elim
 | _::_,[],h=>h.elim
theorem Js : ∀ {ys xs:List VV},Pk ys xs->∀ (j:Nat) x,xs[j]?=some x->∃ y,ys[j]?=some y/\Pj y x
 | y::ys,x::xs,h,0,z,hz=>by simp only[AkZ,AkP]at hz;subst hz;exact⟨y,rfl,h.1⟩
 | y::ys,x::xs,h,j+1,z,hz=>by simpa using Js h.2 j z (by simpa using hz)
 | [],_::_,h,_,_,_=>h.elim
 | _,[],_,_,_,hz=>by simp at hz
theorem YI {u:Value}:Pj (.sc u) (.sc u):=fun w E v h B=>by
 obtain rfl:=h.sc_inv
 exact .sc
theorem YH {b:Bool}{n s:Nat}{f f':Nat->List VV}(hr:∀ i,i<n->Pk (f i) (f' i)):Pj (.sl b n s f) (.sl true n s f'):=fun w E v h B=>by
 obtain⟨a,cap,rfl,h1,h2,h3⟩:=V.sl_inv h
 refine AmF h1 h2 fun hp=>?_
 obtain⟨g,off,rfl,hb,_,hl,u,hc,hv⟩:=h3 hp
 refine⟨g,off,rfl,hb,fun h=>h,fun i hi=>by rw[← Kl (hr i hi)];exact hl i hi,u,fun i j x hi hx=>?_,fun i j x hi hx=>?_⟩
 ·obtain⟨y,hy,_⟩:=Js (hr i hi) j x hx
  exact hc i j y hi hy
 ·obtain⟨y,hy,hle⟩:=Js (hr i hi) j x hx
  exact hle _ _ _ (hv i j y hi hy) _
theorem Ui {ys xs:List VV}(hr:Pk ys xs):Pj (.agg ys) (.agg xs):=fun w E v h B=>by
 obtain⟨vs,rfl,h1,h2⟩:=h.agg_inv
 refine .agg (h1.trans (Kl hr)) fun j x hx=>?_
 obtain⟨y,hy,hle⟩:=Js hr j x hx
 exact hle _ _ _ (h2 j y hy) _
def TI (r:VV):Prop:=∀ (w:World) (E E':AF) (m m':Option Phi) (v:Value),V w E m r v->V w E' m' r v
theorem PR {u:Value}:TI (.sc u):=fun w E E' m m' v h=>by
 obtain rfl:=h.sc_inv
 exact .sc
theorem M9 {xs:List VV}(h:∀ x∈xs,TI x):TI (.tup xs):=fun w E E' m m' v hv=>by
 cases hv with
 | tup h1 h2=>exact .tup h1 fun j x hx=>h x (Alv hx) _ _ _ _ _ _ (h2 j x hx)
theorem Aj.thaw {P:Program}{f:FuncId}{xs ys:List VV}{r:VV}(h:Aj P f [] xs [] r)(hr:TI r)(hle:Pk ys xs):Aj P f [] ys [] r:=by
 refine Aj.hand h.callable fun w E vs hA hL hB hb hs=>?_
 refine(h.start hL hB ⟨hs.1.trans (Kl hle),fun j x hx=>?_⟩).mono ?_
 ·obtain⟨y,hy,hl⟩:=Js hle j x hx
  exact hl _ _ _ (hs.2 j y hy) _
 ·rintro e w' ⟨v,rfl,hB',hv⟩
  exact⟨v,rfl,hr _ _ _ _ _ _ hv,hB'⟩
theorem AaO {w:World}{e:D.Env}{x v:Int}{c0 c1 c2 c3 c4 c6 c7 c8 c9 c15:Value}(hw:Av e.M)(hs:Be e.S)(hL:Cn w)(hB:∀ k,k∈D8->k<w.heap.size)
  (hV:V w P0 none (.agg (Ag e)) (.agg (LD e c0 c1 c2 c3 c4 c6 c7 c8 c9 c15))) (hat:QO w e c0 c1 c2 c3 c4 c6 c7 c8 c9 c15) :
  Calls Tryz.prog 161 #[.agg (LD e c0 c1 c2 c3 c4 c6 c7 c8 c9 c15),.int .i64 x,.int .i64 v] w (LP w e x v):=by
 by_cases h1:CG e x=0
 ·by_cases h2:(BG e (Fp e) (Ax e.M x)).2.2=0
  ·have h3:BG e (Fp e) (Ax e.M x)=((BG e (Fp e) (Ax e.M x)).1,(BG e (Fp e) (Ax e.M x)).2.1,0):=by rw[← h2]
   by_cases h4:(BG e (Fp e) (Ax e.M x)).1<0
   ·exact WR hw hs hL hB hV hat h1 h3 h4
   ·exact AaL hw hs hL hB hV hat h1 h3 (by omega)
  ·exact WP hw hs hL hB hV h1 h2
 ·exact AaN hw hs hL hB hV h1
def Fi : Phi:=fun _=>none
theorem Aj.handN {P:Program}{f:FuncId}{xs:List VV}{r:VV}{obs:List Ob}(hc:Hm P f)
  (h:∀ (w:World) (E:AF) (vs:Array Value),(∀ k,E.fz k->k<w.heap.size)->Cn w->(∀ k,k∈D8->k<w.heap.size)->(∀ k,E.br k->E.fz k)->CT w E none xs vs ->
   Calls P f vs w fun e w'=>∃ v pls,e=.returned v/\Eh w E Fi 0 obs pls w'/\V w' (E.up (addP Fi 0 pls)) (some (addP Fi 0 pls)) r v):Aj P f [] xs obs r:=by
 refine⟨hc,fun w E φ vs hz hH hφ hs=>?_⟩
 obtain rfl:φ=Fi:=funext fun id=>Alf fun hn=>by have:=(hφ id).1 hn;simp at this
 have hnone:∀ id,Fi id=none:=fun _=>rfl
 refine(h w E vs hz.lt hz.lib.at' hz.lib.lt hH.sub ⟨hs.1,fun j x hx=>?_⟩).mono ?_
 ·exact((hs.2 j x hx).unmap hnone).less (fun k hk=>.inl hk) fun k hk=>.inl hk
 ·rintro e w' ⟨v,pls,rfl,hn,hv⟩
  have hidn:∀ i,i<obs.length->Fi (0+i)=none:=fun _ _=>rfl
  refine⟨v,addP Fi 0 pls,rfl,hH.news hz.lt hn hidn (fun k hk=>absurd rfl hk) fun i o ho=>?_,Amf (hn.ext hidn),fun id=>?_,hv⟩
  ·unfold Bn
   rw[Alk,Ak2,ho];rfl
  ·rcases Alw id obs.length with h' | h'
   ·have hl:id<pls.length:=by rw[hn.len];exact h'
    have:=DM (φ:=Fi) (nx:=0) (pls:=pls) (i:=id) (Ak1 hl)
    rw[Alk]at this
    rw[this];simp[h']
   ·rw[DC (.inr (by rw[hn.len];omega))]
    simp[Fi];omega
theorem SP {w:World}{n0 sz n:Nat}{e:TypeId}{v:Value}{xs:List Value}(h:w.ownsRow n0 e sz v n xs)(hone:∀ u∈xs,u.oneCell'=true) :
  ∃ hd,hdV hd n v/\(∀ k cap,hd=some (k,cap)->v.ownBlock=some k/\n0<=k/\∃ cur,w.heap[k]?=some (.cells cur e (0,0))) /\
   ∀ (E:AF) (φ:Phi) (f:Nat->List VV),(∀ i,i<n->(f i).length=sz)->(∀ i j x,i<n->(f i)[j]?=some x->V w (E.up φ).hold none x (xs.getD (i*sz+j) undef))->KV w E φ true n sz f hd:=by
 obtain⟨hl,⟨rfl,rfl⟩ | ⟨g,cap,cur,rfl,hg,hb,h1,h2,h3,h4⟩⟩:=h
 ·exact⟨none,⟨rfl,rfl⟩,(fun k cap h=>by cases h),fun _ _ _ _ _=>rfl⟩
 ·have hle:n*sz<=cur.size:=by rw[h3];exact Ala _ h1
  have cell:∀ k,k<n*sz->cur.getD k undef=xs.getD k undef:=fun k hk=>by
   have hk2:k<cur.size:=by omega
   rw[← h4]
   simp[List.getD,Array.getD,hk2,hk]
  refine⟨some (g,cap),⟨rfl,h1⟩,fun k c hk=>?_,fun E φ f hlen hv=>⟨cur,e,hb,h3,h1,h2,hlen,fun i j x hi hx=>?_,fun k hk=>?_⟩⟩
  ·simp only[AkP,Alu]at hk
   obtain⟨rfl,rfl⟩:=hk
   exact⟨rfl,hg,cur,hb⟩
  ·have hj:j<sz:=by rw[← hlen i hi];exact(AkR.1 hx).1
   have hk:i*sz+j<n*sz:=by
    have:(i+1)*sz<=n*sz:=Ala _ hi
    rw[AmG]at this;omega
   show V w (E.up φ).hold none x _
   rw[cell _ hk]
   exact hv i j x hi hx
  ·rw[cell k hk]
   refine hone _ ?_
   have:k<xs.length:=by rw[hl];exact hk
   simp[List.getD,this]
structure Pn where
 pid:Int
 esc:Int
 way:Int
deriving DecidableEq
instance : Inhabited Pn:=⟨⟨0,0,0⟩⟩
structure Ab where
 is:Bool
 err:Int
 wth:List Pn
instance : Inhabited Ab:=⟨⟨false,0,[]⟩⟩
structure Wy where
 Esc:Int
 Way:Int
 With:Int
 WithEsc:Int
 WithWay:Int
 Err:Int
deriving DecidableEq
instance : Inhabited Wy:=⟨⟨0,0,0,0,0,0⟩⟩
section
variable (e : D.Env)
def G7 : Int:=bif decide (Ci e.M e.S≠0) then Ci e.M e.S else bif decide (e.Pid<0)||decide ((e.S.Procs.length:Int)<=e.Pid) then 42 else 0
def D1 : D.Proc:=A9 e.M (DR e e.Pid).Type_
def Dp : D.Loc:=(D1 e).Locs.getD (DR e e.Pid).Loc.toNat default
def DP (x:Int):Bool:=decide (0<=x)&&decide ((Ax e.M x).Op=39)
def Vx : Nat->List (List D.Trans)->List (Int × List D.Trans)
 | _,[]=>[]
 | k,w::r=>((k:Int),w)::Vx (k+1) r
def Fz (l:D.Loc):List (Int × List D.Trans):=Vx 0 l.Esc++[(-1,l.Out)]
def Jj (ev:Evl):List Int->List Int->List Int × Int
 | out,[]=>(out,0)
 | out,x::l=>bif decide ((ev x).2≠0) then([],(ev x).2) else Jj ev (out++[(ev x).1]) l
def BS (l:List Int):List Int × Int:=Jj (AY e) [] l
def Oa (f:List D.Type)(l:List Int):List Int:=(List.range l.length).map fun i=>IW (f.getD i default) (l.getD i 0)
def Bd (c:Int):List D.Type:=(BU e.M (Co e c).Shape).Fields
def AA (s:D.Stmt):Int × List Int × Int :=
 bif decide ((AD e s.A).2≠0) then(0,[],(AD e s.A).2)
 else bif decide ((Bd e (AD e s.A).1).length≠s.Args.length) then(0,[],49)
 else bif decide ((BS e s.Args).2≠0) then(0,[],(BS e s.Args).2)
 else((AD e s.A).1,Oa (Bd e (AD e s.A).1) (BS e s.Args).1,0)
def CZ (s:D.Stmt):List Int × Int :=
 bif decide (ER (AY e) s.Args s.Match s.Args.length≠0) then([],ER (AY e) s.Args s.Match s.Args.length) else(MV (AY e) s.Args s.Match,0)
def Ba (s:D.Stmt):Int × Int × Int :=
 bif decide ((AD e s.A).2≠0) then(0,-1,(AD e s.A).2)
 else bif decide ((Bd e (AD e s.A).1).length≠s.Args.length) then(0,-1,49)
 else bif decide ((CZ e s).2≠0) then(0,-1,(CZ e s).2)
 else((AD e s.A).1,JS (Co e (AD e s.A).1) (CZ e s).1 s.Match (decide (s.N.tmod 2=1)),0)
def GP (s:D.Stmt)(c:Int)(m:List Int):Bool :=
 bif decide (s.Kind≠6)||(decide (1<s.N)||decide (s.Args.length≠m.length)) then false
 else bif decide ((AD e s.A).2≠0)||decide ((AD e s.A).1≠c) then false
 else bif decide ((CZ e s).2≠0) then false else decide (JS ⟨0,[m]⟩ (CZ e s).1 s.Match false=0)
def NQ : Ab:=⟨decide (e.S.Procs.length<16),0,[]⟩
def IL (mt:Int->List Int->List Pn)(s:D.Stmt)(self:Bool):Ab :=
 bif decide ((AD e s.A).2≠0) then⟨true,(AD e s.A).2,[]⟩
 else bif decide ((Bd e (AD e s.A).1).length≠s.Args.length) then⟨true,49,[]⟩
 else bif decide (0<(BU e.M (Co e (AD e s.A).1).Shape).Room) then⟨decide (((Co e (AD e s.A).1).Queue.length:Int)<(BU e.M (Co e (AD e s.A).1).Shape).Room),0,[]⟩
 else bif self then⟨false,0,[]⟩
 else bif decide ((AA e s).2.2≠0) then⟨true,(AA e s).2.2,[]⟩
 else⟨decide (0<(mt (AD e s.A).1 (AA e s).2.1).length),0,mt (AD e s.A).1 (AA e s).2.1⟩
def Db (mt:Int->List Int->List Pn)(s:D.Stmt)(self:Bool):Ab :=
 if s.Kind=1 then(bif DP e s.A then NQ e else⟨decide ((AY e s.A).1≠0)||decide ((AY e s.A).2≠0),(AY e s.A).2,[]⟩)
 else if s.Kind=2 then(bif DP e s.B then NQ e else⟨true,0,[]⟩)
 else if s.Kind=9 then⟨decide (e.S.Chans.length<32),0,[]⟩
 else if s.Kind=5 then IL e mt s self
 else if s.Kind=6 then⟨decide (0<=(Ba e s).2.1)||decide ((Ba e s).2.2≠0),(Ba e s).2.2,[]⟩
 else if s.Kind=7 then⟨false,0,[]⟩ else⟨true,0,[]⟩
def FT (mt:Int->List Int->List Pn)(ways:List D.Trans)(self:Bool):Nat->Bool
 | 0=>false
 | n+1=>FT mt ways self n||(Db e mt (ways.getD n default).S self).is
def F5 (mt:Int->List Int->List Pn)(ways:List D.Trans)(self:Bool)(i:Nat):Ab :=
 let x:=Db e mt (ways.getD i default).S self
 bif decide ((ways.getD i default).S.Kind=7)&&!(FT e mt ways self ways.length) then{ x with is:=true } else x
def CC (mt:Int->List Int->List Pn)(ways:List D.Trans)(self:Bool):List Ab:=(List.range ways.length).map (F5 e mt ways self)
def Mu : Int->List Int->List Pn:=fun _ _=>[]
def isSome (l:List Ab):Bool:=l.any Ab.is
def CP (c:Int)(m:List Int)(i:Int):Nat->List D.Trans->List Pn
 | _,[]=>[]
 | k,t::r=>(bif GP e t.S c m then[⟨e.Pid,i,k⟩] else[])++CP c m i (k+1) r
def Ih (c:Int)(m:List Int):List (Int × List D.Trans)->List Pn
 | []=>[]
 | (i,ws)::r=>bif decide (0<(CP e c m i 0 ws).length)||isSome (CC e Mu ws true) then CP e c m i 0 ws else Ih c m r
def Bl : Bool × Int:=bif decide ((D1 e).Provided<0) then(true,0) else(decide ((AY e (D1 e).Provided).1≠0),(AY e (D1 e).Provided).2)
def GV (c:Int)(m:List Int):List Pn:=bif !(Bl e).1||decide ((Bl e).2≠0) then[] else Ih e c m (Fz (Dp e))
def BH (q:Int):D.Env:={ e with Pid:=q }
def DZ (c:Int)(m:List Int):Nat->List Pn
 | 0=>[]
 | n+1=>DZ c m n++bif decide ((n:Int)≠e.Pid) then GV (BH e n) c m else[]
def Bq (c:Int)(m:List Int):List Pn:=DZ e c m e.S.Procs.length
def K5 (err:Int):Wy:=⟨-1,-1,-1,-1,-1,err⟩
def Jn (i:Int)(k:Nat)(err:Int)(p:Pn):Wy:=⟨i,k,p.pid,p.esc,p.way,err⟩
def GO (i:Int)(k:Nat)(x:Ab):List Wy:=(bif x.is&&decide (x.wth.length=0) then[⟨i,k,-1,-1,-1,x.err⟩] else[])++x.wth.map (Jn i k x.err)
def C5 (i:Int):Nat->List Ab->List Wy
 | _,[]=>[]
 | k,x::r=>GO i k x++C5 i (k+1) r
def FW : List (Int × List D.Trans)->List Wy
 | []=>[]
 | (i,ws)::r=>bif decide (0<(C5 i 0 (CC e (Bq e) ws false)).length) then C5 i 0 (CC e (Bq e) ws false) else FW r
def Bm : List Wy :=
 bif decide ((DR e e.Pid).Loc=(D1 e).Final) then(bif decide (e.Pid=(e.S.Procs.length:Int) - 1) then[K5 0] else[])
 else bif decide ((Bl e).2≠0) then[K5 (Bl e).2]
 else bif !(Bl e).1 then[] else FW e (Fz (Dp e))
def Fd : List Wy × Int:=bif decide (G7 e≠0) then([],G7 e) else(Bm e,0)
end
def AeI : Value->Value->Bool
 | .int k a,.int l b=>decide (k=l)&&decide (a=b)
 | .bool a,.bool b=>a==b
 | .string a,.string b=>decide (a=b)
 | _,_=>false
theorem AeH {u v:Value}(h:AeI u v=true):u=v:=by
 unfold AeI at h
 split at h
 ·simp only[AkO,AkS]at h;rw[h.1,h.2]
 ·simp only[beq_iff_eq]at h;rw[h]
 ·simp only[AkS]at h;rw[h]
 ·cases h
section
variable {P : Program} {w:World} {E:AF} {φ:Phi} {hs hs' hs1:List Ob} {xs:List VV} {r:VV} {f:FuncId}
theorem AhQ (hH:HRel E (Bn hs) φ w)(hφ:∀ id,φ id≠none ↔ id<hs.length)(hz:∀ k,E.fz k->k<w.heap.size)(sz:Nat)(g:Nat->List VV) :
  HRel E (Bn (hs++[.arr true 0 0 sz g])) (addP φ hs.length [Pl.arr 0 0 none]) w/\Ext w φ w (addP φ hs.length [Pl.arr 0 0 none]) /\
   (∀ id,addP φ hs.length [Pl.arr 0 0 none] id≠none ↔ id<(hs++[Ob.arr true 0 0 sz g]).length)/\addP φ hs.length [Pl.arr 0 0 none] hs.length=some (.arr 0 0 none):=by
 have hnone:φ hs.length=none:=Alf fun hn=>by have:=(hφ _).1 hn;omega
 have hroom:Room w [Pl.arr 0 0 none] w:=Room.one (Below.refl _ _) fun k hk=>by obtain⟨_,e'⟩:=hk;cases e'
 have hidn:∀ i,i<[Ob.arr true 0 0 sz g].length->φ (hs.length+i)=none:=fun i hi=>by
  simp only[Alo,AlK,Alk,AmU]at hi
  subst hi;exact hnone
 have hnews:Eh w E φ hs.length [Ob.arr true 0 0 sz g] [Pl.arr 0 0 none] w:=Eh.one hroom ⟨rfl,rfl,rfl⟩
 have hat:addP φ hs.length [Pl.arr 0 0 none] hs.length=some (.arr 0 0 none):=DM (i:=0) rfl
 refine⟨hH.news hz hnews hidn (fun k hk=>?_) fun i o ho=>?_,hnews.ext hidn,fun id=>?_,hat⟩
 ·have:=(hφ k).1 hk
  show Bn (hs++_) k=Bn hs k
  simp[Bn,Ak0 this]
 ·show Bn (hs++_) (hs.length+i)=o
  unfold Bn
  rw[Ak2,Ak8 (by omega),show hs.length+i - hs.length=i by omega,ho]
  rfl
 ·simp only[Ak4,Alo,AlK]
  by_cases he:id=hs.length
  ·subst he;rw[hat];simp
  ·rw[DC (by simp;omega)]
   rw[hφ id];omega
theorem Aj.conv {r2:VV}{hs2:List Ob}(h:Aj P f hs xs hs1 r)
  (hc:∀ (w:World) (E:AF) (φ:Phi) (v:Value),HRel E (Bn hs1) φ w->(∀ id,φ id≠none ↔ id<hs1.length)->(∀ k,E.fz k->k<w.heap.size)->V w (E.up φ) (some φ) r v ->
   ∃ φ',HRel E (Bn hs2) φ' w/\Ext w φ w φ'/\(∀ id,φ' id≠none ↔ id<hs2.length)/\V w (E.up φ') (some φ') r2 v):Aj P f hs xs hs2 r2:=by
 refine⟨h.callable,fun w E φ vs hz hH hφ hs0=>(h.call w E φ vs hz hH hφ hs0).mono ?_⟩
 rintro e w' ⟨v,φ',rfl,h1,h2,h3,h4⟩
 obtain⟨φ2,k1,k2,k3,k4⟩:=hc w' E φ' v h1 h3 (fun k hk=>Ale (hz.lt k hk) h2.size) h4
 exact⟨v,φ2,rfl,k1,h2.trans (Amf k2),k3,k4⟩
theorem Aj.ownR {ys:List VV}(h:Aj P f hs xs hs1 (.tup ys))(j:Nat)(hj:ys[j]?=some .nl)(sz:Nat)(g:Nat->List VV):Aj P f hs xs (hs1++[.arr true 0 0 sz g]) (.tup (ys.set j (.ow hs1.length 0 0))):=by
 refine h.conv fun w E φ v hH hφ hz hv=>?_
 obtain⟨h1,h2,h3,h4⟩:=AhQ hH hφ hz sz g
 refine⟨_,h1,h2,h3,?_⟩
 cases hv with
 | tup k1 k2 =>
  refine .tup (by simp[k1]) fun i x hx=>?_
  rw[AmT]at hx
  split at hx
  ·rename_i hij
   subst hij
   split at hx
   ·simp only[AkP]at hx
    subst hx
    rw[(k2 j _ hj).nl_inv]
    exact .ow h4 (AkU _) (hd0:=none) ⟨rfl,rfl⟩ fun _=>⟨rfl,AkU _⟩
   ·cases hx
  ·exact(k2 i x hx).ext h2
theorem Fr.less {b b':Nat}{w w':World}{φ φ':Phi}(h:Fr b w φ w' φ')(hb:b'<=b):Fr b' w φ w' φ' :=
 ⟨h.os,h.tape,h.output,h.size,h.block,h.new,fun id p hi e=>h.kind id p (Ale hi hb) e⟩
theorem Aj.ownB {i j:Nat}{cs:List VV}(hi:hs[i]?=some (.box cs))(hj:cs[j]?=some .nl)(sz:Nat)(g:Nat->List VV)
  (h:Aj P f (hs.set i (.box (cs.set j (.ow hs.length 0 0)))++[.arr true 0 0 sz g]) xs hs' r):Aj P f hs xs hs' r:=by
 refine⟨h.callable,fun w E φ vs hz hH hφ hs0=>?_⟩
 obtain⟨h1,h2,h3,h4⟩:=AhQ hH hφ hz.lt sz g
 have hil:i<hs.length:=(AkR.1 hi).1
 refine(h.call w E _ vs (hz.ext h2) ⟨h1.sub,fun id p e=>?_,h1.inj,h1.free⟩ (fun id=>by rw[h3 id];simp) ⟨hs0.1,fun k x hx=>(hs0.2 k x hx).ext h2⟩).mono ?_
 ·have hob:=h1.ob id p e
  show ObV w E _ (Bn (hs.set i _++_) id) p
  by_cases he:id=i
  ·subst he
   have e1:Bn (hs++[Ob.arr true 0 0 sz g]) id=.box cs:=by simp[Bn,Ak0 hil,hi]
   have e2:Bn (hs.set id (.box (cs.set j (.ow hs.length 0 0)))++[Ob.arr true 0 0 sz g]) id=.box (cs.set j (.ow hs.length 0 0)):=by
    simp[Bn,Ak0,hil]
   rw[e1]at hob
   rw[e2]
   cases p with
   | arr=>exact hob.elim
   | box b =>
    obtain⟨c,ty,k1,k2⟩:=hob
    refine⟨c,ty,k1,by simp[k2.1],fun k x hx=>?_⟩
    rw[AmT]at hx
    split at hx
    ·rename_i hjk
     subst hjk
     split at hx
     ·simp only[AkP]at hx
      subst hx
      rw[(k2.2 j _ hj).nl_inv]
      exact .ow h4 (AkU _) (hd0:=none) ⟨rfl,rfl⟩ fun _=>⟨rfl,AkU _⟩
     ·cases hx
    ·exact k2.2 k x hx
  ·have e1:Bn (hs.set i (.box (cs.set j (.ow hs.length 0 0)))++[Ob.arr true 0 0 sz g]) id=Bn (hs++[Ob.arr true 0 0 sz g]) id:=by
    rcases Alw id hs.length with h' | h'
    ·simp[Bn,Ak0,h',List.getElem_set_ne (Ne.symm he)]
    ·simp[Bn,Ak8,h']
   rw[e1];exact hob
 ·rintro e w' ⟨v,φ',rfl,k1,k2,k3,k4⟩
  refine⟨v,φ',rfl,k1,(Amf h2).trans (k2.less (by simp)),k3,k4⟩
end
def LF (x:Pn):List VV:=[Aa x.pid,Aa x.esc,Aa x.way]
def EX (l:List Pn):Nat->List VV:=fun i=>LF (l.getD i default)
def Cu (fz:Bool)(l:List Pn):VV:=.sl fz l.length 3 fun i=>LF (l.getD i default)
def Bu (x:Ab):List VV:=[Ac x.is,Aa x.err,Cu true x.wth]
def Gf (l:List Ab):Nat->List VV:=fun i=>Bu (l.getD i default)
def B3 (fz:Bool)(l:List Ab):VV:=.sl fz l.length 3 fun i=>Bu (l.getD i default)
def A0 (x:Wy):List VV:=[Aa x.Esc,Aa x.Way,Aa x.With,Aa x.WithEsc,Aa x.WithWay,Aa x.Err]
def IN (l:List Wy):Nat->List VV:=fun i=>A0 (l.getD i default)
def A6 (fz:Bool)(l:List Wy):VV:=.sl fz l.length 6 fun i=>A0 (l.getD i default)
def Bo (x:D.Env):List VV:=[AJ true x.M.Globals,Ad true x.M.Init,Bg true x.M.Shapes,Ad true x.M.Chans,A4 true x.M.Procs,Aa x.M.Claim,Bz true x.M.Exprs,Ad true x.S.Globals,Az false x.S.Chans,Ap false x.S.Procs,Aa x.S.Last,Aa x.S.Alone,Aa x.S.Claim,Aa x.Pid,Ac x.Timeout,Bb true x.Able]
def AjO : Shp:={ α:=List Pn,enc:=fun y=>([],Cu true y) }
def AjX : Shp:={ α:=Ab,enc:=fun y=>([],.agg (Bu y)) }
def Aiu : Shp:={ α:=List Ab,enc:=fun y=>([],B3 true y) }
def AjH : Shp:={ α:=Wy,enc:=fun y=>([],.agg (A0 y)) }
def Aig : Shp:={ α:=List Wy,enc:=fun y=>([],A6 true y) }
def Aim : Shp:={ α:=D.Loc,enc:=fun y=>([],.agg (AZ y)) }
def Af8 : Shp:={ α:=D.Proc,enc:=fun y=>([],.agg (Bf y)) }
def AdL : Shp:={ α:=D.Trans,enc:=fun y=>([],.agg (CY y)) }
def AjW : Shp:={ α:=Bool × Int,enc:=fun y=>([],.tup [Ac y.1,Aa y.2]) }
def AdN : Shp:={ α:=Int × List Int × Int,enc:=fun y=>([],.tup [Aa y.1,Ad true y.2.1,Aa y.2.2]) }
def AjS : Shp:={ α:=List Int × Int,enc:=fun y=>([],.tup [Ad true y.1,Aa y.2]) }
def AjJ : Shp:={ α:=List Wy × Int,enc:=fun y=>([],.tup [A6 true y.1,Aa y.2]) }
def Ait : Shp:={ α:=List Int × Int,enc:=fun y=>([.arr true 0 y.1.length 1 (AE y.1)],.tup [.ow 0 0 y.1.length,Aa y.2]) }
def Cw (f:FuncId):Shp :=
 bif Nat.beq f 80||Nat.beq f 118||Nat.beq f 206 then Aa2
 else bif Nat.beq f 84 then Aim
 else bif Nat.beq f 87 then Af8
 else bif Nat.beq f 83 then AdL
 else bif Nat.beq f 119||Nat.beq f 202||Nat.beq f 203||Nat.beq f 81||Nat.beq f 204 then Ais
 else bif Nat.beq f 122 then Ait
 else bif Nat.beq f 162 then AdN
 else bif Nat.beq f 189 then AjS
 else bif Nat.beq f 165 then W0
 else bif Nat.beq f 199||Nat.beq f 191 then AjO
 else bif Nat.beq f 89 then AjW
 else bif Nat.beq f 167||Nat.beq f 127||Nat.beq f 168 then AjX
 else bif Nat.beq f 92 then Aiu
 else bif Nat.beq f 88 then AjH
 else bif Nat.beq f 60 then Aig
 else bif Nat.beq f 86 then AjJ
 else C7 f
def hsR (e:D.Env)(c:Int)(m:List Int)(out:List Pn):List Ob:=[.box (Ag e),.box [Aa c],.box [Ad true m],.box [.ow 4 0 out.length],.arr true 0 out.length 3 (EX out)]
def Ajn : VV:=.fn (.func 201) [.bp 0 0,.bp 1 0,.bp 2 0,.bp 3 0]
def shR (e:D.Env)(c:Int)(m:List Int)(f:FuncId):Shp :=
 bif Nat.beq f 201 then{ α:=List Pn × Bool,enc:=fun y=>(hsR e c m y.1,Ac y.2),lend:=true }
 else bif Nat.beq f 90 then{ α:=List Pn,enc:=fun y=>(hsR e c m y,.tup []),lend:=true }
 else Cw f
def hsW (e:D.Env)(out:List Wy):List Ob:=[.box (Ag e),.box [.ow 2 0 out.length],.arr true 0 out.length 6 (IN out)]
def Ajm : VV:=.fn (.func 91) [.bp 0 0,.bp 1 0]
def shW (e:D.Env)(f:FuncId):Shp :=
 bif Nat.beq f 91 then{ α:=List Wy × Bool,enc:=fun y=>(hsW e y.1,Ac y.2),lend:=true }
 else bif Nat.beq f 90 then{ α:=List Wy,enc:=fun y=>(hsW e y,.tup []),lend:=true }
 else Cw f
def QB : Ann:={ keep:=fun
  | [0,1,0,1,1]=>[2,6,11,12,13]
  | _=>[] }
def QA : Ann:={ keep:=fun
  | [0,1,0,1,1,1,1,1,1,1]=>[7,9,10,53,54,55]
  | _=>[] }
def I5 : Ann:={ keep:=fun
  | [0,1,0,1,1]=>[2,3,6,16,17,18]
  | _=>[] }
def LM : Ann:={ keep:=fun
  | [0,1,0,1,1]=>[1,2,3,7,13,14]
  | _=>[] }
def F7 : Ann:={ cut:=(fun | [1,1,0,0,1,1,0,0,1,0,1,1,1]=>true | _=>false),keep:=fun
  | [0,1,0,1,1,1]=>[1,2,3,7,8,16,17,18]
  | [0,1,0,1,1,1,1]=>[7,8,40,41,42]
  | [1,1,0,0,1,1,0,0,1,0,1,1,1]=>[1,2,3,7,8,9,16,17,18]
  | _=>[] }
def Nw : Ann:={ keep:=fun
  | [0,1,0,1]=>[0,1,7,8]
  | _=>[] }
def Nv : Ann:={ keep:=fun
  | [0,1,0,1]=>[0,3,7,8]
  | _=>[] }
def J5 : Ann:={ base:=5,keep:=fun
  | [0,1,0,1]=>[1,2,7,8,9]
  | _=>[] }
def J4 : Ann:={ base:=3,keep:=fun
  | [0,1,0,1]=>[1,2,7,8,9]
  | _=>[] }
def Qz : Ann:={ base:=5,keep:=fun
  | [0,1,0,1]=>[0,1,2,3,4,5,11,12,13]
  | _=>[] }
def Hf : Ann:={ base:=3,keep:=fun
  | [0,1,0,1]=>[0,3,14,15,16]
  | [0,1,1,1,1,0,0,1,1,0,0,1,0,1]=>[0,3,9,14,15,16,39,40,41]
  | _=>[] }
def SC (e:D.Env)(l out:List Int)(k:Int):St:=Aq [(2,.bp 0 0),(6,.ow 1 0 out.length),(11,Ad true l),(12,Aa l.length),(13,Aa k)] [.box (Bo e),.arr true 0 out.length 1 (AE out)]
def Pv (c:Int)(f:List D.Type)(l:List Int)(k:Int):St:=Aq [(7,Aa c),(9,AJ true f),(10,.ow 0 0 l.length),(53,.ow 0 0 l.length),(54,Aa l.length),(55,Aa k)] [.arr true 0 l.length 1 (AE l)]
def Pt (e:D.Env)(s:D.Stmt)(want:List Int)(k:Int):St:=Aq [(2,.bp 0 0),(3,.bp 1 0),(6,.ow 2 0 want.length),(16,Ad true s.Args),(17,Aa s.Args.length),(18,Aa k)] [.box (Ag e),.box (Ar s),.arr true 0 want.length 1 (AE want)]
def L7 (e:D.Env)(c:Int)(m:List Int)(out:List Pn)(k:Int):St:=Aq [(1,Aa c),(2,Ad true m),(3,.bp 0 0),(7,.ow 1 0 out.length),(13,Aa e.S.Procs.length),(14,Aa k)] [.box (Ag e),.arr true 0 out.length 3 (EX out)]
def SB (e:D.Env)(ws:List D.Trans)(self:Bool)(n:Nat)(F:Nat->List VV)(some:Bool)(k:Int):St:=Aq [(1,Au true ws),(2,Ac self),(3,.bp 0 0),(7,.ow 1 0 n),(8,Ac some),(16,Au true ws),(17,Aa ws.length),(18,Aa k)] [.box (Ag e),.arr true 0 n 3 F]
def SA (e:D.Env)(ws:List D.Trans)(self:Bool)(l:List Ab)(some:Bool)(i k:Int):St:=Aq [(1,Au true ws),(2,Ac self),(3,.bp 0 0),(7,.ow 1 0 l.length),(8,Ac some),(9,Aa i),(16,Au true ws),(17,Aa ws.length),(18,Aa k)] [.box (Ag e),.arr true 0 l.length 3 (Gf l)]
def L8 (ws:List D.Trans)(l:List Ab)(some:Bool)(k:Int):St:=Aq [(7,.ow 0 0 l.length),(8,Ac some),(40,Au true ws),(41,Aa ws.length),(42,Aa k)] [.arr true 0 l.length 3 (Gf l)]
def Oj (l:List Ab)(k:Int):St:=Aq [(0,B3 true l),(1,.fn (.func 204) []),(7,Aa l.length),(8,Aa k)] []
def Oi (l:List Wy)(w:Wy)(k:Int):St:=Aq [(0,A6 true l),(3,.bp 0 0),(7,Aa l.length),(8,Aa k)] [.box (A0 w)]
def Kn (e:D.Env)(c:Int)(m:List Int)(out:List Pn)(l:D.Loc)(k:Int):St:=Aq [(1,Ajn),(2,.bp 5 0),(7,BZ true l.Esc),(8,Aa l.Esc.length),(9,Aa k)] (hsR e c m out++[.box (AZ l)])
def Km (e:D.Env)(out:List Wy)(l:D.Loc)(k:Int):St:=Aq [(1,Ajm),(2,.bp 3 0),(7,BZ true l.Esc),(8,Aa l.Esc.length),(9,Aa k)] (hsW e out++[.box (AZ l)])
def Pu (e:D.Env)(c:Int)(m:List Int)(out:List Pn)(i:Int)(ws:List D.Trans)(k:Int):St:=Aq [(0,Aa i),(1,Au true ws),(2,.bp 0 0),(3,.bp 1 0),(4,.bp 2 0),(5,.bp 3 0),(11,Au true ws),(12,Aa ws.length),(13,Aa k)] (hsR e c m out)
def II (e:D.Env)(out:List Wy)(i:Int)(l:List Ab)(k:Int):St:=Aq [(0,Aa i),(3,.bp 1 0),(14,B3 true l),(15,Aa l.length),(16,Aa k)] (hsW e out)
def L6 (e:D.Env)(out:List Wy)(i:Int)(l:List Ab)(k:Int)(w:Wy)(ps:List Pn)(j:Int):St:=Aq [(0,Aa i),(3,.bp 1 0),(9,.bp 3 0),(14,B3 true l),(15,Aa l.length),(16,Aa k),(39,Cu true ps),(40,Aa ps.length),(41,Aa j)] (hsW e out++[.box (A0 w)])
set_option maxRecDepth 100000
theorem AfO (r:Int)(e:D.Env):(fc Cw AM Tryz.f80 [] (Aa r)).goal (St.init [] [.agg (Ag e)]) =
  (∃ (y:Int),VC 38 [VV.agg (Ae e.M),VV.agg (Af e.S)] (Aa y)/\BB (y != 0) (LQ (Aa y) (Aa r)) (BB (bif decide (e.Pid<0) then true else decide (e.Pid>=(↑e.S.Procs.length:Int))) (LQ (Aa 42) (Aa r)) (LQ (Aa 0) (Aa r)))):=by kernel_rfl
theorem Ac5 (l:D.Loc)(e:D.Env):(fc Cw AM Tryz.f84 [] (.agg (AZ l))).goal (St.init [] [.agg (Ag e)]) =
  (inX e.Pid e.S.Procs.length/\inX (e.S.Procs.getD e.Pid.toNat default).Type_ e.M.Procs.length/\inX (e.S.Procs.getD e.Pid.toNat default).Loc (e.M.Procs.getD (e.S.Procs.getD e.Pid.toNat default).Type_.toNat default).Locs.length/\LQ (VV.agg (AZ ((e.M.Procs.getD (e.S.Procs.getD e.Pid.toNat default).Type_.toNat default).Locs.getD (e.S.Procs.getD e.Pid.toNat default).Loc.toNat default))) (VV.agg (AZ l))):=by kernel_rfl
theorem Z6 (p:D.Proc)(e:D.Env):(fc Cw AM Tryz.f87 [] (.agg (Bf p))).goal (St.init [] [.agg (Ag e)]) =
  (inX e.Pid e.S.Procs.length/\inX (e.S.Procs.getD e.Pid.toNat default).Type_ e.M.Procs.length/\LQ (VV.agg (Bf (e.M.Procs.getD (e.S.Procs.getD e.Pid.toNat default).Type_.toNat default))) (VV.agg (Bf p))):=by kernel_rfl
theorem ZZ (b:Bool)(m:D.Model)(x:Int):(fc Cw AM Tryz.f119 [] (Ac b)).goal (St.init [] [.agg (Ae m),Aa x]) =
  (((true&&decide (x>=0)==true)=true->inX x m.Exprs.length)/\LQ (Ac (bif decide (x>=0) then(m.Exprs.getD x.toNat default).Op==39 else false)) (Ac b)):=by kernel_rfl
theorem Ac7 (hs':List Ob)(r:VV)(e:D.Env)(l:List Int):(CR Tryz.prog tb Cw QB false Tryz.f122 hs' (r)).goal (St.init [] [.agg (Bo e),Ad true l]) =
  (AB (CR Tryz.prog tb Cw QB false Tryz.f122 hs' r) [1,1,0,1,0] (Aq [(2,VV.bp 0 0),(6,VV.nl),(11,Ad true l),(12,Aa (↑l.length:Int)),(13,Aa 0)] [Ob.box (Bo e)])):=by kernel_rfl
theorem Ac4 (r:Int × List Int × Int)(e:D.Env)(s:D.Stmt):(fc Cw QA Tryz.f162 [] (.tup [Aa r.1,Ad true r.2.1,Aa r.2.2])).goal (St.init [] [.agg (Bo e),.agg (Ar s)]) =
  (∃ (y:Int × Int),VC 183 [VV.agg (Bo e),Aa s.A] (vII y)/\BB (y.snd != 0) (LQ (VV.tup [Aa 0,VV.nl,Aa y.snd]) (VV.tup [Aa r.fst,Ad true r.snd.fst,Aa r.snd.snd])) (inX (IntKind.i64.wrap (y.fst - (1:Int))) e.S.Chans.length/\inX (e.S.Chans.getD (IntKind.i64.wrap (y.fst - (1:Int))).toNat default).Shape e.M.Shapes.length/\BB ((↑(e.M.Shapes.getD (e.S.Chans.getD (IntKind.i64.wrap (y.fst - (1:Int))).toNat default).Shape.toNat default).Fields.length:Int) != (↑s.Args.length:Int)) (LQ (VV.tup [Aa 0,VV.nl,Aa 49]) (VV.tup [Aa r.fst,Ad true r.snd.fst,Aa r.snd.snd])) (∃ (y_1:List Int × Int),Aj Tryz.prog 122 [] [VV.agg (Bo e),Ad true s.Args] [Ob.arr true 0 y_1.fst.length 1 (AE y_1.fst)] (VV.tup [VV.ow 0 0 y_1.fst.length,Aa y_1.snd])/\BB (y_1.snd != 0) (LQ (VV.tup [Aa 0,VV.nl,Aa y_1.snd]) (VV.tup [Aa r.fst,Ad true r.snd.fst,Aa r.snd.snd])) (AB (fc Cw QA Tryz.f162 [] (VV.tup [Aa r.fst,Ad true r.snd.fst,Aa r.snd.snd])) [1,1,1,1,1,1,1,0,1,0] (Pv y.fst (e.M.Shapes.getD (e.S.Chans.getD (IntKind.i64.wrap (y.fst - (1:Int))).toNat default).Shape.toNat default).Fields y_1.fst (0:Int)))))):=by kernel_rfl
theorem V4 (r:List Int × Int)(e:D.Env)(s:D.Stmt):(fc Cw I5 Tryz.f189 [] (.tup [Ad true r.1,Aa r.2])).goal (St.init [] [.agg (Ag e),.agg (Ar s)]) =
  (((0:Int)<=(↑s.Args.length:Int)/\(↑s.Args.length:Int)<=(↑s.Args.length:Int)/\(↑s.Args.length:Int)*(↑8:Int)<=140737488355328)/\AB (fc Cw I5 Tryz.f189 [] (VV.tup [Ad true r.fst,Aa r.snd])) [1,1,0,1,0] (Aq [(2,VV.bp 0 0),(3,VV.bp 1 0),(6,VV.ow 2 0 (↑s.Args.length:Int).toNat),(16,Ad true s.Args),(17,Aa (↑s.Args.length:Int)),(18,Aa 0)] [Ob.box (Ag e),Ob.box (Ar s),Ob.arr true 0 (↑s.Args.length:Int).toNat 1 fun(_:Nat)=>((fc Cw I5 Tryz.f189 [] (VV.tup [Ad true r.fst,Aa r.snd])).T 2).zero])):=by kernel_rfl
theorem Wn (r:Int × Int × Int)(e:D.Env)(s:D.Stmt):(fc Cw AM Tryz.f165 [] (.tup [Aa r.1,Aa r.2.1,Aa r.2.2])).goal (St.init [] [.agg (Ag e),.agg (Ar s)]) =
  (∃ (y:Int × Int),VC 183 [VV.agg (Ag e),Aa s.A] (vII y)/\BB (y.snd != 0) (LQ (VV.tup [Aa 0,Aa (-1),Aa y.snd]) (L2 r)) (inX (IntKind.i64.wrap (y.fst - (1:Int))) e.S.Chans.length/\inX (e.S.Chans.getD (IntKind.i64.wrap (y.fst - (1:Int))).toNat default).Shape e.M.Shapes.length/\BB ((↑(e.M.Shapes.getD (e.S.Chans.getD (IntKind.i64.wrap (y.fst - (1:Int))).toNat default).Shape.toNat default).Fields.length:Int) != (↑s.Args.length:Int)) (LQ (VV.tup [Aa 0,Aa (-1),Aa 49]) (L2 r)) (∃ (y_1:List Int × Int),VC 189 [VV.agg (Ag e),VV.agg (Ar s)] (VV.tup [Ad true y_1.fst,Aa y_1.snd])/\BB (y_1.snd != 0) (LQ (VV.tup [Aa 0,Aa (-1),Aa y_1.snd]) (L2 r)) (inX (IntKind.i64.wrap (y.fst - (1:Int))) e.S.Chans.length/\(2:Int)≠(0:Int)/\∃ (y_2:Int),VC 172 [VV.agg (AL (e.S.Chans.getD (IntKind.i64.wrap (y.fst - (1:Int))).toNat default)),Ad true y_1.fst,Ad true s.Match,Ac (s.N.tmod (2:Int)==1)] (Aa y_2)/\LQ (VV.tup [Aa y.fst,Aa y_2,Aa 0]) (L2 r))))):=by kernel_rfl
theorem V5 (b:Bool)(e:D.Env)(s:D.Stmt)(c:Int)(m:List Int):(fc Cw AM Tryz.f202 [] (Ac b)).goal (St.init [] [.agg (Ag e),.agg (Ar s),Aa c,Ad true m]) =
  (BB (bif bif s.Kind != 6 then true else decide (s.N > 1) then true else(↑s.Args.length:Int) != (↑m.length:Int)) (LQ (Ac false) (Ac b)) (∃ (y:Int × Int),VC 183 [VV.agg (Ag e),Aa s.A] (vII y)/\BB (bif y.snd != 0 then true else y.fst != c) (LQ (Ac false) (Ac b)) (∃ (y:List Int × Int),VC 189 [VV.agg (Ag e),VV.agg (Ar s)] (VV.tup [Ad true y.fst,Aa y.snd])/\∃ (y_1:Int),((true&&(y.snd==0)==true)=true->VC 172 [VV.agg [Aa 0,VV.sl true 1 1 fun(i:Nat)=>List.take 1 (List.drop (i*1) [Ad true m])],Ad true y.fst,Ad true s.Match,Ac false] (Aa y_1))/\LQ (Ac (bif y.snd==0 then y_1==0 else false)) (Ac b)))):=by kernel_rfl
theorem Wf (r:List Pn)(e:D.Env)(c:Int)(m:List Int):(fc Cw LM Tryz.f191 [] (Cu true r)).goal (St.init [] [.agg (Ag e),Aa c,Ad true m]) =
  (AB (fc Cw LM Tryz.f191 [] (Cu true r)) [1,1,0,1,0] (Aq [(1,Aa c),(2,Ad true m),(3,VV.bp 0 0),(7,VV.nl),(13,Aa (↑e.S.Procs.length:Int)),(14,Aa 0)] [Ob.box (Ag e)])):=by kernel_rfl
theorem Z5 (r:Bool × Int)(e:D.Env):(fc Cw AM Tryz.f89 [] (.tup [Ac r.1,Aa r.2])).goal (St.init [] [.agg (Ag e)]) =
  (∃ (y:D.Proc),VC 87 [VV.agg (Ag e)] (VV.agg (Bf y))/\BB (decide (y.Provided<0)) (LQ (VV.tup [Ac true,Aa 0]) (VV.tup [Ac r.fst,Aa r.snd])) (∃ (y_1:Int × Int),VC 61 [VV.agg (Ag e),Aa y.Provided] (vII y_1)/\LQ (VV.tup [Ac (y_1.fst != 0),Aa y_1.snd]) (VV.tup [Ac r.fst,Aa r.snd]))):=by kernel_rfl
theorem Z2 (r:Ab)(e:D.Env):(fc Cw AM Tryz.f167 [] (.agg (Bu r))).goal (St.init [] [.agg (Ag e)]) =
  (LQ (VV.agg [Ac (decide ((↑e.S.Procs.length:Int)<16)),Aa 0,VV.nl]) (VV.agg (Bu r))):=by kernel_rfl
theorem ZV (r:Ab)(e:D.Env)(s:D.Stmt)(self:Bool):(fc Cw AM Tryz.f127 [] (.agg (Bu r))).goal (St.init [] [.agg (Ag e),.agg (Ar s),Ac self]) =
  (BB (s.Kind==1) (∃ (y:Bool),VC 119 [VV.agg (Ae e.M),Aa s.A] (Ac y)/\BB y (∃ (y:Ab),VC 167 [VV.agg (Ag e)] (VV.agg (Bu y))/\LQ (VV.agg (Bu y)) (VV.agg (Bu r))) (∃ (y:Int × Int),VC 61 [VV.agg (Ag e),Aa s.A] (vII y)/\LQ (VV.agg [Ac (bif y.fst != 0 then true else y.snd != 0),Aa y.snd,VV.nl]) (VV.agg (Bu r)))) (BB (s.Kind==2) (∃ (y:Bool),VC 119 [VV.agg (Ae e.M),Aa s.B] (Ac y)/\BB y (∃ (y:Ab),VC 167 [VV.agg (Ag e)] (VV.agg (Bu y))/\LQ (VV.agg (Bu y)) (VV.agg (Bu r))) (LQ (VV.agg [Ac true,Aa 0,VV.nl]) (VV.agg (Bu r)))) (BB (s.Kind==9) (LQ (VV.agg [Ac (decide ((↑e.S.Chans.length:Int)<32)),Aa 0,VV.nl]) (VV.agg (Bu r))) (BB (s.Kind==5) (∃ (y:Ab),VC 168 [VV.agg (Ag e),VV.agg (Ar s),Ac self] (VV.agg (Bu y))/\LQ (VV.agg (Bu y)) (VV.agg (Bu r))) (BB (s.Kind==6) (∃ (y:Int × Int × Int),VC 165 [VV.agg (Ag e),VV.agg (Ar s)] (L2 y)/\LQ (VV.agg [Ac (bif decide (y.snd.fst>=0) then true else y.snd.snd != 0),Aa y.snd.snd,VV.nl]) (VV.agg (Bu r))) (BB (s.Kind==7) (LQ (VV.agg [Ac false,Aa 0,VV.nl]) (VV.agg (Bu r))) (LQ (VV.agg [Ac true,Aa 0,VV.nl]) (VV.agg (Bu r))))))))):=by kernel_rfl
theorem V9 (r:Ab)(e:D.Env)(s:D.Stmt)(self:Bool):(fc Cw AM Tryz.f168 [] (.agg (Bu r))).goal (St.init [] [.agg (Ag e),.agg (Ar s),Ac self]) =
  (∃ (y:Int × Int),VC 183 [VV.agg (Ag e),Aa s.A] (vII y)/\BB (y.snd != 0) (LQ (VV.agg [Ac true,Aa y.snd,VV.nl]) (VV.agg (Bu r))) (inX (IntKind.i64.wrap (y.fst - (1:Int))) e.S.Chans.length/\inX (e.S.Chans.getD (IntKind.i64.wrap (y.fst - (1:Int))).toNat default).Shape e.M.Shapes.length/\BB ((↑(e.M.Shapes.getD (e.S.Chans.getD (IntKind.i64.wrap (y.fst - (1:Int))).toNat default).Shape.toNat default).Fields.length:Int) != (↑s.Args.length:Int)) (LQ (VV.agg [Ac true,Aa 49,VV.nl]) (VV.agg (Bu r))) (BB (decide ((e.M.Shapes.getD (e.S.Chans.getD (IntKind.i64.wrap (y.fst - (1:Int))).toNat default).Shape.toNat default).Room > 0)) (LQ (VV.agg [Ac (decide ((↑(e.S.Chans.getD (IntKind.i64.wrap (y.fst - (1:Int))).toNat default).Queue.length:Int)<(e.M.Shapes.getD (e.S.Chans.getD (IntKind.i64.wrap (y.fst - (1:Int))).toNat default).Shape.toNat default).Room)),Aa 0,VV.nl]) (VV.agg (Bu r))) (BB self (LQ (VV.agg [Ac false,Aa 0,VV.nl]) (VV.agg (Bu r))) (∃ (y_1:Int × List Int × Int),VC 162 [VV.agg (Ag e),VV.agg (Ar s)] (VV.tup [Aa y_1.fst,Ad true y_1.snd.fst,Aa y_1.snd.snd])/\BB (y_1.snd.snd != 0) (LQ (VV.agg [Ac true,Aa y_1.snd.snd,VV.nl]) (VV.agg (Bu r))) (∃ (y_2:List Pn),VC 191 [VV.agg (Ag e),Aa y.fst,Ad true y_1.snd.fst] (Cu true y_2)/\LQ (VV.agg [Ac (decide ((↑y_2.length:Int) > 0)),Aa 0,Cu true y_2]) (VV.agg (Bu r)))))))):=by kernel_rfl
theorem Ac6 (r:List Ab)(e:D.Env)(ws:List D.Trans)(self:Bool):(fc Cw F7 Tryz.f92 [] (B3 true r)).goal (St.init [] [.agg (Ag e),Au true ws,Ac self]) =
  (((0:Int)<=(↑ws.length:Int)/\(↑ws.length:Int)<=(↑ws.length:Int)/\(↑ws.length:Int)*(↑40:Int)<=140737488355328)/\AB (fc Cw F7 Tryz.f92 [] (B3 true r)) [1,1,1,0,1,0] (Aq [(1,Au true ws),(2,Ac self),(3,VV.bp 0 0),(7,VV.ow 1 0 (↑ws.length:Int).toNat),(8,Ac false),(16,Au true ws),(17,Aa (↑ws.length:Int)),(18,Aa 0)] [Ob.box (Ag e),Ob.arr true 0 (↑ws.length:Int).toNat 3 fun(_:Nat)=>((fc Cw F7 Tryz.f92 [] (B3 true r)).T 198).zero])):=by kernel_rfl
theorem Z9 (r:Wy)(err:Int):(fc Cw AM Tryz.f88 [] (.agg (A0 r))).goal (St.init [] [Aa err]) =
  (LQ (VV.agg [Aa (-1),Aa (-1),Aa (-1),Aa (-1),Aa (-1),Aa err]) (VV.agg (A0 r))):=by kernel_rfl
theorem Aap (r:List Wy × Int)(e:D.Env):(fc Cw AM Tryz.f86 [] (.tup [A6 true r.1,Aa r.2])).goal (St.init [] [.agg (Ag e)]) =
  (∃ (y:Int),VC 80 [VV.agg (Ag e)] (Aa y)/\BB (y != 0) (LQ (VV.tup [VV.nl,Aa y]) (VV.tup [A6 true r.fst,Aa r.snd])) (∃ (y:List Wy),VC 60 [VV.agg (Ag e)] (A6 true y)/\LQ (VV.tup [A6 true y,Aa 0]) (VV.tup [A6 true r.fst,Aa r.snd]))):=by kernel_rfl
theorem Ac0 (t:D.Trans)(l:D.Loc)(esc i:Int):(fc Cw AM Tryz.f83 [] (.agg (CY t))).goal (St.init [] [.agg (AZ l),Aa esc,Aa i]) =
  (BB (decide (esc<0)) (inX i l.Out.length/\LQ (VV.agg (CY (l.Out.getD i.toNat default))) (VV.agg (CY t))) (inX esc l.Esc.length/\inX i (l.Esc.getD esc.toNat []).length/\LQ (VV.agg (CY ((l.Esc.getD esc.toNat []).getD i.toNat default))) (VV.agg (CY t)))):=by kernel_rfl
theorem Wt (b:Bool)(l:List Ab):(fc Cw AM Tryz.f203 [] (Ac b)).goal (St.init [] [B3 true l,.fn (.func 204) []]) =
  (∃ (y:Int),VC 206 [B3 true l,VV.fn (Fn.func (nat_lit 204)) []] (Aa y)/\LQ (Ac (decide (y>=0))) (Ac b)):=by kernel_rfl
theorem Aaf (r:Int)(l:List Ab):(fc Cw Nw Tryz.f206 [] (Aa r)).goal (St.init [] [B3 true l,.fn (.func 204) []]) =
  (AB (fc Cw Nw Tryz.f206 [] (Aa r)) [1,0,1,0] (Oj l (0:Int))):=by kernel_rfl
theorem Aad (b:Bool)(x:Ab):(fc Cw AM Tryz.f204 [] (Ac b)).goal (St.init [] [.agg (Bu x)]) =
  (LQ (Ac x.is) (Ac b)):=by kernel_rfl
theorem Ws (b:Bool)(l:List Wy)(w:Wy):(fc Cw AM Tryz.f81 [] (Ac b)).goal (St.init [] [A6 true l,.agg (A0 w)]) =
  (∃ (y:Int),VC 118 [A6 true l,VV.agg (A0 w)] (Aa y)/\LQ (Ac (decide (y>=0))) (Ac b)):=by kernel_rfl
theorem Aae (r:Int)(l:List Wy)(w:Wy):(fc Cw Nv Tryz.f118 [] (Aa r)).goal (St.init [] [A6 true l,.agg (A0 w)]) =
  (AB (fc Cw Nv Tryz.f118 [] (Aa r)) [1,0,1,0] (Oi l w (0:Int))):=by kernel_rfl
theorem Z3 (r:List Pn)(e:D.Env)(c:Int)(m:List Int):(CR Tryz.prog tb (shR e c m) AM true Tryz.f199 [] (Cu true r)).goal (St.init [] [.agg (Ag e),Aa c,Ad true m]) =
  (∃ (y:Bool × Int),VC 89 [VV.agg (Ag e)] (VV.tup [Ac y.fst,Aa y.snd])/\BB (bif !y.fst then true else y.snd != 0) (LQ VV.nl (Cu true r)) (∃ (y:D.Loc),VC 84 [VV.agg (Ag e)] (VV.agg (AZ y))/\∃ (y_1:List Pn),Aj Tryz.prog 90 [Ob.box (Ag e),Ob.box [Aa c],Ob.box [Ad true m],Ob.box [VV.nl]] [VV.agg (AZ y),VV.fn (Fn.func (nat_lit 201)) [VV.bp 0 0,VV.bp 1 0,VV.bp 2 0,VV.bp 3 0]] (hsR e c m y_1) (VV.tup [])/\LQ (Cu true y_1) (Cu true r))):=by kernel_rfl
theorem TS (r out:List Pn)(e:D.Env)(c:Int)(m:List Int)(l:D.Loc):(CR Tryz.prog tb (shR e c m) J5 true Tryz.f90 (hsR e c m r) (.tup [])).goal (St.init (hsR e c m out) [.agg (AZ l),Ajn]) =
  (AB (fc (shR e c m) J5 Tryz.f90 (hsR e c m r) (VV.tup [])) [1,0,1,0] (Kn e c m out l (0:Int))):=by kernel_rfl
theorem TR (r out:List Wy)(e:D.Env)(l:D.Loc):(CR Tryz.prog tb (shW e) J4 true Tryz.f90 (hsW e r) (.tup [])).goal (St.init (hsW e out) [.agg (AZ l),Ajm]) =
  (AB (fc (shW e) J4 Tryz.f90 (hsW e r) (VV.tup [])) [1,0,1,0] (Km e out l (0:Int))):=by kernel_rfl
theorem Ac2 (r out:List Pn)(b:Bool)(e:D.Env)(c:Int)(m:List Int)(i:Int)(ws:List D.Trans):(fc Cw Qz Tryz.f201 (hsR e c m r) (Ac b)).goal (St.init (hsR e c m out) [Aa i,Au true ws,.bp 0 0,.bp 1 0,.bp 2 0,.bp 3 0]) =
  (AB (fc Cw Qz Tryz.f201 (hsR e c m r) (Ac b)) [1,0,1,0] (Pu e c m out i ws (0:Int))):=by kernel_rfl
theorem Ac3 (r out:List Wy)(b:Bool)(e:D.Env)(i:Int)(ws:List D.Trans):(fc Cw Hf Tryz.f91 (hsW e r) (Ac b)).goal (St.init (hsW e out) [Aa i,Au true ws,.bp 0 0,.bp 1 0]) =
  (∃ (y:List Ab),VC 92 [VV.agg (Ag e),Au true ws,Ac false] (B3 true y)/\AB (fc Cw Hf Tryz.f91 (hsW e r) (Ac b)) [1,0,1,0] (II e out i y (0:Int))):=by kernel_rfl
theorem We (r:List Wy)(e:D.Env):(CR Tryz.prog tb (shW e) AM true Tryz.f60 [] (A6 true r)).goal (St.init [] [.agg (Ag e)]) =
  (inX e.Pid e.S.Procs.length/\∃ (y:D.Proc),VC 87 [VV.agg (Ag e)] (VV.agg (Bf y))/\BB ((e.S.Procs.getD e.Pid.toNat default).Loc==y.Final) (BB (e.Pid==IntKind.i64.wrap ((↑e.S.Procs.length:Int) - (1:Int))) (∃ (y:Wy),VC 88 [Aa 0] (VV.agg (A0 y))/\LQ (VV.sl true 1 6 fun(i:Nat)=>List.take 6 (List.drop (i*6) (A0 y))) (A6 true r)) (LQ VV.nl (A6 true r))) (∃ (y:Bool × Int),VC 89 [VV.agg (Ag e)] (VV.tup [Ac y.fst,Aa y.snd])/\BB (y.snd != 0) (∃ (y_1:Wy),VC 88 [Aa y.snd] (VV.agg (A0 y_1))/\LQ (VV.sl true 1 6 fun(i:Nat)=>List.take 6 (List.drop (i*6) (A0 y_1))) (A6 true r)) (BB (!y.fst) (LQ VV.nl (A6 true r)) (∃ (y:D.Loc),VC 84 [VV.agg (Ag e)] (VV.agg (AZ y))/\∃ (y_1:List Wy),Aj Tryz.prog 90 [Ob.box (Ag e),Ob.box [VV.nl]] [VV.agg (AZ y),VV.fn (Fn.func (nat_lit 91)) [VV.bp 0 0,VV.bp 1 0]] (hsW e y_1) (VV.tup [])/\LQ (A6 true y_1) (A6 true r))))):=by kernel_rfl
theorem Aan (hs':List Ob)(r:VV)(e:D.Env)(l out:List Int)(k:Int)(J:St->Prop):((CR Tryz.prog tb Cw QB false Tryz.f122 hs' (r)).loop [1,1,0,1,0] J).goal (SC e l out k) =
  (BB (decide (k<(↑l.length:Int))) (inX k l.length/\∃ (y:Int × Int),VC 61 [VV.agg (Bo e),Aa (l.getD k.toNat 0)] (vII y)/\BB (y.snd != 0) (leO [] hs'/\(VV.tup [VV.nl,Aa y.snd]).le r) ((out.length+1)*8<=140737488355328/\J (Aq [(2,VV.bp 0 0),(6,VV.ow 1 0 (out.length+1)),(11,Ad true l),(12,Aa (↑l.length:Int)),(13,Aa (IntKind.i64.wrap (k+(1:Int))))] [Ob.box (Bo e),Ob.arr true 0 (out.length+1) 1 fun(i:Nat)=>bif i.blt out.length then[Aa (out.getD i 0)] else(fun(i:Nat)=>List.take 1 (List.drop (i*1) [Aa y.fst])) (i - out.length)]))) (leO [Ob.arr true 0 out.length 1 (AE out)] hs'/\(VV.tup [VV.ow 0 0 out.length,Aa 0]).le r)):=by kernel_rfl
theorem Aab (r:Int × List Int × Int)(c:Int)(f:List D.Type)(l:List Int)(k:Int)(J:St->Prop):((fc Cw QA Tryz.f162 [] (.tup [Aa r.1,Ad true r.2.1,Aa r.2.2])).loop [1,1,1,1,1,1,1,0,1,0] J).goal (Pv c f l k) =
  (BB (decide (k<(↑l.length:Int))) (inX k l.length/\inX k f.length/\∃ (y:Int),VC 37 [VV.agg (Dz (f.getD k.toNat default)),Aa (l.getD k.toNat 0)] (Aa y)/\inX k l.length/\J (Aq [(7,Aa c),(9,AJ true f),(10,VV.ow 0 0 l.length),(53,VV.ow 0 0 l.length),(54,Aa (↑l.length:Int)),(55,Aa (IntKind.i64.wrap (k+(1:Int))))] [Ob.arr true 0 l.length 1 fun(j:Nat)=>bif j.beq k.toNat then[Aa y] else[Aa (l.getD j 0)]])) (LQ (VV.tup [Aa c,Ad true l,Aa 0]) (VV.tup [Aa r.fst,Ad true r.snd.fst,Aa r.snd.snd]))):=by kernel_rfl
theorem TL (r:List Int × Int)(e:D.Env)(s:D.Stmt)(want:List Int)(k:Int)(J:St->Prop):((fc Cw I5 Tryz.f189 [] (.tup [Ad true r.1,Aa r.2])).loop [1,1,0,1,0] J).goal (Pt e s want k) =
  (BB (decide (k<(↑s.Args.length:Int))) (inX k s.Args.length/\inX k s.Match.length/\BB (s.Match.getD k.toNat 0 != 1) (J (Pt e s want (IntKind.i64.wrap (k+(1:Int))))) (∃ (y:Int × Int),VC 61 [VV.agg (Ag e),Aa (s.Args.getD k.toNat 0)] (vII y)/\BB (y.snd != 0) (LQ (VV.tup [VV.nl,Aa y.snd]) (VV.tup [Ad true r.fst,Aa r.snd])) (inX k want.length/\J (Aq [(2,VV.bp 0 0),(3,VV.bp 1 0),(6,VV.ow 2 0 want.length),(16,Ad true s.Args),(17,Aa (↑s.Args.length:Int)),(18,Aa (IntKind.i64.wrap (k+(1:Int))))] [Ob.box (Ag e),Ob.box (Ar s),Ob.arr true 0 want.length 1 fun(j:Nat)=>bif j.beq k.toNat then[Aa y.fst] else[Aa (want.getD j 0)]])))) (LQ (VV.tup [Ad true want,Aa 0]) (VV.tup [Ad true r.fst,Aa r.snd]))):=by kernel_rfl
theorem TQ (r:List Pn)(e:D.Env)(c:Int)(m:List Int)(out:List Pn)(k:Int)(J:St->Prop):((fc Cw LM Tryz.f191 [] (Cu true r)).loop [1,1,0,1,0] J).goal (L7 e c m out k) =
  (BB (decide (k<(↑e.S.Procs.length:Int))) (BB (k != e.Pid) (∃ (y:List Pn),VC 199 [VV.agg [AJ true e.M.Globals,Ad true e.M.Init,Bg true e.M.Shapes,Ad true e.M.Chans,A4 true e.M.Procs,Aa e.M.Claim,Bz true e.M.Exprs,Ad true e.S.Globals,Az true e.S.Chans,Ap true e.S.Procs,Aa e.S.Last,Aa e.S.Alone,Aa e.S.Claim,Aa k,Ac e.Timeout,Bb true e.Able],Aa c,Ad true m] (Cu true y)/\(out.length+y.length)*24<=140737488355328/\(∀ (i:Nat),i<y.length->(EX y i).all VV.mem1=true)/\J (Aq [(1,Aa c),(2,Ad true m),(3,VV.bp 0 0),(7,VV.ow 1 0 (out.length+y.length)),(13,Aa (↑e.S.Procs.length:Int)),(14,Aa (IntKind.i64.wrap (k+(1:Int))))] [Ob.box (Ag e),Ob.arr true 0 (out.length+y.length) 3 fun(i:Nat)=>bif i.blt out.length then EX out i else EX y (i - out.length)])) (J (L7 e c m out (IntKind.i64.wrap (k+(1:Int)))))) (LQ (Cu true out) (Cu true r))):=by kernel_rfl
theorem Aam (r:List Ab)(e:D.Env)(ws:List D.Trans)(self:Bool)(n:Nat)(F:Nat->List VV)(some:Bool)(k:Int)(J:St->Prop):((fc Cw F7 Tryz.f92 [] (B3 true r)).loop [1,1,1,0,1,0] J).goal (SB e ws self n F some k) =
  (BB (decide (k<(↑ws.length:Int))) (inX k ws.length/\∃ (y:Ab),VC 127 [VV.agg (Ag e),VV.agg (Ar (ws.getD k.toNat default).S),Ac self] (VV.agg (Bu y))/\inX k n/\AB ((fc Cw F7 Tryz.f92 [] (B3 true r)).loop [1,1,1,0,1,0] J) [1,1,0,0,1,1] (Aq [(1,Au true ws),(2,Ac self),(3,VV.bp 0 0),(7,VV.ow 1 0 n),(8,Ac some),(9,Aa k),(16,Au true ws),(17,Aa (↑ws.length:Int)),(18,Aa k)] [Ob.box (Ag e),Ob.arr true 0 n 3 fun(j:Nat)=>bif j.beq k.toNat then Bu y else F j])) (AB (fc Cw F7 Tryz.f92 [] (B3 true r)) [1,1,1,1,0,1,0] (Aq [(7,VV.ow 0 0 n),(8,Ac some),(40,Au true ws),(41,Aa (↑ws.length:Int)),(42,Aa 0)] [Ob.arr true 0 n 3 F]))):=by kernel_rfl
theorem Aak (r:List Ab)(e:D.Env)(ws:List D.Trans)(self:Bool)(l:List Ab)(some:Bool)(i k:Int)(J:St->Prop):(((fc Cw F7 Tryz.f92 [] (B3 true r)).loop [1,1,1,0,1,0] J).cut [1,1,0,0,1,1]).goal (SA e ws self l some i k) =
  (((true&&some==false)=true->inX i l.length)/\J (Aq [(1,Au true ws),(2,Ac self),(3,VV.bp 0 0),(7,VV.ow 1 0 l.length),(8,Ac (bif some then true else(l.getD i.toNat default).is)),(16,Au true ws),(17,Aa (↑ws.length:Int)),(18,Aa (IntKind.i64.wrap (k+(1:Int))))] [Ob.box (Ag e),Ob.arr true 0 l.length 3 (Gf l)])):=by kernel_rfl
theorem Aal (r:List Ab)(ws:List D.Trans)(l:List Ab)(some:Bool)(k:Int)(J:St->Prop):((fc Cw F7 Tryz.f92 [] (B3 true r)).loop [1,1,1,1,0,1,0] J).goal (L8 ws l some k) =
  (BB (decide (k<(↑ws.length:Int))) (inX k ws.length/\BB (bif (ws.getD k.toNat default).S.Kind==7 then !some else false) (inX k l.length/\J (Aq [(7,VV.ow 0 0 l.length),(8,Ac some),(40,Au true ws),(41,Aa (↑ws.length:Int)),(42,Aa (IntKind.i64.wrap (k+(1:Int))))] [Ob.arr true 0 l.length 3 fun(j:Nat)=>bif j.beq k.toNat then[Ac true,Aa (l.getD k.toNat default).err,Cu true (l.getD k.toNat default).wth] else Bu (l.getD j default)])) (J (L8 ws l some (IntKind.i64.wrap (k+(1:Int)))))) (LQ (B3 true l) (B3 true r))):=by kernel_rfl
theorem Wl (r:Int)(l:List Ab)(k:Int)(J:St->Prop):((fc Cw Nw Tryz.f206 [] (Aa r)).loop [1,0,1,0] J).goal (Oj l k) =
  (BB (decide (k<(↑l.length:Int))) (inX k l.length/\∃ (y:Bool),VC 204 [VV.agg (Bu (l.getD k.toNat default))] (Ac y)/\BB y (LQ (Aa k) (Aa r)) (J (Oj l (IntKind.i64.wrap (k+(1:Int)))))) (LQ (Aa (-1)) (Aa r))):=by kernel_rfl
theorem Wj (r:Int)(l:List Wy)(w:Wy)(k:Int)(J:St->Prop):((fc Cw Nv Tryz.f118 [] (Aa r)).loop [1,0,1,0] J).goal (Oi l w k) =
  (BB (decide (k<(↑l.length:Int))) (inX k l.length/\BB (w.Esc==(l.getD k.toNat default).Esc&&(w.Way==(l.getD k.toNat default).Way&&(w.With==(l.getD k.toNat default).With&&(w.WithEsc==(l.getD k.toNat default).WithEsc&&(w.WithWay==(l.getD k.toNat default).WithWay&&(w.Err==(l.getD k.toNat default).Err&&true)))))) (LQ (Aa k) (Aa r)) (J (Oi l w (IntKind.i64.wrap (k+(1:Int)))))) (LQ (Aa (-1)) (Aa r))):=by kernel_rfl
theorem Sk (r:List Pn)(e:D.Env)(c:Int)(m:List Int)(out:List Pn)(l:D.Loc)(k:Int)(J:St->Prop):((CR Tryz.prog tb (shR e c m) J5 true Tryz.f90 (hsR e c m r) (.tup [])).loop [1,0,1,0] J).goal (Kn e c m out l k) =
  (BB (decide (k<(↑l.Esc.length:Int))) (inX k l.Esc.length/\∃ (y:List Pn × Bool),Aj Tryz.prog 201 (hsR e c m out) [Aa k,Au true (l.Esc.getD k.toNat []),VV.bp 0 0,VV.bp 1 0,VV.bp 2 0,VV.bp 3 0] (hsR e c m y.fst) (Ac y.snd)/\BB y.snd (leO (hsR e c m y.fst) (hsR e c m r)/\(VV.tup []).le (VV.tup [])) (J (Kn e c m y.fst l (IntKind.i64.wrap (k+(1:Int)))))) (∃ (y:List Pn × Bool),Aj Tryz.prog 201 (hsR e c m out) [Aa (-1),Au true l.Out,VV.bp 0 0,VV.bp 1 0,VV.bp 2 0,VV.bp 3 0] (hsR e c m y.fst) (Ac y.snd)/\leO (hsR e c m y.fst) (hsR e c m r)/\(VV.tup []).le (VV.tup []))):=by kernel_rfl
theorem Si (r:List Wy)(e:D.Env)(out:List Wy)(l:D.Loc)(k:Int)(J:St->Prop):((CR Tryz.prog tb (shW e) J4 true Tryz.f90 (hsW e r) (.tup [])).loop [1,0,1,0] J).goal (Km e out l k) =
  (BB (decide (k<(↑l.Esc.length:Int))) (inX k l.Esc.length/\∃ (y:List Wy × Bool),Aj Tryz.prog 91 (hsW e out) [Aa k,Au true (l.Esc.getD k.toNat []),VV.bp 0 0,VV.bp 1 0] (hsW e y.fst) (Ac y.snd)/\BB y.snd (leO (hsW e y.fst) (hsW e r)/\(VV.tup []).le (VV.tup [])) (J (Km e y.fst l (IntKind.i64.wrap (k+(1:Int)))))) (∃ (y:List Wy × Bool),Aj Tryz.prog 91 (hsW e out) [Aa (-1),Au true l.Out,VV.bp 0 0,VV.bp 1 0] (hsW e y.fst) (Ac y.snd)/\leO (hsW e y.fst) (hsW e r)/\(VV.tup []).le (VV.tup []))):=by kernel_rfl
theorem Z4 (r:List Pn)(b:Bool)(e:D.Env)(c:Int)(m:List Int)(out:List Pn)(i:Int)(ws:List D.Trans)(k:Int)(J:St->Prop):((fc Cw Qz Tryz.f201 (hsR e c m r) (Ac b)).loop [1,0,1,0] J).goal (Pu e c m out i ws k) =
  (BB (decide (k<(↑ws.length:Int))) (inX k ws.length/\∃ (y:Bool),VC 202 [VV.agg (Ag e),VV.agg (Ar (ws.getD k.toNat default).S),Aa c,Ad true m] (Ac y)/\BB y ((out.length+1)*24<=140737488355328/\J (Aq [(0,Aa i),(1,Au true ws),(2,VV.bp 0 0),(3,VV.bp 1 0),(4,VV.bp 2 0),(5,VV.bp 3 0),(11,Au true ws),(12,Aa (↑ws.length:Int)),(13,Aa (IntKind.i64.wrap (k+(1:Int))))] [Ob.box (Ag e),Ob.box [Aa c],Ob.box [Ad true m],Ob.box [VV.ow 4 0 (out.length+1)],Ob.arr true 0 (out.length+1) 3 fun(i_1:Nat)=>bif i_1.blt out.length then LF (out.getD i_1 default) else(fun(i_2:Nat)=>List.take 3 (List.drop (i_2*3) [Aa e.Pid,Aa i,Aa k])) (i_1 - out.length)])) (J (Pu e c m out i ws (IntKind.i64.wrap (k+(1:Int)))))) (∃ (y:List Ab),((true&&decide ((↑out.length:Int) > 0)==false)=true->VC 92 [VV.agg (Ag e),Au true ws,Ac true] (B3 true y))/\∃ (y_1:Bool),((true&&decide ((↑out.length:Int) > 0)==false)=true->VC 203 [B3 true y,VV.fn (Fn.func (nat_lit 204)) []] (Ac y_1))/\leO (hsR e c m out) (hsR e c m r)/\(Ac (bif decide ((↑out.length:Int) > 0) then true else y_1)).le (Ac b))):=by kernel_rfl
theorem Z8 (r:List Wy)(b:Bool)(e:D.Env)(out:List Wy)(i:Int)(l:List Ab)(k:Int)(J:St->Prop):((fc Cw Hf Tryz.f91 (hsW e r) (Ac b)).loop [1,0,1,0] J).goal (II e out i l k) =
  (BB (decide (k<(↑l.length:Int))) (inX k l.length/\BB (bif (l.getD k.toNat default).is then(↑(l.getD k.toNat default).wth.length:Int)==0 else false) ((out.length+1)*48<=140737488355328/\AB ((fc Cw Hf Tryz.f91 (hsW e r) (Ac b)).loop [1,0,1,0] J) [1,1,0,0,1,1,1,1,0] (Aq [(0,Aa i),(3,VV.bp 1 0),(9,VV.bp 3 0),(14,B3 true l),(15,Aa (↑l.length:Int)),(16,Aa k),(39,Cu true (l.getD k.toNat default).wth),(40,Aa (↑(l.getD k.toNat default).wth.length:Int)),(41,Aa 0)] [Ob.box (Ag e),Ob.box [VV.ow 2 0 (out.length+1)],Ob.arr true 0 (out.length+1) 6 fun(i_1:Nat)=>bif i_1.blt out.length then A0 (out.getD i_1 default) else(fun(i_2:Nat)=>List.take 6 (List.drop (i_2*6) [Aa i,Aa k,Aa (-1),Aa (-1),Aa (-1),Aa (l.getD k.toNat default).err])) (i_1 - out.length),Ob.box [Aa i,Aa k,Aa (-1),Aa (-1),Aa (-1),Aa (l.getD k.toNat default).err]])) (AB ((fc Cw Hf Tryz.f91 (hsW e r) (Ac b)).loop [1,0,1,0] J) [1,1,0,0,1,1,1,1,0] (Aq [(0,Aa i),(3,VV.bp 1 0),(9,VV.bp 3 0),(14,B3 true l),(15,Aa (↑l.length:Int)),(16,Aa k),(39,Cu true (l.getD k.toNat default).wth),(40,Aa (↑(l.getD k.toNat default).wth.length:Int)),(41,Aa 0)] [Ob.box (Ag e),Ob.box [VV.ow 2 0 out.length],Ob.arr true 0 out.length 6 (IN out),Ob.box [Aa i,Aa k,Aa (-1),Aa (-1),Aa (-1),Aa (l.getD k.toNat default).err]]))) (leO (hsW e out) (hsW e r)/\(Ac (decide ((↑out.length:Int) > 0))).le (Ac b))):=by kernel_rfl
theorem Z7 (r:List Wy)(b:Bool)(e:D.Env)(out:List Wy)(i:Int)(l:List Ab)(k:Int)(w:Wy)(ps:List Pn)(j:Int)(J J2:St->Prop):(((fc Cw Hf Tryz.f91 (hsW e r) (Ac b)).loop [1,0,1,0] J).loop [1,1,0,0,1,1,1,1,0] J2).goal (L6 e out i l k w ps j) =
  (BB (decide (j<(↑ps.length:Int))) (inX j ps.length/\(out.length+1)*48<=140737488355328/\J2 (Aq [(0,Aa i),(3,VV.bp 1 0),(9,VV.bp 3 0),(14,B3 true l),(15,Aa (↑l.length:Int)),(16,Aa k),(39,Cu true ps),(40,Aa (↑ps.length:Int)),(41,Aa (IntKind.i64.wrap (j+(1:Int))))] [Ob.box (Ag e),Ob.box [VV.ow 2 0 (out.length+1)],Ob.arr true 0 (out.length+1) 6 fun(i:Nat)=>bif i.blt out.length then A0 (out.getD i default) else(fun(i:Nat)=>List.take 6 (List.drop (i*6) [Aa w.Esc,Aa w.Way,Aa (ps.getD j.toNat default).pid,Aa (ps.getD j.toNat default).esc,Aa (ps.getD j.toNat default).way,Aa w.Err])) (i - out.length),Ob.box [Aa w.Esc,Aa w.Way,Aa (ps.getD j.toNat default).pid,Aa (ps.getD j.toNat default).esc,Aa (ps.getD j.toNat default).way,Aa w.Err]])) (J (II e out i l (IntKind.i64.wrap (k+(1:Int)))))):=by kernel_rfl
end Go.Proofs.YtmdcknlpalfhhaaGreatDoor
namespace Go.Proofs.YtmdcknlpalfhhaaGreatDoor
open Go.RowKit
structure CM (e:D.Env):Prop where
 ok:B4 e
 p0:0<=e.Pid
section
variable {e : D.Env}
theorem Acu (hw:Av e.M)(h:G7 e=0):CM e:=by
 unfold G7 at h
 cases c1:decide (Ci e.M e.S≠0) with
 | true=>rw[c1,AkQ]at h;exact absurd h (AkW c1)
 | false =>
  rw[c1,AkN]at h
  obtain⟨h1,h2⟩:=LI (show Ci e.M e.S=0 by simpa using c1)
  cases c2:(decide (e.Pid<0)||decide ((e.S.Procs.length:Int)<=e.Pid)) with
  | true=>rw[c2,AkQ]at h;simp at h
  | false =>
   simp only[Ald,Alq]at c2
   exact⟨⟨h2,h1,hw,by omega,by omega⟩,by omega⟩
theorem CM.small (h:CM e):Be e.S:=h.ok.fit.small
theorem CM.lt (h:CM e):e.Pid.toNat<e.S.Procs.length:=by have:=h.ok.pid;have:=h.p0;omega
theorem CM.mem (h:CM e):DR e e.Pid∈e.S.Procs:=Aw h.lt
theorem CM.facts (h:CM e):(0<=(DR e e.Pid).Type_/\(DR e e.Pid).Type_<e.M.Procs.length)/\(0<=(DR e e.Pid).Loc/\(DR e e.Pid).Loc<(D1 e).Locs.length) :=
 let hp:=EB (h.ok.proc h.mem);⟨hp.1,hp.2.1⟩
theorem CM.wproc (h:CM e):Kh (D1 e):=h.ok.wf.Procs.2 _ (Aw (by have:=h.facts.1;omega))
theorem CM.wloc (h:CM e):O0 (Dp e):=h.wproc.Locs.2 _ (Aw (by have:=h.facts.2;omega))
theorem TW (hw:Av e.M)(hs:Be e.S):Aj Tryz.prog 80 [] [.agg (Ag e)] [] (Aa (G7 e)):=by
 refine Ah Al Am Tryz.func80 (by kernel_rfl) rfl (AfO _ e) ⟨_,Gx hw hs (fun h=>(G3 h).clp),fun h=>C4 (ct (by simpa using h) rfl),fun h=>⟨fun h1=>C4 (cf (by simpa using h) (ct ?_ rfl)),fun h1=>C4 (cf (by simpa using h) (cf ?_ rfl))⟩⟩
 ·simp only[A7,Amk]at h1;exact h1
 ·simp only[A7,Amk]at h1;exact h1
theorem Kg (h:CM e):Aj Tryz.prog 84 [] [.agg (Ag e)] [] (.agg (AZ (Dp e))) :=
 Ah Al Am Tryz.func84 (by kernel_rfl) rfl (Ac5 _ e) ⟨⟨h.p0,h.ok.pid.2⟩,h.facts.1,h.facts.2,trivial,VV.le_refl _⟩
theorem OR (h:CM e):Aj Tryz.prog 87 [] [.agg (Ag e)] [] (.agg (Bf (D1 e))) :=
 Ah Al Am Tryz.func87 (by kernel_rfl) rfl (Z6 _ e) ⟨⟨h.p0,h.ok.pid.2⟩,h.facts.1,trivial,VV.le_refl _⟩
theorem IC {x:Int}(h:0<=x->x<e.M.Exprs.length):Aj Tryz.prog 119 [] [.agg (Ae e.M),Aa x] [] (Ac (DP e x)):=by
 refine Ah Al Am Tryz.func119 (by kernel_rfl) rfl (ZZ _ e.M x) ⟨fun hx=>?_,AG ?_⟩
 ·have hx:0<=x:=by simpa using hx
  exact⟨hx,h hx⟩
 ·unfold DP Ax
  rw[A8,ieq]
theorem OP : Aj Tryz.prog 167 [] [.agg (Ag e)] [] (.agg (Bu (NQ e))):=by
 refine Ah Al Am Tryz.func167 (by kernel_rfl) rfl (Z2 _ e) ⟨trivial,Al8 ⟨Al0 ?_,VV.le_refl _,AlE,trivial⟩⟩
 have:decide ((e.S.Procs.length:Int)<16)=decide (e.S.Procs.length<16):=by rw[Alc,AkS,AkS];omega
 rw[this]<;>rfl
theorem OS {err:Int}:Aj Tryz.prog 88 [] [Aa err] [] (.agg (A0 (K5 err))) :=
 Ah Al Am Tryz.func88 (by kernel_rfl) rfl (Z9 _ err) ⟨trivial,VV.le_refl _⟩
theorem ZU {l:D.Loc}{esc i:Int}(h1:esc<0->0<=i/\i<l.Out.length)(h2:0<=esc->esc<l.Esc.length/\0<=i/\i<(l.Esc.getD esc.toNat []).length) :
  Aj Tryz.prog 83 [] [.agg (AZ l),Aa esc,Aa i] [] (.agg (CY ((bif decide (esc<0) then l.Out else l.Esc.getD esc.toNat []).getD i.toNat default))):=by
 refine Ah Al Am Tryz.func83 (by kernel_rfl) rfl (Ac0 _ l esc i) ⟨fun h=>⟨h1 (by simpa using h),trivial,?_⟩,fun h=>?_⟩
 ·rw[h,AkQ];exact VV.le_refl _
 ·have h0:0<=esc:=by simpa using h
  refine⟨⟨h0,(h2 h0).1⟩,(h2 h0).2,trivial,?_⟩
  rw[h,AkN];exact VV.le_refl _
theorem NG {ev:Evl}{out:List Int}{x:Int}{l:List Int}:Jj ev out (x::l)=bif decide ((ev x).2≠0) then([],(ev x).2) else Jj ev (out++[(ev x).1]) l:=rfl
theorem TX {l:List Int}{hs':List Ob}{r:VV}(hev:∀ x∈l,Aj Tryz.prog 61 [] [.agg (Bo e),Aa x] [] (vII (AY e x)))(hl:l.length<=1048576)
  (h1:∀ er,BS e l=([],er)->er≠0->leO [] hs'/\VV.le (.tup [.nl,Aa er]) r) (h2:∀ out,BS e l=(out,0)->leO [.arr true 0 out.length 1 (AE out)] hs'/\VV.le (.tup [.ow 0 0 out.length,Aa 0]) r) :
  Aj Tryz.prog 122 [] [.agg (Bo e),Ad true l] hs' r:=by
 refine Ah Al Am Tryz.func122 (by kernel_rfl) rfl (Ac7 hs' r e l) ?_
 refine AB.own 1 6 1 (AE []) rfl ?_
 change AB _ _ (SC e l [] 0)
 refine Br Al Am (fun g st=>∃ (k:Nat) (out:List Int),k<=l.length/\g=l.length - k/\out.length<=k/\Jj (AY e) out (l.drop k)=BS e l/\st=SC e l out k) (by kernel_rfl) (by kernel_rfl) ⟨_,Up.of ⟨0,[],AkV _,rfl,AkV _,rfl,rfl⟩⟩ ?_
 rintro g st ⟨k,out,hk,rfl,ho,hq,rfl⟩
 refine Ali (Aan hs' r e l out k _) ⟨fun hlt=>?_,fun hge=>?_⟩
 ·have hlt':k<l.length:=by have:=A3 hlt;omega
  have hto:(k:Int).toNat=k:=by omega
  rw[hto]
  rw[BN (d:=0) hlt',NG]at hq
  refine⟨⟨by omega,by omega⟩,AY e (l.getD k 0),hev _ (Aw hlt'),fun he=>?_,fun he=>⟨by omega,l.length - (k+1),by omega,Up.mk (hs':=[.box (Bo e),.arr true 0 (out.length+1) 1 (AE (out++[(AY e (l.getD k 0)).1]))]) (AV _) ⟨Ob.le_refl _,AlB fun i hi=>AQ (BQ (f:=fun n=>[Aa n]) (d:=0) (l:=out) (r:=[(AY e (l.getD k 0)).1]) (F:=fun i=>[.sc (.int .i64 (out.getD i 0))]) (fun _ _=>rfl) Hs (by simp;omega)),trivial⟩ ⟨k+1,out++[(AY e (l.getD k 0)).1],by omega,rfl,by simp;omega,?_,?_⟩⟩⟩
  ·rw[show decide ((AY e (l.getD k 0)).2≠0)=true by simpa using he,AkQ]at hq
   exact h1 _ hq.symm (by simpa using he)
  ·rw[show decide ((AY e (l.getD k 0)).2≠0)=false by simpa using he,AkN]at hq
   exact hq
  ·rw[An (by omega)]
   unfold SC
   rw[Ak4]<;>rfl
 ·have hge':l.length<=k:=by have:=A5 hge;omega
  rw[Alz hge']at hq
  exact h2 out hq.symm
theorem MS {l:List Int}(hev:∀ x∈l,Aj Tryz.prog 61 [] [.agg (Bo e),Aa x] [] (vII (AY e x)))(hl:l.length<=1048576) :
  Aj Tryz.prog 122 [] [.agg (Bo e),Ad true l] [.arr true 0 (BS e l).1.length 1 (AE (BS e l).1)] (.tup [.ow 0 0 (BS e l).1.length,Aa (BS e l).2]):=by
 rcases hq:BS e l with⟨out,er⟩
 by_cases he:er=0
 ·subst he
  refine TX hev hl (fun er' h h'=>?_) fun out' h=>?_
  ·rw[hq]at h;exact absurd (congrArg Prod.snd h).symm h'
  ·rw[hq]at h
   obtain rfl:out=out':=congrArg Prod.fst h
   exact⟨⟨Ob.le_refl _,trivial⟩,VV.le_refl _⟩
 ·have hout:out=[]:=by
   have key:∀ (l:List Int) (o:List Int),(Jj (AY e) o l).2≠0->(Jj (AY e) o l).1=[]:=by
    intro l
    induction l with
    | nil=>intro o h;exact absurd rfl h
    | cons x l ih =>
     intro o h
     rw[NG]at h ⊢
     cases c:decide ((AY e x).2≠0) with
     | true=>rfl
     | false=>rw[c,AkN]at h;exact ih _ h
   have:=key l [] (by have:Jj (AY e) [] l=(out,er):=hq;rw[this];exact he)
   have e2:Jj (AY e) [] l=(out,er):=hq
   rw[e2]at this;exact this
  subst hout
  have h:=TX (hs':=[]) (r:=.tup [.nl,Aa er]) hev hl (fun er' h h'=>?_) fun out' h=>?_
  ·exact h.ownR 0 rfl 1 (AE [])
  ·rw[hq]at h
   obtain rfl:er=er':=congrArg Prod.snd h
   exact⟨trivial,VV.le_refl _⟩
  ·rw[hq]at h;exact absurd (congrArg Prod.snd h) he
end
theorem BP {x:VV}(hx:x.mem=true):Pj x x:=fun _ E _ h B =>
 (h.mem (E':=⟨E.fz,B,0,[]⟩) (m':=none) hx rfl).less (fun _ h=>h.elim) fun _ h=>h
theorem MW : ∀ {l:List VV},l.all VV.mem=true->Pk l l
 | [],_=>trivial
 | x::l,h=>by
  simp only[AmL,AkO]at h
  exact⟨BP h.1,MW h.2⟩
theorem L3 {e:D.Env}:Pj (.agg (Bo e)) (.agg (Ag e)) :=
 Ui ⟨BP rfl,BP rfl,BP rfl,BP rfl,BP rfl,BP rfl,BP rfl,BP rfl,YH fun _ _=>MW rfl,YH fun _ _=>MW rfl,BP rfl,BP rfl,BP rfl,BP rfl,BP rfl,BP rfl,trivial⟩
theorem Ag9 {e:D.Env}:leS (.agg (Ag e)) (.agg (Bo e)):=by
 refine Zs rfl fun j x y hx hy=>?_
 rcases Alw j 16 with hj | hj
 ·rcases(show j=0∨j=1∨j=2∨j=3∨j=4∨j=5∨j=6∨j=7∨j=8∨j=9∨j=10∨j=11∨j=12∨j=13∨j=14∨j=15 by omega) with rfl | rfl | rfl | rfl | rfl | rfl | rfl | rfl | rfl | rfl | rfl | rfl | rfl | rfl | rfl | rfl <;>
   (obtain rfl:=Ak9 hx;obtain rfl:=Ak9 hy;first | exact Dv _ | exact P9)
 ·rw[Al6 (by show(16:Nat)<=j;exact hj)]at hx;cases hx
section
variable {e : D.Env}
theorem Qj (hw:Av e.M)(hs:Be e.S)(x:Int):Aj Tryz.prog 61 [] [.agg (Bo e),Aa x] [] (vII (AY e x)) :=
 (G8 hw hs x).thaw (M9 fun x hx=>by
  simp only[AlC,List.not_mem_nil,or_false]at hx
  rcases hx with rfl | rfl<;>exact PR) ⟨L3,YI,trivial⟩
theorem Ajj (hw:Av e.M)(hs:Be e.S)(x:Int):Aj Tryz.prog 183 [] [.agg (Bo e),Aa x] [] (vII (AD e x)) :=
 (IY hw hs x).thaw (M9 fun x hx=>by
  simp only[AlC,List.not_mem_nil,or_false]at hx
  rcases hx with rfl | rfl<;>exact PR) ⟨L3,YI,trivial⟩
theorem Vl (t:D.Type)(v:Int):Aj Tryz.prog 37 [] [.agg (Dz t),Aa v] [] (Aa (IW t v)):=by
 refine Aj.hand ⟨_,Tryz.func37,rfl,by kernel_rfl⟩ fun w E vs hA hL hB _ hs0=>?_
 obtain⟨u1,us1,rfl,v1,hs0⟩:=hs0.cons_inv
 obtain⟨u2,us2,rfl,v2,hs0⟩:=hs0.cons_inv
 obtain rfl:=hs0.nil_inv
 obtain⟨a,b,rfl,va,vb⟩:=v1.agg2_inv
 rw[va.sc_inv,vb.sc_inv,v2.sc_inv]
 refine(AfW t.Bits v t.Signed w).mono ?_
 rintro r w' ⟨rfl,hb⟩
 exact⟨_,rfl,.sc,hb⟩
structure AhK (e:D.Env) (n:Int):Prop where
 ok:B4 e
 lo:1<=n
 hi:n<=e.S.Chans.length
 le:e.S.Chans.length<=32
 sh:0<=(Co e n).Shape/\(Co e n).Shape<e.M.Shapes.length
 q:(Co e n).Queue.length<=16
theorem JU (hw:Av e.M){x:Int}(h:(AD e x).2=0):AhK e (AD e x).1:=by
 unfold AD at h ⊢
 cases c:decide (CG e x≠0) with
 | true=>rw[c,AkQ]at h;exact absurd h (AkW c)
 | false =>
  rw[c,AkN]at h
  rw[AkN]
  obtain⟨hE,_,_⟩:=IX (x:=x) hw (by simpa using c)
  have hn:=TB hE (a:=x) (by simpa using h)
  generalize (DH e (R6 e e.M.Exprs.length) x).1=n at hn ⊢
  have hm:Co e n∈e.S.Chans:=Aw (by omega)
  exact⟨hE,hn.1,hn.2.1,hn.2.2,(FH (hE.chan hm)).1,(hE.fit.q _ hm).1⟩
theorem Gi {a b:Nat}:((a:Int) != (b:Int))=decide (a≠b):=by
 rw[Alc,bne_iff_ne,AkS];omega
theorem Akf {a c:Int}{l:List Int}{r:Int × List Int × Int}(h:(a,l,c)=r):leO [] []/\VV.le (.tup [.sc (.int .i64 a),Ad true l,.sc (.int .i64 c)]) (.tup [.sc (.int .i64 r.1),Ad true r.2.1,.sc (.int .i64 r.2.2)]):=by
 subst h;exact⟨trivial,VV.le_refl _⟩
theorem XL {a c:Int}{r:Int × List Int × Int}(h:(a,[],c)=r):leO [] []/\VV.le (.tup [.sc (.int .i64 a),.nl,.sc (.int .i64 c)]) (.tup [.sc (.int .i64 r.1),Ad true r.2.1,.sc (.int .i64 r.2.2)]):=by
 subst h;exact⟨trivial,Amq ⟨VV.le_refl _,AlE,VV.le_refl _,trivial⟩⟩
theorem QJ {l:List Int}(h:(BS e l).2=0):(BS e l).1.length=l.length:=by
 have key:∀ (l o:List Int),(Jj (AY e) o l).2=0->(Jj (AY e) o l).1.length=o.length+l.length:=by
  intro l
  induction l with
  | nil=>intro o _;rfl
  | cons x l ih =>
   intro o h
   rw[NG]at h ⊢
   cases c:decide ((AY e x).2≠0) with
   | true=>rw[c,AkQ]at h;exact absurd h (AkW c)
   | false =>
    rw[c,AkN]at h
    rw[AkN,ih _ h];simp;omega
 have:=key l [] h
 simpa[BS] using this
def JR (f:List D.Type)(l:List Int)(k:Nat):List Int:=(List.range l.length).map fun i=>if i<k then IW (f.getD i default) (l.getD i 0) else l.getD i 0
theorem KJ {f:List D.Type}{l:List Int}{k:Nat}:(JR f l k).length=l.length:=by simp[JR]
theorem KK {f:List D.Type}{l:List Int}{k i:Nat}(hi:i<l.length):(JR f l k).getD i 0=if i<k then IW (f.getD i default) (l.getD i 0) else l.getD i 0:=by simp[JR,List.getD,hi]
theorem X0 {f:List D.Type}{l:List Int}:JR f l 0=l:=by
 apply List.ext_getElem (by simp[JR])
 intro i h1 h2
 simp[JR,List.getD,h2]
theorem Aco {f:List D.Type}{l:List Int}:JR f l l.length=Oa f l:=by
 unfold JR Oa
 apply Al3
 intro i hi
 rw[Alj (AlD.1 hi)]
theorem OT {s:D.Stmt}(hw:Av e.M)(hs:Be e.S)(hl:s.Args.length<=1048576) :
  Aj Tryz.prog 162 [] [.agg (Bo e),.agg (Ar s)] [] (.tup [Aa (AA e s).1,Ad true (AA e s).2.1,Aa (AA e s).2.2]):=by
 have hq:AA e s=bif decide ((AD e s.A).2≠0) then(0,[],(AD e s.A).2)
  else bif decide ((Bd e (AD e s.A).1).length≠s.Args.length) then(0,[],49)
  else bif decide ((BS e s.Args).2≠0) then(0,[],(BS e s.Args).2)
  else((AD e s.A).1,Oa (Bd e (AD e s.A).1) (BS e s.Args).1,0):=rfl
 generalize AA e s=r at hq
 refine Ah Al Am Tryz.func162 (by kernel_rfl) rfl (Ac4 r e s) ⟨AD e s.A,Ajj hw hs s.A,fun h=>XL ?_,fun h=>?_⟩
 ·rw[hq,show decide ((AD e s.A).2≠0)=true by simpa using h]<;>rfl
 have h0:(AD e s.A).2=0:=by simpa using h
 rw[h0]at hq
 have hc:=JU hw h0
 generalize (AD e s.A).1=n at hc hq ⊢
 have h1:=hc.lo
 have h2:=hc.hi
 have h3:=hc.le
 rw[BF (by omega) (by omega)]
 refine⟨by omega,hc.sh,fun hf=>XL ?_,fun hf=>⟨BS e s.Args,MS (fun x _=>Qj hw hs x) hl,fun ha=>XL ?_,fun ha=>?_⟩⟩
 ·rw[Gi]at hf
  rw[hq]
  have:decide ((Bd e n).length≠s.Args.length)=true:=hf
  rw[this]<;>rfl
 ·rw[Gi]at hf
  rw[hq,show decide ((Bd e n).length≠s.Args.length)=false from hf,show decide ((BS e s.Args).2≠0)=true by simpa using ha]<;>rfl
 rw[Gi]at hf
 have ha0:(BS e s.Args).2=0:=by simpa using ha
 have hlen:=QJ ha0
 rw[show decide ((Bd e n).length≠s.Args.length)=false from hf,ha0]at hq
 have hfl:(Bd e n).length=s.Args.length:=Classical.not_not.1 (Ak6 hf)
 change AB _ _ (Aq [(7,Aa n),(9,AJ true (Bd e n)),(10,.ow 0 0 (BS e s.Args).1.length),(53,.ow 0 0 (BS e s.Args).1.length),(54,Aa (BS e s.Args).1.length),(55,Aa 0)] [.arr true 0 (BS e s.Args).1.length 1 (AE (BS e s.Args).1)])
 generalize Bd e n=f at hq hfl ⊢
 generalize (BS e s.Args).1=l at hq hlen ⊢
 change r=(n,Oa f l,0) at hq
 refine Br Al Am (fun g st=>∃ k:Nat,k<=l.length/\g=l.length - k/\st=Pv n f (JR f l k) k) (by kernel_rfl) (by kernel_rfl) ⟨_,Up.of ⟨0,AkV _,rfl,by unfold Pv;rw[X0]<;>rfl⟩⟩ ?_
 rintro g st ⟨k,hk,rfl,rfl⟩
 refine Ali (Aab r n f _ k _) ⟨fun hlt=>?_,fun hge=>Akf ?_⟩
 ·rw[KJ]at hlt
  have hlt':k<l.length:=by have:=A3 hlt;omega
  have hto:(k:Int).toNat=k:=by omega
  rw[hto,KJ,KK hlt',Ak3 (Am1 _)]
  refine⟨by omega,by omega,IW (f.getD k default) (l.getD k 0),Vl _ _,by omega,l.length - (k+1),by omega,Up.mk (hs':=[.arr true 0 l.length 1 (AE (JR f l (k+1)))]) (AV _) ⟨AlB fun i hi=>AQ ?_,trivial⟩ ⟨k+1,by omega,rfl,?_⟩⟩
  ·by_cases hik:i=k
   ·subst hik
    simp only[Al5,AkQ]
    unfold AE
    rw[KK hlt',Alj (AlP _)]<;>rfl
   ·have hb:Nat.beq i k=false:=by
     cases hq:Nat.beq i k with
     | true=>exact absurd (AkT hq) hik
     | false=>rfl
    simp only[hb,AkN]
    unfold AE
    rw[KK hi,KK hi]
    by_cases h:i<k
    ·rw[Alj h,Alj (by omega)]<;>rfl
    ·rw[Ak3 h,Ak3 (by omega)]<;>rfl
  ·rw[An (by omega)]
   unfold Pv
   rw[KJ]<;>rfl
 ·rw[KJ]at hge
  have hge':k=l.length:=by have:=A5 hge;omega
  subst hge'
  rw[Aco,hq]
theorem Aaa {s:D.Stmt}(hw:Av e.M)(hs:Be e.S)(hl:s.Args.length<=1048576) :
  Aj Tryz.prog 162 [] [.agg (Ag e),.agg (Ar s)] [] (.tup [Aa (AA e s).1,Ad true (AA e s).2.1,Aa (AA e s).2.2]) :=
 (OT hw hs hl).frz rfl fun j x y hx hy=>by
  match j,hx,hy with
  | 0,hx,hy=>obtain rfl:=Ak9 hx;obtain rfl:=Ak9 hy;exact Ag9
  | 1,hx,hy=>obtain rfl:=Ak9 hx;obtain rfl:=Ak9 hy;exact Dv _
  | j+2,hx,_=>simp at hx
end
theorem Akg {c:Int}{l:List Int}{r:List Int × Int}(h:(l,c)=r):leO [] []/\VV.le (.tup [Ad true l,.sc (.int .i64 c)]) (.tup [Ad true r.1,.sc (.int .i64 r.2)]):=by
 subst h;exact⟨trivial,VV.le_refl _⟩
theorem Ai8 {c:Int}{r:List Int × Int}(h:([],c)=r):leO [] []/\VV.le (.tup [.nl,.sc (.int .i64 c)]) (.tup [Ad true r.1,.sc (.int .i64 r.2)]):=by
 subst h;exact⟨trivial,Amq ⟨AlE,VV.le_refl _,trivial⟩⟩
section
variable {e : D.Env}
theorem NJ {s:D.Stmt}(hw:Av e.M)(hs:Be e.S)(hl:s.Args.length<=1048576)(hm:s.Match.length=s.Args.length) :
  Aj Tryz.prog 189 [] [.agg (Ag e),.agg (Ar s)] [] (.tup [Ad true (CZ e s).1,Aa (CZ e s).2]):=by
 have hq:CZ e s=bif decide (ER (AY e) s.Args s.Match s.Args.length≠0) then([],ER (AY e) s.Args s.Match s.Args.length) else(MV (AY e) s.Args s.Match,0):=rfl
 generalize CZ e s=r at hq
 generalize hev:AY e=ev at hq
 have hS:∀ x,Aj Tryz.prog 61 [] [.agg (Ag e),Aa x] [] (vII (ev x)):=fun x=>by rw[← hev];exact G8 hw hs x
 refine Ah Al Am Tryz.func189 (by kernel_rfl) rfl (V4 r e s) ⟨⟨by omega,by omega,by omega⟩,?_⟩
 refine Br Al Am (fun gg st=>∃ k:Nat,k<=s.Args.length/\gg=s.Args.length - k/\(∀ i,i<k->(Eo ev (s.Args.getD i 0) (s.Match.getD i 0)).2=0)/\st=Pt e s (B5 ev s.Args s.Match k) k) (by kernel_rfl) (by kernel_rfl)
  ⟨s.Args.length,Up.mk (l':=[(2,.bp 0 0),(3,.bp 1 0),(6,.ow 2 0 (B5 ev s.Args s.Match 0).length),(16,Ad true s.Args),(17,Aa s.Args.length),(18,Aa ((0:Nat):Int))])
   (hs':=[.box (Ag e),.box (Ar s),.arr true 0 (B5 ev s.Args s.Match 0).length 1 (AE (B5 ev s.Args s.Match 0))]) ?_ ?_ ⟨0,AkV _,rfl,fun i hi=>by omega,rfl⟩⟩ ?_
 ·rw[Cg];exact AV _
 ·rw[Cg]
  refine⟨Ob.le_refl _,Ob.le_refl _,AlB fun i hi=>AQ ?_,trivial⟩
  have hz:AE (B5 ev s.Args s.Match 0) i=[Aa 0]:=by
   unfold AE
   rw[Fk (by omega),Ak3 (AlZ _)]
  refine Eq.trans ?_ hz.symm
  rfl
 ·rintro gg st ⟨k,hk,rfl,hI,rfl⟩
  refine Ali (TL r e s _ k _) ⟨fun hlt=>?_,fun hge=>Akg ?_⟩
  ·have hlt':k<s.Args.length:=by have:=A3 hlt;omega
   have hto:(k:Int).toNat=k:=by omega
   rw[hto]
   refine⟨by omega,by omega,fun hy=>?_,fun hy=>⟨ev (s.Args.getD k 0),hS _,fun hz=>Ai8 ?_,fun hz=>⟨by rw[Cg];omega,?_⟩⟩⟩
   ·rw[AK]at hy
    have h1:=AkW hy
    have hv:Eo ev (s.Args.getD k 0) (s.Match.getD k 0)=(0,0):=by unfold Eo;rw[Alm h1]<;>rfl
    have e1:B5 ev s.Args s.Match k=B5 ev s.Args s.Match (k+1):=by
     unfold B5
     apply Al3
     intro i _
     by_cases hik:i=k
     ·subst hik;rw[Ak3 (Am1 _),Alj (AlP _),hv]
     ·by_cases hlt2:i<k
      ·rw[Alj hlt2,Alj (by omega)]
      ·rw[Ak3 hlt2,Ak3 (by omega)]
    rw[e1,An (by omega)]
    exact⟨s.Args.length - (k+1),by omega,Up.of ⟨k+1,by omega,rfl,FO hI (by rw[hv]),rfl⟩⟩
   ·have hm1:decide (s.Match.getD k 0=1)=true:=by rw[AK]at hy;simpa using hy
    have hv:Eo ev (s.Args.getD k 0) (s.Match.getD k 0)=ev (s.Args.getD k 0):=by unfold Eo;rw[hm1]<;>rfl
    have hnz:(Eo ev (s.Args.getD k 0) (s.Match.getD k 0)).2≠0:=by rw[hv];simpa using hz
    have he:ER ev s.Args s.Match s.Args.length=(ev (s.Args.getD k 0)).2:=by
     unfold ER
     rw[Qi (f:=fun i=>(Eo ev (s.Args.getD i 0) (s.Match.getD i 0)).2) hI hnz hlt',hv]
    rw[hq,he]
    exact ct (by simpa using hz) rfl
   ·have hm1:decide (s.Match.getD k 0=1)=true:=by rw[AK]at hy;simpa using hy
    have hv:Eo ev (s.Args.getD k 0) (s.Match.getD k 0)=ev (s.Args.getD k 0):=by unfold Eo;rw[hm1]<;>rfl
    have h2:(ev (s.Args.getD k 0)).2=0:=by simpa using hz
    rw[An (by omega)]
    refine⟨s.Args.length - (k+1),by omega,Up.mk (l':=[(2,.bp 0 0),(3,.bp 1 0),(6,.ow 2 0 (B5 ev s.Args s.Match (k+1)).length),(16,Ad true s.Args),(17,Aa s.Args.length),(18,Aa ((k+1:Nat):Int))])
     (hs':=[.box (Ag e),.box (Ar s),.arr true 0 (B5 ev s.Args s.Match (k+1)).length 1 (AE (B5 ev s.Args s.Match (k+1)))]) ?_ ?_ ⟨k+1,by omega,rfl,FO hI (by rw[hv];exact h2),rfl⟩⟩
    ·rw[Cg,Cg];exact AV _
    ·rw[Cg,Cg]
     refine⟨Ob.le_refl _,Ob.le_refl _,AlB fun i hi=>AQ ?_,trivial⟩
     show(bif i.beq k then[Aa (ev (s.Args.getD k 0)).1] else[Aa ((B5 ev s.Args s.Match k).getD i 0)])=[Aa ((B5 ev s.Args s.Match (k+1)).getD i 0)]
     rw[Fk hi,Fk hi]
     cases hq:i.beq k with
     | true =>
      have:=AkT hq;subst this
      rw[AkQ,Alj (AlP _),hv]
     | false =>
      have:i≠k:=Nat.ne_of_beq_eq_false hq
      rw[AkN]
      by_cases hlt2:i<k
      ·rw[Alj hlt2,Alj (by omega)]
      ·rw[Ak3 hlt2,Ak3 (by omega)]
  ·obtain rfl:k=s.Args.length:=by have:=A5 hge;omega
   have he:ER ev s.Args s.Match s.Args.length=0:=KM hI
   rw[hq,he,O5]<;>rfl
theorem Vo {c:D.Chan}{l mt:List Int}{any:Bool}(hc:Len c.Queue.length)(hm:Len mt.length):Aj Tryz.prog 172 [] [.agg (AL c),Ad true l,Ad true mt,Ac any] [] (Aa (JS c l mt any)) :=
 (RZ hc hm).frz rfl fun j x y hx hy=>by
  match j,hx,hy with
  | 0,hx,hy=>obtain rfl:=Ak9 hx;obtain rfl:=Ak9 hy;exact Dv _
  | 1,hx,hy=>obtain rfl:=Ak9 hx;obtain rfl:=Ak9 hy;exact P9
  | 2,hx,hy=>obtain rfl:=Ak9 hx;obtain rfl:=Ak9 hy;exact Dv _
  | 3,hx,hy=>obtain rfl:=Ak9 hx;obtain rfl:=Ak9 hy;exact Dv _
  | j+4,hx,_=>simp at hx
theorem NL {s:D.Stmt}(hw:Av e.M)(hs:Be e.S)(hl:s.Args.length<=1048576)(hm:s.Match.length=s.Args.length) :
  Aj Tryz.prog 165 [] [.agg (Ag e),.agg (Ar s)] [] (L2 (Ba e s)):=by
 have hq:Ba e s=bif decide ((AD e s.A).2≠0) then(0,-1,(AD e s.A).2)
  else bif decide ((Bd e (AD e s.A).1).length≠s.Args.length) then(0,-1,49)
  else bif decide ((CZ e s).2≠0) then(0,-1,(CZ e s).2)
  else((AD e s.A).1,JS (Co e (AD e s.A).1) (CZ e s).1 s.Match (decide (s.N.tmod 2=1)),0):=rfl
 generalize Ba e s=r at hq
 refine Ah Al Am Tryz.func165 (by kernel_rfl) rfl (Wn r e s) ⟨AD e s.A,IY hw hs s.A,fun h=>MA ?_,fun h=>?_⟩
 ·rw[hq,show decide ((AD e s.A).2≠0)=true by simpa using h]<;>rfl
 have h0:(AD e s.A).2=0:=by simpa using h
 rw[h0]at hq
 have hc:=JU hw h0
 generalize (AD e s.A).1=n at hc hq ⊢
 have h1:=hc.lo
 have h2:=hc.hi
 have h3:=hc.le
 have h4:=hc.q
 rw[BF (by omega) (by omega)]
 refine⟨by omega,hc.sh,fun hf=>MA ?_,fun hf=>⟨CZ e s,NJ hw hs hl hm,fun ha=>MA ?_,fun ha=>⟨by omega,by decide,JS (Co e n) (CZ e s).1 s.Match (s.N.tmod 2==1),Vo (c:=Co e n) (by unfold Len;omega) (by unfold Len;omega),MA ?_⟩⟩⟩
 ·rw[Gi]at hf
  rw[hq,show decide ((Bd e n).length≠s.Args.length)=true from hf]<;>rfl
 ·rw[Gi]at hf
  rw[hq,show decide ((Bd e n).length≠s.Args.length)=false from hf,show decide ((CZ e s).2≠0)=true by simpa using ha]<;>rfl
 ·rw[Gi]at hf
  rw[hq,show decide ((Bd e n).length≠s.Args.length)=false from hf,show decide ((CZ e s).2≠0)=false by simpa using ha,ieq]<;>rfl
theorem AfN {s:D.Stmt}(hw:Av e.M)(hs:Be e.S)(hl:s.Args.length<=1048576)(hm:s.Match.length=s.Args.length) :
  Aj Tryz.prog 165 [] [.agg (Bo e),.agg (Ar s)] [] (L2 (Ba e s)) :=
 (NL hw hs hl hm).thaw (M9 fun x hx=>by
  simp only[AlC,List.not_mem_nil,or_false]at hx
  rcases hx with rfl | rfl | rfl<;>exact PR) ⟨L3,Ui ⟨BP rfl,BP rfl,BP rfl,BP rfl,BP rfl,BP rfl,BP rfl,trivial⟩,trivial⟩
theorem TM {s:D.Stmt}{c:Int}{m:List Int}(hw:Av e.M)(hs:Be e.S)(hl:s.Args.length<=1048576)(hm:s.Kind=6->s.Match.length=s.Args.length) :
  Aj Tryz.prog 202 [] [.agg (Ag e),.agg (Ar s),Aa c,Ad true m] [] (Ac (GP e s c m)):=by
 have hq:GP e s c m=bif decide (s.Kind≠6)||(decide (1<s.N)||decide (s.Args.length≠m.length)) then false
  else bif decide ((AD e s.A).2≠0)||decide ((AD e s.A).1≠c) then false
  else bif decide ((CZ e s).2≠0) then false else decide (JS ⟨0,[m]⟩ (CZ e s).1 s.Match false=0):=rfl
 generalize GP e s c m=b at hq
 have e1:(bif bif s.Kind != (6:Int) then true else decide (s.N > (1:Int)) then true else(s.Args.length:Int) != (m.length:Int))=(decide (s.Kind≠6)||(decide (1<s.N)||decide (s.Args.length≠m.length))):=by
  rw[A7,A7,AK,Gi,AlX]
 refine Ah Al Am Tryz.func202 (by kernel_rfl) rfl (V5 b e s c m) ⟨fun h=>AG ?_,fun h=>⟨AD e s.A,IY hw hs s.A,fun h2=>AG ?_,fun h2=>?_⟩⟩
 ·rw[e1]at h;rw[hq,h]<;>rfl
 ·rw[e1]at h
  rw[A7,AK,AK]at h2
  rw[hq,h,h2]<;>rfl
 ·rw[e1]at h
  rw[A7,AK,AK]at h2
  have hk:s.Kind=6:=by
   simp only[Ald,Alq,Classical.not_not]at h
   exact h.1
  have hmm:=hm hk
  refine⟨CZ e s,NJ hw hs hl hmm,JS ⟨0,[m]⟩ (CZ e s).1 s.Match false,fun _=>?_,AG ?_⟩
  ·have hf:=Vo (c:=⟨0,[m]⟩) (l:=(CZ e s).1) (mt:=s.Match) (any:=false) (by unfold Len;simp) (by unfold Len;omega)
   refine hf.le trivial ⟨Al8 ⟨VV.le_refl _,Amg (.inl rfl) fun i hi=>AQ ?_,trivial⟩,VV.le_refl _,VV.le_refl _,VV.le_refl _,trivial⟩ trivial (VV.le_refl _)
   obtain rfl:i=0:=by omega
   rfl
  ·rw[hq,h,h2,ieq,ieq]
   by_cases h3:(CZ e s).2=0
   ·simp[h3]
   ·simp[h3]
theorem OQ (h:CM e):Aj Tryz.prog 89 [] [.agg (Ag e)] [] (.tup [Ac (Bl e).1,Aa (Bl e).2]):=by
 have hq:Bl e=bif decide ((D1 e).Provided<0) then(true,0) else(decide ((AY e (D1 e).Provided).1≠0),(AY e (D1 e).Provided).2):=rfl
 generalize Bl e=r at hq
 refine Ah Al Am Tryz.func89 (by kernel_rfl) rfl (Z5 r e) ⟨D1 e,OR h,fun h1=>⟨trivial,?_⟩,fun h1=>⟨AY e (D1 e).Provided,G8 h.ok.wf h.small _,trivial,?_⟩⟩
 ·rw[hq,h1];exact VV.le_refl _
 ·rw[hq,h1,AK];exact VV.le_refl _
end
theorem NO {n:Nat}:∀ {ws:List (List D.Trans)} {many k many':Nat},ID n many k ws=some many'->∀ w∈ws,w.length<=1024/\∀ t∈w,inP n t.To=true
 | [],_,_,_,_,w,hw=>by cases hw
 | v::r,many,k,many',h,w,hw=>by
  unfold ID at h
  cases c1:(decide (0<k)&&decide (v.length=0)) with
  | true=>rw[c1,AkQ]at h;cases h
  | false =>
  cases c2:decide (1024<many+v.length) with
  | true=>rw[c1,c2,AkN,AkQ]at h;cases h
  | false =>
  cases c3:D4 v.length (fun i=>inP n (v.getD i default).To) with
  | false=>rw[c1,c2,c3,AkN,AkN,AkN]at h;cases h
  | true =>
   rw[c1,c2,c3,AkN,AkN,AkQ]at h
   rcases AlC.1 hw with rfl | hw
   ·have:=Ak6 c2
    exact⟨by omega,(Cm (d:=default) (f:=fun t:D.Trans=>inP n t.To)).1 c3⟩
   ·exact NO h w hw
theorem P6 {n:Nat}{final:Int}:∀ {ls:List D.Loc} {many i:Nat},JM n final many i ls=true->∀ l∈ls,∀ w∈DN l,w.length<=1024/\∀ t∈w,inP n t.To=true
 | [],_,_,_,l,hl,_,_=>by cases hl
 | v::r,many,i,h,l,hl,w,hw=>by
  unfold JM at h
  cases c1:Td final i v with
  | true=>rw[c1,AkQ]at h;cases h
  | false =>
   rw[c1,AkN]at h
   cases c2:ID n many 0 (DN v) with
   | none=>rw[c2]at h;cases h
   | some many' =>
    rw[c2]at h
    rcases AlC.1 hl with rfl | hl
    ·exact NO c2 w hw
    ·exact P6 h l hl w hw
theorem Qe {p:D.Proc}(h:EE p=true):∀ l∈p.Locs,∀ w∈DN l,w.length<=1024/\∀ t∈w,inP p.Locs.length t.To=true:=by
 unfold EE at h
 simp only[AkO]at h
 exact P6 h.2
theorem Aep {m:D.Model}(h:Dt m=true)(i:Nat)(hi:i<m.Procs.length):DS m i=true:=by
 obtain⟨_,_,h3⟩:=Cz h
 exact Hd (f:=fun i:Nat=>DS m i) (by unfold JG at h3;omega) i hi
theorem Adh {m:D.Model}(h:Dt m=true){i:Nat}(hi:i<m.Procs.length){l:D.Loc}(hl:l∈(m.Procs.getD i default).Locs){w:List D.Trans}(hw:w∈DN l){t:D.Trans}(ht:t∈w):MU m i t.S=true:=by
 have h1:=Aep h i hi
 unfold DS at h1
 simp only[AkO]at h1
 have h2:=(Cm (d:=default) (f:=fun l:D.Loc=>Tc m i l)).1 h1.1 l hl
 unfold Tc at h2
 have h3:=(Cm (d:=[]) (f:=fun w=>Lk m i w)).1 h2 w hw
 unfold Lk at h3
 exact(Cm (d:=default) (f:=fun t:D.Trans=>MU m i t.S)).1 h3 t ht
structure Gu (m:D.Model) (s:D.Stmt):Prop where
 st:AN m s=true
 wf:Sl s
theorem Gu.args {m:D.Model}{s:D.Stmt}(h:Gu m s):s.Args.length<=1048576:=h.wf.Args.1
theorem Gu.k1 {m:D.Model}{s:D.Stmt}(h:Gu m s)(hk:s.Kind=1):0<=s.A/\s.A<m.Exprs.length:=by
 have:=h.st
 unfold AN at this
 rw[Alj (.inl hk)]at this
 simp only[AkO]at this
 exact CF.1 this.1.1
theorem Gu.k2 {m:D.Model}{s:D.Stmt}(h:Gu m s)(hk:s.Kind=2):0<=s.B/\s.B<m.Exprs.length:=by
 have:=h.st
 unfold AN at this
 rw[Ak3 (by omega),Alj hk]at this
 simp only[AkO]at this
 exact CF.1 this.1.2
theorem Gu.k6 {m:D.Model}{s:D.Stmt}(h:Gu m s)(hk:s.Kind=6):s.Match.length=s.Args.length:=by
 have:=h.st
 unfold AN at this
 rw[Ak3 (by omega),Ak3 (by omega),Ak3 (by omega),Ak3 (by omega),Alj hk]at this
 simp only[AkO]at this
 have:=this.1.1.1.2
 unfold IG Cx at this
 simp only[AkO,AkS]at this
 exact this.1.1.1.2
structure AcW (m:D.Model) (n:Nat) (ws:List D.Trans):Prop where
 len:ws.length<=1024
 st:∀ t∈ws,Gu m t.S
 to:∀ t∈ws,inP n t.To=true
section
variable {e : D.Env}
theorem CM.ws (h:CM e){ws:List D.Trans}(hw:ws∈DN (Dp e)):AcW e.M (D1 e).Locs.length ws:=by
 have hf:=h.facts
 have hi:(DR e e.Pid).Type_.toNat<e.M.Procs.length:=by omega
 have hl:Dp e∈(D1 e).Locs:=Aw (by omega)
 have hg:=Qe (DW (Cz h.ok.may).2.1 _ hi).2 _ hl _ hw
 refine⟨hg.1,fun t ht=>⟨?_,?_⟩,hg.2⟩
 ·have:=Adh h.ok.may hi hl hw ht
  unfold MU at this
  simp only[AkO]at this
  exact this.1.1
 ·have hwl:=h.wloc
  rcases AlC.1 hw with rfl | hw
  ·exact(hwl.Out.2 t ht).S
  ·exact((hwl.Esc.2 _ hw).2 t ht).S
theorem Akh {b:Bool}{er:Int}{l:List Pn}{r:Ab}(h:(⟨b,er,l⟩:Ab)=r):leO [] []/\VV.le (.agg [.sc (.bool b),.sc (.int .i64 er),Cu true l]) (.agg (Bu r)):=by
 subst h;exact⟨trivial,VV.le_refl _⟩
theorem G5 {b:Bool}{er:Int}{r:Ab}(h:(⟨b,er,[]⟩:Ab)=r):leO [] []/\VV.le (.agg [.sc (.bool b),.sc (.int .i64 er),.nl]) (.agg (Bu r)):=by
 subst h;exact⟨trivial,Al8 ⟨VV.le_refl _,VV.le_refl _,AlE,trivial⟩⟩
abbrev MtS (e:D.Env)(mt:Int->List Int->List Pn):Prop:=∀ c m,Aj Tryz.prog 191 [] [.agg (Ag e),Aa c,Ad true m] [] (Cu true (mt c m))
theorem TN {s:D.Stmt}{self:Bool}{mt:Int->List Int->List Pn}(h:CM e)(hs:Gu e.M s)(hmt:self=false->MtS e mt) :
  Aj Tryz.prog 168 [] [.agg (Ag e),.agg (Ar s),Ac self] [] (.agg (Bu (IL e mt s self))):=by
 have hw:=h.ok.wf
 have hsm:=h.small
 have hq:IL e mt s self=bif decide ((AD e s.A).2≠0) then⟨true,(AD e s.A).2,[]⟩
  else bif decide ((Bd e (AD e s.A).1).length≠s.Args.length) then⟨true,49,[]⟩
  else bif decide (0<(BU e.M (Co e (AD e s.A).1).Shape).Room) then⟨decide (((Co e (AD e s.A).1).Queue.length:Int)<(BU e.M (Co e (AD e s.A).1).Shape).Room),0,[]⟩
  else bif self then⟨false,0,[]⟩
  else bif decide ((AA e s).2.2≠0) then⟨true,(AA e s).2.2,[]⟩
  else⟨decide (0<(mt (AD e s.A).1 (AA e s).2.1).length),0,mt (AD e s.A).1 (AA e s).2.1⟩:=rfl
 generalize IL e mt s self=r at hq
 refine Ah Al Am Tryz.func168 (by kernel_rfl) rfl (V9 r e s self) ⟨AD e s.A,IY hw hsm s.A,fun h1=>G5 ?_,fun h1=>?_⟩
 ·rw[hq,show decide ((AD e s.A).2≠0)=true by simpa using h1]<;>rfl
 have h0:(AD e s.A).2=0:=by simpa using h1
 rw[h0]at hq
 have hc:=JU hw h0
 generalize (AD e s.A).1=n at hc hq ⊢
 have h2:=hc.lo
 have h3:=hc.hi
 have h4:=hc.le
 rw[BF (by omega) (by omega)]
 refine⟨by omega,hc.sh,fun hf=>G5 ?_,fun hf=>⟨fun hr=>G5 ?_,fun hr=>⟨fun hself=>G5 ?_,fun hself=>⟨AA e s,Aaa hw hsm hs.args,fun ha=>G5 ?_,fun ha=>⟨mt n (AA e s).2.1,hmt hself _ _,Akh ?_⟩⟩⟩⟩⟩
 ·rw[Gi]at hf
  rw[hq,show decide ((Bd e n).length≠s.Args.length)=true from hf]<;>rfl
 ·rw[Gi]at hf
  rw[hq,show decide ((Bd e n).length≠s.Args.length)=false from hf,show decide (0<(BU e.M (Co e n).Shape).Room)=true from hr]<;>rfl
 ·rw[Gi]at hf
  rw[hq,show decide ((Bd e n).length≠s.Args.length)=false from hf,show decide (0<(BU e.M (Co e n).Shape).Room)=false from hr,hself]<;>rfl
 ·rw[Gi]at hf
  rw[hq,show decide ((Bd e n).length≠s.Args.length)=false from hf,show decide (0<(BU e.M (Co e n).Shape).Room)=false from hr,hself,show decide ((AA e s).2.2≠0)=true by simpa using ha]<;>rfl
 ·rw[Gi]at hf
  rw[hq,show decide ((Bd e n).length≠s.Args.length)=false from hf,show decide (0<(BU e.M (Co e n).Shape).Room)=false from hr,hself,show decide ((AA e s).2.2≠0)=false by simpa using ha]
  show _=(⟨decide (0<(mt n (AA e s).2.1).length),0,mt n (AA e s).2.1⟩:Ab)
  have:decide (((mt n (AA e s).2.1).length:Int) > 0)=decide (0<(mt n (AA e s).2.1).length):=by rw[Alc,AkS,AkS];omega
  rw[this]
theorem V6 {s:D.Stmt}{self:Bool}{mt:Int->List Int->List Pn}(h:CM e)(hs:Gu e.M s)(hmt:self=false->MtS e mt) :
  Aj Tryz.prog 127 [] [.agg (Ag e),.agg (Ar s),Ac self] [] (.agg (Bu (Db e mt s self))):=by
 have hw:=h.ok.wf
 have hsm:=h.small
 have hq:Db e mt s self=if s.Kind=1 then(bif DP e s.A then NQ e else⟨decide ((AY e s.A).1≠0)||decide ((AY e s.A).2≠0),(AY e s.A).2,[]⟩)
  else if s.Kind=2 then(bif DP e s.B then NQ e else⟨true,0,[]⟩)
  else if s.Kind=9 then⟨decide (e.S.Chans.length<32),0,[]⟩
  else if s.Kind=5 then IL e mt s self
  else if s.Kind=6 then⟨decide (0<=(Ba e s).2.1)||decide ((Ba e s).2.2≠0),(Ba e s).2.2,[]⟩
  else if s.Kind=7 then⟨false,0,[]⟩ else⟨true,0,[]⟩:=rfl
 generalize Db e mt s self=r at hq
 have lf:∀ {a:Ab},a=r->leO [] []/\VV.le (.agg (Bu a)) (.agg (Bu r)):=fun h=>by subst h;exact⟨trivial,VV.le_refl _⟩
 refine Ah Al Am Tryz.func127 (by kernel_rfl) rfl (ZV r e s self) ⟨fun k1=>⟨DP e s.A,IC fun _=>(hs.k1 (by simpa using k1)).2,fun hr=>⟨NQ e,OP,lf ?_⟩,fun hr=>⟨AY e s.A,G8 hw hsm _,G5 ?_⟩⟩,
  fun k1=>⟨fun k2=>⟨DP e s.B,IC fun _=>(hs.k2 (by simpa using k2)).2,fun hr=>⟨NQ e,OP,lf ?_⟩,fun hr=>G5 ?_⟩,
  fun k2=>⟨fun k9=>G5 ?_,fun k9=>⟨fun k5=>⟨IL e mt s self,TN h hs hmt,lf ?_⟩,fun k5=>⟨fun k6=>⟨Ba e s,NL hw hsm hs.args (hs.k6 (by simpa using k6)),G5 ?_⟩,fun k6=>⟨fun k7=>G5 ?_,fun k7=>G5 ?_⟩⟩⟩⟩⟩⟩
 ·rw[hq,Alj (by simpa using k1),hr]<;>rfl
 ·rw[hq,Alj (by simpa using k1),hr,A7,AK,AK]<;>rfl
 ·rw[hq,Ak3 (by simpa using k1),Alj (by simpa using k2),hr]<;>rfl
 ·rw[hq,Ak3 (by simpa using k1),Alj (by simpa using k2),hr]<;>rfl
 ·rw[hq,Ak3 (by simpa using k1),Ak3 (by simpa using k2),Alj (by simpa using k9)]
  have:decide ((e.S.Chans.length:Int)<32)=decide (e.S.Chans.length<32):=by rw[Alc,AkS,AkS];omega
  rw[this]
 ·rw[hq,Ak3 (by simpa using k1),Ak3 (by simpa using k2),Ak3 (by simpa using k9),Alj (by simpa using k5)]
 ·rw[hq,Ak3 (by simpa using k1),Ak3 (by simpa using k2),Ak3 (by simpa using k9),Ak3 (by simpa using k5),Alj (by simpa using k6),A7,AK]
 ·rw[hq,Ak3 (by simpa using k1),Ak3 (by simpa using k2),Ak3 (by simpa using k9),Ak3 (by simpa using k5),Ak3 (by simpa using k6),Alj (by simpa using k7)]
 ·rw[hq,Ak3 (by simpa using k1),Ak3 (by simpa using k2),Ak3 (by simpa using k9),Ak3 (by simpa using k5),Ak3 (by simpa using k6),Ak3 (by simpa using k7)]
end
section
variable {e : D.Env} {mt:Int->List Int->List Pn} {ws:List D.Trans} {self:Bool}
def Od (e:D.Env)(mt:Int->List Int->List Pn)(ws:List D.Trans)(self:Bool)(k:Nat):List Ab:=(List.range ws.length).map fun i=>if i<k then Db e mt (ws.getD i default).S self else default
def MK (e:D.Env)(mt:Int->List Int->List Pn)(ws:List D.Trans)(self:Bool)(k:Nat):List Ab:=(List.range ws.length).map fun i=>if i<k then F5 e mt ws self i else Db e mt (ws.getD i default).S self
theorem Qv {k:Nat}:(Od e mt ws self k).length=ws.length:=by simp[Od]
theorem JY {k:Nat}:(MK e mt ws self k).length=ws.length:=by simp[MK]
theorem ML {k i:Nat}(hi:i<ws.length):(Od e mt ws self k).getD i default=if i<k then Db e mt (ws.getD i default).S self else default:=by simp[Od,List.getD,hi]
theorem Qu {k i:Nat}(hi:i<ws.length):(MK e mt ws self k).getD i default=if i<k then F5 e mt ws self i else Db e mt (ws.getD i default).S self:=by simp[MK,List.getD,hi]
theorem Afs : MK e mt ws self ws.length=CC e mt ws self:=by
 unfold MK CC
 apply Al3
 intro i hi
 rw[Alj (AlD.1 hi)]
theorem Aft : Od e mt ws self ws.length=MK e mt ws self 0:=by
 unfold MK Od
 apply Al3
 intro i hi
 rw[Alj (AlD.1 hi),Ak3 (AlZ _)]
theorem VI : (CC e mt ws self).length=ws.length:=by simp[CC]
theorem Afx {i k:Nat}(h:i≠k):Nat.beq i k=false:=by
 cases hq:Nat.beq i k with
 | true=>exact absurd (AkT hq) h
 | false=>rfl
set_option maxRecDepth 10000 in
theorem Q2 {n:Nat}(h:CM e)(hw:AcW e.M n ws)(hmt:self=false->MtS e mt) :
  Aj Tryz.prog 92 [] [.agg (Ag e),Au true ws,Ac self] [] (B3 true (CC e mt ws self)):=by
 have hwl:=hw.len
 refine Ah Al Am Tryz.func92 (by kernel_rfl) rfl (Ac6 _ e ws self) ⟨⟨by omega,by omega,by omega⟩,?_⟩
 refine Br Al Am (fun g st=>∃ k:Nat,k<=ws.length/\g=ws.length - k/\st=SB e ws self ws.length (Gf (Od e mt ws self k)) (FT e mt ws self k) k) (by kernel_rfl) (by kernel_rfl)
  ⟨ws.length,Up.mk (l':=[(1,Au true ws),(2,Ac self),(3,.bp 0 0),(7,.ow 1 0 ws.length),(8,Ac false),(16,Au true ws),(17,Aa ws.length),(18,Aa ((0:Nat):Int))]) (hs':=[.box (Ag e),.arr true 0 ws.length 3 (Gf (Od e mt ws self 0))]) (AV _) ⟨Ob.le_refl _,AlB fun i hi=>?_,trivial⟩ ⟨0,AkV _,rfl,rfl⟩⟩ ?_
 ·have hz:Gf (Od e mt ws self 0) i=Bu default:=by
   unfold Gf
   rw[ML (by omega),Ak3 (AlZ _)]
  rw[hz]
  exact⟨VV.le_refl _,VV.le_refl _,AlE,trivial⟩
 rintro g st ⟨k,hk,rfl,rfl⟩
 refine Ali (Aam _ e ws self _ _ _ k _) ⟨fun hlt=>?_,fun hge=>?_⟩
 ·have hlt':k<ws.length:=by have:=A3 hlt;omega
  have hto:(k:Int).toNat=k:=by omega
  rw[hto]
  refine⟨⟨by omega,by omega⟩,Db e mt (ws.getD k default).S self,V6 h (hw.st _ (Aw hlt')) hmt,⟨by omega,by omega⟩,?_⟩
  refine AB.le (hs':=[.box (Ag e),.arr true 0 ws.length 3 (Gf (Od e mt ws self (k+1)))]) (AV _) ⟨Ob.le_refl _,AlB fun i hi=>AQ ?_,trivial⟩ ?_
  ·unfold Gf
   rw[ML hi,ML hi]
   by_cases hik:i=k
   ·subst hik
    rw[Alj (AlP _),Al5,AkQ]<;>rfl
   ·rw[Afx hik,AkN]
    by_cases h1:i<k
    ·rw[Alj h1,Alj (by omega)]
    ·rw[Ak3 h1,Ak3 (by omega)]
  ·have e0:Aq [(1,Au true ws),(2,Ac self),(3,.bp 0 0),(7,.ow 1 0 ws.length),(8,Ac (FT e mt ws self k)),(9,Aa k),(16,Au true ws),(17,Aa ws.length),(18,Aa k)] [.box (Ag e),.arr true 0 ws.length 3 (Gf (Od e mt ws self (k+1)))]=SA e ws self (Od e mt ws self (k+1)) (FT e mt ws self k) k k:=by
    unfold SA;rw[Qv]
   refine Eq.mpr (congrArg (AB _ _) e0) ?_
   refine KN Al Am (by kernel_rfl) (Aak _ e ws self _ _ k k _) ⟨fun _=>by rw[Qv];omega,ws.length - (k+1),by omega,Up.of ⟨k+1,hlt',rfl,?_⟩⟩
   rw[An (by omega),hto,ML hlt',Alj (AlP _),Qv]
   have:FT e mt ws self (k+1)=bif FT e mt ws self k then true else(Db e mt (ws.getD k default).S self).is:=by
    rw[A7]<;>rfl
   unfold SB
   rw[this]<;>rfl
 ·obtain rfl:k=ws.length:=by have:=A5 hge;omega
  generalize hsome:FT e mt ws self ws.length=some
  refine Br Al Am (fun g st=>∃ k:Nat,k<=ws.length/\g=ws.length - k/\st=L8 ws (MK e mt ws self k) some k) (by kernel_rfl) (by kernel_rfl) ⟨ws.length,Up.of ⟨0,AkV _,rfl,by unfold L8;rw[JY,Aft]<;>rfl⟩⟩ ?_
  rintro g st ⟨k,hk,rfl,rfl⟩
  refine Ali (Aal _ ws _ some k _) ⟨fun hlt=>?_,fun hge=>⟨trivial,?_⟩⟩
  ·have hlt':k<ws.length:=by have:=A3 hlt;omega
   have hto:(k:Int).toNat=k:=by omega
   rw[hto]
   have ek:(bif (ws.getD k default).S.Kind==(7:Int) then !some else false)=(decide ((ws.getD k default).S.Kind=7)&&!(FT e mt ws self ws.length)):=by rw[A8,ieq,hsome]
   have ea:F5 e mt ws self k=bif decide ((ws.getD k default).S.Kind=7)&&!(FT e mt ws self ws.length) then{ Db e mt (ws.getD k default).S self with is:=true } else Db e mt (ws.getD k default).S self:=rfl
   refine⟨⟨by omega,by omega⟩,fun hy=>⟨by rw[JY];omega,ws.length - (k+1),by omega,Up.mk (hs':=[.arr true 0 (MK e mt ws self k).length 3 (Gf (MK e mt ws self (k+1)))]) (AV _) ⟨AlB fun i hi=>AQ ?_,trivial⟩ ⟨k+1,hlt',rfl,?_⟩⟩,fun hy=>⟨ws.length - (k+1),by omega,Up.of ⟨k+1,hlt',rfl,?_⟩⟩⟩
   ·rw[ek]at hy
    rw[JY]at hi
    rw[Qu hlt',Ak3 (Am1 _)]
    unfold Gf
    rw[Qu hi,Qu hi]
    by_cases hik:i=k
    ·subst hik
     rw[Alj (AlP _),Al5,AkQ,ea,hy,AkQ]<;>rfl
    ·rw[Afx hik,AkN]
     by_cases h1:i<k
     ·rw[Alj h1,Alj (by omega)]<;>rfl
     ·rw[Ak3 h1,Ak3 (by omega)]<;>rfl
   ·rw[An (by omega)]
    unfold L8
    rw[JY,JY]<;>rfl
   ·rw[ek]at hy
    have em:MK e mt ws self k=MK e mt ws self (k+1):=by
     unfold MK
     apply Al3
     intro i _
     by_cases hik:i=k
     ·subst hik
      rw[Ak3 (Am1 _),Alj (AlP _),ea,hy,AkN]
     ·by_cases h1:i<k
      ·rw[Alj h1,Alj (by omega)]
      ·rw[Ak3 h1,Ak3 (by omega)]
    rw[An (by omega),em]<;>rfl
  ·obtain rfl:k=ws.length:=by have:=A5 hge;omega
   rw[Afs];exact VV.le_refl _
end
def Vd : Nat->List Ab->Int
 | _,[]=>-1
 | k,x::r=>bif x.is then(k:Int) else Vd (k+1) r
theorem RS {k:Nat}{x:Ab}{r:List Ab}:Vd k (x::r)=bif x.is then(k:Int) else Vd (k+1) r:=rfl
theorem RR : ∀ {l:List Ab} {k:Nat},decide (Vd k l>=0)=isSome l
 | [],k=>by simp[Vd,isSome]
 | x::r,k=>by
  have ih:=RR (l:=r) (k:=k+1)
  unfold isSome at *
  rw[Am2,RS]
  cases x.is with
  | true=>simp
  | false=>rw[AkN,ih,Am3]
abbrev AhS : VV:=.fn (.func 204) []
theorem Wh {x:Ab}:Aj Tryz.prog 204 [] [.agg (Bu x)] [] (Ac x.is) :=
 Ah Al Am Tryz.func204 (by kernel_rfl) rfl (Aad _ x) (AG rfl)
theorem Wk {l:List Ab}(hl:l.length<=1048576):Aj Tryz.prog 206 [] [B3 true l,AhS] [] (Aa (Vd 0 l)):=by
 refine Ah Al Am Tryz.func206 (by kernel_rfl) rfl (Aaf _ l) ?_
 refine AS Al Am l.length (fun k=>Oj l k) (fun k=>Vd 0 l=Vd k (l.drop k)) (by kernel_rfl) (by kernel_rfl) rfl ?_
 intro k hk hI J next
 refine Ali (Wl _ l k J) ⟨fun hlt=>?_,fun hge=>C4 ?_⟩
 ·have hlt':k<l.length:=by have:=A3 hlt;omega
  have hto:(k:Int).toNat=k:=by omega
  rw[hto]
  rw[BN (d:=default) hlt',RS]at hI
  refine⟨by omega,(l.getD k default).is,Wh,fun hy=>C4 ?_,fun hy=>next _ hlt' ?_ (Up.of ?_)⟩
  ·rw[hy,AkQ]at hI;exact hI.symm
  ·rw[hy,AkN]at hI;exact hI
  ·rw[An (by omega)]<;>rfl
 ·have hge':l.length<=k:=by have:=A5 hge;omega
  rw[hI,Alz hge']<;>rfl
theorem TV {l:List Ab}(hl:l.length<=1048576):Aj Tryz.prog 203 [] [B3 true l,AhS] [] (Ac (isSome l)) :=
 Ah Al Am Tryz.func203 (by kernel_rfl) rfl (Wt _ l) ⟨_,Wk hl,AG RR⟩
section
variable {e : D.Env} {c:Int} {m:List Int}
theorem Rw {i:Int}:∀ {ws:List D.Trans} {k:Nat},(CP e c m i k ws).length<=ws.length
 | [],_=>AkU _
 | t::r,k=>by
  have:=Rw (i:=i) (ws:=r) (k:=k+1)
  unfold CP
  cases GP e t.S c m<;>simp<;>omega
theorem Xk {i:Int}{k:Nat}{t:D.Trans}{r:List D.Trans}:CP e c m i k (t::r)=(bif GP e t.S c m then[⟨e.Pid,i,k⟩] else[])++CP e c m i (k+1) r:=rfl
theorem AiG {out:List Pn}{x:Pn}{G:Nat->List VV}(hG:G 0=LF x){i:Nat}(hi:i<out.length+1):(bif i.blt out.length then EX out i else G (i - out.length))=EX (out++[x]) i :=
 BQ (f:=LF) (d:=default) (l:=out) (r:=[x]) (F:=EX out) (fun _ _=>rfl) (fun j hj=>by
  obtain rfl:j=0:=by simpa using hj
  exact hG) (by simp;omega)
theorem Q0 {n:Nat}{i:Int}{ws:List D.Trans}(h:CM e)(hw:AcW e.M n ws) :
  Aj Tryz.prog 201 (hsR e c m []) [Aa i,Au true ws,.bp 0 0,.bp 1 0,.bp 2 0,.bp 3 0] (hsR e c m (CP e c m i 0 ws)) (Ac (decide (0<(CP e c m i 0 ws).length)||isSome (CC e Mu ws true))):=by
 have hwl:=hw.len
 generalize hr:CP e c m i 0 ws=r
 refine Ah Al Am Tryz.func201 (by kernel_rfl) rfl (Ac2 r [] _ e c m i ws) ?_
 refine Br Al Am (fun g st=>∃ (k:Nat) (out:List Pn),k<=ws.length/\g=ws.length - k/\out.length<=k/\out++CP e c m i k (ws.drop k)=r/\st=Pu e c m out i ws k) (by kernel_rfl) (by kernel_rfl) ⟨ws.length,Up.of ⟨0,[],AkV _,rfl,AkV _,hr,rfl⟩⟩ ?_
 rintro g st ⟨k,out,hk,rfl,ho,hq,rfl⟩
 refine Ali (Z4 r _ e c m out i ws k _) ⟨fun hlt=>?_,fun hge=>?_⟩
 ·have hlt':k<ws.length:=by have:=A3 hlt;omega
  have hto:(k:Int).toNat=k:=by omega
  rw[hto]
  rw[BN (d:=default) hlt',Xk]at hq
  have hs:=hw.st _ (Aw (d:=default) hlt')
  refine⟨⟨by omega,by omega⟩,GP e (ws.getD k default).S c m,TM h.ok.wf h.small hs.args hs.k6,fun hy=>⟨by omega,ws.length - (k+1),by omega,
   Up.mk (hs':=[.box (Ag e),.box [Aa c],.box [Ad true m],.box [.ow 4 0 (out.length+1)],.arr true 0 (out.length+1) 3 (EX (out++[Pn.mk e.Pid i k]))]) (AV _) ⟨Ob.le_refl _,Ob.le_refl _,Ob.le_refl _,Ob.le_refl _,AlB fun j hj=>AQ (AiG (x:=Pn.mk e.Pid i k) (G:=fun j=>List.take 3 (List.drop (j*3) (LF (Pn.mk e.Pid i k)))) rfl hj),trivial⟩ ⟨k+1,out++[Pn.mk e.Pid i k],hlt',rfl,by simp;omega,?_,?_⟩⟩,fun hy=>⟨ws.length - (k+1),by omega,Up.of ⟨k+1,out,hlt',rfl,by omega,?_,?_⟩⟩⟩
  ·rw[hy,AkQ]at hq;rw[AlF];exact hq
  ·rw[An (by omega)]
   unfold Pu hsR
   rw[Ak4]<;>rfl
  ·rw[hy,AkN,Al9]at hq;exact hq
  ·rw[An (by omega)]<;>rfl
 ·have hge':ws.length<=k:=by have:=A5 hge;omega
  rw[Alz hge']at hq
  have hq:out=r:=by simpa[CP] using hq
  subst hq
  refine⟨CC e Mu ws true,fun _=>Q2 h hw (fun h=>by cases h),isSome (CC e Mu ws true),fun _=>TV (by rw[VI];omega),⟨Ob.le_refl _,Ob.le_refl _,Ob.le_refl _,Ob.le_refl _,Ob.le_refl _,trivial⟩,Al0 ?_⟩
  have:decide ((out.length:Int) > 0)=decide (0<out.length):=by rw[Alc,AkS,AkS];omega
  rw[A7,this]
theorem Lo {i:Int}{ws:List D.Trans}{r:List (Int × List D.Trans)}:Ih e c m ((i,ws)::r)=bif decide (0<(CP e c m i 0 ws).length)||isSome (CC e Mu ws true) then CP e c m i 0 ws else Ih e c m r:=rfl
theorem Sj {n:Nat}{l:D.Loc}(h:CM e)(hl:l.Esc.length<=1048576)(hw:∀ ws∈DN l,AcW e.M n ws) :
  Aj Tryz.prog 90 (hsR e c m []) [.agg (AZ l),Ajn] (hsR e c m (Ih e c m (Fz l))) (.tup []):=by
 generalize hr:Ih e c m (Fz l)=r
 refine Ah Al Am Tryz.func90 (by kernel_rfl) rfl (TS r [] e c m l) ?_
 refine Br Al Am (fun g st=>∃ k:Nat,k<=l.Esc.length/\g=l.Esc.length - k/\Ih e c m (Vx k (l.Esc.drop k)++[(-1,l.Out)])=r/\st=Kn e c m [] l k) (by kernel_rfl) (by kernel_rfl) ⟨l.Esc.length,Up.of ⟨0,AkV _,rfl,hr,rfl⟩⟩ ?_
 rintro g st ⟨k,hk,rfl,hq,rfl⟩
 refine Ali (Sk r e c m [] l k _) ⟨fun hlt=>?_,fun hge=>?_⟩
 ·have hlt':k<l.Esc.length:=by have:=A3 hlt;omega
  have hto:(k:Int).toNat=k:=by omega
  rw[hto]
  rw[BN (d:=[]) hlt']at hq
  unfold Vx at hq
  rw[Al2,Lo]at hq
  refine⟨⟨by omega,by omega⟩,(CP e c m k 0 (l.Esc.getD k []),decide (0<(CP e c m k 0 (l.Esc.getD k [])).length)||isSome (CC e Mu (l.Esc.getD k []) true)),Q0 h (hw _ (Alb _ (Aw hlt'))),fun hy=>?_,fun hy=>⟨l.Esc.length - (k+1),by omega,Up.of ⟨k+1,hlt',rfl,?_,?_⟩⟩⟩
  ·have hy:(decide (0<(CP e c m k 0 (l.Esc.getD k [])).length)||isSome (CC e Mu (l.Esc.getD k []) true))=true:=hy
   rw[hy,AkQ]at hq
   subst hq
   exact⟨⟨Ob.le_refl _,Ob.le_refl _,Ob.le_refl _,Ob.le_refl _,Ob.le_refl _,trivial⟩,VV.le_refl _⟩
  ·have hy:(decide (0<(CP e c m k 0 (l.Esc.getD k [])).length)||isSome (CC e Mu (l.Esc.getD k []) true))=false:=hy
   rw[hy,AkN]at hq;exact hq
  ·have hy:(decide (0<(CP e c m k 0 (l.Esc.getD k [])).length)||isSome (CC e Mu (l.Esc.getD k []) true))=false:=hy
   rw[Ald]at hy
   have h0:CP e c m k 0 (l.Esc.getD k [])=[]:=Alp (by have:=Ak6 hy.1;omega)
   rw[An (by omega)]
   show Aq _ [_,_,_,.box [.ow 4 0 (CP e c m k 0 (l.Esc.getD k [])).length],.arr true 0 (CP e c m k 0 (l.Esc.getD k [])).length 3 (EX (CP e c m k 0 (l.Esc.getD k []))),_]=_
   rw[h0]<;>rfl
 ·have hge':l.Esc.length<=k:=by have:=A5 hge;omega
  rw[Alz hge']at hq
  refine⟨(CP e c m (-1) 0 l.Out,decide (0<(CP e c m (-1) 0 l.Out).length)||isSome (CC e Mu l.Out true)),Q0 h (hw _ (AkY ..)),?_,VV.le_refl _⟩
  have h0:CP e c m (-1) 0 l.Out=r:=by
   rw[← hq]
   show _=Ih e c m ([]++[(-1,l.Out)])
   rw[Al9,Lo]
   cases hy:(decide (0<(CP e c m (-1) 0 l.Out).length)||isSome (CC e Mu l.Out true)) with
   | true=>rfl
   | false =>
    rw[Ald]at hy
    exact Alp (by have:=Ak6 hy.1;omega)
  subst h0
  exact⟨Ob.le_refl _,Ob.le_refl _,Ob.le_refl _,Ob.le_refl _,Ob.le_refl _,trivial⟩
theorem Ru {N:Nat}:∀ {ls:List (Int × List D.Trans)},(∀ p∈ls,p.2.length<=N)->(Ih e c m ls).length<=N
 | [],_=>AkV _
 | (i,ws)::r,h=>by
  have h1:=h _ (AkY ..)
  have h2:=Ru (ls:=r) fun p hp=>h p (Alb _ hp)
  have h3:=Rw (e:=e) (c:=c) (m:=m) (i:=i) (ws:=ws) (k:=0)
  rw[Lo]
  cases (decide (0<(CP e c m i 0 ws).length)||isSome (CC e Mu ws true)) with
  | true=>rw[AkQ];exact Alg h3 h1
  | false=>exact h2
theorem RJ : ∀ {r:List (List D.Trans)} {k:Nat} {p:Int × List D.Trans},p∈Vx k r->p.2∈r
 | [],_,_,h=>by cases h
 | w::r,k,p,h=>by
  rcases AlC.1 h with rfl | h
  ·exact AkY ..
  ·exact Alb _ (RJ h)
theorem XI {l:D.Loc}{p:Int × List D.Trans}(h:p∈Fz l):p.2∈DN l:=by
 rcases Als.1 h with h | h
 ·exact Alb _ (RJ h)
 ·rw[Aln.1 h];exact AkY ..
theorem Rx (h:CM e):(GV e c m).length<=1024:=by
 unfold GV
 cases (!(Bl e).1||decide ((Bl e).2≠0)) with
 | true=>exact AkV _
 | false=>exact Ru fun p hp=>(h.ws (XI hp)).len
theorem Wd (h:CM e):Aj Tryz.prog 199 [] [.agg (Ag e),Aa c,Ad true m] [] (Cu true (GV e c m)):=by
 have hq:GV e c m=bif !(Bl e).1||decide ((Bl e).2≠0) then[] else Ih e c m (Fz (Dp e)):=rfl
 generalize GV e c m=r at hq
 refine Ah Al Am Tryz.func199 (by kernel_rfl) rfl (Z3 r e c m) ⟨Bl e,OQ h,fun h1=>?_,fun h1=>⟨Dp e,Kg h,r,?_,trivial,VV.le_refl _⟩⟩
 ·rw[A7,AK]at h1
  rw[h1,AkQ]at hq
  rw[hq]
  exact⟨trivial,AlE⟩
 ·rw[A7,AK]at h1
  rw[h1,AkN]at hq
  rw[hq]
  exact Aj.ownB (i:=3) (j:=0) (cs:=[.nl]) rfl rfl 3 (EX []) (Sj h h.wloc.Esc.1 fun ws hw=>h.ws hw)
theorem CM.at (h:CM e){k:Nat}(hk:k<e.S.Procs.length):CM (BH e k):=⟨⟨h.ok.fits,h.ok.may,h.ok.wf,by show -1<=(k:Int);omega,by show(k:Int)<_;exact Int.ofNat_lt.2 hk⟩,by show 0<=(k:Int);omega⟩
theorem Lr (h:CM e):∀ {n:Nat},n<=e.S.Procs.length->(DZ e c m n).length<=n*1024
 | 0,_=>AkV _
 | n+1,hn=>by
  have h1:=Lr h (n:=n) (by omega)
  have h2:=Rx (c:=c) (m:=m) (h.at (k:=n) (by omega))
  unfold DZ
  rw[Ak4]
  cases decide ((n:Int)≠e.Pid) with
  | true=>rw[AkQ];omega
  | false=>rw[AkN,AlK,AlT];exact Alg h1 (Ala _ (Amu n))
set_option maxRecDepth 10000 in
theorem TP (h:CM e):MtS e (Bq e):=by
 intro c m
 have hp:=h.ok.fit.p
 refine Ah Al Am Tryz.func191 (by kernel_rfl) rfl (Wf _ e c m) ?_
 refine AB.own 3 7 3 (EX []) rfl ?_
 refine Br Al Am (fun g st=>∃ k:Nat,k<=e.S.Procs.length/\g=e.S.Procs.length - k/\st=L7 e c m (DZ e c m k) k) (by kernel_rfl) (by kernel_rfl) ⟨e.S.Procs.length,Up.of ⟨0,AkV _,rfl,rfl⟩⟩ ?_
 rintro g st ⟨k,hk,rfl,rfl⟩
 have hlen:=Lr (c:=c) (m:=m) h hk
 refine Ali (TQ _ e c m _ k _) ⟨fun hlt=>?_,fun hge=>⟨trivial,?_⟩⟩
 ·have hlt':k<e.S.Procs.length:=by have:=A3 hlt;omega
  have hr:=Rx (c:=c) (m:=m) (h.at hlt')
  refine⟨fun hy=>⟨GV (BH e k) c m,Wd (h.at hlt'),by omega,fun i _=>rfl,e.S.Procs.length - (k+1),by omega,
   Up.mk (hs':=[.box (Ag e),.arr true 0 ((DZ e c m k).length+(GV (BH e k) c m).length) 3 (EX (DZ e c m k++GV (BH e k) c m))]) (AV _) ⟨Ob.le_refl _,AlB fun i hi=>AQ ?_,trivial⟩ ⟨k+1,hlt',rfl,?_⟩⟩,fun hy=>⟨e.S.Procs.length - (k+1),by omega,Up.of ⟨k+1,hlt',rfl,?_⟩⟩⟩
  ·exact BQ (f:=LF) (d:=default) (l:=DZ e c m k) (r:=GV (BH e k) c m) (F:=EX (DZ e c m k)) (fun _ _=>rfl) (fun _ _=>rfl) (by simpa using hi)
  ·rw[AK]at hy
   have e1:DZ e c m (k+1)=DZ e c m k++GV (BH e k) c m:=by
    show DZ e c m k++(bif decide ((k:Int)≠e.Pid) then _ else _)=_
    rw[hy,AkQ]
   rw[An (by omega),e1]
   unfold L7
   rw[Ak4]<;>rfl
  ·rw[AK]at hy
   have e1:DZ e c m (k+1)=DZ e c m k:=by
    show DZ e c m k++(bif decide ((k:Int)≠e.Pid) then _ else _)=_
    rw[hy,AkN,AlN]
   rw[An (by omega),e1]<;>rfl
 ·obtain rfl:k=e.S.Procs.length:=by have:=A5 hge;omega
  exact VV.le_refl _
end
section
variable {e : D.Env}
theorem XJ (h:CM e){c:Int}{m:List Int}:(Bq e c m).length<=16384:=by
 have h1:=Lr (c:=c) (m:=m) h (AkU _)
 have h2:=h.ok.fit.p
 have h3:e.S.Procs.length*1024<=16*1024:=Ala _ h2
 exact Alg h1 h3
theorem AaR (h:CM e){s:D.Stmt}{self:Bool}:(Db e (Bq e) s self).wth.length<=16384:=by
 have hz:([]:List Pn).length<=16384:=AkV _
 unfold Db
 split
 ·cases DP e s.A<;>exact hz
 split
 ·cases DP e s.B<;>exact hz
 split
 ·exact hz
 split
 ·unfold IL
  cases decide ((AD e s.A).2≠0)
  ·cases decide ((Bd e (AD e s.A).1).length≠s.Args.length)
   ·cases decide (0<(BU e.M (Co e (AD e s.A).1).Shape).Room)
    ·cases self
     ·cases decide ((AA e s).2.2≠0)
      ·exact XJ h
      ·exact hz
     ·exact hz
    ·exact hz
   ·exact hz
  ·exact hz
 split
 ·exact hz
 split<;>exact hz
theorem AcL {mt:Int->List Int->List Pn}{ws:List D.Trans}{self:Bool}{i:Nat}:(F5 e mt ws self i).wth=(Db e mt (ws.getD i default).S self).wth:=by
 unfold F5
 cases (decide ((ws.getD i default).S.Kind=7)&&!(FT e mt ws self ws.length))<;>rfl
theorem VH (h:CM e){ws:List D.Trans}{self:Bool}:∀ x∈CC e (Bq e) ws self,x.wth.length<=16384:=by
 intro x hx
 unfold CC at hx
 obtain⟨i,_,rfl⟩:=Amd.1 hx
 rw[AcL]
 exact AaR h
theorem Q9 {i:Int}{k:Nat}{x:Ab}{r:List Ab}:C5 i k (x::r)=GO i k x++C5 i (k+1) r:=rfl
theorem Aeb {out:List Wy}{x:Wy}{G:Nat->List VV}(hG:G 0=A0 x){i:Nat}(hi:i<out.length+1):(bif i.blt out.length then IN out i else G (i - out.length))=IN (out++[x]) i :=
 BQ (f:=A0) (d:=default) (l:=out) (r:=[x]) (F:=IN out) (fun _ _=>rfl) (fun j hj=>by
  obtain rfl:j=0:=by simpa using hj
  exact hG) (by simp;omega)
theorem AiJ {a k j w:Nat}(h:a<=k*16385+1+j)(h1:j<=w)(h2:w<=16384):a<=(k+1)*16385:=by
 rw[AmG]
 generalize k*16385=t at h ⊢
 omega
set_option maxRecDepth 10000 in
theorem Q1 {n:Nat}{i:Int}{ws:List D.Trans}(h:CM e)(hw:AcW e.M n ws) :
  Aj Tryz.prog 91 (hsW e []) [Aa i,Au true ws,.bp 0 0,.bp 1 0] (hsW e (C5 i 0 (CC e (Bq e) ws false))) (Ac (decide (0<(C5 i 0 (CC e (Bq e) ws false)).length))):=by
 have hL:(CC e (Bq e) ws false).length<=1024:=by rw[VI];exact hw.len
 have hwth:=VH h (ws:=ws) (self:=false)
 have hcan:=Q2 h hw (self:=false) (fun _=>TP h)
 generalize CC e (Bq e) ws false=L at hL hwth hcan
 generalize hr:C5 i 0 L=r
 refine Ah Al Am Tryz.func91 (by kernel_rfl) rfl (Ac3 r [] _ e i ws) ⟨L,hcan,?_⟩
 refine Br Al Am (fun g st=>∃ (k:Nat) (out:List Wy),k<=L.length/\g=L.length - k/\out.length<=k*16385/\out++C5 i k (L.drop k)=r/\st=II e out i L k) (by kernel_rfl) (by kernel_rfl) ⟨L.length,Up.of ⟨0,[],AkV _,rfl,AkV _,hr,rfl⟩⟩ ?_
 rintro g st ⟨k,out,hk,rfl,ho,hq,rfl⟩
 refine Ali (Z8 r _ e out i L k _) ⟨fun hlt=>?_,fun hge=>?_⟩
 ·have hlt':k<L.length:=by have:=A3 hlt;omega
  have hto:(k:Int).toNat=k:=by omega
  rw[hto]
  rw[BN (d:=default) hlt',Q9]at hq
  have hx:=hwth _ (Aw (d:=default) hlt')
  generalize L.getD k default=x at hq hx ⊢
  have hko:k*16385<=1024*16385:=Ala _ (by omega)
  have key:∀ (J:St->Prop) (out1:List Wy),out1.length<=k*16385+1->out1++(x.wth.map (Jn i k x.err)++C5 i (k+1) (L.drop (k+1)))=r ->
    (∀ st',Up (fun st=>∃ out2:List Wy,out2.length<=(k+1)*16385/\out2++C5 i (k+1) (L.drop (k+1))=r/\st=II e out2 i L ((k+1:Nat):Int)) st'->J st') ->
    AB ((CR Tryz.prog tb Cw Hf true Tryz.f91 (hsW e r) (Ac (decide (0<r.length)))).loop [1,0,1,0] J) [1,1,0,0,1,1,1,1,0] (L6 e out1 i L k ⟨i,k,-1,-1,-1,x.err⟩ x.wth 0):=by
   intro J out1 ho1 hq1 hJ
   refine Br Al Am (fun g st=>∃ (j:Nat) (w:Wy) (o:List Wy),j<=x.wth.length/\g=x.wth.length - j/\o.length<=k*16385+1+j/\o++((x.wth.drop j).map (Jn i k x.err)++C5 i (k+1) (L.drop (k+1)))=r/\(w.Esc=i/\w.Way=k/\w.Err=x.err)/\st=L6 e o i L k w x.wth j) (by kernel_rfl) (by kernel_rfl)
    ⟨x.wth.length,Up.of ⟨0,_,out1,AkV _,rfl,ho1,hq1,⟨rfl,rfl,rfl⟩,rfl⟩⟩ ?_
   rintro g st ⟨j,w,o,hj,rfl,hol,hoq,⟨w1,w2,w3⟩,rfl⟩
   refine Ali (Z7 r _ e o i L k w x.wth j _ _) ⟨fun hlt2=>?_,fun hge2=>?_⟩
   ·have hlt2':j<x.wth.length:=by have:=A3 hlt2;omega
    have hto2:(j:Int).toNat=j:=by omega
    rw[hto2]
    rw[BN (d:=default) hlt2',AlH,Al2]at hoq
    generalize x.wth.getD j default=p at hoq ⊢
    rw[w1,w2,w3]
    refine⟨⟨by omega,by omega⟩,by omega,x.wth.length - (j+1),by omega,Up.mk (hs':=[.box (Ag e),.box [.ow 2 0 (o.length+1)],.arr true 0 (o.length+1) 6 (IN (o++[Jn i k x.err p])),.box (A0 (Jn i k x.err p))]) (AV _)
     ⟨Ob.le_refl _,Ob.le_refl _,AlB fun t ht=>AQ (Aeb (x:=Jn i k x.err p) (G:=fun t=>List.take 6 (List.drop (t*6) (A0 (Jn i k x.err p)))) rfl ht),Ob.le_refl _,trivial⟩ ⟨j+1,Jn i k x.err p,o++[Jn i k x.err p],hlt2',rfl,by simp;omega,by rw[AlF];exact hoq,⟨rfl,rfl,rfl⟩,?_⟩⟩
    rw[An (by omega)]
    unfold L6 hsW
    rw[Ak4]<;>rfl
   ·have hge2':x.wth.length<=j:=by have:=A5 hge2;omega
    rw[Alz hge2',Ami,Al9]at hoq
    refine hJ _ (Up.of ⟨o,AiJ hol hj hx,hoq,?_⟩)
    rw[An (by omega)]<;>rfl
  have next:∀ st',Up (fun st=>∃ out2:List Wy,out2.length<=(k+1)*16385/\out2++C5 i (k+1) (L.drop (k+1))=r/\st=II e out2 i L ((k+1:Nat):Int)) st' ->
    ∃ g',g'<L.length - k/\Up (fun st=>∃ (k:Nat) (out:List Wy),k<=L.length/\g'=L.length - k/\out.length<=k*16385/\out++C5 i k (L.drop k)=r/\st=II e out i L k) st':=by
   rintro st' ⟨s',hc,out2,h1,h2,h3⟩
   exact⟨L.length - (k+1),by omega,s',hc,k+1,out2,hlt',rfl,h1,h2,h3⟩
  have ez:((x.wth.length:Int)==0)=decide (x.wth.length=0):=by rw[Alc,beq_iff_eq,AkS];omega
  refine⟨⟨by omega,by omega⟩,fun hy=>⟨by omega,?_⟩,fun hy=>?_⟩
  ·rw[A8,ez]at hy
   have hw0:GO i k x=Wy.mk i k (-1) (-1) (-1) x.err::x.wth.map (Jn i k x.err):=by unfold GO;rw[hy]<;>rfl
   rw[hw0]at hq
   refine AB.le (hs':=[.box (Ag e),.box [.ow 2 0 (out.length+1)],.arr true 0 (out.length+1) 6 (IN (out++[Wy.mk i k (-1) (-1) (-1) x.err])),.box (A0 (Wy.mk i k (-1) (-1) (-1) x.err))]) (AV _)
     ⟨Ob.le_refl _,Ob.le_refl _,AlB fun t ht=>AQ (Aeb (x:=Wy.mk i k (-1) (-1) (-1) x.err) (G:=fun t=>List.take 6 (List.drop (t*6) (A0 (Wy.mk i k (-1) (-1) (-1) x.err)))) rfl ht),Ob.le_refl _,trivial⟩ ?_
   have hk1:=key _ (out++[Wy.mk i k (-1) (-1) (-1) x.err]) (by simp;omega) (by rw[AlF];exact hq) next
   unfold L6 hsW at hk1
   rw[Ak4]at hk1
   exact hk1
  ·rw[A8,ez]at hy
   have hw0:GO i k x=x.wth.map (Jn i k x.err):=by unfold GO;rw[hy]<;>rfl
   rw[hw0]at hq
   exact key _ out (Nat.le_succ_of_le ho) hq next
 ·have hge':L.length<=k:=by have:=A5 hge;omega
  rw[Alz hge']at hq
  have hq:out=r:=by simpa[C5] using hq
  subst hq
  refine⟨⟨Ob.le_refl _,Ob.le_refl _,Ob.le_refl _,trivial⟩,Al0 ?_⟩
  have:decide ((out.length:Int) > 0)=decide (0<out.length):=by rw[Alc,AkS,AkS];omega
  rw[this]
theorem PT {i:Int}{ws:List D.Trans}{r:List (Int × List D.Trans)}:FW e ((i,ws)::r)=bif decide (0<(C5 i 0 (CC e (Bq e) ws false)).length) then C5 i 0 (CC e (Bq e) ws false) else FW e r:=rfl
theorem Sg {n:Nat}{l:D.Loc}(h:CM e)(hl:l.Esc.length<=1048576)(hw:∀ ws∈DN l,AcW e.M n ws) :
  Aj Tryz.prog 90 (hsW e []) [.agg (AZ l),Ajm] (hsW e (FW e (Fz l))) (.tup []):=by
 generalize hr:FW e (Fz l)=r
 refine Ah Al Am Tryz.func90 (by kernel_rfl) rfl (TR r [] e l) ?_
 refine Br Al Am (fun g st=>∃ k:Nat,k<=l.Esc.length/\g=l.Esc.length - k/\FW e (Vx k (l.Esc.drop k)++[(-1,l.Out)])=r/\st=Km e [] l k) (by kernel_rfl) (by kernel_rfl) ⟨l.Esc.length,Up.of ⟨0,AkV _,rfl,hr,rfl⟩⟩ ?_
 rintro g st ⟨k,hk,rfl,hq,rfl⟩
 refine Ali (Si r e [] l k _) ⟨fun hlt=>?_,fun hge=>?_⟩
 ·have hlt':k<l.Esc.length:=by have:=A3 hlt;omega
  have hto:(k:Int).toNat=k:=by omega
  rw[hto]
  rw[BN (d:=[]) hlt']at hq
  unfold Vx at hq
  rw[Al2,PT]at hq
  refine⟨⟨by omega,by omega⟩,(C5 k 0 (CC e (Bq e) (l.Esc.getD k []) false),decide (0<(C5 k 0 (CC e (Bq e) (l.Esc.getD k []) false)).length)),Q1 h (hw _ (Alb _ (Aw hlt'))),fun hy=>?_,fun hy=>⟨l.Esc.length - (k+1),by omega,Up.of ⟨k+1,hlt',rfl,?_,?_⟩⟩⟩
  ·have hy:decide (0<(C5 k 0 (CC e (Bq e) (l.Esc.getD k []) false)).length)=true:=hy
   rw[hy,AkQ]at hq
   subst hq
   exact⟨⟨Ob.le_refl _,Ob.le_refl _,Ob.le_refl _,trivial⟩,VV.le_refl _⟩
  ·have hy:decide (0<(C5 k 0 (CC e (Bq e) (l.Esc.getD k []) false)).length)=false:=hy
   rw[hy,AkN]at hq;exact hq
  ·have hy:decide (0<(C5 k 0 (CC e (Bq e) (l.Esc.getD k []) false)).length)=false:=hy
   have h0:C5 k 0 (CC e (Bq e) (l.Esc.getD k []) false)=[]:=Alp (by have:=Ak6 hy;omega)
   rw[An (by omega)]
   show Aq _ [_,.box [.ow 2 0 (C5 k 0 (CC e (Bq e) (l.Esc.getD k []) false)).length],.arr true 0 (C5 k 0 (CC e (Bq e) (l.Esc.getD k []) false)).length 6 (IN (C5 k 0 (CC e (Bq e) (l.Esc.getD k []) false))),_]=_
   rw[h0]<;>rfl
 ·have hge':l.Esc.length<=k:=by have:=A5 hge;omega
  rw[Alz hge']at hq
  refine⟨(C5 (-1) 0 (CC e (Bq e) l.Out false),decide (0<(C5 (-1) 0 (CC e (Bq e) l.Out false)).length)),Q1 h (hw _ (AkY ..)),?_,VV.le_refl _⟩
  have h0:C5 (-1) 0 (CC e (Bq e) l.Out false)=r:=by
   rw[← hq]
   show _=FW e ([]++[(-1,l.Out)])
   rw[Al9,PT]
   cases hy:decide (0<(C5 (-1) 0 (CC e (Bq e) l.Out false)).length) with
   | true=>rfl
   | false=>exact Alp (by have:=Ak6 hy;omega)
  subst h0
  exact⟨Ob.le_refl _,Ob.le_refl _,Ob.le_refl _,trivial⟩
theorem AeL {w:Wy}{r:List Wy}(h:[w]=r):leO [] []/\VV.le (.sl true 1 6 fun i=>List.take 6 (List.drop (i*6) (A0 w))) (A6 true r):=by
 subst h
 refine⟨trivial,Amg (.inl rfl) fun i hi=>AQ ?_⟩
 obtain rfl:i=0:=by omega
 rfl
theorem Jl (h:CM e):Aj Tryz.prog 60 [] [.agg (Ag e)] [] (A6 true (Bm e)):=by
 have hp:=h.ok.fit.p
 have hq:Bm e=bif decide ((DR e e.Pid).Loc=(D1 e).Final) then(bif decide (e.Pid=(e.S.Procs.length:Int) - 1) then[K5 0] else[])
  else bif decide ((Bl e).2≠0) then[K5 (Bl e).2]
  else bif !(Bl e).1 then[] else FW e (Fz (Dp e)):=rfl
 generalize Bm e=r at hq
 refine Ah Al Am Tryz.func60 (by kernel_rfl) rfl (We r e) ⟨⟨h.p0,h.ok.pid.2⟩,D1 e,OR h,fun h1=>⟨fun h2=>⟨K5 0,OS,AeL ?_⟩,fun h2=>?_⟩,
  fun h1=>⟨Bl e,OQ h,fun h2=>⟨K5 (Bl e).2,OS,AeL ?_⟩,fun h2=>⟨fun h3=>?_,fun h3=>⟨Dp e,Kg h,FW e (Fz (Dp e)),?_,?_⟩⟩⟩⟩
 ·rw[ieq]at h1
  rw[BF (by omega) (by omega),ieq]at h2
  rw[hq,show decide ((DR e e.Pid).Loc=(D1 e).Final)=true from h1,h2]<;>rfl
 ·rw[ieq]at h1
  rw[BF (by omega) (by omega),ieq]at h2
  rw[hq,show decide ((DR e e.Pid).Loc=(D1 e).Final)=true from h1,h2]
  exact⟨trivial,AlE⟩
 ·rw[ieq]at h1
  rw[AK]at h2
  rw[hq,show decide ((DR e e.Pid).Loc=(D1 e).Final)=false from h1,h2]<;>rfl
 ·rw[ieq]at h1
  rw[AK]at h2
  rw[hq,show decide ((DR e e.Pid).Loc=(D1 e).Final)=false from h1,h2,h3]
  exact⟨trivial,AlE⟩
 ·exact Aj.ownB (i:=1) (j:=0) (cs:=[.nl]) rfl rfl 6 (IN []) (Sg h h.wloc.Esc.1 fun ws hw=>h.ws hw)
 ·rw[ieq]at h1
  rw[AK]at h2
  rw[hq,show decide ((DR e e.Pid).Loc=(D1 e).Final)=false from h1,h2,h3]
  exact⟨trivial,VV.le_refl _⟩
theorem OU (hw:Av e.M)(hs:Be e.S):Aj Tryz.prog 86 [] [.agg (Ag e)] [] (.tup [A6 true (Fd e).1,Aa (Fd e).2]):=by
 have hq:Fd e=bif decide (G7 e≠0) then([],G7 e) else(Bm e,0):=rfl
 generalize Fd e=r at hq
 refine Ah Al Am Tryz.func86 (by kernel_rfl) rfl (Aap r e) ⟨G7 e,TW hw hs,fun h1=>?_,fun h1=>⟨Bm e,Jl (Acu hw (by simpa using h1)),?_⟩⟩
 ·rw[AK]at h1
  rw[hq,h1]
  exact⟨trivial,Amq ⟨AlE,VV.le_refl _,trivial⟩⟩
 ·rw[AK]at h1
  rw[hq,h1]
  exact⟨trivial,VV.le_refl _⟩
def Vc (w:Wy):Nat->List Wy->Int
 | _,[]=>-1
 | k,x::r=>bif decide (w=x) then(k:Int) else Vc w (k+1) r
theorem RQ {w x:Wy}{k:Nat}{r:List Wy}:Vc w k (x::r)=bif decide (w=x) then(k:Int) else Vc w (k+1) r:=rfl
theorem Vb {w:Wy}:∀ {l:List Wy} {k:Nat},decide (Vc w k l>=0)=decide (w∈l)
 | [],k=>by simp[Vc]
 | x::r,k=>by
  have ih:=Vb (w:=w) (l:=r) (k:=k+1)
  rw[RQ]
  by_cases h:w=x
  ·simp[h]
  ·simp only[h,decide_false,AkN,ih]
   simp[h]
theorem Ajw {w x:Wy}:(w.Esc==x.Esc&&(w.Way==x.Way&&(w.With==x.With&&(w.WithEsc==x.WithEsc&&(w.WithWay==x.WithWay&&(w.Err==x.Err&&true))))))=decide (w=x):=by
 obtain⟨a1,a2,a3,a4,a5,a6⟩:=w
 obtain⟨b1,b2,b3,b4,b5,b6⟩:=x
 rw[Alc]
 simp
theorem Wi {l:List Wy}{w:Wy}(hl:l.length<=1099511627776):Aj Tryz.prog 118 [] [A6 true l,.agg (A0 w)] [] (Aa (Vc w 0 l)):=by
 refine Ah Al Am Tryz.func118 (by kernel_rfl) rfl (Aae _ l w) ?_
 refine AS Al Am l.length (fun k=>Oi l w k) (fun k=>Vc w 0 l=Vc w k (l.drop k)) (by kernel_rfl) (by kernel_rfl) rfl ?_
 intro k hk hI J next
 refine Ali (Wj _ l w k J) ⟨fun hlt=>?_,fun hge=>C4 ?_⟩
 ·have hlt':k<l.length:=by have:=A3 hlt;omega
  have hto:(k:Int).toNat=k:=by omega
  rw[hto,Ajw]
  rw[BN (d:=default) hlt',RQ]at hI
  refine⟨by omega,fun hy=>C4 ?_,fun hy=>next _ hlt' ?_ (Up.of ?_)⟩
  ·rw[hy,AkQ]at hI;exact hI.symm
  ·rw[hy,AkN]at hI;exact hI
  ·rw[An (by omega)]<;>rfl
 ·have hge':l.length<=k:=by have:=A5 hge;omega
  rw[hI,Alz hge']<;>rfl
theorem TU {l:List Wy}{w:Wy}(hl:l.length<=1099511627776):Aj Tryz.prog 81 [] [A6 true l,.agg (A0 w)] [] (Ac (decide (w∈l))) :=
 Ah Al Am Tryz.func81 (by kernel_rfl) rfl (Ws _ l w) ⟨_,Wi hl,AG Vb⟩
end
theorem VD {xs:List Int}(hr:xs.length*8<=140737488355328):Aj Tryz.prog 30 [] [Ad true xs] [] (Ad true xs):=by
 refine Aj.hand ⟨_,Tryz.func30,rfl,by kernel_rfl⟩ fun w E vs hA hL _ _ hs=>?_
 obtain⟨u1,us1,rfl,v1,hs⟩:=hs.cons_inv
 obtain rfl:=hs.nil_inv
 obtain⟨ao,cap,rfl,h1,h2,h3⟩:=V.sl_inv v1
 refine(MI h1 h2 hr fun hp=>?_).mono ?_
 ·obtain⟨b,off,rfl,_,_,_,u,hc,hv⟩:=h3 hp
  refine⟨_,rfl,fun i hi=>?_⟩
  have c1:=hc i 0 _ hi rfl
  have c2:=(hv i 0 _ hi rfl).sc_inv
  rw[Addr.add_lit]
  rw[c2]at c1
  simpa using c1
 ·rintro e w' ⟨v',rfl,ho,hb⟩
  exact⟨v',rfl,Ud ho hA,hb⟩
def CS (l:List D.Chan):Nat->List VV:=fun i=>AL (l.getD i default)
def Fu (l:List D.Process):Nat->List VV:=fun i=>As (l.getD i default)
def Xg (l:List (List Int)):Nat->List VV:=fun i=>[Ad true (l.getD i [])]
def Bj (x:D.State)(c p:VV):List VV:=[Ad true x.Globals,c,p,Aa x.Last,Aa x.Alone,Aa x.Claim]
def E6 (x:D.Env)(c p:VV):List VV:=[AJ true x.M.Globals,Ad true x.M.Init,Bg true x.M.Shapes,Ad true x.M.Chans,A4 true x.M.Procs,Aa x.M.Claim,Bz true x.M.Exprs,Ad true x.S.Globals,c,p,Aa x.S.Last,Aa x.S.Alone,Aa x.S.Claim,Aa x.Pid,Ac x.Timeout,Bb true x.Able]
def obC (s:D.State):Ob:=.arr true 0 s.Chans.length 2 (CS s.Chans)
def obP (s:D.State):Ob:=.arr true 0 s.Procs.length 4 (Fu s.Procs)
def hsE (e:D.Env):List Ob:=[.box (E6 e (.ow 1 0 e.S.Chans.length) (.ow 2 0 e.S.Procs.length)),obC e.S,obP e.S]
def Aga : Shp:={ α:=D.State,enc:=fun y=>([obC y,obP y],.agg (Bj y (.ow 0 0 y.Chans.length) (.ow 1 0 y.Procs.length))) }
def AjV : Shp:={ α:=D.Env × Int,enc:=fun y=>(hsE y.1,Aa y.2),lend:=true }
def Aiq : Shp:={ α:=D.Env × Int × Int,enc:=fun y=>(hsE y.1,.tup [Aa y.2.1,Aa y.2.2]),lend:=true }
def Aip : Shp:={ α:=D.Env × ByteArray × Int,enc:=fun y=>(hsE y.1,.tup [AP y.2.1,Aa y.2.2]),lend:=true }
def AhO : Shp:={ α:=D.State × ByteArray × Int,enc:=fun y=>([],.tup [.agg (Af y.1),AP y.2.1,Aa y.2.2]) }
def Air : Shp:={ α:=List Bool × Int,enc:=fun y=>([],.tup [Bb true y.1,Aa y.2]) }
def AhM : Shp:={ α:=D.State,enc:=fun y=>([],.agg (Af y)) }
def AjK : Shp:={ α:=ByteArray,enc:=fun y=>([],AP y) }
def Mh (f:FuncId):Shp :=
 bif Nat.beq f 14 then Aga else bif Nat.beq f 85 then Aip else bif Nat.beq f 120 then Aiq else bif Nat.beq f 121||Nat.beq f 124||Nat.beq f 125||Nat.beq f 126||Nat.beq f 163 then AjV else bif Nat.beq f 82 then AhM else bif Nat.beq f 57 then AhO else bif Nat.beq f 41 then Air else bif Nat.beq f 38 then Aa2 else   bif Nat.beq f 24||Nat.beq f 30 then Ain else bif Nat.beq f 123 then AjK else Cw f
section
variable {w : World} {E:AF} {m:Option Phi} {n0:Nat}
def QL (w:World)(n0:Nat)(E:AF):Prop:=∀ k,E.fz k->k<n0∨∃ cur t,w.heap[k]?=some (.cells cur t (0,0))/\t≠D3/\t≠GZ
theorem QL.off {k:Nat}{cur:Array Value}{t:TypeId}(h:QL w n0 E)(hk:n0<=k)(hb:w.heap[k]?=some (.cells cur t (0,0)))(ht:t=D3∨t=GZ):¬ E.fz k:=by
 intro hf
 rcases h k hf with h1 | ⟨cur',t',h1,h2,h3⟩
 ·omega
 ·rw[hb]at h1
  simp only[AkP,Obj.cells.injEq]at h1
  obtain⟨_,rfl,_⟩:=h1
  exact ht.elim h2 h3
theorem Zg {e:TypeId}{sz n:Nat}{a:Addr}{cap:Nat}{xs:List Value}(h:w.ownsRow n0 e sz (.slice (some a) n cap) n xs):∃ cur,n0<=a.block/\w.heap[a.block]?=some (.cells cur e (0,0)):=by
 rcases h.2 with⟨h1,_⟩ | ⟨g,cap',cur,h1,h2,h3,_⟩
 ·cases h1
 ·simp only[Value.slice.injEq,AkP]at h1
  obtain⟨rfl,_,_⟩:=h1
  exact⟨cur,h2,h3⟩
theorem WD {v:Value}{xs:List Int}(h:I8 w n0 v xs)(hA:QL w n0 E):V w E m (Ad true xs) v:=by
 obtain⟨ao,cap,rfl,h1,h2,h3⟩:=Dd h
 refine AmF h1 h2 fun hp=>?_
 obtain⟨g,rfl,hg,hlt,hc⟩:=h3 hp
 obtain⟨cur,hb0,hb⟩:=Zg h
 refine⟨g,0,rfl,hlt,hA.off hb0 hb (.inl rfl),fun i _=>rfl,fun i _=>.int .i64 (xs.getD i 0),fun i j y hi hy=>?_,fun i j y hi hy=>?_⟩
 ·match j,hy with
  | 0,_ =>
   have:=hc i (by omega)
   simp only[Alk,Nat.mul_one,AlT]
   rw[this];simp[List.getD,hi]
  | j+1,hy=>simp at hy
 ·match j,hy with
  | 0,hy=>simp only[AkZ,AkP]at hy;subst hy;exact .sc
  | j+1,hy=>simp at hy
theorem AkD {v:Value}{vs:List Value}{q:List (List Int)}(h:BT w n0 v vs q)(hA:∀ b,QL w n0 (E.at b))(hE:QL w n0 E):V w E m (BL true q) v:=by
 obtain⟨ao,cap,rfl,h1,h2,h3⟩:=Dd h.row
 refine AmF h1 h2 fun hp=>?_
 obtain⟨g,rfl,hg,hlt,hc⟩:=h3 hp
 obtain⟨cur,hb0,hb⟩:=Zg h.row
 refine⟨g,0,rfl,hlt,hE.off hb0 hb (.inr rfl),fun i _=>rfl,fun i _=>vs.getD i undef,fun i j y hi hy=>?_,fun i j y hi hy=>?_⟩
 ·match j,hy with
  | 0,_ =>
   have:=hc i (by omega)
   have hv:i<vs.length:=by rw[h.len];exact hi
   simp only[Alk,Nat.mul_one,AlT]
   rw[this];simp[List.getD,hv]
  | j+1,hy=>simp at hy
 ·match j,hy with
  | 0,hy =>
   simp only[AkZ,AkP]at hy;subst hy
   have hv:i<vs.length:=by rw[h.len];exact hi
   exact WD (h.each i _ _ (by simp[List.getD,hv]) (by simp[List.getD,hi])) (hA true)
  | j+1,hy=>simp at hy
theorem UH {e:TypeId}{sz n:Nat}{v:Value}{xs:List Value}(h:w.ownsRow n0 e sz v n xs):v.oneCell'=true:=by
 obtain⟨_,⟨rfl,_⟩ | ⟨g,cap,cur,rfl,_⟩⟩:=h<;>rfl
theorem Qs : ∀ {cs:List D.Chan} {qs:List Value},(∀ u∈qs,u.oneCell'=true)->∀ u∈Fa cs qs,u.oneCell'=true
 | [],_,_,u,h=>by simp[Fa]at h
 | _::_,[],_,u,h=>by simp[Fa]at h
 | c::cs,q::qs,hq,u,h=>by
  simp only[Fa,AlC]at h
  rcases h with rfl | rfl | h
  ·rfl
  ·exact hq _ AkY
  ·exact Qs (fun u hu=>hq u (Alb _ hu)) u h
theorem Qr : ∀ {ps:List D.Process} {fs:List Value},(∀ u∈fs,u.oneCell'=true)->∀ u∈DA ps fs,u.oneCell'=true
 | [],_,_,u,h=>by simp[DA]at h
 | _::_,[],_,u,h=>by simp[DA]at h
 | c::cs,q::qs,hq,u,h=>by
  simp only[DA,AlC]at h
  rcases h with rfl | rfl | rfl | rfl | h
  ·rfl
  ·rfl
  ·rfl
  ·exact hq _ AkY
  ·exact Qr (fun u hu=>hq u (Alb _ hu)) u h
theorem RV {l:List Value}{k:Nat}{u:Value}(h:l[k]?=some u):l.getD k undef=u:=by simp[List.getD,h]
theorem AhY {l:List Value}{k:Nat}(h:k<l.length):l[k]?=some (l.getD k undef):=by simp[List.getD,h]
theorem ZH {α:Type}{R:Value->α->Prop}{vs:List Value}{l:List α}(hl:vs.length=l.length)(h:∀ (i:Nat) x y,vs[i]?=some x->l[i]?=some y->R x y){u:Value}(hu:u∈vs):∃ a,R u a:=by
 obtain⟨i,hi,rfl⟩:=Al4 hu
 exact⟨l[i]'(by omega),h i _ _ (Ak1 hi) (Ak1 (by omega))⟩
theorem XF {w0 w':World}{s:D.State}{vg vc vp:Value}{qs fs:List Value}(hb:Below w0.heap.size w0 w')(hn:w0.heap.size<=n0)(hg:I8 w' n0 vg s.Globals)(hc:Hn w' n0 vc qs s.Chans)(hp:FN w' n0 vp fs s.Procs)(hE:∀ k,E.fz k->k<w0.heap.size)(_:∀ k,E.br k->E.fz k) :
  ∃ pls,Eh w0 E Fi 0 [obC s,obP s] pls w'/\V w' (E.up (addP Fi 0 pls)) (some (addP Fi 0 pls)) (.agg (Bj s (.ow 0 0 s.Chans.length) (.ow 1 0 s.Procs.length))) (.agg #[vg,vc,vp,.int .i64 s.Last,.int .i64 s.Alone,.int .i64 s.Claim]):=by
 obtain⟨hdC,c1,c2,c3⟩:=SP hc.row (Qs fun u hu=>by obtain⟨a,vs,hq⟩:=ZH (R:=fun u (c:D.Chan)=>∃ vs,BT w' n0 u vs c.Queue) hc.len hc.each hu;exact UH hq.row)
 obtain⟨hdP,p1,p2,p3⟩:=SP hp.row (Qr fun u hu=>by obtain⟨a,hq⟩:=ZH (R:=fun u (p:D.Process)=>I8 w' n0 u p.Frame) hp.len hp.each hu;exact UH hq)
 have hφ0:addP Fi 0 [Pl.arr 0 s.Chans.length hdC,Pl.arr 0 s.Procs.length hdP] 0=some (.arr 0 s.Chans.length hdC):=DM (nx:=0) (i:=0) rfl
 have hφ1:addP Fi 0 [Pl.arr 0 s.Chans.length hdC,Pl.arr 0 s.Procs.length hdP] 1=some (.arr 0 s.Procs.length hdP):=DM (nx:=0) (i:=1) rfl
 have hφx:∀ id,2<=id->addP Fi 0 [Pl.arr 0 s.Chans.length hdC,Pl.arr 0 s.Procs.length hdP] id=none:=fun id h=>DC (.inr (by simp;omega))
 generalize hφ:addP Fi 0 [Pl.arr 0 s.Chans.length hdC,Pl.arr 0 s.Procs.length hdP]=φ at hφ0 hφ1 hφx
 have hown:∀ k,Own φ k->n0<=k/\∃ cur t,w'.heap[k]?=some (.cells cur t (0,0))/\(t=D2∨t=Es):=by
  rintro k ⟨id,hbk⟩
  obtain⟨p,hp',hpb⟩:=AI.1 hbk
  rcases(show id=0∨id=1∨2<=id by omega) with rfl | rfl | h
  ·rw[hφ0]at hp';obtain rfl:=Ak9 hp'
   obtain⟨cap,hd⟩:=hpb
   obtain⟨_,h1,cur,h2⟩:=c2 k cap hd
   exact⟨h1,cur,_,h2,.inl rfl⟩
  ·rw[hφ1]at hp';obtain rfl:=Ak9 hp'
   obtain⟨cap,hd⟩:=hpb
   obtain⟨_,h1,cur,h2⟩:=p2 k cap hd
   exact⟨h1,cur,_,h2,.inr rfl⟩
  ·rw[hφx id h]at hp';cases hp'
 have hty:QL w' n0 (E.up φ):=by
  rintro k (hk | hk)
  ·have:=hE k hk;exact .inl (by omega)
  ·obtain⟨_,cur,t,h1,h2⟩:=hown k hk
   exact .inr ⟨cur,t,h1,by rcases h2 with rfl | rfl<;>decide,by rcases h2 with rfl | rfl<;>decide⟩
 have hat:∀ {b b'},QL w' n0 (((E.up φ).at b).at b'):=fun{b b'}=>by cases b<;>cases b'<;>exact hty
 refine⟨[Pl.arr 0 s.Chans.length hdC,Pl.arr 0 s.Procs.length hdP],⟨⟨hb,fun i p k hi hk=>?_,fun i j p q k hi hj h1 h2=>?_⟩,rfl,fun i o p ho hi=>?_⟩,?_⟩
 ·have hm:Own φ k:=by
   refine⟨i,AI.2 ⟨p,?_,hk⟩⟩
   rw[← hφ]
   have:=DM (φ:=Fi) (nx:=0) hi
   rwa [Alk]at this
  have:=(hown k hm).1;omega
 ·have ty:∀ (i:Nat) (p:Pl),[Pl.arr 0 s.Chans.length hdC,Pl.arr 0 s.Procs.length hdP][i]?=some p->PlB p k->∃ cur,w'.heap[k]?=some (.cells cur (if i=0 then D2 else Es) (0,0))/\i<2:=by
   intro i p hi hk
   match i,hi with
   | 0,hi=>obtain rfl:=Ak9 hi;obtain⟨cap,hd⟩:=hk;obtain⟨_,_,cur,h2⟩:=c2 k cap hd;exact⟨cur,h2,by omega⟩
   | 1,hi=>obtain rfl:=Ak9 hi;obtain⟨cap,hd⟩:=hk;obtain⟨_,_,cur,h2⟩:=p2 k cap hd;exact⟨cur,h2,by omega⟩
   | i+2,hi=>simp at hi
  obtain⟨cu,a1,a2⟩:=ty i p hi h1
  obtain⟨cv,b1,b2⟩:=ty j q hj h2
  rw[a1]at b1
  simp only[AkP,Obj.cells.injEq]at b1
  have hne:D2≠Es:=by decide
  rcases(show i=0∨i=1 by omega) with rfl | rfl<;>rcases(show j=0∨j=1 by omega) with rfl | rfl
  ·rfl
  ·exact absurd b1.2.1 (by simpa using hne)
  ·exact absurd b1.2.1.symm (by simpa using hne)
  ·rfl
 ·rw[hφ]
  match i,ho,hi with
  | 0,ho,hi =>
   obtain rfl:=Ak9 ho
   obtain rfl:=Ak9 hi
   refine⟨rfl,rfl,c3 E φ (CS s.Chans) (fun i _=>rfl) fun i j x hi hx=>?_⟩
   have hv:i<qs.length:=by rw[hc.len];exact hi
   obtain⟨x0,x1⟩:=Qt hc.len hi
   match j,hx with
   | 0,hx =>
    obtain rfl:=Ak9 hx
    rw[AlT,RV x0];exact .sc
   | 1,hx =>
    obtain rfl:=Ak9 hx
    rw[RV (x1.trans (AhY hv))]
    obtain⟨vs,hq⟩:=hc.each i (qs.getD i undef) (s.Chans.getD i default) (by simp[List.getD,hv]) (by simp[List.getD,hi])
    exact AkD (m:=none) (E:=(E.up φ).hold) hq (fun b=>hat (b:=true) (b':=b)) (hat (b:=true) (b':=false))
   | j+2,hx=>simp[CS,AL]at hx
  | 1,ho,hi =>
   obtain rfl:=Ak9 ho
   obtain rfl:=Ak9 hi
   refine⟨rfl,rfl,p3 E φ (Fu s.Procs) (fun i _=>rfl) fun i j x hi hx=>?_⟩
   have hv:i<fs.length:=by rw[hp.len];exact hi
   obtain⟨x0,x1,x2,x3⟩:=LJ hp.len hi
   match j,hx with
   | 0,hx =>
    obtain rfl:=Ak9 hx
    rw[AlT,RV x0];exact .sc
   | 1,hx =>
    obtain rfl:=Ak9 hx
    rw[RV x1];exact .sc
   | 2,hx =>
    obtain rfl:=Ak9 hx
    rw[RV x2];exact .sc
   | 3,hx =>
    obtain rfl:=Ak9 hx
    rw[RV (x3.trans (AhY hv))]
    exact WD (m:=none) (E:=(E.up φ).hold) (hp.each i (fs.getD i undef) (s.Procs.getD i default) (by simp[List.getD,hv]) (by simp[List.getD,hi])) (hat (b:=true) (b':=false))
   | j+4,hx=>simp[Fu,As]at hx
  | i+2,ho,hi=>simp at ho
 ·rw[hφ]
  refine .agg rfl fun j x hx=>?_
  match j,hx with
  | 0,hx=>obtain rfl:=Ak9 hx;exact WD hg hty
  | 1,hx=>obtain rfl:=Ak9 hx;exact .ow hφ0 (AkU _) c1 fun _=>⟨rfl,AkU _⟩
  | 2,hx=>obtain rfl:=Ak9 hx;exact .ow hφ1 (AkU _) p1 fun _=>⟨rfl,AkU _⟩
  | 3,hx=>obtain rfl:=Ak9 hx;exact .sc
  | 4,hx=>obtain rfl:=Ak9 hx;exact .sc
  | 5,hx=>obtain rfl:=Ak9 hx;exact .sc
  | j+6,hx=>simp[Bj]at hx
end
theorem Pq {e:D.Env}(hw:Av e.M)(hs:Be e.S)(x v:Int):Aj Tryz.prog 161 [] [.agg (Bo e),Aa x,Aa v] [obC (AX e x v).1,obP (AX e x v).1]
  (.tup [.agg (Bj (AX e x v).1 (.ow 0 0 (AX e x v).1.Chans.length) (.ow 1 0 (AX e x v).1.Procs.length)),Aa (AX e x v).2]):=by
 refine Aj.handN ⟨_,Tryz.func161,rfl,by kernel_rfl⟩ fun w E vs hA hL hB hbr hs0=>?_
 obtain⟨u1,us1,rfl,v1,hs0⟩:=hs0.cons_inv
 obtain⟨u2,us2,rfl,v2,hs0⟩:=hs0.cons_inv
 obtain⟨u3,us3,rfl,v3,hs0⟩:=hs0.cons_inv
 obtain rfl:=hs0.nil_inv
 obtain rfl:=v2.sc_inv
 obtain rfl:=v3.sc_inv
 have v1':=L3 w E u1 v1 (fun _=>False)
 obtain⟨c0,c1,c2,c3,c4,c6,c7,c8,c9,c15,rfl,hat⟩:=Ahs v1'
 refine(AaO hw hs hL hB v1' hat).mono ?_
 rintro r w' ⟨vs,rfl,hv,hb⟩
 obtain⟨vg,vc,vp,qs,fs,rfl,h1,h2,h3⟩:=hv
 obtain⟨pls,hn,hV⟩:=XF hb (AkU _) h1 h2 h3 hA hbr
 exact⟨_,pls,rfl,hn,Su hV .sc⟩
def FK : Ann:={ keep:=fun
  | [0,1,0,1,1,1,1]=>[1,2,3,19,20,21]
  | [0,1,0,1,1,0,0,1,1,0,0,1,0,1,1,1,1]=>[1,2,3,5,6,19,20,21,26,27,28]
  | [0,1,0,1,1,1,1,1]=>[2,3,49,50,51]
  | _=>[] }
def KU : Ann:={ keep:=fun
  | [0,1,0,1,1,1]=>[2,3,7,21,22]
  | _=>[] }
def AcT : Ann:={ base:=3,keep:=fun _=>[] }
def YN (m:D.Model)(s:D.State)(l:List Bool)(k:Int):St:=Aq [(2,.bp 0 0),(3,.bp 1 0),(7,.ow 2 0 l.length),(21,Aa s.Procs.length),(22,Aa k)] [.box (Ae m),.box (Af s),.arr true 0 l.length 1 (H4 l)]
def QZ : List VV:=[.nl,.nl,.nl,Aa 0,Aa 0,Aa 0]
def YW (s:D.State)(cs:List D.Chan)(k:Int):St:=Aq [(1,.bp 0 0),(2,.bp 1 0),(3,.bp 2 0),(19,Az true s.Chans),(20,Aa s.Chans.length),(21,Aa k)] [.box (Af s),.box QZ,.box (Bj s (.ow 3 0 cs.length) .nl),.arr true 0 cs.length 2 (CS cs)]
def YU (s:D.State)(cs:List D.Chan)(ps:List D.Process)(k:Int):St:=Aq [(2,.bp 0 0),(3,.bp 1 0),(49,Ap true s.Procs),(50,Aa s.Procs.length),(51,Aa k)] [.box QZ,.box (Bj s (.ow 2 0 cs.length) (.ow 3 0 ps.length)),.arr true 0 cs.length 2 (CS cs),.arr true 0 ps.length 4 (Fu ps)]
def YV (s:D.State)(cs:List D.Chan)(k:Int)(c:D.Chan)(q:List (List Int))(j:Int):St:=Aq [(1,.bp 0 0),(2,.bp 1 0),(3,.bp 2 0),(5,.bp 4 0),(6,.ow 5 0 q.length),(19,Az true s.Chans),(20,Aa s.Chans.length),(21,Aa k),(26,BL true c.Queue),(27,Aa c.Queue.length),(28,Aa j)] [.box (Af s),.box QZ,.box (Bj s (.ow 3 0 cs.length) .nl),.arr true 0 cs.length 2 (CS cs),.box (AL c),.arr true 0 q.length 1 (Xg q)]
set_option maxRecDepth 100000
theorem Aai (hs':List Ob)(r:VV)(s:D.State):(CR Tryz.prog tb Mh FK false Tryz.f14 hs' (r)).goal (St.init [] [.agg (Af s)]) =
  (∃ (y:List Int),VC 24 [Ad true s.Globals] (Ad true y)/\AB (CR Tryz.prog tb Mh FK false Tryz.f14 hs' r) [1,1,1,1,0,1,0] (Aq [(1,VV.bp 0 0),(2,VV.bp 1 0),(3,VV.bp 2 0),(19,Az true s.Chans),(20,Aa (↑s.Chans.length:Int)),(21,Aa 0)] [Ob.box (Af s),Ob.box [VV.nl,VV.nl,VV.nl,Aa 0,Aa 0,Aa 0],Ob.box [Ad true y,VV.nl,VV.nl,Aa s.Last,Aa s.Alone,Aa s.Claim]])):=by kernel_rfl
theorem AfM (r:D.State × ByteArray × Int)(e:D.Env)(w:Wy):(fc Mh AM Tryz.f57 [] (.tup [.agg (Af r.1),AP r.2.1,Aa r.2.2])).goal (St.init [] [.agg (Ag e),.agg (A0 w)]) =
  (∃ (y:Int),VC 80 [VV.agg (Ag e)] (Aa y)/\BB (y != 0) (LQ (VV.tup [VV.agg [VV.nl,VV.nl,VV.nl,Aa 0,Aa 0,Aa 0],AP (⟨#[]⟩:ByteArray),Aa y]) (VV.tup [VV.agg (Af r.fst),AP r.snd.fst,Aa r.snd.snd])) (∃ (y:List Wy),VC 60 [VV.agg (Ag e)] (A6 true y)/\∃ (y_1:Bool),VC 81 [A6 true y,VV.agg (A0 w)] (Ac y_1)/\BB (!y_1) (LQ (VV.tup [VV.agg [VV.nl,VV.nl,VV.nl,Aa 0,Aa 0,Aa 0],AP (⟨#[]⟩:ByteArray),Aa 42]) (VV.tup [VV.agg (Af r.fst),AP r.snd.fst,Aa r.snd.snd])) (BB (w.Err != 0) (LQ (VV.tup [VV.agg [VV.nl,VV.nl,VV.nl,Aa 0,Aa 0,Aa 0],AP (⟨#[]⟩:ByteArray),Aa w.Err]) (VV.tup [VV.agg (Af r.fst),AP r.snd.fst,Aa r.snd.snd])) (BB (decide (w.Way<0)) (∃ (y:D.State),VC 82 [VV.agg (Ag e)] (VV.agg (Af y))/\LQ (VV.tup [VV.agg (Af y),AP (⟨#[]⟩:ByteArray),Aa 0]) (VV.tup [VV.agg (Af r.fst),AP r.snd.fst,Aa r.snd.snd])) (∃ (y:D.State),Aj Tryz.prog 14 [] [VV.agg (Af e.S)] [obC y,obP y] (VV.agg (Bj y (VV.ow 0 0 y.Chans.length) (VV.ow 1 0 y.Procs.length)))/\∃ (y_2:D.Loc),VC 84 [VV.agg (Ag e)] (VV.agg (AZ y_2))/\∃ (y_3:D.Trans),VC 83 [VV.agg (AZ y_2),Aa w.Esc,Aa w.Way] (VV.agg (CY y_3))/\∃ (y_4:D.Env × ByteArray × Int),Aj Tryz.prog 85 [Ob.box [AJ true e.M.Globals,Ad true e.M.Init,Bg true e.M.Shapes,Ad true e.M.Chans,A4 true e.M.Procs,Aa e.M.Claim,Bz true e.M.Exprs,Ad true y.Globals,VV.ow 1 0 y.Chans.length,VV.ow 2 0 y.Procs.length,Aa y.Last,Aa y.Alone,Aa y.Claim,Aa e.Pid,Ac e.Timeout,Bb true e.Able],obC y,obP y] [VV.bp 0 0,VV.agg (Ar y_3.S),VV.agg (A0 w)] (hsE y_4.fst) (VV.tup [AP y_4.snd.fst,Aa y_4.snd.snd])/\BB (y_4.snd.snd != 0) (LQ (VV.tup [VV.agg [VV.nl,VV.nl,VV.nl,Aa 0,Aa 0,Aa 0],AP (⟨#[]⟩:ByteArray),Aa y_4.snd.snd]) (VV.tup [VV.agg (Af r.fst),AP r.snd.fst,Aa r.snd.snd])) (BB (decide (w.With>=0)) (∃ (y:D.Loc),VC 84 [VV.agg [AJ true e.M.Globals,Ad true e.M.Init,Bg true e.M.Shapes,Ad true e.M.Chans,A4 true e.M.Procs,Aa e.M.Claim,Bz true e.M.Exprs,Ad true e.S.Globals,Az true e.S.Chans,Ap true e.S.Procs,Aa e.S.Last,Aa e.S.Alone,Aa e.S.Claim,Aa w.With,Ac e.Timeout,Bb true e.Able]] (VV.agg (AZ y))/\∃ (y_5:D.Trans),VC 83 [VV.agg (AZ y),Aa w.WithEsc,Aa w.WithWay] (VV.agg (CY y_5))/\inX w.With y_4.fst.S.Procs.length/\inX e.Pid y_4.fst.S.Procs.length/\LQ (VV.tup [VV.agg [Ad true y_4.fst.S.Globals,Az true y_4.fst.S.Chans,VV.sl true y_4.fst.S.Procs.length 4 fun(j:Nat)=>bif j.beq e.Pid.toNat then bif Nat.beq 1 4 then[Aa y_3.To] else List.take 1 ((fun(j:Nat)=>bif j.beq w.With.toNat then[Aa (y_4.fst.S.Procs.getD w.With.toNat default).Type_,Aa y_5.To,Aa (y_4.fst.S.Procs.getD w.With.toNat default).Prio,Ad true (y_4.fst.S.Procs.getD w.With.toNat default).Frame] else As (y_4.fst.S.Procs.getD j default)) e.Pid.toNat)++[Aa y_3.To]++List.drop 2 ((fun(j:Nat)=>bif j.beq w.With.toNat then[Aa (y_4.fst.S.Procs.getD w.With.toNat default).Type_,Aa y_5.To,Aa (y_4.fst.S.Procs.getD w.With.toNat default).Prio,Ad true (y_4.fst.S.Procs.getD w.With.toNat default).Frame] else As (y_4.fst.S.Procs.getD j default)) e.Pid.toNat) else(fun(j:Nat)=>bif j.beq w.With.toNat then[Aa (y_4.fst.S.Procs.getD w.With.toNat default).Type_,Aa y_5.To,Aa (y_4.fst.S.Procs.getD w.With.toNat default).Prio,Ad true (y_4.fst.S.Procs.getD w.With.toNat default).Frame] else As (y_4.fst.S.Procs.getD j default)) j,Aa e.Pid,Aa y_4.fst.S.Alone,Aa y_4.fst.S.Claim],AP y_4.snd.fst,Aa 0]) (VV.tup [VV.agg (Af r.fst),AP r.snd.fst,Aa r.snd.snd])) (inX e.Pid y_4.fst.S.Procs.length/\LQ (VV.tup [VV.agg [Ad true y_4.fst.S.Globals,Az true y_4.fst.S.Chans,VV.sl true y_4.fst.S.Procs.length 4 fun(j:Nat)=>bif j.beq e.Pid.toNat then[Aa (y_4.fst.S.Procs.getD e.Pid.toNat default).Type_,Aa y_3.To,Aa (y_4.fst.S.Procs.getD e.Pid.toNat default).Prio,Ad true (y_4.fst.S.Procs.getD e.Pid.toNat default).Frame] else As (y_4.fst.S.Procs.getD j default),Aa e.Pid,Aa y_4.fst.S.Alone,Aa y_4.fst.S.Claim],AP y_4.snd.fst,Aa 0]) (VV.tup [VV.agg (Af r.fst),AP r.snd.fst,Aa r.snd.snd])))))))):=by kernel_rfl
theorem Aao (l:List Bool)(r:Int)(m:D.Model)(s:D.State):(fc Mh KU Tryz.f41 [] (.tup [Bb true l,Aa r])).goal (St.init [] [.agg (Ae m),.agg (Af s)]) =
  (∃ (y:Int),VC 38 [VV.agg (Ae m),VV.agg (Af s)] (Aa y)/\BB (y != 0) (LQ (VV.tup [VV.nl,Aa y]) (VV.tup [Bb true l,Aa r])) (((0:Int)<=(↑s.Procs.length:Int)/\(↑s.Procs.length:Int)<=(↑s.Procs.length:Int)/\(↑s.Procs.length:Int)*(↑1:Int)<=140737488355328)/\AB (fc Mh KU Tryz.f41 [] (VV.tup [Bb true l,Aa r])) [1,1,1,0,1,0] (Aq [(2,VV.bp 0 0),(3,VV.bp 1 0),(7,VV.ow 2 0 (↑s.Procs.length:Int).toNat),(21,Aa (↑s.Procs.length:Int)),(22,Aa 0)] [Ob.box (Ae m),Ob.box (Af s),Ob.arr true 0 (↑s.Procs.length:Int).toNat 1 fun(_:Nat)=>((fc Mh KU Tryz.f41 [] (VV.tup [Bb true l,Aa r])).T 4).zero]))):=by kernel_rfl
theorem Aah (y:D.Env)(t:ByteArray)(r:Int)(e:D.Env)(s:D.Stmt)(w:Wy):(CR Tryz.prog tb Mh AcT false Tryz.f85 (hsE y) (.tup [AP t,Aa r])).goal (St.init (hsE e) [.bp 0 0,.agg (Ar s),.agg (A0 w)]) =
  (BB (s.Kind==1) (∃ (y_1:Bool),VC 119 [VV.agg (Ae e.M),Aa s.A] (Ac y_1)/\BB y_1 (∃ (y_2:D.Env × Int × Int),Aj Tryz.prog 120 (hsE e) [VV.bp 0 0,Aa s.A] (hsE y_2.fst) (vII y_2.snd)/\leO (hsE y_2.fst) (hsE y)/\(VV.tup [AP (⟨#[]⟩:ByteArray),Aa y_2.snd.snd]).le (VV.tup [AP t,Aa r])) (leO (hsE e) (hsE y)/\(VV.tup [AP (⟨#[]⟩:ByteArray),Aa 0]).le (VV.tup [AP t,Aa r]))) (BB (s.Kind==2) (∃ (y_1:D.Env × Int),Aj Tryz.prog 121 (hsE e) [VV.bp 0 0,VV.agg (Ar s)] (hsE y_1.fst) (Aa y_1.snd)/\leO (hsE y_1.fst) (hsE y)/\(VV.tup [AP (⟨#[]⟩:ByteArray),Aa y_1.snd]).le (VV.tup [AP t,Aa r])) (BB (s.Kind==3) (∃ (y_1:Int × Int),VC 61 [VV.agg (Bo e),Aa s.A] (vII y_1)/\BB (bif y_1.snd==0 then y_1.fst==0 else false) (leO (hsE e) (hsE y)/\(VV.tup [AP (⟨#[]⟩:ByteArray),Aa 50]).le (VV.tup [AP t,Aa r])) (leO (hsE e) (hsE y)/\(VV.tup [AP (⟨#[]⟩:ByteArray),Aa y_1.snd]).le (VV.tup [AP t,Aa r]))) (BB (s.Kind==4) (∃ (y_1:List Int × Int),Aj Tryz.prog 122 [] [VV.agg (Bo e),Ad true s.Args] [Ob.arr true 0 y_1.fst.length 1 (AE y_1.fst)] (VV.tup [VV.ow 0 0 y_1.fst.length,Aa y_1.snd])/\BB (y_1.snd != 0) (leO (hsE e) (hsE y)/\(VV.tup [AP (⟨#[]⟩:ByteArray),Aa y_1.snd]).le (VV.tup [AP t,Aa r])) (∃ (y_2:ByteArray),VC 123 [AP s.Text,Ad false y_1.fst] (AP y_2)/\leO (hsE e) (hsE y)/\(VV.tup [AP y_2,Aa 0]).le (VV.tup [AP t,Aa r]))) (BB (s.Kind==9) ((e.S.Chans.length+1)*32<=140737488355328/\∃ (y_1:D.Env × Int),Aj Tryz.prog 124 [Ob.box (E6 e (VV.ow 1 0 (e.S.Chans.length+1)) (VV.ow 2 0 e.S.Procs.length)),Ob.arr true 0 (e.S.Chans.length+1) 2 fun(i:Nat)=>bif i.blt e.S.Chans.length then AL (e.S.Chans.getD i default) else(fun(i:Nat)=>List.take 2 (List.drop (i*2) [Aa s.N,VV.nl])) (i - e.S.Chans.length),obP e.S] [VV.bp 0 0,Aa s.A,Aa (↑(e.S.Chans.length+1):Int)] (hsE y_1.fst) (Aa y_1.snd)/\leO (hsE y_1.fst) (hsE y)/\(VV.tup [AP (⟨#[]⟩:ByteArray),Aa y_1.snd]).le (VV.tup [AP t,Aa r])) (BB (s.Kind==5) (∃ (y_1:D.Env × Int),Aj Tryz.prog 125 (hsE e) [VV.bp 0 0,VV.agg (Ar s),VV.agg (A0 w)] (hsE y_1.fst) (Aa y_1.snd)/\leO (hsE y_1.fst) (hsE y)/\(VV.tup [AP (⟨#[]⟩:ByteArray),Aa y_1.snd]).le (VV.tup [AP t,Aa r])) (BB (s.Kind==6) (∃ (y_1:D.Env × Int),Aj Tryz.prog 126 (hsE e) [VV.bp 0 0,VV.agg (Ar s)] (hsE y_1.fst) (Aa y_1.snd)/\leO (hsE y_1.fst) (hsE y)/\(VV.tup [AP (⟨#[]⟩:ByteArray),Aa y_1.snd]).le (VV.tup [AP t,Aa r])) (leO (hsE e) (hsE y)/\(VV.tup [AP (⟨#[]⟩:ByteArray),Aa 0]).le (VV.tup [AP t,Aa r]))))))))):=by kernel_rfl
theorem Wv (l:List Bool)(r:Int)(m:D.Model)(s:D.State)(l':List Bool)(k:Int)(J:St->Prop):((fc Mh KU Tryz.f41 [] (.tup [Bb true l,Aa r])).loop [1,1,1,0,1,0] J).goal (YN m s l' k) =
  (BB (decide (k<(↑s.Procs.length:Int))) (∃ (y:List Wy),VC 60 [VV.agg [AJ true m.Globals,Ad true m.Init,Bg true m.Shapes,Ad true m.Chans,A4 true m.Procs,Aa m.Claim,Bz true m.Exprs,Ad true s.Globals,Az true s.Chans,Ap true s.Procs,Aa s.Last,Aa s.Alone,Aa s.Claim,Aa k,Ac false,VV.nl]] (A6 true y)/\inX k l'.length/\J (Aq [(2,VV.bp 0 0),(3,VV.bp 1 0),(7,VV.ow 2 0 l'.length),(21,Aa (↑s.Procs.length:Int)),(22,Aa (IntKind.i64.wrap (k+(1:Int))))] [Ob.box (Ae m),Ob.box (Af s),Ob.arr true 0 l'.length 1 fun(j:Nat)=>bif j.beq k.toNat then[Ac (decide ((↑y.length:Int) > 0))] else[Ac (l'.getD j false)]])) (LQ (VV.tup [Bb true l',Aa 0]) (VV.tup [Bb true l,Aa r]))):=by kernel_rfl
theorem Wr (hs':List Ob)(r:VV)(s:D.State)(cs:List D.Chan)(k:Int)(J:St->Prop):((CR Tryz.prog tb Mh FK false Tryz.f14 hs' (r)).loop [1,1,1,1,0,1,0] J).goal (YW s cs k) =
  (BB (decide (k<(↑s.Chans.length:Int))) (inX k s.Chans.length/\AB ((CR Tryz.prog tb Mh FK false Tryz.f14 hs' r).loop [1,1,1,1,0,1,0] J) [1,1,0,0,1,1,0,1,0] (Aq [(1,VV.bp 0 0),(2,VV.bp 1 0),(3,VV.bp 2 0),(5,VV.bp 4 0),(6,VV.nl),(19,Az true s.Chans),(20,Aa (↑s.Chans.length:Int)),(21,Aa k),(26,BL true (s.Chans.getD k.toNat default).Queue),(27,Aa (↑(s.Chans.getD k.toNat default).Queue.length:Int)),(28,Aa 0)] [Ob.box (Af s),Ob.box [VV.nl,VV.nl,VV.nl,Aa 0,Aa 0,Aa 0],Ob.box (Bj s (VV.ow 3 0 cs.length) VV.nl),Ob.arr true 0 cs.length 2 (CS cs),Ob.box (AL (s.Chans.getD k.toNat default))])) (AB (CR Tryz.prog tb Mh FK false Tryz.f14 hs' r) [1,1,1,1,1,0,1,0] (Aq [(2,VV.bp 0 0),(3,VV.bp 1 0),(49,Ap true s.Procs),(50,Aa (↑s.Procs.length:Int)),(51,Aa 0)] [Ob.box [VV.nl,VV.nl,VV.nl,Aa 0,Aa 0,Aa 0],Ob.box (Bj s (VV.ow 2 0 cs.length) VV.nl),Ob.arr true 0 cs.length 2 (CS cs)]))):=by kernel_rfl
theorem Wp (hs':List Ob)(r:VV)(s:D.State)(cs:List D.Chan)(ps:List D.Process)(k:Int)(J:St->Prop):((CR Tryz.prog tb Mh FK false Tryz.f14 hs' (r)).loop [1,1,1,1,1,0,1,0] J).goal (YU s cs ps k) =
  (BB (decide (k<(↑s.Procs.length:Int))) (inX k s.Procs.length/\∃ (y:List Int),VC 24 [Ad true (s.Procs.getD k.toNat default).Frame] (Ad true y)/\(ps.length+1)*48<=140737488355328/\J (Aq [(2,VV.bp 0 0),(3,VV.bp 1 0),(49,Ap true s.Procs),(50,Aa (↑s.Procs.length:Int)),(51,Aa (IntKind.i64.wrap (k+(1:Int))))] [Ob.box [VV.nl,VV.nl,VV.nl,Aa 0,Aa 0,Aa 0],Ob.box (Bj s (VV.ow 2 0 cs.length) (VV.ow 3 0 (ps.length+1))),Ob.arr true 0 cs.length 2 (CS cs),Ob.arr true 0 (ps.length+1) 4 fun(i:Nat)=>bif i.blt ps.length then As (ps.getD i default) else(fun(i:Nat)=>List.take 4 (List.drop (i*4) [Aa (s.Procs.getD k.toNat default).Type_,Aa (s.Procs.getD k.toNat default).Loc,Aa (s.Procs.getD k.toNat default).Prio,Ad true y])) (i - ps.length)])) (leO [Ob.arr true 0 cs.length 2 (CS cs),Ob.arr true 0 ps.length 4 (Fu ps)] hs'/\(VV.agg (Bj s (VV.ow 0 0 cs.length) (VV.ow 1 0 ps.length))).le r)):=by kernel_rfl
theorem Wq (hs':List Ob)(r:VV)(s:D.State)(cs:List D.Chan)(k:Int)(c:D.Chan)(q:List (List Int))(j:Int)(J J2:St->Prop):(((CR Tryz.prog tb Mh FK false Tryz.f14 hs' (r)).loop [1,1,1,1,0,1,0] J).loop [1,1,0,0,1,1,0,1,0] J2).goal (YV s cs k c q j) =
  (BB (decide (j<(↑c.Queue.length:Int))) (inX j c.Queue.length/\∃ (y:List Int),VC 30 [Ad true (c.Queue.getD j.toNat [])] (Ad true y)/\(q.length+1)*24<=140737488355328/\J2 (Aq [(1,VV.bp 0 0),(2,VV.bp 1 0),(3,VV.bp 2 0),(5,VV.bp 4 0),(6,VV.ow 5 0 (q.length+1)),(19,Az true s.Chans),(20,Aa (↑s.Chans.length:Int)),(21,Aa k),(26,BL true c.Queue),(27,Aa (↑c.Queue.length:Int)),(28,Aa (IntKind.i64.wrap (j+(1:Int))))] [Ob.box (Af s),Ob.box [VV.nl,VV.nl,VV.nl,Aa 0,Aa 0,Aa 0],Ob.box (Bj s (VV.ow 3 0 cs.length) VV.nl),Ob.arr true 0 cs.length 2 (CS cs),Ob.box (AL c),Ob.arr true 0 (q.length+1) 1 fun(i:Nat)=>bif i.blt q.length then[Ad true (q.getD i [])] else(fun(i:Nat)=>List.take 1 (List.drop (i*1) [Ad true y])) (i - q.length)])) ((cs.length+1)*32<=140737488355328/\J (Aq [(1,VV.bp 0 0),(2,VV.bp 1 0),(3,VV.bp 2 0),(19,Az true s.Chans),(20,Aa (↑s.Chans.length:Int)),(21,Aa (IntKind.i64.wrap (k+(1:Int))))] [Ob.box (Af s),Ob.box [VV.nl,VV.nl,VV.nl,Aa 0,Aa 0,Aa 0],Ob.box (Bj s (VV.ow 3 0 (cs.length+1)) VV.nl),Ob.arr true 0 (cs.length+1) 2 fun(i:Nat)=>bif i.blt cs.length then AL (cs.getD i default) else(fun(i:Nat)=>(List.map (fun(x:List VV × List Nat)=>x.fst) [([Aa c.Shape,BL true q],List.flatMap (fun(x:VV × List Nat)=>x.snd) [(Aa c.Shape,[]),(BL true q,[5])])]).getD i []) (i - cs.length)]))):=by kernel_rfl
end Go.Proofs.YtmdcknlpalfhhaaGreatDoor
namespace Go.Proofs.YtmdcknlpalfhhaaGreatDoor
open Go.RowKit
def IV (ids:List Nat):Nat->List Ob->List Ob
 | _,[]=>[]
 | k,o::l=>(bif ids.any (Nat.beq k) then(match o with
   | .arr _ g _ _ _=>.gone (g+1)
   | .gone g=>.gone (g+1)
   | .box cs=>.box cs) else o)::IV ids (k+1) l
theorem Ly (ids:List Nat):∀ (l:List Ob) (k:Nat),(IV ids k l).length=l.length
 | [],_=>rfl
 | _::l,k=>by simp only[IV,Alo,Ly ids l (k+1)]
theorem RT (ids:List Nat):∀ (l:List Ob) (k j:Nat),j<l.length->(IV ids k l).getD j (.gone 0)=(bif ids.any (Nat.beq (k+j)) then(match l.getD j (.gone 0) with
   | .arr _ g _ _ _=>.gone (g+1)
   | .gone g=>.gone (g+1)
   | .box cs=>.box cs) else l.getD j (.gone 0))
 | [],_,j,h=>absurd h (AlZ j)
 | o::l,k,0,_=>rfl
 | o::l,k,j+1,h=>by
  have:=RT ids l (k+1) j (Nat.lt_of_succ_lt_succ h)
  rw[show k+(j+1)=k+1+j by omega]
  exact this
def JE (H:Nat->Ob)(k:Nat):List Ob->Option (List Ob × List Nat)
 | []=>some ([],[])
 | .box cs::l =>
  match Dr (Fw H k) cs with
  | some r=>match JE H k l with
   | some q=>some (.box (r.map (·.1))::q.1,r.flatMap (·.2)++q.2)
   | none=>none
  | none=>none
 | o::l=>match JE H k l with
  | some q=>some (o::q.1,q.2)
  | none=>none
theorem M8 {H:Nat->Ob}{k:Nat}:∀ {l l':List Ob} {ids:List Nat},JE H k l=some (l',ids)->l'.length=l.length/\∀ j,j<l.length->(l'.getD j (.gone 0)=l.getD j (.gone 0)/\(∀ cs,l.getD j (.gone 0)≠.box cs)) ∨
  ∃ cs r,l.getD j (.gone 0)=.box cs/\l'.getD j (.gone 0)=.box (r.map (·.1))/\Dr (Fw H k) cs=some r/\∀ p∈r,∀ i∈p.2,i∈ids
 | [],l',ids,h=>by
  simp only[JE,AkP,Alu]at h
  obtain⟨rfl,rfl⟩:=h
  exact⟨rfl,fun j hj=>absurd hj (AlZ j)⟩
 | o::l,l',ids,h=>by
  have other:(∀ cs,o≠.box cs)->(match JE H k l with
    | some q=>some (o::q.1,q.2)
    | none=>none)=some (l',ids)->l'.length=(o::l).length/\∀ j,j<(o::l).length->(l'.getD j (.gone 0)=(o::l).getD j (.gone 0)/\(∀ cs,(o::l).getD j (.gone 0)≠.box cs)) ∨
     ∃ cs r,(o::l).getD j (.gone 0)=.box cs/\l'.getD j (.gone 0)=.box (r.map (·.1))/\Dr (Fw H k) cs=some r/\∀ p∈r,∀ i∈p.2,i∈ids:=by
   intro hn h
   split at h
   ·rename_i q hq
    simp only[AkP,Alu]at h
    obtain⟨rfl,rfl⟩:=h
    obtain⟨e1,e2⟩:=M8 (l':=q.1) (ids:=q.2) hq
    refine⟨by simp[e1],fun j hj=>?_⟩
    cases j with
    | zero=>exact .inl ⟨rfl,hn⟩
    | succ j=>exact e2 j (Nat.lt_of_succ_lt_succ hj)
   ·cases h
  cases o with
  | box cs =>
   simp only[JE]at h
   split at h
   ·rename_i r hr
    split at h
    ·rename_i q hq
     simp only[AkP,Alu]at h
     obtain⟨rfl,rfl⟩:=h
     obtain⟨e1,e2⟩:=M8 (l':=q.1) (ids:=q.2) hq
     refine⟨by simp[e1],fun j hj=>?_⟩
     cases j with
     | zero=>exact .inr ⟨cs,r,rfl,rfl,hr,fun p hp i hi=>List.mem_append_left _ (AmC.2 ⟨p,hp,hi⟩)⟩
     | succ j =>
      rcases e2 j (Nat.lt_of_succ_lt_succ hj) with h | ⟨cs',r',h1,h2,h3,h4⟩
      ·exact .inl h
      ·exact .inr ⟨cs',r',h1,h2,h3,fun p hp i hi=>List.mem_append_right _ (h4 p hp i hi)⟩
    ·cases h
   ·cases h
  | arr fr g n sz f=>exact other (fun _ h=>by cases h) h
  | gone g=>exact other (fun _ h=>by cases h) h
theorem Cv.pubB {l:List (Nat × VV)}{hs hs':List Ob}{ids:List Nat}(k:Nat)(h:JE (Bn hs) k hs=some (hs',ids)):Cv (Aq l hs) (Aq l (IV ids 0 hs')):=by
 intro N E φ a w hr
 have hg:=hr.hp.gone (ids:=ids)
 obtain⟨hlen,hat⟩:=M8 h
 refine⟨B9 ids φ,⟨hr.sz,hr.df,hr.old.ext CB,fun t'=>?_,⟨hg.sub,fun id p e=>?_,hg.inj,hg.free⟩,fun j hj=>?_,fun j hj=>?_⟩,CB⟩
 ·have hv:V w _ _ (BK t' l) _:=hr.tm t'
  exact hv.ext CB
 ·have h1:=hg.ob id p e
  have hid:id<hs.length:=Alf fun hn=>by
   have:=(CA (ids:=ids)).2 (hr.fr id (Nat.le_of_not_lt hn))
   rw[this]at e;cases e
  have hgo:=RT ids hs' 0 id (by omega)
  rw[Alk]at hgo
  show ObV w E (B9 ids φ) ((IV ids 0 hs').getD id (.gone 0)) p
  rw[hgo]
  rcases hat id hid with⟨e1,hn⟩ | ⟨cs,r,e1,e2,e3,e4⟩
  ·rw[e1];exact h1
  ·rw[e2]
   have hob:∀ q,φ id=some q->ObV w E φ (.box cs) q:=fun q hq=>by
    have:=hr.hp.ob id q hq
    have e1':(Aq l hs).H id=.box cs:=e1
    rw[e1']at this
    exact this
   have hbx:(bif ids.any (Nat.beq id) then Ob.box (r.map (·.1)) else Ob.box (r.map (·.1)))=Ob.box (r.map (·.1)):=by cases ids.any (Nat.beq id)<;>rfl
   show ObV w E (B9 ids φ) (bif ids.any (Nat.beq id) then Ob.box (r.map (·.1)) else Ob.box (r.map (·.1))) p
   rw[hbx]
   have hp:∃ q,φ id=some q/\(p=q∨p=Tn q):=by
    unfold B9 at e
    cases hq:ids.any (Nat.beq id) with
    | false=>rw[hq]at e;exact⟨p,e,.inl rfl⟩
    | true =>
     rw[hq]at e
     simp only[AkQ,Ak5]at e
     obtain⟨q,h1,h2⟩:=e
     exact⟨q,h1,.inr h2.symm⟩
   obtain⟨q,hq,hpq⟩:=hp
   have hb:=hob q hq
   cases q with
   | arr=>exact hb.elim
   | box b =>
    have:p=.box b:=by rcases hpq with h | h<;>exact h
    subst this
    obtain⟨c,ty,k1,k2⟩:=hb
    obtain⟨o1,o2⟩:=De e3
    refine⟨c,ty,k1,⟨by simp[o1,k2.1],fun j y hy=>?_⟩⟩
    simp only[Alh,Ak5]at hy
    obtain⟨z,hz,rfl⟩:=hy
    obtain⟨x,hx,hf⟩:=o2 j z hz
    exact(V.unhold (IQ hr.hp (ids:=ids) k _ _ _ _ (k2.2 j x hx) hf (e4 z (Alv hz)))).held
 ·have hj':(IV ids 0 hs').length<=j:=hj
  rw[Ly,hlen]at hj'
  exact CA.2 (hr.fr j hj')
 ·have hj':j<(IV ids 0 hs').length:=hj
  rw[Ly,hlen]at hj'
  exact fun h=>hr.lv j hj' (CA.1 h)
theorem AB.cv {c:Ctx}{rel:List Nat}{st st':St}(h:Cv st st')(k:AB c rel st'):AB c rel st:=Sat.cv h k
def Ab2 (r:VV->VV->Bool):List VV->List VV->Bool
 | [],[]=>true
 | y::ys,x::xs=>r y x&&Ab2 r ys xs
 | _,_=>false
def leF : Nat->VV->VV->Bool
 | 0,_,_=>false
 | _+1,.sc u,.sc v=>AeI u v
 | _+1,.nl,.nl=>true
 | _+1,.nl,.sl _ n _ _=>Nat.beq n 0
 | k+1,.sl z n s f,.sl z' n' s' f'=>(z==z')&&(Nat.beq n n'&&(Nat.beq s s'&&D4 n fun i=>Ab2 (leF k) (f i) (f' i)))
 | k+1,.agg ys,.agg xs=>Ab2 (leF k) ys xs
 | _+1,_,_=>false
theorem OG {r:VV->VV->Bool}(hr:∀ y x,r y x=true->VV.le y x):∀ {ys xs:List VV},Ab2 r ys xs=true->leL ys xs
 | [],[],_=>trivial
 | y::ys,x::xs,h=>by
  simp only[Ab2,AkO]at h
  exact⟨hr _ _ h.1,OG hr h.2⟩
 | [],_::_,h=>by cases h
 | _::_,[],h=>by cases h
theorem XN : ∀ (k:Nat) (y x:VV),leF k y x=true->VV.le y x
 | 0,_,_,h=>by cases h
 | k+1,y,x,h=>by
  unfold leF at h
  split at h
  ·cases h
  ·obtain rfl:=AeH h;exact VV.le_refl _
  ·exact VV.le_refl _
  ·obtain rfl:=AkT h;exact AlE
  ·simp only[AkO,beq_iff_eq]at h
   obtain⟨rfl,h1,h2,h3⟩:=h
   obtain rfl:=AkT h1
   exact Amg (.inl (AkT h2)) fun i hi=>OG (fun y x h=>XN _ y x h) (Bx.1 h3 i hi)
  ·exact Al8 (OG (fun y x h=>XN _ y x h) h)
  ·cases h
def XM (k:Nat):List Ob->List Ob->Bool
 | [],[]=>true
 | .box cs::l,.box cs'::l'=>Ab2 (leF k) cs cs'&&XM k l l'
 | .gone g::l,.gone g'::l'=>Nat.beq g g'&&XM k l l'
 | _,_=>false
theorem Th {k:Nat}:∀ {l l':List Ob},XM k l l'=true->leO l l'
 | [],[],_=>trivial
 | .box cs::l,.box cs'::l',h=>by
  simp only[XM,AkO]at h
  exact⟨Ob.le_box (OG (fun y x h=>XN _ y x h) h.1),Th h.2⟩
 | .gone g::l,.gone g'::l',h=>by
  simp only[XM,AkO]at h
  obtain rfl:=AkT h.1
  exact⟨Ob.le_refl _,Th h.2⟩
 | [],_::_,h=>by cases h
 | .box _::_,[],h=>by cases h
 | .box _::_,.arr ..::_,h=>by cases h
 | .box _::_,.gone _::_,h=>by cases h
 | .gone _::_,[],h=>by cases h
 | .gone _::_,.arr ..::_,h=>by cases h
 | .gone _::_,.box _::_,h=>by cases h
 | .arr ..::_,_,h=>by simp[XM]at h
theorem AB.pubB {c:Ctx}{rel:List Nat}{l:List (Nat × VV)}{hs hs':List Ob}(k n:Nat)(h:(match JE (Bn hs) k hs with
  | some q=>XM n (IV q.2 0 q.1) hs'
  | none=>false)=true) (kk:AB c rel (Aq l hs')):AB c rel (Aq l hs):=by
 split at h
 ·rename_i q hq
  exact AB.cv (Cv.pubB (hs':=q.1) (ids:=q.2) k hq) (AB.le (AV _) (Th h) kk)
 ·cases h
theorem Ns {s:D.State}(hf:Fit s):Aj Tryz.prog 14 [] [.agg (Af s)] [obC s,obP s] (.agg (Bj s (.ow 0 0 s.Chans.length) (.ow 1 0 s.Procs.length))):=by
 have hg:=hf.g
 have hc:=hf.c
 have hp:=hf.p
 refine Ah Al Am Tryz.func14 (by kernel_rfl) rfl (Aai [obC s,obP s] (.agg (Bj s (.ow 0 0 s.Chans.length) (.ow 1 0 s.Procs.length))) s) ⟨s.Globals,LH (by omega),?_⟩
 refine Br Al Am (fun g st=>∃ k:Nat,k<=s.Chans.length/\g=s.Chans.length - k/\st=YW s (s.Chans.take k) k) (by kernel_rfl) (by kernel_rfl) ⟨_,Up.cv (AmP 2 1 2 (CS []) rfl rfl) (Up.of ⟨0,AkV _,rfl,rfl⟩)⟩ ?_
 rintro g st ⟨k,hk,rfl,rfl⟩
 have hlk:(s.Chans.take k).length=k:=by simp;omega
 refine Ali (Wr _ _ s (s.Chans.take k) k _) ⟨fun hlt=>?_,fun hge=>?_⟩
 ·have hlt':k<s.Chans.length:=by have:=A3 hlt;omega
  have hto:(k:Int).toNat=k:=by omega
  rw[hto]
  have hpush:s.Chans.take (k+1)=s.Chans.take k++[s.Chans.getD k default]:=Ie hlt'
  have hq:=hf.q _ (Aw (d:=default) hlt')
  generalize s.Chans.getD k default=c at hpush hq ⊢
  refine⟨⟨by omega,by omega⟩,?_⟩
  refine AB.own 4 6 1 (Xg []) rfl ?_
  refine Br Al Am (fun g st=>∃ j:Nat,j<=c.Queue.length/\g=c.Queue.length - j/\st=YV s (s.Chans.take k) k c (c.Queue.take j) j) (by kernel_rfl) (by kernel_rfl) ⟨_,Up.of ⟨0,AkV _,rfl,rfl⟩⟩ ?_
  rintro g st ⟨j,hj,rfl,rfl⟩
  have hlj:(c.Queue.take j).length=j:=by simp;omega
  refine Ali (Wq _ _ s (s.Chans.take k) k c (c.Queue.take j) j _ _) ⟨fun hlt2=>?_,fun hge2=>?_⟩
  ·have hlt2':j<c.Queue.length:=by have:=A3 hlt2;omega
   have hto2:(j:Int).toNat=j:=by omega
   rw[hto2]
   have hpush2:c.Queue.take (j+1)=c.Queue.take j++[c.Queue.getD j []]:=Ie hlt2'
   have hm:=hq.2 _ (Aw (d:=[]) hlt2')
   refine⟨⟨by omega,by omega⟩,c.Queue.getD j [],VD (by omega),by rw[hlj];omega,c.Queue.length - (j+1),by omega,?_⟩
   rw[An (by omega)]
   refine Up.mk (l':=[(1,.bp 0 0),(2,.bp 1 0),(3,.bp 2 0),(5,.bp 4 0),(6,.ow 5 0 (c.Queue.take (j+1)).length),(19,Az true s.Chans),(20,Aa s.Chans.length),(21,Aa k),(26,BL true c.Queue),(27,Aa c.Queue.length),(28,Aa ((j+1:Nat):Int))])
    (hs':=[.box (Af s),.box QZ,.box (Bj s (.ow 3 0 (s.Chans.take k).length) .nl),.arr true 0 (s.Chans.take k).length 2 (CS (s.Chans.take k)),.box (AL c),.arr true 0 (c.Queue.take (j+1)).length 1 (Xg (c.Queue.take (j+1)))]) ?_ ?_ ⟨j+1,by omega,rfl,rfl⟩
   ·rw[hpush2,Ak4];exact AV _
   ·rw[hpush2,Ak4]
    refine⟨Ob.le_refl _,Ob.le_refl _,Ob.le_refl _,Ob.le_refl _,Ob.le_refl _,AlB fun i hi=>AQ ?_,trivial⟩
    refine BQ (l:=c.Queue.take j) (r:=[c.Queue.getD j []]) (f:=fun w=>[Ad true w]) (d:=[]) (F:=fun i=>[Ad true ((c.Queue.take j).getD i [])]) (G:=fun i=>List.take 1 (List.drop (i*1) [Ad true (c.Queue.getD j [])])) (fun i hi=>rfl) (fun i hi=>?_) (by simpa using hi)
    obtain rfl:i=0:=by simpa using hi
    rfl
  ·have hge2':c.Queue.length<=j:=by have:=A5 hge2;omega
   rw[AmO hge2']
   refine⟨by rw[hlk];omega,s.Chans.length - (k+1),by omega,?_⟩
   rw[An (by omega)]
   refine Up.mk (l':=[(1,.bp 0 0),(2,.bp 1 0),(3,.bp 2 0),(19,Az true s.Chans),(20,Aa s.Chans.length),(21,Aa ((k+1:Nat):Int))])
    (hs':=[.box (Af s),.box QZ,.box (Bj s (.ow 3 0 (s.Chans.take (k+1)).length) .nl),.arr true 0 (s.Chans.take (k+1)).length 2 (CS (s.Chans.take (k+1)))]) ?_ ?_ ⟨k+1,by omega,rfl,rfl⟩
   ·exact AV _
   ·rw[hpush,Ak4]
    refine⟨Ob.le_refl _,Ob.le_refl _,Ob.le_refl _,AlB fun i hi=>AQ ?_,trivial⟩
    exact BQ (l:=s.Chans.take k) (r:=[c]) (f:=AL) (d:=default) (F:=fun i=>AL ((s.Chans.take k).getD i default)) (G:=fun i=>[AL c].getD i []) (fun i hi=>rfl) (fun i hi=>by
     obtain rfl:i=0:=by simpa using hi
     rfl) (by simpa using hi)
 ·have hge':s.Chans.length<=k:=by have:=A5 hge;omega
  rw[AmO hge']
  refine Br Al Am (fun g st=>∃ k:Nat,k<=s.Procs.length/\g=s.Procs.length - k/\st=YU s s.Chans (s.Procs.take k) k) (by kernel_rfl) (by kernel_rfl) ⟨_,Up.cv (AmP 1 2 4 (Fu []) rfl rfl) (Up.of ⟨0,AkV _,rfl,rfl⟩)⟩ ?_
  rintro g st ⟨k,hk,rfl,rfl⟩
  have hlk:(s.Procs.take k).length=k:=by simp;omega
  refine Ali (Wp _ _ s s.Chans (s.Procs.take k) k _) ⟨fun hlt=>?_,fun hge=>?_⟩
  ·have hlt':k<s.Procs.length:=by have:=A3 hlt;omega
   have hto:(k:Int).toNat=k:=by omega
   rw[hto]
   have hpush:s.Procs.take (k+1)=s.Procs.take k++[s.Procs.getD k default]:=Ie hlt'
   have hq:=hf.f _ (Aw (d:=default) hlt')
   generalize s.Procs.getD k default=p at hpush hq ⊢
   refine⟨⟨by omega,by omega⟩,p.Frame,LH (by omega),by rw[hlk];omega,s.Procs.length - (k+1),by omega,?_⟩
   rw[An (by omega)]
   refine Up.mk (l':=[(2,.bp 0 0),(3,.bp 1 0),(49,Ap true s.Procs),(50,Aa s.Procs.length),(51,Aa ((k+1:Nat):Int))])
    (hs':=[.box QZ,.box (Bj s (.ow 2 0 s.Chans.length) (.ow 3 0 (s.Procs.take (k+1)).length)),.arr true 0 s.Chans.length 2 (CS s.Chans),.arr true 0 (s.Procs.take (k+1)).length 4 (Fu (s.Procs.take (k+1)))]) ?_ ?_ ⟨k+1,by omega,rfl,rfl⟩
   ·exact AV _
   ·rw[hpush,Ak4]
    refine⟨Ob.le_refl _,Ob.le_refl _,Ob.le_refl _,AlB fun i hi=>AQ ?_,trivial⟩
    exact BQ (l:=s.Procs.take k) (r:=[p]) (f:=As) (d:=default) (F:=fun i=>As ((s.Procs.take k).getD i default)) (G:=fun i=>List.take 4 (List.drop (i*4) (As p))) (fun i hi=>rfl) (fun i hi=>by
     obtain rfl:i=0:=by simpa using hi
     rfl) (by simpa using hi)
  ·have hge2:s.Procs.length<=k:=by have:=A5 hge;omega
   rw[AmO hge2]
   exact⟨⟨Ob.le_refl _,Ob.le_refl _,trivial⟩,VV.le_refl _⟩
def Cc (l:D.Loc)(esc:Int):List D.Trans:=bif decide (esc<0) then l.Out else l.Esc.getD esc.toNat []
theorem U0 : ∀ {r:List (List D.Trans)} {k:Nat} {i:Int} {ws:List D.Trans},(i,ws)∈Vx k r->∃ j:Nat,i=((k+j:Nat):Int)/\r[j]?=some ws
 | [],k,i,ws,h=>by cases h
 | w::r,k,i,ws,h=>by
  rcases AlC.1 h with h | h
  ·simp only[Alu]at h
   obtain⟨rfl,rfl⟩:=h
   exact⟨0,by omega,rfl⟩
  ·obtain⟨j,hj,hw⟩:=U0 h
   exact⟨j+1,by omega,by simpa using hw⟩
theorem Io {l:D.Loc}{i:Int}{ws:List D.Trans}(h:(i,ws)∈Fz l):Cc l i=ws/\-1<=i/\i<l.Esc.length/\(ws=l.Out∨ws∈l.Esc):=by
 rcases Als.1 h with h | h
 ·obtain⟨j,rfl,hj⟩:=U0 h
  obtain⟨hlt,rfl⟩:=AkR.1 hj
  refine⟨?_,by omega,by omega,.inr (Amo _)⟩
  unfold Cc
  rw[Alm (by omega),AkN]
  simp[List.getD,hlt]
 ·simp only[Aln,Alu]at h
  obtain⟨rfl,rfl⟩:=h
  exact⟨rfl,by omega,by omega,.inl rfl⟩
section
variable {e : D.Env} {mt:Int->List Int->List Pn} {ws:List D.Trans} {self:Bool}
theorem Adw {s:D.Stmt}(h:(Db e mt s self).is=false):(Db e mt s self).wth=[]:=by
 unfold Db at h ⊢
 split
 ·cases DP e s.A<;>rfl
 ·rename_i n1
  rw[Ak3 n1]at h
  split
  ·cases DP e s.B<;>rfl
  ·rename_i n2
   rw[Ak3 n2]at h
   split
   ·rfl
   ·rename_i n3
    rw[Ak3 n3]at h
    split
    ·rename_i n4
     rw[Alj n4]at h
     unfold IL at h ⊢
     cases c1:decide ((AD e s.A).2≠0) with
     | true=>rfl
     | false =>
     rw[c1,AkN]at h
     rw[AkN]
     cases c2:decide ((Bd e (AD e s.A).1).length≠s.Args.length) with
     | true=>rfl
     | false =>
     rw[c2,AkN]at h
     rw[AkN]
     cases c3:decide (0<(BU e.M (Co e (AD e s.A).1).Shape).Room) with
     | true=>rfl
     | false =>
     rw[c3,AkN]at h
     rw[AkN]
     cases c4:self with
     | true=>rfl
     | false =>
     rw[c4,AkN]at h
     rw[AkN]
     cases c5:decide ((AA e s).2.2≠0) with
     | true=>rfl
     | false =>
     rw[c5,AkN]at h
     rw[AkN]
     exact Alp (Nat.eq_zero_of_not_pos (Ak6 h))
    split
    ·rfl
    split<;>rfl
theorem AaQ {s:D.Stmt}(h:s.Kind=7):Db e mt s self=⟨false,0,[]⟩:=by
 unfold Db
 rw[Ak3 (by omega),Ak3 (by omega),Ak3 (by omega),Ak3 (by omega),Ak3 (by omega),Alj h]
theorem Uy : ∀ {n:Nat},FT e mt ws self n=false->∀ j,j<n->(Db e mt (ws.getD j default).S self).is=false
 | 0,_,j,hj=>absurd hj (AlZ j)
 | n+1,h,j,hj=>by
  unfold FT at h
  rw[Ald]at h
  rcases Alr.1 hj with h' | rfl
  ·exact Uy h.1 j h'
  ·exact h.2
def AhJ (x:Ab):Prop:=x.is=true∨x.wth≠[]
theorem Afr {j:Nat}(hk:(ws.getD j default).S.Kind=7)(h:AhJ (F5 e mt ws self j)):FT e mt ws self ws.length=false:=by
 unfold F5 at h
 rw[AaQ hk,show decide ((ws.getD j default).S.Kind=7)=true by simpa using hk]at h
 cases hs:FT e mt ws self ws.length with
 | false=>rfl
 | true =>
  rw[hs]at h
  rcases h with h | h
  ·cases h
  ·exact absurd rfl h
theorem Afq {j:Nat}(hj:j<ws.length)(hs:FT e mt ws self ws.length=false)(h:AhJ (F5 e mt ws self j)):(ws.getD j default).S.Kind=7:=by
 refine Alf fun hn=>?_
 have his:=Uy hs j hj
 have hw:=Adw his
 unfold F5 at h
 rw[show decide ((ws.getD j default).S.Kind=7)=false by simpa using hn]at h
 rcases h with h | h
 ·have h':(Db e mt (ws.getD j default).S self).is=true:=h
  rw[his]at h';cases h'
 ·exact h hw
theorem AbR {i:Int}{k:Nat}{x:Ab}{w:Wy}(h:w∈GO i k x):w.Esc=i/\w.Way=k/\AhJ x:=by
 rcases Als.1 h with h | h
 ·cases c:(x.is&&decide (x.wth.length=0)) with
  | false=>rw[c]at h;cases h
  | true =>
   rw[c]at h
   obtain rfl:=Aln.1 h
   simp only[AkO]at c
   exact⟨rfl,rfl,.inl c.1⟩
 ·obtain⟨p,hp,rfl⟩:=Amd.1 h
  refine⟨rfl,rfl,.inr ?_⟩
  intro hn;rw[hn]at hp;cases hp
theorem P2 {i:Int}:∀ {l:List Ab} {k:Nat} {w:Wy},w∈C5 i k l->∃ (j:Nat) (x:Ab),l[j]?=some x/\w.Esc=i/\w.Way=((k+j:Nat):Int)/\AhJ x
 | [],k,w,h=>by cases h
 | x::r,k,w,h=>by
  rcases Als.1 (show w∈GO i k x++C5 i (k+1) r from h) with h | h
  ·obtain⟨h1,h2,h3⟩:=AbR h
   exact⟨0,x,rfl,h1,h2,h3⟩
  ·obtain⟨j,y,h1,h2,h3,h4⟩:=P2 h
   exact⟨j+1,y,h1,h2,by rw[h3];congr 1;omega,h4⟩
theorem TC {j:Nat}{x:Ab}(h:(CC e mt ws self)[j]?=some x):j<ws.length/\x=F5 e mt ws self j:=by
 unfold CC at h
 simp only[Alh,Ak5]at h
 obtain⟨a,ha,rfl⟩:=h
 obtain⟨h1,h2⟩:=AkR.1 ha
 simp at h1 h2
 subst h2
 exact⟨h1,rfl⟩
theorem NT : ∀ {r:List (Int × List D.Trans)},FW e r=[]∨∃ i ws,(i,ws)∈r/\FW e r=C5 i 0 (CC e (Bq e) ws false)
 | []=>.inl rfl
 | (i,ws)::r=>by
  have hq:FW e ((i,ws)::r)=bif decide (0<(C5 i 0 (CC e (Bq e) ws false)).length) then C5 i 0 (CC e (Bq e) ws false) else FW e r:=rfl
  rw[hq]
  cases decide (0<(C5 i 0 (CC e (Bq e) ws false)).length) with
  | true=>exact .inr ⟨i,ws,AkY,rfl⟩
  | false =>
   rcases NT (r:=r) with h | ⟨i',ws',h1,h2⟩
   ·exact .inl h
   ·exact .inr ⟨i',ws',Alb _ h1,h2⟩
theorem Hu : Bm e=[]∨(∃ er,Bm e=[K5 er])∨∃ i ws,(i,ws)∈Fz (Dp e)/\Bm e=C5 i 0 (CC e (Bq e) ws false):=by
 unfold Bm
 cases decide ((DR e e.Pid).Loc=(D1 e).Final) with
 | true =>
  cases decide (e.Pid=(e.S.Procs.length:Int) - 1) with
  | true=>exact .inr (.inl ⟨0,rfl⟩)
  | false=>exact .inl rfl
 | false =>
  cases decide ((Bl e).2≠0) with
  | true=>exact .inr (.inl ⟨_,rfl⟩)
  | false =>
   cases (Bl e).1 with
   | false=>exact .inl rfl
   | true =>
    rcases NT (e:=e) (r:=Fz (Dp e)) with h | h
    ·exact .inl h
    ·exact .inr (.inr h)
theorem T4 {w:Wy}(hw:w∈Bm e) :
  (w.Way<0->(Bm e).length=1)/\(0<=w.Way->-1<=w.Esc/\w.Esc<(Dp e).Esc.length/\∀ w'∈Bm e,w'.Esc=w.Esc/\0<=w'.Way/\w'.Way<(Cc (Dp e) w.Esc).length /\
   (((Cc (Dp e) w.Esc).getD w.Way.toNat default).S.Kind=7->((Cc (Dp e) w.Esc).getD w'.Way.toNat default).S.Kind=7)):=by
 rcases Hu (e:=e) with h | ⟨er,h⟩ | ⟨i,ws,hi,h⟩
 ·rw[h]at hw;cases hw
 ·rw[h]at hw
  obtain rfl:=Aln.1 hw
  exact⟨fun _=>by rw[h]<;>rfl,fun h0=>by unfold K5 at h0;simp at h0⟩
 ·rw[h]at hw ⊢
  obtain⟨hl,h1,h2,_⟩:=Io hi
  obtain⟨j,x,a1,a2,a3,a4⟩:=P2 hw
  obtain⟨b1,rfl⟩:=TC a1
  refine⟨fun hn=>by rw[a3]at hn;omega,fun _=>⟨by omega,by omega,fun w' hw'=>?_⟩⟩
  obtain⟨j',x',c1,c2,c3,c4⟩:=P2 hw'
  obtain⟨d1,rfl⟩:=TC c1
  rw[a2,hl]
  refine⟨c2,by rw[c3];omega,by rw[c3];omega,fun hk=>?_⟩
  rw[show w.Way.toNat=j by rw[a3];omega]at hk
  rw[show w'.Way.toNat=j' by rw[c3];omega]
  exact Afq d1 (Afr hk a4) c4
end
section
variable {e : D.Env}
theorem T6 {i:Int}:∀ {l:List Ab} {k:Nat},(∀ x∈l,x.wth.length<=16384)->(C5 i k l).length<=l.length*16385
 | [],_,_=>AkV _
 | x::r,k,h=>by
  rw[Q9,Ak4,Alo,AmG]
  have h1:=T6 (i:=i) (k:=k+1) fun y hy=>h y (Alb _ hy)
  have h2:(GO i k x).length<=16385:=by
   have hx:=h x AkY
   unfold GO
   rw[Ak4,AlU]
   cases (x.is&&decide (x.wth.length=0))
   ·simp;omega
   ·simp;omega
  omega
theorem KA (h:CM e):(Bm e).length<=16778240:=by
 rcases Hu (e:=e) with h' | ⟨er,h'⟩ | ⟨i,ws,hi,h'⟩
 ·rw[h'];simp
 ·rw[h'];simp
 ·rw[h']
  obtain⟨_,_,_,hm⟩:=Io hi
  have hws:=(h.ws (ws:=ws) (by rcases hm with rfl | hm;exact AkY;exact Alb _ hm)).len
  have h1:=T6 (i:=i) (k:=0) (l:=CC e (Bq e) ws false) (VH h)
  have h2:(CC e (Bq e) ws false).length=ws.length:=by simp[CC]
  rw[h2]at h1
  have:=Ala 16385 hws
  omega
end
section
variable {e : D.Env} {w:Wy}
def Cr : D.State:=⟨[],[],[],0,0,0⟩
theorem P7 {c:Int}:VV.le (.tup [.agg [.nl,.nl,.nl,Aa 0,Aa 0,Aa 0],AP ⟨#[]⟩,Aa c]) (.tup [.agg (Af Cr),AP ⟨#[]⟩,Aa c]) :=
 Amq ⟨Al8 ⟨AlE,AlE,AlE,VV.le_refl _,VV.le_refl _,VV.le_refl _,trivial⟩,VV.le_refl _,VV.le_refl _,trivial⟩
theorem PD {l:List D.Process}{t j:Nat}{p:D.Process}(hj:j<l.length):(bif j.beq t then As p else As (l.getD j default))=As ((l.set t p).getD j default):=by
 cases hq:j.beq t with
 | true =>
  have:=AkT hq;subst this
  simp[List.getD,hj]
 | false =>
  have hne:t≠j:=by rintro rfl;simp at hq
  simp[List.getD,hne]
def Afj (m:D.Model)(s:D.State)(k:Int):D.Env:=⟨m,s,k,false,[]⟩
def AhZ (m:D.Model)(s:D.State)(k:Nat):Bool:=decide (((Bm (Afj m s k)).length:Int) > 0)
def CD (m:D.Model)(s:D.State)(k:Nat):List Bool:=(List.range s.Procs.length).map fun i=>bif Nat.blt i k then AhZ m s i else false
theorem FM {m:D.Model}{s:D.State}{k:Nat}:(CD m s k).length=s.Procs.length:=by simp[CD]
theorem QK {m:D.Model}{s:D.State}{k j:Nat}(hj:j<s.Procs.length):(CD m s k).getD j false=bif Nat.blt j k then AhZ m s j else false:=by
 simp[CD,List.getD,hj]
theorem Sc {m:D.Model}{s:D.State}(hw:Av m)(hs:Be s)(hc:Ci m s=0):Aj Tryz.prog 41 [] [.agg (Ae m),.agg (Af s)] [] (.tup [Bb true (CD m s s.Procs.length),Aa 0]):=by
 obtain⟨hm,hf⟩:=LI hc
 have hfit:=Tt hm hf
 have hp:=hfit.p
 have hpid:∀ k:Nat,k<s.Procs.length->CM (Afj m s k):=fun k hk=>⟨⟨hf,hm,hw,by show -1<=(k:Int);omega,by show(k:Int)<s.Procs.length;omega⟩,by show 0<=(k:Int);omega⟩
 refine Ah Al Am Tryz.func41 (by kernel_rfl) rfl (Aao (CD m s s.Procs.length) 0 m s) ⟨Ci m s,Gx hw hs (fun h=>(G3 h).clp),fun h1=>?_,fun _=>⟨⟨by omega,by omega,by omega⟩,?_⟩⟩
 ·rw[hc]at h1;cases h1
 have hn0:((s.Procs.length:Int).toNat)=(CD m s 0).length:=by rw[FM];omega
 rw[hn0]
 refine AB.le (l':=[(2,.bp 0 0),(3,.bp 1 0),(7,.ow 2 0 (CD m s 0).length),(21,Aa s.Procs.length),(22,Aa 0)]) (hs':=[.box (Ae m),.box (Af s),.arr true 0 (CD m s 0).length 1 (H4 (CD m s 0))]) (AV _) ⟨Ob.le_refl _,Ob.le_refl _,AlB fun i hi=>AQ ?_,trivial⟩ ?_
 ·rw[FM]at hi
  show _=[Ac ((CD m s 0).getD i false)]
  rw[QK hi]<;>rfl
 refine AS Al Am s.Procs.length (fun k=>YN m s (CD m s k) k) (fun _=>True) (by kernel_rfl) (by kernel_rfl) trivial ?_
 intro k hk _ J next
 refine Ali (Wv _ 0 m s (CD m s k) k J) ⟨fun hlt=>?_,fun hge=>?_⟩
 ·have hlt':k<s.Procs.length:=by have:=A3 hlt;omega
  have hto:(k:Int).toNat=k:=by omega
  rw[hto]
  refine⟨Bm (Afj m s k),(Jl (hpid k hlt')).le trivial ⟨Al8 ⟨VV.le_refl _,VV.le_refl _,VV.le_refl _,VV.le_refl _,VV.le_refl _,VV.le_refl _,VV.le_refl _,VV.le_refl _,VV.le_refl _,VV.le_refl _,VV.le_refl _,VV.le_refl _,VV.le_refl _,VV.le_refl _,VV.le_refl _,AlE,trivial⟩,trivial⟩ trivial (VV.le_refl _),⟨by omega,by rw[FM];omega⟩,next _ hlt' trivial ?_⟩
  rw[An (by omega)]
  refine Up.mk (l':=[(2,.bp 0 0),(3,.bp 1 0),(7,.ow 2 0 (CD m s (k+1)).length),(21,Aa s.Procs.length),(22,Aa ((k+1:Nat):Int))]) (hs':=[.box (Ae m),.box (Af s),.arr true 0 (CD m s (k+1)).length 1 (H4 (CD m s (k+1)))]) ?_ ?_ rfl
  ·rw[FM,FM];exact AV _
  ·rw[FM,FM]
   refine⟨Ob.le_refl _,Ob.le_refl _,AlB fun i hi=>AQ ?_,trivial⟩
   show _=[Ac ((CD m s (k+1)).getD i false)]
   rw[QK (k:=k+1) hi]
   cases hq:i.beq k with
   | true =>
    have:=AkT hq;subst this
    rw[AkQ,E8 (AlP _)]<;>rfl
   | false =>
    rw[AkN,QK (k:=k) hi]
    have hne:i≠k:=by rintro rfl;simp at hq
    rcases Alw i k with h | h
    ·rw[E8 h,E8 (by omega)]<;>rfl
    ·rw[GC h,GC (by omega)]<;>rfl
 ·have hge':k=s.Procs.length:=by have:=A5 hge;omega
  subst hge'
  exact⟨trivial,VV.le_refl _⟩
end
def Ij (is:List Nat)(φ:Phi):Phi:=fun j=>(is[j]?).bind φ
def UP (is:List Nat)(hs:List Ob):List Ob:=is.map fun i=>UJ false (idx is) (fun _ g=>some g) (fun g=>g) (Bn hs i)
theorem Xi (p:Pl):Fg (fun g=>g) p=p:=by cases p<;>rfl
theorem Aj.pick {P:Program}{f:FuncId}{hs hs1:List Ob}{xs:List VV}{r:VV}(is:List Nat)(h:Aj P f hs xs hs1 r)(hok:Ex hs1.length is=true)
  (hl:∀ j,j<hs.length->is[j]?=some j∨((∀ cs,Bn hs j≠.box cs)/\∃ i,is[j]?=some i/\∀ cs,Bn hs1 i≠.box cs)) :
  Aj P f hs xs (UP is hs1) (Mn false (idx is) (fun _ g=>some g) 8 r):=by
 refine⟨h.callable,fun w E φ vs hz hH hφ hs0=>(h.call w E φ vs hz hH hφ hs0).mono ?_⟩
 rintro e w' ⟨v,φ',rfl,h1,h2,h3,h4⟩
 have hsub:∀ k,Own (Ij is φ') k->Own φ' k:=by
  rintro k ⟨j,hb⟩
  obtain⟨p,hp,hpb⟩:=AI.1 hb
  unfold Ij at hp
  cases hq:is[j]? with
  | none=>rw[hq]at hp;cases hp
  | some i=>rw[hq]at hp;exact⟨i,AI.2 ⟨p,hp,hpb⟩⟩
 have hrel:Sd false (idx is) (fun _ g=>some g) (E.up φ') φ' (E.up (Ij is φ')) (Ij is φ'):=by
  refine⟨fun k hk=>hk.imp id (hsub k),fun _ k hk=>hk.imp id (hsub k),fun id i b hi hb=>?_,fun id i gen g c len hd hi hg hph hle=>?_⟩
  ·unfold Ij;rw[DT hi];exact hb
  ·obtain rfl:=Ak9 hg
   refine⟨c,?_,hle,fun e=>e⟩
   unfold Ij;rw[DT hi];exact hph
 have hat:∀ j i,is[j]?=some i->Ij is φ' j=φ' i:=fun j i hj=>by unfold Ij;rw[hj];rfl
 refine⟨v,Ij is φ',rfl,⟨h1.sub,fun j p e=>?_,fun i j k hi hj=>?_,fun k hk=>h1.free k (hsub k hk)⟩,⟨h2.os,h2.tape,h2.output,h2.size,h2.block,fun k hk=>h2.new k (hsub k hk),fun id p hid e=>?_⟩,fun j=>?_,EY hrel 8 _ _ h4⟩
 ·cases hq:is[j]? with
  | none=>unfold Ij at e;rw[hq]at e;cases e
  | some i =>
   rw[hat j i hq]at e
   have:=Mm (og:=fun g=>g) hrel (h1.ob i p e)
   rw[Xi]at this
   have e1:Bn (UP is hs1) j=UJ false (idx is) (fun _ g=>some g) (fun g=>g) (Bn hs1 i):=by
    unfold UP Bn
    rw[Ak2,Alh,hq];rfl
   rw[e1];exact this
 ·have toOld:∀ j k,Blk (Ij is φ') j k->∃ i,is[j]?=some i/\Blk φ' i k:=by
   intro j k hb
   obtain⟨p,hp,hpb⟩:=AI.1 hb
   unfold Ij at hp
   cases hq:is[j]? with
   | none=>rw[hq]at hp;cases hp
   | some i=>rw[hq]at hp;exact⟨i,rfl,AI.2 ⟨p,hp,hpb⟩⟩
  obtain⟨a,ha,hab⟩:=toOld i k hi
  obtain⟨b,hb,hbb⟩:=toOld j k hj
  obtain rfl:=h1.inj a b k hab hbb
  have e1:=Lw hok i a ha
  have e2:=Lw hok j a hb
  rw[e1]at e2
  exact Ak9 e2
 ·rcases hl id hid with hi | ⟨n1,i,hi,n2⟩
  ·obtain⟨p',e1,e2⟩:=h2.kind id p hid e
   exact⟨p',by rw[hat id id hi];exact e1,e2⟩
  ·have hlt:i<hs1.length:=by
    have:=(h3 i)
    exact Alf fun hn=>by
     have hj:=FY hok _ _ hi
     exact hn hj
   obtain⟨q,hq⟩:∃ q,φ' i=some q:=Amz.1 ((h3 i).2 hlt)
   refine⟨q,by rw[hat id i hi];exact hq,?_⟩
   have o1:=hH.ob id p e
   have o2:=h1.ob i q hq
   cases p with
   | box b =>
    exfalso
    generalize hx:Bn hs id=x at o1 n1
    cases x with
    | box cs=>exact n1 cs rfl
    | arr=>exact o1.elim
    | gone=>exact o1.elim
   | arr c n hd =>
    cases q with
    | arr c' n' hd'=>exact⟨c',n',hd',rfl⟩
    | box b =>
     exfalso
     generalize hx:Bn hs1 i=x at o2 n2
     cases x with
     | box cs=>exact n2 cs rfl
     | arr=>exact o2.elim
     | gone=>exact o2.elim
 ·have hlen:(UP is hs1).length=is.length:=by simp[UP]
  rw[hlen]
  constructor
  ·intro hn
   refine Alf fun hge=>hn ?_
   unfold Ij
   rw[Al6 (by omega)];rfl
  ·intro hlt
   have hj:is[j]?=some is[j]:=Ak1 hlt
   rw[hat j _ hj]
   exact(h3 _).2 (FY hok _ _ hj)
def AdM : Shp:={ α:=D.State × Int,enc:=fun y=>([obC y.1,obP y.1],.tup [.agg (Bj y.1 (.ow 0 0 y.1.Chans.length) (.ow 1 0 y.1.Procs.length)),Aa y.2]) }
def Aij : Shp:={ α:=D.Chan × Int,enc:=fun y=>([],.tup [.agg (AL y.1),Aa y.2]) }
def UA (f:FuncId):Shp:=bif Nat.beq f 161 then AdM else bif Nat.beq f 162 then AdN else bif Nat.beq f 164 then Aij else Mh f
def LN : Ann:={ base:=3,keep:=fun
  | [0,1,0,1]=>[0,2,4,11,12,13]
  | _=>[] }
def Kp (e:D.Env)(s:D.Stmt)(m:List Int)(k:Int):St:=Aq [(0,.bp 0 0),(2,Ad true m),(4,.bp 3 0),(11,Ad true s.Args),(12,Aa s.Args.length),(13,Aa k)] (hsE e++[.box (Ar s)])
set_option maxRecDepth 100000
theorem OO (hs':List Ob)(r:Int)(e:D.Env)(x v:Int):(CR Tryz.prog tb UA AcT false Tryz.f124 hs' (Aa r)).goal (St.init (hsE e) [.bp 0 0,Aa x,Aa v]) =
  (∃ (y:D.State × Int),Aj Tryz.prog 161 [] [VV.agg (Bo e),Aa x,Aa v] [obC y.fst,obP y.fst] (VV.tup [VV.agg (Bj y.fst (VV.ow 0 0 y.fst.Chans.length) (VV.ow 1 0 y.fst.Procs.length)),Aa y.snd])/\BB (y.snd==0) (leO [Ob.box [AJ true e.M.Globals,Ad true e.M.Init,Bg true e.M.Shapes,Ad true e.M.Chans,A4 true e.M.Procs,Aa e.M.Claim,Bz true e.M.Exprs,Ad true y.fst.Globals,VV.ow 3 0 y.fst.Chans.length,VV.ow 4 0 y.fst.Procs.length,Aa y.fst.Last,Aa y.fst.Alone,Aa y.fst.Claim,Aa e.Pid,Ac e.Timeout,Bb true e.Able],obC e.S,obP e.S,obC y.fst,obP y.fst] hs'/\(Aa y.snd).le (Aa r)) (leO (hsE e) hs'/\(Aa y.snd).le (Aa r))):=by kernel_rfl
theorem Wm (y:D.Env)(r:Int)(e:D.Env)(s:D.Stmt)(m:List Int):(CR Tryz.prog tb UA LN false Tryz.f163 (hsE y) (Aa r)).goal (St.init (hsE e) [.bp 0 0,.agg (Ar s),Ad true m]) =
  (AB (CR Tryz.prog tb UA LN false Tryz.f163 (hsE y) (Aa r)) [1,0,1,0] (Kp e s m (0:Int))):=by kernel_rfl
theorem TT (y:D.Env)(r:Int)(e:D.Env)(s:D.Stmt)(m:List Int)(k:Int)(J:St->Prop):((CR Tryz.prog tb UA LN false Tryz.f163 (hsE y) (Aa r)).loop [1,0,1,0] J).goal (Kp e s m k) =
  (BB (decide (k<(↑s.Args.length:Int))) (inX k s.Args.length/\inX k s.Match.length/\BB (s.Match.getD k.toNat 0 != 0) (J (Kp e s m (IntKind.i64.wrap (k+(1:Int))))) (inX k m.length/\∃ (y_1:D.Env × Int),Aj Tryz.prog 124 (hsE e) [VV.bp 0 0,Aa (s.Args.getD k.toNat 0),Aa (m.getD k.toNat 0)] (hsE y_1.fst) (Aa y_1.snd)/\BB (y_1.snd != 0) (leO (hsE y_1.fst) (hsE y)/\(Aa y_1.snd).le (Aa r)) (J (Kp y_1.fst s m (IntKind.i64.wrap (k+(1:Int))))))) (leO (hsE e) (hsE y)/\(Aa 0).le (Aa r))):=by kernel_rfl
theorem ZX (hs':List Ob)(r:Int)(e:D.Env)(s:D.Stmt)(w:Wy):(CR Tryz.prog tb UA AcT false Tryz.f125 hs' (Aa r)).goal (St.init (hsE e) [.bp 0 0,.agg (Ar s),.agg (A0 w)]) =
  (∃ (y:Int × List Int × Int),VC 162 [VV.agg (Bo e),VV.agg (Ar s)] (VV.tup [Aa y.fst,Ad true y.snd.fst,Aa y.snd.snd])/\BB (y.snd.snd != 0) (leO (hsE e) hs'/\(Aa y.snd.snd).le (Aa r)) (BB (decide (w.With>=0)) (∃ (y_1:D.Loc),VC 84 [VV.agg [AJ true e.M.Globals,Ad true e.M.Init,Bg true e.M.Shapes,Ad true e.M.Chans,A4 true e.M.Procs,Aa e.M.Claim,Bz true e.M.Exprs,Ad true e.S.Globals,Az false e.S.Chans,Ap false e.S.Procs,Aa e.S.Last,Aa e.S.Alone,Aa e.S.Claim,Aa w.With,Ac e.Timeout,Bb true e.Able]] (VV.agg (AZ y_1))/\∃ (y_2:D.Trans),VC 83 [VV.agg (AZ y_1),Aa w.WithEsc,Aa w.WithWay] (VV.agg (CY y_2))/\∃ (y_3:D.Env × Int),Aj Tryz.prog 163 [Ob.box [AJ true e.M.Globals,Ad true e.M.Init,Bg true e.M.Shapes,Ad true e.M.Chans,A4 true e.M.Procs,Aa e.M.Claim,Bz true e.M.Exprs,Ad true e.S.Globals,VV.ow 1 0 e.S.Chans.length,VV.ow 2 0 e.S.Procs.length,Aa e.S.Last,Aa e.S.Alone,Aa e.S.Claim,Aa w.With,Ac e.Timeout,Bb true e.Able],obC e.S,obP e.S] [VV.bp 0 0,VV.agg (Ar y_2.S),Ad true y.snd.fst] (hsE y_3.fst) (Aa y_3.snd)/\leO [Ob.box [AJ true e.M.Globals,Ad true e.M.Init,Bg true e.M.Shapes,Ad true e.M.Chans,A4 true e.M.Procs,Aa e.M.Claim,Bz true e.M.Exprs,Ad true y_3.fst.S.Globals,VV.ow 1 0 y_3.fst.S.Chans.length,VV.ow 2 0 y_3.fst.S.Procs.length,Aa y_3.fst.S.Last,Aa y_3.fst.S.Alone,Aa y_3.fst.S.Claim,Aa e.Pid,Ac e.Timeout,Bb true e.Able],obC y_3.fst.S,obP y_3.fst.S] hs'/\(Aa y_3.snd).le (Aa r)) (inX (IntKind.i64.wrap (y.fst - (1:Int))) e.S.Chans.length/\inX (e.S.Chans.getD (IntKind.i64.wrap (y.fst - (1:Int))).toNat default).Shape e.M.Shapes.length/\∃ (y_1:D.Chan × Int),VC 164 [VV.agg (FE (e.M.Shapes.getD (e.S.Chans.getD (IntKind.i64.wrap (y.fst - (1:Int))).toNat default).Shape.toNat default)),VV.agg (AL (e.S.Chans.getD (IntKind.i64.wrap (y.fst - (1:Int))).toNat default)),Ad true y.snd.fst,Ac (s.N==1)] (VV.tup [VV.agg (AL y_1.fst),Aa y_1.snd])/\inX (IntKind.i64.wrap (y.fst - (1:Int))) e.S.Chans.length/\leO [Ob.box (E6 e (VV.ow 1 0 e.S.Chans.length) (VV.ow 2 0 e.S.Procs.length)),Ob.arr true 0 e.S.Chans.length 2 fun(j:Nat)=>bif j.beq (IntKind.i64.wrap (y.fst - (1:Int))).toNat then AL y_1.fst else AL (e.S.Chans.getD j default),obP e.S] hs'/\(Aa y_1.snd).le (Aa r)))):=by kernel_rfl
theorem Aac (l:D.Loc)(e:D.Env):(fc UA AM Tryz.f84 [] (.agg (AZ l))).goal (St.init [] [.agg (Bo e)]) =
  (inX e.Pid e.S.Procs.length/\inX (e.S.Procs.getD e.Pid.toNat default).Type_ e.M.Procs.length/\inX (e.S.Procs.getD e.Pid.toNat default).Loc (e.M.Procs.getD (e.S.Procs.getD e.Pid.toNat default).Type_.toNat default).Locs.length/\LQ (VV.agg (AZ ((e.M.Procs.getD (e.S.Procs.getD e.Pid.toNat default).Type_.toNat default).Locs.getD (e.S.Procs.getD e.Pid.toNat default).Loc.toNat default))) (VV.agg (AZ l))):=by kernel_rfl
end Go.Proofs.YtmdcknlpalfhhaaGreatDoor
namespace Go.Proofs.YtmdcknlpalfhhaaGreatDoor
open Go.RowKit
def stE (e:D.Env)(x v:Int):D.Env:=bif decide ((AX e x v).2=0) then{ e with S:=(AX e x v).1 } else e
def Gq (m mt:List Int):Nat->List Int->D.Env->D.Env × Int
 | _,[],e=>(e,0)
 | k,x::r,e=>bif decide (mt.getD k 0≠0) then Gq m mt (k+1) r e
   else bif decide ((AX e x (m.getD k 0)).2≠0) then(e,(AX e x (m.getD k 0)).2) else Gq m mt (k+1) r (stE e x (m.getD k 0))
def Dw (e:D.Env)(s:D.Stmt)(m:List Int):D.Env × Int:=Gq m s.Match 0 s.Args e
structure Og (e e':D.Env):Prop where
 M:e'.M=e.M
 pid:e'.Pid=e.Pid
 t:e'.Timeout=e.Timeout
 a:e'.Able=e.Able
 chans:e'.S.Chans=e.S.Chans
 procs:e'.S.Procs.length=e.S.Procs.length
theorem Og.refl (e:D.Env):Og e e:=⟨rfl,rfl,rfl,rfl,rfl,rfl⟩
theorem Og.trans {a b c:D.Env}(h:Og a b)(k:Og b c):Og a c:=⟨k.M.trans h.M,k.pid.trans h.pid,k.t.trans h.t,k.a.trans h.a,k.chans.trans h.chans,k.procs.trans h.procs⟩
theorem Aa9 (m:D.Model)(s:D.State)(who k v:Int):(N9 m s who k v).Chans=s.Chans/\(N9 m s who k v).Procs.length=s.Procs.length:=by
 unfold N9
 cases decide (who<0) with
 | true=>exact⟨rfl,rfl⟩
 | false=>exact⟨rfl,by simp[setO]⟩
theorem WQ {e:D.Env}{x v:Int}(h:(AX e x v).2=0):(AX e x v).1.Chans=e.S.Chans/\(AX e x v).1.Procs.length=e.S.Procs.length:=by
 unfold AX at h ⊢
 cases c1:decide (CG e x≠0) with
 | true =>
  rw[c1,AkQ]at h
  exact absurd h (AkW c1)
 | false =>
  rw[c1,AkN]at h
  rw[AkN]
  cases c2:decide ((BG e (Fp e) (Ax e.M x)).2.2≠0) with
  | true =>
   rw[c2,AkQ]at h
   exact absurd h (AkW c2)
  | false=>rw[AkN];exact Aa9 _ _ _ _ _
theorem Pz (e:D.Env)(x v:Int):Og e (stE e x v):=by
 unfold stE
 cases c:decide ((AX e x v).2=0) with
 | true =>
  obtain⟨h1,h2⟩:=WQ (AkW c)
  exact⟨rfl,rfl,rfl,rfl,h1,h2⟩
 | false=>exact Og.refl e
theorem JO (m mt:List Int):∀ (l:List Int) (k:Nat) (e:D.Env),Og e (Gq m mt k l e).1
 | [],_,e=>Og.refl e
 | x::r,k,e=>by
  unfold Gq
  cases decide (mt.getD k 0≠0) with
  | true=>exact JO m mt r (k+1) e
  | false =>
   rw[AkN]
   cases decide ((AX e x (m.getD k 0)).2≠0) with
   | true=>exact Og.refl e
   | false=>exact(Pz e x _).trans (JO m mt r (k+1) _)
theorem Rv {e:D.Env}{c:Int}{m:List Int}{i:Int}{p:Pn}:∀ {ws:List D.Trans} {k:Nat},p∈CP e c m i k ws->p.pid=e.Pid/\p.esc=i/\∃ j:Nat,p.way=((k+j:Nat):Int)/\j<ws.length/\GP e (ws.getD j default).S c m=true
 | [],_,h=>by cases h
 | t::r,k,h=>by
  rcases Als.1 (show p∈(bif GP e t.S c m then[(⟨e.Pid,i,k⟩:Pn)] else[])++CP e c m i (k+1) r from h) with h | h
  ·cases q:GP e t.S c m with
   | false=>rw[q]at h;cases h
   | true =>
    rw[q]at h
    obtain rfl:=Aln.1 h
    exact⟨rfl,rfl,0,rfl,Nat.succ_pos _,q⟩
  ·obtain⟨h1,h2,j,h3,h4,h5⟩:=Rv h
   exact⟨h1,h2,j+1,by rw[h3];congr 1;omega,Nat.succ_lt_succ h4,h5⟩
theorem Rt {e:D.Env}{c:Int}{m:List Int}{p:Pn}:∀ {l:List (Int × List D.Trans)},p∈Ih e c m l->∃ i ws,(i,ws)∈l/\p∈CP e c m i 0 ws
 | [],h=>by cases h
 | (i,ws)::r,h=>by
  have hq:Ih e c m ((i,ws)::r)=bif decide (0<(CP e c m i 0 ws).length)||isSome (CC e Mu ws true) then CP e c m i 0 ws else Ih e c m r:=rfl
  rw[hq]at h
  cases c1:(decide (0<(CP e c m i 0 ws).length)||isSome (CC e Mu ws true)) with
  | true=>rw[c1]at h;exact⟨i,ws,AkY,h⟩
  | false =>
   rw[c1]at h
   obtain⟨i',ws',h1,h2⟩:=Rt h
   exact⟨i',ws',Alb _ h1,h2⟩
theorem Abq {e:D.Env}{c:Int}{m:List Int}{p:Pn}(h:p∈GV e c m):p.pid=e.Pid/\-1<=p.esc/\p.esc<(Dp e).Esc.length/\0<=p.way/\p.way<(Cc (Dp e) p.esc).length /\
  ((Cc (Dp e) p.esc).getD p.way.toNat default).S.Kind=6/\((Cc (Dp e) p.esc).getD p.way.toNat default).S.Args.length=m.length:=by
 unfold GV at h
 cases c1:(!(Bl e).1||decide ((Bl e).2≠0)) with
 | true=>rw[c1]at h;cases h
 | false =>
  rw[c1,AkN]at h
  obtain⟨i,ws,hi,hp⟩:=Rt h
  obtain⟨e1,e2,j,e3,e4,e5⟩:=Rv hp
  obtain⟨l1,l2,l3,_⟩:=Io hi
  rw[e2,l1]
  refine⟨e1,l2,l3,by rw[e3];omega,by rw[e3];omega,?_⟩
  rw[show p.way.toNat=j by rw[e3];omega]
  unfold GP at e5
  cases c2:(decide ((ws.getD j default).S.Kind≠6)||(decide (1<(ws.getD j default).S.N)||decide ((ws.getD j default).S.Args.length≠m.length))) with
  | true=>rw[c2]at e5;cases e5
  | false =>
   simp only[Ald,Alq,ne_eq,Decidable.not_not]at c2
   exact⟨c2.1,c2.2.2⟩
theorem P3 {e:D.Env}{c:Int}{m:List Int}{p:Pn}:∀ {n:Nat},p∈DZ e c m n->∃ q:Nat,q<n/\(q:Int)≠e.Pid/\p∈GV (BH e q) c m
 | 0,h=>by cases h
 | n+1,h=>by
  rcases Als.1 (show p∈DZ e c m n++(bif decide ((n:Int)≠e.Pid) then GV (BH e n) c m else[]) from h) with h | h
  ·obtain⟨q,h1,h2⟩:=P3 h
   exact⟨q,by omega,h2⟩
  ·cases c1:decide ((n:Int)≠e.Pid) with
   | true=>rw[c1]at h;exact⟨n,AlP _,AkW c1,h⟩
   | false=>rw[c1]at h;cases h
theorem VU {ev:Evl}:∀ {l out:List Int},(Jj ev out l).2=0->(Jj ev out l).1.length=out.length+l.length
 | [],out,_=>rfl
 | x::l,out,h=>by
  have hq:Jj ev out (x::l)=bif decide ((ev x).2≠0) then([],(ev x).2) else Jj ev (out++[(ev x).1]) l:=rfl
  rw[hq]at h ⊢
  cases c:decide ((ev x).2≠0) with
  | true=>rw[c]at h;exact absurd h (AkW c)
  | false =>
   rw[c,AkN]at h
   rw[AkN,VU h]
   simp;omega
theorem JL {e:D.Env}{s:D.Stmt}(h:(AA e s).2.2=0):(AA e s).2.1.length=s.Args.length:=by
 unfold AA at h ⊢
 cases c1:decide ((AD e s.A).2≠0) with
 | true=>rw[c1]at h;exact absurd h (AkW c1)
 | false =>
  rw[c1,AkN]at h
  rw[AkN]
  cases c2:decide ((Bd e (AD e s.A).1).length≠s.Args.length) with
  | true=>rw[c2]at h;cases h
  | false =>
   rw[c2,AkN]at h
   rw[AkN]
   cases c3:decide ((BS e s.Args).2≠0) with
   | true=>rw[c3]at h;exact absurd h (AkW c3)
   | false =>
    rw[AkN]
    have h0:(BS e s.Args).2=0:=by simpa using c3
    have:=VU (ev:=AY e) (l:=s.Args) (out:=[]) h0
    rw[AlK,Alk]at this
    show(Oa _ _).length=_
    unfold Oa
    rw[AlU,AmS]
    exact this
theorem AaP {e:D.Env}{mt:Int->List Int->List Pn}{s:D.Stmt}{self:Bool}{p:Pn}(h:p∈(Db e mt s self).wth):s.Kind=5/\(AA e s).2.2=0/\p∈mt (AD e s.A).1 (AA e s).2.1:=by
 have no:∀ {q:Prop},p∈([]:List Pn)->q:=fun h=>by cases h
 unfold Db at h
 split at h
 ·cases q:DP e s.A<;>rw[q]at h<;>exact no h
 split at h
 ·cases q:DP e s.B<;>rw[q]at h<;>exact no h
 split at h
 ·exact no h
 split at h
 ·rename_i hk
  refine⟨hk,?_⟩
  unfold IL at h
  cases c1:decide ((AD e s.A).2≠0) with
  | true=>rw[c1]at h;exact no h
  | false =>
  rw[c1,AkN]at h
  cases c2:decide ((Bd e (AD e s.A).1).length≠s.Args.length) with
  | true=>rw[c2]at h;exact no h
  | false =>
  rw[c2,AkN]at h
  cases c3:decide (0<(BU e.M (Co e (AD e s.A).1).Shape).Room) with
  | true=>rw[c3]at h;exact no h
  | false =>
  rw[c3,AkN]at h
  cases c4:self with
  | true=>rw[c4]at h;exact no h
  | false =>
  rw[c4,AkN]at h
  cases c5:decide ((AA e s).2.2≠0) with
  | true=>rw[c5]at h;exact no h
  | false =>
  rw[c5,AkN]at h
  exact⟨by simpa using c5,h⟩
 split at h
 ·exact no h
 split at h<;>exact no h
theorem AeD {e:D.Env}{w:Wy}(hw:w∈Bm e) :
  (w.With<0->w.WithEsc=-1/\w.WithWay=-1) /\
  (0<=w.With->0<=w.Way/\w.With≠e.Pid/\w.With<e.S.Procs.length/\((Cc (Dp e) w.Esc).getD w.Way.toNat default).S.Kind=5/\-1<=w.WithEsc/\w.WithEsc<(Dp (BH e w.With)).Esc.length/\0<=w.WithWay /\
   w.WithWay<(Cc (Dp (BH e w.With)) w.WithEsc).length/\((Cc (Dp (BH e w.With)) w.WithEsc).getD w.WithWay.toNat default).S.Kind=6 /\
   ((Cc (Dp e) w.Esc).getD w.Way.toNat default).S.Args.length=((Cc (Dp (BH e w.With)) w.WithEsc).getD w.WithWay.toNat default).S.Args.length):=by
 rcases Hu (e:=e) with h | ⟨er,h⟩ | ⟨i,ws,hi,h⟩
 ·rw[h]at hw;cases hw
 ·rw[h]at hw
  obtain rfl:=Aln.1 hw
  exact⟨fun _=>⟨rfl,rfl⟩,fun h0=>by unfold K5 at h0;simp at h0⟩
 ·rw[h]at hw
  obtain⟨hl,h1,h2,_⟩:=Io hi
  have key:∀ {l:List Ab} {k:Nat},w∈C5 i k l->∃ (j:Nat) (x:Ab),l[j]?=some x/\w∈GO i (k+j) x:=by
   intro l
   induction l with
   | nil=>intro k h;cases h
   | cons x r ih =>
    intro k h
    rcases Als.1 (show w∈GO i k x++C5 i (k+1) r from h) with h | h
    ·exact⟨0,x,rfl,h⟩
    ·obtain⟨j,y,a,b⟩:=ih h
     exact⟨j+1,y,a,by rw[show k+(j+1)=k+1+j by omega];exact b⟩
  obtain⟨j,x,a1,a2⟩:=key hw
  obtain⟨b1,rfl⟩:=TC a1
  rw[Alk]at a2
  rcases Als.1 a2 with a2 | a2
  ·cases c:((F5 e (Bq e) ws false j).is&&decide ((F5 e (Bq e) ws false j).wth.length=0)) with
   | false=>rw[c]at a2;cases a2
   | true =>
    rw[c]at a2
    obtain rfl:=Aln.1 a2
    exact⟨fun _=>⟨rfl,rfl⟩,fun h0=>absurd (show(0:Int)<=-1 from h0) (by decide)⟩
  ·obtain⟨p,hp,rfl⟩:=Amd.1 a2
   have hwth:(F5 e (Bq e) ws false j).wth=(Db e (Bq e) (ws.getD j default).S false).wth:=by
    unfold F5
    cases (decide ((ws.getD j default).S.Kind=7)&&!(FT e (Bq e) ws false ws.length))<;>rfl
   rw[hwth]at hp
   obtain⟨s1,s2,s3⟩:=AaP hp
   obtain⟨q,q1,q2,q3⟩:=P3 (show p∈DZ e _ _ e.S.Procs.length from s3)
   obtain⟨r1,r2,r3,r4,r5,r6,r7⟩:=Abq q3
   have r1':p.pid=q:=r1
   have hat:BH e p.pid=BH e q:=by rw[r1']
   refine⟨fun h0=>?_,fun _=>?_⟩
   ·have h0':p.pid<0:=h0
    rw[r1']at h0';omega
   ·show 0<=(j:Int)/\p.pid≠e.Pid/\p.pid<e.S.Procs.length/\((Cc (Dp e) i).getD (j:Int).toNat default).S.Kind=5/\-1<=p.esc/\p.esc<(Dp (BH e p.pid)).Esc.length/\0<=p.way/\p.way<(Cc (Dp (BH e p.pid)) p.esc).length /\
     ((Cc (Dp (BH e p.pid)) p.esc).getD p.way.toNat default).S.Kind=6/\((Cc (Dp e) i).getD (j:Int).toNat default).S.Args.length=((Cc (Dp (BH e p.pid)) p.esc).getD p.way.toNat default).S.Args.length
    rw[hat,hl,show((j:Nat):Int).toNat=j by omega]
    exact⟨by omega,by rw[r1'];exact q2,by rw[r1'];omega,s1,r2,r3,r4,r5,r6,by rw[r7,JL s2]⟩
end Go.Proofs.YtmdcknlpalfhhaaGreatDoor
namespace Go.Proofs.YtmdcknlpalfhhaaGreatDoor.Ch
def E4 : List Int->List Int->Bool
 | a::aa,b::bs=>if a=b then E4 aa bs else decide (a<b)
 | [],_::_=>true
 | _,[]=>false
theorem Lu : ∀ (n:Nat) (xs ys:List Int),n<=xs.length->n<=ys.length->(∀ j,j<n->xs.getD j 0=ys.getD j 0)->E4 xs ys=E4 (xs.drop n) (ys.drop n)
 | 0,_,_,_,_,_=>rfl
 | n+1,a::aa,b::bs,h1,h2,h=>by
  have h0:=h 0 (by omega)
  simp only[List.getD_cons_zero]at h0
  subst h0
  rw[E4,Alj rfl,List.drop_succ_cons,List.drop_succ_cons]
  exact Lu n aa bs (by simpa using h1) (by simpa using h2) fun j hj=>by simpa using h (j+1) (by omega)
 | n+1,[],_,h1,_,_=>by simp at h1
 | n+1,_::_,[],_,h2,_=>by simp at h2
theorem OJ {α:Type}[Inhabited α](xs:List α)(n:Nat)(d:α)(h:n<xs.length):xs.drop n=xs.getD n d::xs.drop (n+1):=by
 rw[Amh h];simp[List.getD,h]
theorem Tf (n:Nat)(xs ys:List Int)(h1:n<xs.length)(h2:n<ys.length)(h:∀ j,j<n->xs.getD j 0=ys.getD j 0)(hne:xs.getD n 0≠ys.getD n 0):E4 xs ys=decide (xs.getD n 0<ys.getD n 0):=by
 rw[Lu n xs ys (by omega) (by omega) h,OJ xs n 0 h1,OJ ys n 0 h2,E4,Ak3 hne]
theorem RM (n:Nat)(xs ys:List Int)(h1:n<=xs.length)(h2:n<=ys.length)(h3:n=xs.length∨n=ys.length)(h:∀ j,j<n->xs.getD j 0=ys.getD j 0):E4 xs ys=decide (xs.length<ys.length):=by
 rw[Lu n xs ys h1 h2 h]
 by_cases hx:n=xs.length
 ·rw[hx,Amp]
  by_cases hy:xs.length<ys.length
  ·rw[OJ ys _ 0 hy,E4];simp[hy]
  ·rw[Ame (by omega),E4];simp[hy]
 ·have hy:n=ys.length:=by omega
  subst hy
  rw[Amp,OJ xs _ 0 (by omega),E4];simp;omega
def Ed (x:List Int):List (List Int)->Nat
 | []=>0
 | y::q=>if E4 x y then 0 else Ed x q+1
theorem RX (x:List Int):∀ q,Ed x q<=q.length
 | []=>AkU _
 | y::q=>by
  unfold Ed
  have:=RX x q
  split<;>simp;omega
theorem Qg (x:List Int):∀ (q:List (List Int)) (k:Nat) (y:List Int),q[k]?=some y->(∀ j y',j<k->q[j]?=some y'->E4 x y'=false)->E4 x y=true->Ed x q=k
 | [],k,y,h,_,_=>by simp at h
 | z::q,0,y,h,_,h2=>by
  simp at h;subst h
  simp[Ed,h2]
 | z::q,k+1,y,h,h1,h2=>by
  have h0:=h1 0 z (by omega) rfl
  rw[Ed,h0]
  simp only[Amw,if_false]
  rw[Qg x q k y (by simpa using h) (fun j y' hj hy=>h1 (j+1) y' (by omega) (by simpa using hy)) h2]
theorem N0 (x:List Int):∀ (q:List (List Int)),(∀ (j:Nat) (y':List Int),q[j]?=some y'->E4 x y'=false)->Ed x q=q.length
 | [],_=>rfl
 | z::q,h=>by
  rw[Ed,h 0 z rfl]
  simp only[Amw,if_false]
  rw[N0 x q fun j y' hy=>h (j+1) y' (by simpa using hy)];rfl
def IU (x:List Int)(q:List (List Int)):Int:=if Ed x q<q.length then Ed x q else -1
end Go.Proofs.YtmdcknlpalfhhaaGreatDoor.Ch
namespace Go.Proofs.YtmdcknlpalfhhaaGreatDoor.Ch
open Go.RowKit
def pM : Pkg (List Int):=Pkg.slice 1 8 (Pkg.int .i64)
def pQ : Pkg (List (List Int)):=Pkg.slice 1 24 pM
theorem L5 : Pkg.Stays pM:=Pkg.stays_slice (Pkg.stays_int _)
theorem YM : Pkg.Stays pQ:=Pkg.stays_slice L5
set_option maxHeartbeats 400000 in
theorem XK {w:World}{va vb:Value}{xs ys:List Int}(ha:Is pM w [va] xs)(hb:Is pM w [vb] ys) :
  Calls Tryz.prog 187 #[va,vb] w fun e w'=>e=.returned (.bool (E4 xs ys))/\∃ n,w'=w.drewN n:=by
 obtain⟨ao,ca,rfl,ha1,ha2,_,ha3⟩:=KH ha
 obtain⟨bo,cb,rfl,hb1,hb2,_,hb3⟩:=KH hb
 clear ha hb
 unfold maxLen at ha2 hb2
 go_enter Tryz.func187,Tryz.ntmps187
 go_wp2
 go_step3
 go_wp2
 refine wp_label ?_
 rename_i K hK
 refine hK _ _ ?_
 clear hK K
 go_wp2
 go_loopw [5] (fun i wr=>∃ k:Nat,k<=xs.length/\k<=ys.length/\i=.int .i64 k/\(∀ j,j<k->xs.getD j 0=ys.getD j 0)/\∃ n,wr=w.drewN n) (fun i _=>xs.length - (intOf i).toNat)
 case atStart=>exact⟨0,AkV _,AkV _,rfl,fun j h=>by omega,0,rfl⟩
 case round =>
  obtain⟨k,hk1,hk2,rfl,hs,nq,rfl⟩:=hrel
  by_cases hx:k<xs.length
  ·by_cases hy:k<ys.length
   ·obtain⟨b,off,rfl,hbl,hc⟩:=ha3 (by omega)
    obtain⟨b',off',rfl,hbl',hc'⟩:=hb3 (by omega)
    have c1:=hc k hx
    have c2:=hc' k hy
    by_cases he:xs.getD k 0=ys.getD k 0
    ·have HS:Hid (∀ j,j<k+1->xs.getD j 0=ys.getD j 0):=fun j hj=>by
      by_cases e:j=k
      ·subst e;exact he
      ·exact hs j (by omega)
     rw[← he]at c2
     clear hs hc hc' ha3 hb3 he
     generalize xs.getD k 0=z at *
     go_wp2
     go_quiet (fail)
     go_wp2
     go_roundw
     case rel=>exact⟨k+1,by omega,by omega,by go_num,HS.out,_,rfl⟩
     case measure=>simp[intOf];omega
    ·have HL:=Lib.hid (Tf k xs ys hx hy hs he)
     have hne:(xs.getD k 0 != ys.getD k 0)=true:=by simpa using he
     clear hs hc hc' ha3 hb3 he
     generalize xs.getD k 0=z at *
     generalize ys.getD k 0=z' at *
     go_wp2
     go_quiet (fail)
     go_wp2
     go_quiet (fail)
     go_wp2
     rw[Exit.noGoto_ret]
     go_ret
     exact⟨by rw[HL.out];rfl,_,World.drewN_drewN _ _ _⟩
   ·have HL:=Lib.hid (RM k xs ys hk1 hk2 (.inr (by omega)) hs)
    clear hs ha3 hb3
    go_wp2
    rw[Exit.noGoto_ret]
    go_ret
    exact⟨by rw[HL.out];rfl,_,rfl⟩
  ·have HL:=Lib.hid (RM k xs ys hk1 hk2 (.inl (by omega)) hs)
   clear hs ha3 hb3
   go_wp2
   rw[Exit.noGoto_ret]
   go_ret
   exact⟨by rw[HL.out];rfl,_,rfl⟩
def typeP (t:D.Type):Bool:=decide (1<=t.Bits)&&decide (t.Bits<=32)&&(!t.Signed||decide (t.Bits=16)||decide (t.Bits=32))
def tyV (t:D.Type):Value:=.agg #[.int .i64 t.Bits,.bool t.Signed]
theorem Aeg {a b:Bool}(h:a=b):Ending.returned (.bool a)=.returned (.bool b):=by rw[h]
set_option maxHeartbeats 400000 in
theorem Vg (t:D.Type)(w:World) :
  Calls Tryz.prog 108 #[tyV t] w fun e w'=>e=.returned (.bool (typeP t))/\Below w.heap.size w w':=by
 obtain⟨b,s⟩:=t
 unfold tyV
 go_enter Tryz.func108,Tryz.ntmps108
 go_wp2
 all_goals
  go_ret
  refine⟨Aeg ?_,EG _ _⟩
  first
   | (simp[typeP, *];done)
   | (rw[Alc];simp[typeP, *];done)
   | (rw[Alc];simp[typeP, *];omega)
end Go.Proofs.YtmdcknlpalfhhaaGreatDoor.Ch
namespace Go.Proofs.YtmdcknlpalfhhaaGreatDoor
open Go.RowKit
section
variable {P : Program} (w:World)
theorem Yp (base:Nat)(t ty e:TypeId)(i:TypeInfo)(z:Value)(size bytes:Nat)(ht:P.underlying t=some (.slice e))(hi:P.info? e=some i)(hz:i.zero=some z)
  (hsize:i.size=size) (hby:i.bytes=bytes) (v:Value) (n:Nat) (xs:List Value) (hown:w.ownsRow base e size v n xs)
  (a:Addr) (m c:Nat) (news:List Value) (hl:news.length=m*size) (hnews:∀ j u,news[j]?=some u->w.cell? (a.add j)=some u) (h1:∀ u∈news,u.oneCell'=true)
  (h63:n+m<=maxLen) (hbytes:(n+m)*bytes<=140737488355328)
  (v':Value) (w':World) (hrun:(Builtin.append_ #[t,t] ty #[v,.slice (some a) m c]).run P w=.ok v' w') :
  v'.ownBlock=v.ownBlock∨v'.ownBlock=some w.heap.size:=by
 subst hsize
 subst hby
 have hsmall:n+m<=9223372036854775807:=by simp only[maxLen]at h63;omega
 rcases hown.2 with⟨rfl,rfl⟩ | ⟨g,cap,cur,rfl,_,hg,hnc,hcm,hcs,_⟩
 ·by_cases hm:m=0
  ·subst hm
   have hr:(Builtin.append_ #[t,t] ty #[.slice none 0 0,.slice (some a) 0 c]).run P w=.ok (.slice none 0 0) w:=by
    have hn:news=[]:=Alp (by simpa using hl)
    subst hn
    simp[Builtin.append_,run_underlying ht,sizeOf,typeInfo,hi,Builtin.lenOf,Builtin.firstCells,loadCells,loadCellsFrom]
   rw[hr]at hrun
   simp only[Result.ok.injEq]at hrun
   exact .inl (by rw[← hrun.1])
  ·have hr:=run_append_nil (P:=P) w t ty e i z ht hi hz a m c news hl hnews (by omega) (by omega) (by have hb:=hbytes;simp only[Alk]at hb;omega)
   rw[hr]at hrun
   simp only[Result.ok.injEq]at hrun
   exact .inr (by rw[← hrun.1];rfl)
 ·by_cases hroom:n+m<=cap
  ·have hfit:n*i.size+news.length<=cur.size:=by rw[hl,hcs,← AlL];exact Ala _ hroom
   have hr:=run_append_room (P:=P) w t ty e i ht hi g n cap cur hg a m c news hl hnews h1 hroom hfit
   rw[hr]at hrun
   simp only[Result.ok.injEq]at hrun
   exact .inl (by rw[← hrun.1];rfl)
  ·have holds:∀ j u,xs[j]?=some u->w.cell? ((⟨g,0,none⟩:Addr).add j)=some u:=hown.cells (g:=g) rfl
   have hr:=run_append_grow (P:=P) w t ty e i z ht hi hz ⟨g,0,none⟩ n cap xs hown.1 holds a m c news hl hnews (by omega) (by omega) (growslice_fits (by omega) hbytes)
   rw[hr]at hrun
   simp only[Result.ok.injEq]at hrun
   exact .inr (by rw[← hrun.1];rfl)
theorem OX {ops:Array Oper}{rest:List Oper}{o:Oper}{a:Act}{Q:Exit->Act->World->Prop}(hgd:o.guard=none)(s x:Operand)(t:TypeId)
  (ho:o.op=.call { callee:=.builtin .append,args:=#[s,x],argTypes:=#[t,t] })
  (base:Nat) (e:TypeId) (i:TypeInfo) (z:Value) (size bytes:Nat) (ht:P.underlying t=some (.slice e)) (hi:P.info? e=some i) (hz:i.zero=some z)
  (hsize:i.size=size) (hby:i.bytes=bytes) (hzs:z.cells.size=size) (hsz:0<size)
  (v:Value) (n:Nat) (xs:List Value) (hs:a.eval s=v) (hown:w.ownsRow base e size v n xs)
  (ad:Addr) (m c:Nat) (news:List Value) (hx:a.eval x=.slice (some ad) m c) (hl:news.length=m*size) (hnews:∀ j u,news[j]?=some u->w.cell? (ad.add j)=some u) (h1:∀ u∈news,u.oneCell'=true)
  (h63:n+m<=maxLen) (hbytes:(n+m)*bytes<=140737488355328) (hbase:base<=w.heap.size)
  (h:∀ v' w',w'.ownsRow base e size v' (n+m) (xs++news)->w.grownBy w' v.ownBlock->(v'.ownBlock=v.ownBlock∨v'.ownBlock=some w.heap.size)->wpList P ops Q rest (a.put o.dst v') w'):wpList P ops Q (o::rest) a w:=by
 refine wpList_plain hgd fun K hK=>?_
 obtain⟨v',w',hr,h2,h3,_⟩:=run_append_own (P:=P) w base t o.type e i z size bytes ht hi hz hsize hby hzs hsz v n xs hown ad m c news hl hnews h1 h63 hbytes hbase
 have h4:=Yp w base t o.type e i z size bytes ht hi hz hsize hby v n xs hown ad m c news hl hnews h1 h63 hbytes v' w' hr
 unfold Oper.wp execOp
 simp only[ho,resolve,invoke,builtin,Sem.run_bind,Sem.run_pure,Result.andThen_ok,AmD,AlH,Ami,hs,hx,hr]
 exact hK _ _ (h v' w' h2 h3 h4)
end
end Go.Proofs.YtmdcknlpalfhhaaGreatDoor
namespace Go.Proofs.YtmdcknlpalfhhaaGreatDoor.Ch
open Go.RowKit
theorem B8 {P:Program}{t:TypeId}{z:Value}{s b:Nat}(h:(P.info? t).map (fun i=>(i.zero,i.size,i.bytes))=some (some z,s,b)):∃ i,P.info? t=some i/\i.zero=some z/\i.size=s/\i.bytes=b:=by
 cases hi:P.info? t with
 | none=>rw[hi]at h;cases h
 | some i=>rw[hi]at h;simp only[Ams,AkP,Alu]at h;exact⟨i,rfl,h⟩
theorem JN : (Tryz.prog.info? 2).map (fun i=>(i.zero,i.size,i.bytes))=some (some (.int .i64 0),1,8):=by kernel_rfl
theorem G6 : (Tryz.prog.info? 98).map (fun i=>(i.zero,i.size,i.bytes))=some (some (.slice none 0 0),1,24):=by kernel_rfl
structure Ga (w:World) (n0:Nat) (v:Value) (xs:List Int):Prop where
 row:w.ownsRow n0 2 1 v xs.length (xs.map (Value.int .i64))
 wf:∀ i,i<xs.length->(Lit.int .i64 (xs.getD i 0)).wf=true
structure BT (w:World) (n0:Nat) (v:Value) (vs:List Value) (q:List (List Int)):Prop where
 row:w.ownsRow n0 98 1 v q.length vs
 len:vs.length=q.length
 each:∀ (i:Nat) (u:Value) (m:List Int),vs[i]?=some u->q[i]?=some m->Ga w n0 u m
theorem Ga.same {w w':World}{n0:Nat}{v:Value}{xs:List Int}(h:Ga w n0 v xs)(hs:∀ k,v.ownBlock=some k->w'.heap[k]?=w.heap[k]?):Ga w' n0 v xs :=
 ⟨CE h.row hs,h.wf⟩
theorem Ga.base {w:World}{n0 n1:Nat}{v:Value}{xs:List Int}(h:Ga w n0 v xs)(hb:n1<=n0):Ga w n1 v xs :=
 ⟨⟨h.row.1,h.row.2.imp id fun⟨g,cap,cur,e,h1,h2⟩=>⟨g,cap,cur,e,Alg hb h1,h2⟩⟩,h.wf⟩
theorem Ek {w:World}{n0:Nat}{e:TypeId}{v:Value}{n:Nat}{xs:List Value}(h:w.ownsRow n0 e 1 v n xs) :
  ∃ ao cap,v=.slice ao n cap/\n<=cap/\cap<=maxLen/\(0<n->∃ g,ao=some ⟨g,0,none⟩/\n0<=g/\g<w.heap.size/\∀ j,j<n->w.cell? ⟨g,j,none⟩=xs[j]?):=by
 rcases h.2 with⟨rfl,rfl⟩ | ⟨g,cap,cur,rfl,hb,hg,h1,h2,_⟩
 ·exact⟨none,0,rfl,AkU _,AkV _,fun h=>by omega⟩
 ·exact⟨_,cap,rfl,h1,h2,fun _=>⟨g,rfl,hb,BO hg,fun j hj=>h.cellAt j (by omega)⟩⟩
theorem Ga.is {w:World}{n0:Nat}{v:Value}{xs:List Int}(h:Ga w n0 v xs):Is pM w [v] xs:=by
 obtain⟨ao,cap,rfl,h1,h2,h3⟩:=Ek h.row
 refine⟨ao,cap,rfl,h1,h2,fun hp=>?_⟩
 obtain⟨g,rfl,hb,hg,hc⟩:=h3 hp
 refine⟨g,0,rfl,hg,fun i x hx=>⟨[.int .i64 x],rfl,fun k hk=>?_,rfl,?_⟩⟩
 ·obtain rfl:k=0:=by omega
  have hi:i<xs.length:=(AkR.1 hx).1
  have:=hc i hi
  rw[Alh,hx]at this
  simpa using this
 ·obtain⟨hi,rfl⟩:=AkR.1 hx
  have:=h.wf i hi
  simpa[List.getD,hi] using this
theorem BT.is {w:World}{n0:Nat}{v:Value}{vs:List Value}{q:List (List Int)}(h:BT w n0 v vs q):Is pQ w [v] q:=by
 obtain⟨ao,cap,rfl,h1,h2,h3⟩:=Ek h.row
 refine⟨ao,cap,rfl,h1,h2,fun hp=>?_⟩
 obtain⟨g,rfl,hb,hg,hc⟩:=h3 hp
 refine⟨g,0,rfl,hg,fun i x hx=>?_⟩
 have hi:i<q.length:=(AkR.1 hx).1
 have hv:i<vs.length:=by rw[h.len];exact hi
 refine⟨[vs[i]],rfl,fun k hk=>?_,(h.each i vs[i] x (by simp[hv]) hx).is⟩
 obtain rfl:k=0:=by omega
 have:=hc i hi
 simpa[hv] using this
theorem BT.same {w w':World}{n0:Nat}{v:Value}{vs:List Value}{q:List (List Int)}(h:BT w n0 v vs q)(hs:∀ k,n0<=k->k<w.heap.size->w'.heap[k]?=w.heap[k]?):BT w' n0 v vs q :=
 ⟨CE h.row fun k hk=>hs k (h.row.lt k hk).1 (h.row.lt k hk).2,h.len,fun i u m hu hm=>(h.each i u m hu hm).same fun _ hk=>hs _ ((h.each i u m hu hm).row.lt _ hk).1 ((h.each i u m hu hm).row.lt _ hk).2⟩
theorem XQ {w:World}{b off:Nat}{xs:List Int}(hc:∀ i,i<xs.length->w.cell? ⟨b,off+i,none⟩=some (.int .i64 (xs.getD i 0))) :
  ∀ (j:Nat) (u:Value),(xs.map (Value.int .i64))[j]?=some u->w.cell? ((⟨b,off,none⟩:Addr).add j)=some u:=by
 intro j u hj
 rw[Alh]at hj
 obtain⟨x,hx,rfl⟩:=Ak5.1 hj
 obtain⟨hi,rfl⟩:=AkR.1 hx
 rw[Addr.add_lit,hc j hi];simp[List.getD,hi]
set_option maxHeartbeats 1000000 in
theorem F4 {w:World}{v:Value}{xs:List Int}(h:Is pM w [v] xs)(hr:xs.length*8<=140737488355328) :
  Calls Tryz.prog 30 #[v] w fun e w'=>∃ v',e=.returned v'/\Ga w' w.heap.size v' xs/\Below w.heap.size w w':=by
 obtain⟨ao,cap,rfl,h1,h2,hw,h3⟩:=KH h
 have q22:∀ (w:World) (a:Option Addr) (n c n' c':Nat),(binOp .eql 98 (.slice a n c) (.slice none n' c')).run Tryz.prog w=.ok (.bool a.isNone) w:=fun w a n c n' c'=>Lib.run_eql_slice_nil w _ _ a n c n' c' Tryz.underlying98
 obtain⟨ki,khi,khz0,khz1,khz2⟩:=B8 JN
 cases ao with
 | none =>
  have h0:xs=[]:=by
   apply Alp
   apply Alf
   intro hp
   obtain⟨_,_,e,_⟩:=h3 (by omega)
   cases e
  subst h0
  clear h3
  go_enter Tryz.func30,Tryz.ntmps30
  go_wp2
  go_ret
  exact⟨_,rfl,⟨World.ownsRow_nil _ _ _ _,fun i hi=>by simp at hi⟩,Below.refl _ _⟩
 | some a =>
  have hn:∀ (j:Nat) (u:Value),(xs.map (Value.int .i64))[j]?=some u->w.cell? (a.add j)=some u:=by
   intro j u hj
   have hp:0<xs.length:=by have:=(AkR.1 hj).1;simp at this;omega
   obtain⟨b,off,e,_,hc⟩:=h3 hp
   simp only[AkP]at e
   subst e
   exact XQ hc j u hj
  have HN:=Lib.hid hn
  clear h3 hn h
  have hlen:=h2
  unfold maxLen at hlen
  go_enter Tryz.func30,Tryz.ntmps30
  go_wp2_with (at_builtin;refine wpList_append_own _ rfl _ _ 98 rfl w.heap.size 2 ki (.int .i64 0) 1 8 Tryz.underlying98 khi khz0 khz1 khz2 rfl (by decide) _ _ _ rfl (World.ownsRow_made w #[] 0 (AkU _) (AkV _) (by simp)) a xs.length cap (xs.map (Value.int .i64)) rfl ?qc1 ?qc2 ?qc3 ?qc4 ?qc5 ?qc6 ?_)
  case qc1=>simp
  case qc2=>intro j u hj;have:=HN.out j u hj;exact Lib.cell?_alloc_some _ this
  case qc3=>intro u hu;simp at hu;obtain⟨x,_,rfl⟩:=hu;rfl
  case qc4=>unfold maxLen;omega
  case qc5=>omega
  case qc6=>simp
  intro v' w1 hown hgrow _
  go_wp2
  go_ret
  exact⟨v',rfl,⟨by simpa using hown,hw⟩,((Below.refl _ w).alloc (AkU _) _).grown hgrow (by simp) (by intro k hk;simp[Value.ownBlock]at hk;omega)⟩
def Small (q:List (List Int)):Prop:=q.length*24<=140737488355328/\∀ m∈q,m.length*8<=140737488355328
theorem GI {α:Type}{q:List α}{k:Nat}{m:α}(h:q[k]?=some m):q.take (k+1)=q.take k++[m]:=by
 obtain⟨hk,rfl⟩:=AkR.1 h
 rw[List.take_succ_eq_append_getElem hk]
theorem BT.more {w w':World}{n0:Nat}{v v' u:Value}{vs:List Value}{q:List (List Int)}{m:List Int}(h:BT w n0 v vs q)(hm:Ga w n0 u m)
  (hr:w'.ownsRow n0 98 1 v' (q.length+1) (vs++[u])) (hg:w.grownBy w' v.ownBlock):BT w' n0 v' (vs++[u]) (q++[m]):=by
 have sep:∀ (x:Value) (l:List Int),Ga w n0 x l->Ga w' n0 x l:=fun x l hx=>hx.same fun k hk=>hg.block k (hx.row.lt k hk).2 fun e=>by
  obtain⟨c1,e1⟩:=AW hx.row hk
  obtain⟨c2,e2⟩:=AW h.row e.symm
  exact Ef e1 e2 (by decide) rfl
 refine⟨by simpa using hr,by simp[h.len],fun i x l hx hl=>?_⟩
 by_cases hi:i<q.length
 ·rw[Ak0 (by rw[h.len];exact hi)]at hx
  rw[Ak0 hi]at hl
  exact sep x l (h.each i x l hx hl)
 ·have hil:i<q.length+1:=by have:=(AkR.1 hl).1;simpa using this
  obtain rfl:i=q.length:=by omega
  rw[Ak8 (AkU _)]at hl
  rw[Ak8 (by rw[h.len];exact AkU _)]at hx
  simp[h.len]at hx hl
  subst hx hl
  exact sep _ _ hm
theorem BT.set {w:World}{n0 B i:Nat}{v:Value}{vs:List Value}{q:List (List Int)}{c:Array Value}{t:TypeId}{f:Nat × Nat}(h:BT w n0 v vs q)(hB:w.heap[B]?=some (.cells c t f))
  (h1:98≠t) (h2:2≠t) (u:Value):BT (w.setCell ⟨B,i,none⟩ u) n0 v vs q :=
 ⟨CE h.row fun k hk=>Below.heap_setCell _ _ _ _ (by rintro rfl;obtain⟨cur,hcur⟩:=AW h.row hk;exact Ef hcur hB h1 rfl),h.len,fun j x m hx hm=>(h.each j x m hx hm).same fun k hk =>
  Below.heap_setCell _ _ _ _ (by rintro rfl;obtain⟨cur,hcur⟩:=AW (h.each j x m hx hm).row hk;exact Ef hcur hB h2 rfl)⟩
theorem BT.alloc {w:World}{n0:Nat}{v:Value}{vs:List Value}{q:List (List Int)}(h:BT w n0 v vs q)(o:Obj):BT (w.alloc o) n0 v vs q :=
 h.same fun _ _ hk=>Below.heap_alloc _ _ _ hk
theorem Ga.alloc {w:World}{n0:Nat}{v:Value}{m:List Int}(h:Ga w n0 v m)(o:Obj):Ga (w.alloc o) n0 v m :=
 h.same fun _ hk=>Below.heap_alloc _ _ _ (h.row.lt _ hk).2
theorem BT.nil (w:World)(n0:Nat):BT w n0 (.slice none 0 0) [] []:=⟨World.ownsRow_nil _ _ _ _,rfl,fun i x m h=>by simp at h⟩
set_option maxRecDepth 100000 in
set_option maxHeartbeats 1000000 in
theorem MH {w:World}{qv:Value}{q:List (List Int)}(sh:Int)(h:Is pQ w [qv] q)(hr:Small q) :
    Calls Tryz.prog 184 #[.agg #[.int .i64 sh,qv]] w fun e w'=>∃ ov vs,e=.returned (.agg #[.int .i64 sh,ov])/\BT w' w.heap.size ov vs q/\Below w.heap.size w w':=by
  obtain⟨ao,cap,rfl,h1,h2,h3⟩:=GM h
  obtain⟨ki,khi,khz0,khz1,khz2⟩:=B8 G6
  have hlen:=h2
  unfold maxLen at hlen
  obtain⟨hr1,hr2⟩:=hr
  go_enter Tryz.func184,Tryz.ntmps184
  go_wp2
  go_loopw [12] (fun i wr=>∃ k:Nat,k<=q.length/\i=.int .i64 k/\∃ ov vs,wr.heap[w.heap.size+1]?=some (.cells #[.int .i64 0,.slice none 0 0] 86 (0,0))/\wr.heap[w.heap.size+2]?=some (.cells #[.int .i64 sh,ov] 86 (0,0))/\BT wr w.heap.size ov vs (q.take k)/\Below w.heap.size w wr) (fun i _=>q.length - (intOf i).toNat)
  case atStart =>
    refine⟨0,AkV _,rfl,.slice none 0 0,[],?_,?_,by simpa using BT.nil _ _,?_⟩
    · have:=heap_alloc_new (w.alloc (.cells #[.int .i64 sh,.slice ao q.length cap] 86)) (.cells #[.int .i64 0,.slice none 0 0] 86)
      rw[Below.heap_alloc _ _ _ (by simp)]
      simpa using this
    · have:=heap_alloc_new ((w.alloc (.cells #[.int .i64 sh,.slice ao q.length cap] 86)).alloc (.cells #[.int .i64 0,.slice none 0 0] 86)) (.cells #[.int .i64 sh,.slice none 0 0] 86)
      simpa using this
    · exact(((Below.refl _ w).alloc (AkU _) _).alloc (by simp) _).alloc (by simp;omega) _
  case round =>
    obtain⟨k,hk,rfl,ov,vs,hres,hblk,hown,hb⟩:=hrel
    by_cases hlt:k<q.length
    · obtain⟨b,off,rfl,hbl,hc⟩:=h3 (by omega)
      obtain⟨u,hu,hm⟩:=hc k q[k] (by simp[hlt])
      rw[← hb.cell (p:=⟨b,off+k,none⟩) hbl]at hu
      have hm':=hm.below L5 hb
      have hml:=hr2 q[k] (by simp)
      have hc1:wr.cell? ⟨w.heap.size+2,1,none⟩=some ov:=Ai hblk rfl
      have hf1:wr.frozen? ⟨w.heap.size+2,1,none⟩=false:=Ay hblk
      have hsz:=BO hblk
      have hkl:(q.take k).length=k:=by simp;omega
      have HQ:Hid (q[k]?=some q[k]):=by unfold Hid;simp[hlt]
      clear hr2 hc h3 h
      generalize q[k]=m at *
      go_wp2
      go_region_law (first
        | (go_simp;go_at_call 30;refine(F4 (hm'.drewN L5 _) hml).mono ?_;rintro e w2 ⟨v',rfl,hm2,hb2⟩
           obtain⟨ao',cap',rfl,_⟩:=Ek hm2.row
           obtain⟨hc2,hf2⟩:=Afy hb2
           have hown2:BT w2 w.heap.size ov vs (q.take k):=hown.same fun _ _ hk=>hb2.block _ hk
           have hs2:=hb2.size
           simp at hs2
           have hblk2:w2.heap[w.heap.size+2]?=some (.cells #[.int .i64 sh,ov] 86 (0,0)):=(hb2.block _ hsz).trans hblk
           have c2:w2.cell? ⟨w.heap.size+2,1,none⟩=some ov:=Ai hblk2 rfl
           have hs3:=BO hblk2
           have c3:=Lib.cell?_alloc_some (.cells #[.slice ao' m.length cap'] 98) c2)
        | (refine step_append_lies _ rfl (.tmp 17) (.tmp 20) 84 rfl w.heap.size 98 ki (.slice none 0 0) 1 24 Tryz.underlying84 khi khz0 khz1 khz2 rfl (by decide) ov k vs (by simp[Act.eval]) (by have:=hown2.row.alloc (.cells #[.slice ao' m.length cap'] 98);rwa [hkl]at this) ⟨w2.heap.size,0,none⟩ 1 1 [.slice ao' m.length cap'] (by simp[Act.eval]) rfl (cell_one_new _ _ _) (by intro u hu;simp at hu;subst hu;rfl) (by decide) (by unfold maxLen;omega) (by omega) (by simp;omega) _ rfl ?_
           intro g cap3 w3 hown3 hgrow3 hat3 hlt3
           have hblk3:w3.heap[w.heap.size+2]?=some (.cells #[.int .i64 sh,ov] 86 (0,0)):=by
             rw[hgrow3.block _ (by simp;omega) (fun e=>by obtain⟨cur,hcur⟩:=AW hown2.row e.symm;exact Ef hcur hblk2 (by decide) rfl),Below.heap_alloc _ _ _ (BO hblk2)];exact hblk2
           have e0:w3.cell? ⟨w.heap.size+2,1,none⟩=some ov:=Ai hblk3 rfl
           have e1:w3.frozen? ⟨w.heap.size+2,1,none⟩=false:=Ay hblk3))
      all_goals
        have HO:Hid (BT (w3.setCell ⟨w.heap.size+2,1,none⟩ (.slice (some ⟨g,0,none⟩) (k+1) cap3)) w.heap.size (.slice (some ⟨g,0,none⟩) (k+1) cap3) (vs++[.slice ao' m.length cap']) (q.take (k+1))):=by
          unfold Hid
          rw[GI HQ.out]
          exact((hown2.alloc _).more ((hm2.base hb.size).alloc _) (by rw[hkl];exact hown3) hgrow3).set hblk3 (by decide) (by decide) _
        have HB:Hid (Below w.heap.size w (w3.setCell ⟨w.heap.size+2,1,none⟩ (.slice (some ⟨g,0,none⟩) (k+1) cap3))) :=
          ((((below_drewN hb 1).trans (hb2.mono hb.size)).alloc (Alg hb.size hs2) _).grown hgrow3 (by simp;have:=hb.size;omega) (fun k hk=>(hown2.row.lt k hk).1)).setCell (by simp) _
        have HK:Hid ((w3.setCell ⟨w.heap.size+2,1,none⟩ (.slice (some ⟨g,0,none⟩) (k+1) cap3)).heap[w.heap.size+2]?=some (.cells #[.int .i64 sh,.slice (some ⟨g,0,none⟩) (k+1) cap3] 86 (0,0))):=by
          unfold Hid;rw[A1 hblk3];rfl
        have HR:Hid ((w3.setCell ⟨w.heap.size+2,1,none⟩ (.slice (some ⟨g,0,none⟩) (k+1) cap3)).heap[w.heap.size+1]?=some (.cells #[.int .i64 0,.slice none 0 0] 86 (0,0))):=by
          unfold Hid
          have hres2:w2.heap[w.heap.size+1]?=_:=(hb2.block _ (BO hres)).trans hres
          rw[Below.heap_setCell _ _ _ _ (by simp),hgrow3.block _ (by simp;omega) (fun e=>by obtain⟨cur,hcur⟩:=AW hown2.row e.symm;exact Ef hcur hres2 (by decide) rfl),Below.heap_alloc _ _ _ (BO hres2)];exact hres2
        clear hgrow3 hown3 hown2 hm2 hb2 hc2 hf2 hat3 e0 hblk3
        go_wp2
        go_roundw
        case rel=>exact⟨k+1,by omega,by go_num,_,_,HR.out,HK.out,HO.out,HB.out⟩
        case measure=>simp[intOf];omega
    · obtain rfl:k=q.length:=by omega
      have hc0:wr.cell? ⟨w.heap.size+2,0,none⟩=some (.int .i64 sh):=Ai hblk rfl
      have hc1:wr.cell? ⟨w.heap.size+2,1,none⟩=some ov:=Ai hblk rfl
      have hsz:=BO hblk
      have r0:wr.cell? ⟨w.heap.size+1,0,none⟩=some (.int .i64 0):=Ai hres rfl
      have r1:wr.cell? ⟨w.heap.size+1,1,none⟩=some (.slice none 0 0):=Ai hres rfl
      have f0:wr.frozen? ⟨w.heap.size+1,0,none⟩=false:=Ay hres
      have f1:wr.frozen? ⟨w.heap.size+1,1,none⟩=false:=Ay hres
      obtain⟨ao',cap',rfl,_⟩:=Ek hown.row
      rw[Al1]at hown
      go_wp2
      have hres':((wr.setCell ⟨w.heap.size+1,0,none⟩ (.int .i64 sh)).setCell ⟨w.heap.size+1,1,none⟩ (.slice ao' q.length cap')).heap[w.heap.size+1]?=some (.cells #[.int .i64 sh,.slice ao' q.length cap'] 86 (0,0)):=by
        rw[A1 (A1 hres _)];rfl
      refine Rr rfl rfl hres' Tryz.underlying86 rfl (by kernel_rfl) rfl ⟨_,vs,rfl,?_,?_⟩
      · exact(hown.set hres (by decide) (by decide) _).set (A1 hres _) (by decide) (by decide) _
      · exact(hb.setCell (by simp) _).setCell (by simp) _
end Go.Proofs.YtmdcknlpalfhhaaGreatDoor.Ch
namespace Go.Proofs.YtmdcknlpalfhhaaGreatDoor.Ch
open Go.RowKit Go.Lib
section
variable {P : Program}
theorem Jv {ops:Array Oper}{o:Oper}{a:Act}{w:World}{K:Act->World->Prop}{Q:Exit->Act->World->Prop}{E:Prop}
  (hg:o.guard=none) (d x:Operand) (dT sT:TypeId) (hop:o.op=Op.call { callee:=Callee.builtin Builtin.copy,args:=#[d,x],argTypes:=#[dT,sT] })
  (v u:Value) (hd:a.eval d=v) (hx:a.eval x=u) {v':Value} {w':World} (hr:(Builtin.copy_ #[dT,sT] o.type #[v,u]).run P w=.ok v' w') (hK:K (a.put o.dst v') w') :
  if Region.wanted o (yielded ops a.tmps)=true then Oper.wp P o a w K Q else E:=by
 have hw:Region.wanted o (yielded ops a.tmps)=true:=by simp[Region.wanted,hg]
 rw[Alj hw]
 unfold Oper.wp
 simp[execOp,hop,resolve,invoke,builtin,hd,hx,hr,Result.andThen]
 exact hK
theorem K9 (b:Nat):∀ (vs:List Value) (o:Nat) (w:World),(w.setCells b o vs).drew=w.drew.setCells b o vs
 | [],_,_=>rfl
 | v::r,o,w=>by rw[World.setCells,World.setCells,K9 b r];rfl
theorem Gm (b:Nat)(vs:List Value)(o:Nat)(w:World)(h:∀ j,j<vs.length->(w.cell? ⟨b,o+j,none⟩).isSome=true)(k:Nat)(hk:(w.cell? ⟨b,k,none⟩).isSome=true):((w.setCells b o vs).cell? ⟨b,k,none⟩).isSome=true:=by
 by_cases hin:o<=k/\k<o+vs.length
 ·have:=World.cell?_setCells_in b vs o w h (k - o) (by omega)
  rw[show o+(k - o)=k by omega]at this
  rw[this];rfl
 ·rw[World.cell?_setCells_out b vs o w ⟨b,k,none⟩ (fun _ _=>by show k<o∨o+vs.length<=k;omega)]
  exact hk
end
set_option maxHeartbeats 4000000 in
set_option maxRecDepth 100000 in
theorem Tk (b off n c i vb voff m vc:Nat)(cs vs:List Value)(w:World)(hi:i<n)(hm:0<m)(hroom:n+m<=c)(hc63:c<=9223372036854775807)(hvb:vb≠b)
  (hcl:cs.length=n) (hvl:vs.length=m)
  (hcs:∀ j v,cs[j]?=some v->w.cell? ⟨b,off+j,none⟩=some v) (hsp:∀ j,j<n+m->(w.cell? ⟨b,off+j,none⟩).isSome=true) (hfz:∀ j,j<n+m->w.frozen? ⟨b,off+j,none⟩=false)
  (hvs:∀ j v,vs[j]?=some v->w.cell? ⟨vb,voff+j,none⟩=some v) (h1c:∀ v∈cs,v.oneCell'=true) (h1v:∀ v∈vs,v.oneCell'=true)
  (tA tB:TypeId) (kA kB:Nat) (hsa:w.shape? vb=some (tA,kA)) (hsb:w.shape? b=some (tB,kB)) (hkB:kB≠0) (hfa:w.frozen? ⟨vb,voff,none⟩=false) (hfe:w.frozen? ⟨vb,kA,none⟩=false) :
  Calls Tryz.prog 188 #[.slice (some ⟨b,off,none⟩) n c,.int .i64 i,.slice (some ⟨vb,voff,none⟩) m vc] w fun e w' =>
   e=.returned (.slice (some ⟨b,off,none⟩) (n+m) c)/\w'=(w.drew.setCells b (off+(i+m)) (cs.drop i)).setCells b (off+i) vs:=by
 have hz1:¬ ((m:Int)=0):=by omega
 have hz2:¬ ((i:Int)=(n:Int)):=by omega
 have hsz:(Tryz.prog.info? 98).map (·.size)=some 1:=by
  obtain⟨i0,hi0,h0,h1,h2⟩:=B8 G6
  rw[hi0];simp[h1]
 have hov:∀ lb cb,(callFunc 197 #[.slice (some ⟨vb,voff,none⟩) m vc,.slice (some ⟨b,off+(i+m),none⟩) lb cb]).run Tryz.prog w=.ok (.value (.bool false)) w:=fun lb cb=>by
  rw[run_callFunc_extern Tryz.func197 (by kernel_rfl) (by kernel_rfl) (by kernel_rfl) (e:=Extern.SlicesOverlaps.overlaps #[84,84] #[4]) (by kernel_rfl),
   Lib.run_overlaps_apart w 84 4 98 Tryz.underlying84 1 Tryz.sizeOf98 ⟨vb,voff,none⟩ ⟨b,off+(i+m),none⟩ m vc lb cb hvb tA tB kA kB hsa hsb hkB hfa hfe]
  rfl
 have hdl:(cs.drop i).length=n - i:=by rw[List.length_drop,hcl]
 have hw1:IntKind.i64.wrap ((i:Int)+(m:Int))=(i:Int)+(m:Int):=by rw[IntKind.wrap_i64];omega
 have hb1:(0:Int)<=(i:Int)+(m:Int):=by omega
 have hin:i<=n:=by omega
 have htn:((i:Int)+(m:Int)).toNat=i+m:=by omega
 have hb2:¬ (c=i+m):=by omega
 have hb3:(i:Int)<=(n:Int)+(m:Int):=by omega
 have hb4:¬ (c=i):=by omega
 have hcp1:∀ ty dc sc,(Builtin.copy_ #[84,84] ty #[.slice (some ⟨b,off+(i+m),none⟩) (n+m - (i+m)) dc,.slice (some ⟨b,off+i,none⟩) (n+m - i) sc]).run Tryz.prog w.drew=.ok (goInt (cs.drop i).length) (w.drew.setCells b (off+(i+m)) (cs.drop i)):=fun ty dc sc =>
  run_copy_cells w.drew _ _ ty 98 b (off+(i+m)) (n+m - (i+m)) dc ⟨b,off+i,none⟩ (n+m - i) sc (cs.drop i) Tryz.underlying84 hsz (by rw[hdl];simp only[Nat.min_def];split<;>omega)
   (fun j v hj=>by rw[Addr.add_lit,AlQ];exact hcs (i+j) v (by rwa [All]at hj))
   (fun j hj=>by rw[AlQ];exact hsp _ (by omega)) (fun j hj=>by rw[AlQ];exact hfz _ (by omega)) (fun v hv=>h1c v (AmA hv))
 obtain⟨W1,hW1⟩:∃ W1,W1=w.drew.setCells b (off+(i+m)) (cs.drop i):=⟨_,rfl⟩
 have hsp1:∀ k,k<n+m->(W1.cell? ⟨b,off+k,none⟩).isSome=true:=fun k hk=>by
  rw[hW1]
  exact Gm b _ _ _ (fun j hj=>by rw[AlQ];exact hsp _ (by omega)) _ (hsp k hk)
 have hcp2:∀ (W:World),(∀ x,W.cell? x=W1.cell? x)->(∀ x,W.frozen? x=W1.frozen? x)->∀ ty dc,(Builtin.copy_ #[84,84] ty #[.slice (some ⟨b,off+i,none⟩) (n+m - i) dc,.slice (some ⟨vb,voff,none⟩) m vc]).run Tryz.prog W=.ok (goInt vs.length) (W.setCells b (off+i) vs):=fun W hWc hWf ty dc =>
  run_copy_cells W _ _ ty 98 b (off+i) (n+m - i) dc ⟨vb,voff,none⟩ m vc vs Tryz.underlying84 hsz (by rw[hvl];simp only[Nat.min_def];split<;>omega)
   (fun j v hj=>by
    rw[Addr.add_lit,hWc,hW1,World.cell?_setCells_out b _ _ _ _ (fun h _=>absurd h hvb)]
    exact hvs j v hj)
   (fun j hj=>by rw[hWc,AlQ];exact hsp1 _ (by omega)) (fun j hj=>by rw[hWf,hW1,World.frozen?_setCells,AlQ];exact hfz _ (by omega)) h1v
 rw[← hW1]at hcp1
 go_enter Tryz.func188,Tryz.ntmps188
 go_wp2_with (simp only[hov])
 go_region_law (refine Jv rfl _ _ 84 84 rfl _ _ (by simp[Act.eval,Act.put]) (by simp[Act.eval,Act.put]) (hcp1 _ _ _) ?_)
 go_wp2_with (at_builtin;refine wpList_copy_runI _ rfl _ _ 84 84 rfl _ _ rfl rfl (hcp2 _ (fun _=>rfl) (fun _=>rfl) _ _) ?_)
 go_ret
 first | exact⟨rfl,rfl⟩ | exact⟨rfl,by rw[hW1]⟩
set_option maxHeartbeats 4000000 in
set_option maxRecDepth 100000 in
theorem U9 (b off n c i vb voff m vc:Nat)(cs vs:List Value)(w:World)(hi:i<n)(hm:0<m)(hnc:n<=c)(hroom:c<n+m)(hbig:(n+m)*24<=140737488355328)
  (hcl:cs.length=n) (hvl:vs.length=m)
  (hcs:∀ j v,cs[j]?=some v->w.cell? ⟨b,off+j,none⟩=some v)
  (hvs:∀ j v,vs[j]?=some v->w.cell? ⟨vb,voff+j,none⟩=some v) (h1c:∀ v∈cs,v.oneCell'=true) (h1v:∀ v∈vs,v.oneCell'=true) :
  Calls Tryz.prog 188 #[.slice (some ⟨b,off,none⟩) n c,.int .i64 i,.slice (some ⟨vb,voff,none⟩) m vc] w fun e w' =>
   e=.returned (.slice (some ⟨w.heap.size,0,none⟩) (n+m) (grownCap w (n+m) c 98)) /\
   w'=(((w.alloc (.cells ((cs.take i).toArray++Builtin.zeroCells (Value.slice none 0 0).cells (n+m - i)++Builtin.zeroCells (Value.slice none 0 0).cells (grownCap w (n+m) c 98 - (n+m))) 98)).drew.setCells w.heap.size i vs).drew).setCells w.heap.size (i+m) (cs.drop i):=by
 obtain⟨i0,hi0,hz0,hzs,hzb⟩:=B8 G6
 have hz1:¬ ((m:Int)=0):=by omega
 have hz2:¬ ((i:Int)=(n:Int)):=by omega
 have hz3:(c:Int)<(n:Int)+(m:Int):=by omega
 have hsz:(Tryz.prog.info? 98).map (·.size)=some 1:=by rw[hi0];simp[hzs]
 have hbw:b<w.heap.size:=block_lt_of_cell (hcs 0 _ (Ak1 (by omega)))
 have hvw:vb<w.heap.size:=block_lt_of_cell (hvs 0 _ (Ak1 (by omega)))
 have hkk:(n:Int)+(m:Int) - (i:Int)=((n+m - i:Nat):Int):=by omega
 have hik:i+(n+m - i)=n+m:=by omega
 have hold:(Builtin.firstCells i0.size i (.slice (some ⟨b,off,none⟩) i c)).run Tryz.prog w.drew=.ok (cs.take i).toArray w.drew:=by
  rw[hzs]
  exact run_firstCells_some w.drew 1 i ⟨b,off,none⟩ i c (cs.take i) (by rw[AmE];omega) (fun j v hj=>by
   rw[Addr.add_lit]
   rw[AlS]at hj
   split at hj
   ·exact hcs j v hj
   ·cases hj)
 have hrz:∀ ty,(Builtin.append_ #[84,3] ty #[.slice (some ⟨b,off,none⟩) i c,.int .i64 ((n:Int)+(m:Int) - (i:Int))]).run Tryz.prog w =
   .ok (.slice (some ⟨w.heap.size,0,none⟩) (n+m) (grownCap w (n+m) c 98)) (w.drew.alloc (.cells ((cs.take i).toArray++Builtin.zeroCells (Value.slice none 0 0).cells (n+m - i)++Builtin.zeroCells (Value.slice none 0 0).cells (grownCap w (n+m) c 98 - (n+m))) 98)):=fun ty=>by
  have h:=Lib.run_append_grow_zeros w 84 3 ty 98 i0 _ .i64 .i64 Tryz.underlying84 Tryz.underlying3 hi0 hz0 (some ⟨b,off,none⟩) i c (cs.take i) hold (n+m - i) (by omega) (by omega) (by omega) (by omega) (by rw[hzb];omega) (by rw[hzb,hik];exact growslice_fits hroom hbig)
  rw[hik]at h
  rw[hkk]
  exact h
 obtain⟨G,hG⟩:∃ G,G=grownCap w (n+m) c 98:=⟨_,rfl⟩
 obtain⟨ROW,hROW⟩:∃ ROW:Array Value,ROW=(cs.take i).toArray++Builtin.zeroCells (Value.slice none 0 0).cells (n+m - i)++Builtin.zeroCells (Value.slice none 0 0).cells (G - (n+m)):=⟨_,rfl⟩
 rw[← hG]at hrz ⊢
 rw[← hROW]at hrz ⊢
 have hRl:n+m<=ROW.size:=by
  rw[hROW]
  simp[Builtin.zeroCells,Value.cells]
  omega
 obtain⟨W1,hW1⟩:∃ W1,W1=w.drew.alloc (.cells ROW 98):=⟨_,rfl⟩
 rw[← hW1]at hrz
 have hN:∀ j,j<n+m->(W1.cell? ⟨w.heap.size,j,none⟩).isSome=true:=fun j hj=>by
  rw[hW1,World.cell?_alloc_at (w:=w.drew) ROW _ w.heap.size j rfl,AlR (by omega)];rfl
 have hNf:∀ j,W1.frozen? ⟨w.heap.size,j,none⟩=false:=fun j=>by rw[hW1];exact World.frozen?_alloc_at (w:=w.drew) ROW _ w.heap.size j rfl
 have hOb:∀ j v,w.cell? ⟨b,j,none⟩=some v->W1.cell? ⟨b,j,none⟩=some v:=fun j v h=>by rw[hW1,World.cell?_alloc_past (w:=w.drew) _ b j hbw];exact h
 have hOv:∀ j v,w.cell? ⟨vb,j,none⟩=some v->W1.cell? ⟨vb,j,none⟩=some v:=fun j v h=>by rw[hW1,World.cell?_alloc_past (w:=w.drew) _ vb j hvw];exact h
 have hcpA:∀ (W:World),(∀ x,W.cell? x=W1.cell? x)->(∀ x,W.frozen? x=W1.frozen? x)->∀ ty dc,(Builtin.copy_ #[84,84] ty #[.slice (some ⟨w.heap.size,i,none⟩) (n+m - i) dc,.slice (some ⟨vb,voff,none⟩) m vc]).run Tryz.prog W=.ok (goInt vs.length) (W.setCells w.heap.size i vs):=fun W hWc hWf ty dc =>
  run_copy_cells W _ _ ty 98 w.heap.size i (n+m - i) dc ⟨vb,voff,none⟩ m vc vs Tryz.underlying84 hsz (by rw[hvl];simp only[Nat.min_def];split<;>omega)
   (fun j v hj=>by rw[Addr.add_lit,hWc];exact hOv _ v (hvs j v hj))
   (fun j hj=>by rw[hWc];exact hN _ (by omega)) (fun j hj=>by rw[hWf];exact hNf _) h1v
 have hGn:n+m<=G:=by rw[hG];exact grownCap_ge w _ _ _
 have hG63:G<=9223372036854775807:=by
  have:=grownCap_le_maxLen w (n+m) c 98 (by unfold maxLen;omega)
  rw[← hG]at this
  unfold maxLen at this
  omega
 have hGi:¬ (G=i):=by omega
 have hGim:¬ (G=i+m):=by omega
 have hci:¬ (c=i):=by omega
 have hbN:b≠w.heap.size:=by omega
 have hdl:(cs.drop i).length=n - i:=by rw[List.length_drop,hcl]
 have hcpB:∀ (W:World),(∀ x,W.cell? x=(W1.setCells w.heap.size i vs).cell? x)->(∀ x,W.frozen? x=(W1.setCells w.heap.size i vs).frozen? x)->∀ ty dc sc,(Builtin.copy_ #[84,84] ty #[.slice (some ⟨w.heap.size,i+m,none⟩) (n+m - (i+m)) dc,.slice (some ⟨b,off+i,none⟩) (n - i) sc]).run Tryz.prog W=.ok (goInt (cs.drop i).length) (W.setCells w.heap.size (i+m) (cs.drop i)):=fun W hWc hWf ty dc sc =>
  run_copy_cells W _ _ ty 98 w.heap.size (i+m) (n+m - (i+m)) dc ⟨b,off+i,none⟩ (n - i) sc (cs.drop i) Tryz.underlying84 hsz (by rw[hdl];simp only[Nat.min_def];split<;>omega)
   (fun j v hj=>by
    rw[Addr.add_lit,hWc,World.cell?_setCells_out _ _ _ _ _ (fun h _=>absurd h hbN),AlQ]
    exact hOb _ v (hcs (i+j) v (by rwa [All]at hj)))
   (fun j hj=>by rw[hWc];exact Gm _ _ _ _ (fun t ht=>hN _ (by omega)) _ (hN _ (by omega)))
   (fun j hj=>by rw[hWf,World.frozen?_setCells];exact hNf _) (fun v hv=>h1c v (AmA hv))
 subst hW1
 have hE1:∀ x,((w.alloc (.cells ROW 98)).drew).cell? x=(w.drew.alloc (.cells ROW 98)).cell? x:=fun x=>rfl
 have hE2:∀ x,((w.alloc (.cells ROW 98)).drew).frozen? x=(w.drew.alloc (.cells ROW 98)).frozen? x:=fun x=>rfl
 have hF1:∀ x,(((w.alloc (.cells ROW 98)).drew.setCells w.heap.size i vs).drew).cell? x=((w.drew.alloc (.cells ROW 98)).setCells w.heap.size i vs).cell? x:=fun x=>rfl
 have hF2:∀ x,(((w.alloc (.cells ROW 98)).drew.setCells w.heap.size i vs).drew).frozen? x=((w.drew.alloc (.cells ROW 98)).setCells w.heap.size i vs).frozen? x:=fun x=>rfl
 have hw1:IntKind.i64.wrap ((i:Int)+(m:Int))=(i:Int)+(m:Int):=by rw[IntKind.wrap_i64];omega
 have hb1:(0:Int)<=(i:Int)+(m:Int):=by omega
 have hin:i<=n:=by omega
 have htn:((i:Int)+(m:Int)).toNat=i+m:=by omega
 have hb3:(i:Int)<=(n:Int):=by omega
 clear hkk hik hold hROW hG hRl
 go_enter Tryz.func188,Tryz.ntmps188
 go_wp2_with (first
  | (at_builtin;refine Lib.wpList_append_run _ rfl _ _ _ _ rfl _ _ rfl rfl _ _ (hrz _) ?_)
  | (at_builtin;refine wpList_copy_runI _ rfl _ _ 84 84 rfl _ _ rfl rfl (hcpA _ hE1 hE2 _ _) ?_)
  | (at_builtin;refine wpList_copy_runI _ rfl _ _ 84 84 rfl _ _ rfl rfl (hcpB _ (fun _=>rfl) (fun _=>rfl) _ _ _) ?_))
 go_region_law (refine Jv rfl _ _ 84 84 rfl (.slice (some ⟨w.heap.size,i+m,none⟩) (n+m - (i+m)) (G - (i+m))) (.slice (some ⟨b,off+i,none⟩) (n - i) (c - i)) (by simp[Act.eval,Act.put]) (by simp[Act.eval,Act.put]) (hcpB _ hF1 hF2 3 (G - (i+m)) (c - i)) ?_)
 go_wp2
 go_ret
 exact⟨rfl,rfl⟩
end Go.Proofs.YtmdcknlpalfhhaaGreatDoor.Ch
namespace Go.Proofs.YtmdcknlpalfhhaaGreatDoor.Ch
open Go.RowKit
theorem Fy {w:World}{n0 g cap n:Nat}{e:TypeId}{cur:Array Value}{xs:List Value}(hg:w.heap[g]?=some (.cells cur e (0,0)))(hb:n0<=g)(hn:n<=cap)(hm:cap<=maxLen)(hs:cur.size=cap)(hl:xs.length=n)
  (hc:∀ j,j<n->w.cell? ⟨g,j,none⟩=xs[j]?):w.ownsRow n0 e 1 (.slice (some ⟨g,0,none⟩) n cap) n xs:=by
 refine⟨by simpa using hl,.inr ⟨g,cap,cur,rfl,hb,hg,hn,hm,by simpa using hs,?_⟩⟩
 apply List.ext_getElem?
 intro j
 rw[AlS]
 by_cases hj:j<n
 ·rw[Alj (by omega),← hc j hj]
  simp[World.cell?,hg]
 ·rw[Ak3 (by omega),Al6 (by omega)]
theorem DL {g:Nat}{t:TypeId}:∀ (vs:List Value) (o:Nat) (w:World) (cur:Array Value),w.heap[g]?=some (.cells cur t (0,0))->∃ cur',(w.setCells g o vs).heap[g]?=some (.cells cur' t (0,0))/\cur'.size=cur.size
 | [],_,_,cur,h=>⟨cur,h,rfl⟩
 | v::r,o,w,cur,h=>by
  obtain⟨c',h1,h2⟩:=DL r (o+1) (w.setCell ⟨g,o,none⟩ v) _ (heap_setCell_same w g o cur t v h)
  exact⟨c',h1,by simpa using h2⟩
theorem FU {g o j:Nat}{vs:List Value}{w:World}(h:∀ j,j<vs.length->(w.cell? ⟨g,o+j,none⟩).isSome=true)(h1:o<=j)(h2:j<o+vs.length):(w.setCells g o vs).cell? ⟨g,j,none⟩=vs[j - o]?:=by
 have:=World.cell?_setCells_in g vs o w h (j - o) (by omega)
 rw[show o+(j - o)=j by omega]at this
 rw[this,Ak1 (by omega)]
theorem Dc {g o j:Nat}{vs:List Value}{w:World}(h:j<o∨o+vs.length<=j):(w.setCells g o vs).cell? ⟨g,j,none⟩=w.cell? ⟨g,j,none⟩ :=
 World.cell?_setCells_out g vs o w _ fun _ _=>h
theorem K4 {g o k:Nat}{vs:List Value}{w:World}(h:∀ j,j<vs.length->(w.cell? ⟨g,o+j,none⟩).isSome=true)(hk:(w.cell? ⟨g,k,none⟩).isSome=true):((w.setCells g o vs).cell? ⟨g,k,none⟩).isSome=true :=
 Gm g vs o w h k hk
theorem DK {g k:Nat}(hk:k≠g):∀ (vs:List Value) (o:Nat) (w:World),(w.setCells g o vs).heap[k]?=w.heap[k]?
 | [],_,_=>rfl
 | v::r,o,w=>by rw[World.setCells,DK hk r,Below.heap_setCell _ _ _ _ hk]
theorem Dj : ∀ (vs:List Value) (o g:Nat) (w:World),(w.setCells g o vs).os=w.os/\(w.setCells g o vs).tape=w.tape/\(w.setCells g o vs).output=w.output/\(w.setCells g o vs).heap.size=w.heap.size
 | [],_,_,_=>⟨rfl,rfl,rfl,rfl⟩
 | v::r,o,g,w=>by
  obtain⟨h1,h2,h3,h4⟩:=Dj r (o+1) g (w.setCell ⟨g,o,none⟩ v)
  exact⟨h1,h2,h3,h4.trans (by simp[World.setCell])⟩
def putAt {α:Type}(l:List α)(i:Nat)(x:α):List α:=l.take i++x::l.drop i
theorem GK {α:Type}{l:List α}{i:Nat}{x:α}(h:i<=l.length):(putAt l i x).length=l.length+1:=by
 unfold putAt;simp;omega
theorem PN {α:Type}{l:List α}{i j:Nat}{x:α}(h:i<=l.length)(hj:j<i):(putAt l i x)[j]?=l[j]?:=by
 unfold putAt
 rw[Ak0 (by simp;omega),AlS,Alj hj]
theorem PP {α:Type}{l:List α}{i:Nat}{x:α}(h:i<=l.length):(putAt l i x)[i]?=some x:=by
 unfold putAt
 rw[Ak8 (by simp;omega)]
 simp[show i - min i l.length=0 by omega]
theorem PO {α:Type}{l:List α}{i j:Nat}{x:α}(h:i<=l.length)(hj:i<j):(putAt l i x)[j]?=l[j - 1]?:=by
 unfold putAt
 rw[Ak8 (by simp;omega),AmE,show min i l.length=i by omega,show j - i=(j - 1 - i)+1 by omega,AlA,All]
 congr 1;omega
theorem Abx {α:Type}(l:List α)(x:α):putAt l l.length x=l++[x]:=by simp[putAt]
theorem UK {w:World}{g i n:Nat}{vs:List Value}{xv:Value}(hl:vs.length=n)(hi:i<n)(hsp:∀ j,j<n+1->(w.cell? ⟨g,j,none⟩).isSome=true)(hlo:∀ j,j<i->w.cell? ⟨g,j,none⟩=vs[j]?)(j:Nat)(hj:j<n+1) :
  ((w.setCells g (i+1) (vs.drop i)).setCells g i [xv]).cell? ⟨g,j,none⟩=(putAt vs i xv)[j]?:=by
 have hd:(vs.drop i).length=n - i:=by simp[hl]
 have h0:∀ k,k<(vs.drop i).length->(w.cell? ⟨g,i+1+k,none⟩).isSome=true:=fun k hk=>hsp _ (by omega)
 rcases Nat.lt_trichotomy j i with h | h | h
 ·rw[Dc (.inl h),Dc (.inl (by omega)),hlo j h,PN (by omega) h]
 ·subst h
  rw[FU (fun k hk=>by simp at hk;subst hk;exact K4 h0 (hsp _ (by omega))) (AkU _) (by simp),PP (by omega)];simp
 ·rw[Dc (.inr (by simp;omega)),FU h0 (by omega) (by omega),PO (by omega) h,All]
  congr 1;omega
theorem SS {w:World}{g i n:Nat}{vs:List Value}{xv:Value}(hl:vs.length=n)(hi:i<n)(hsp:∀ j,j<n+1->(w.cell? ⟨g,j,none⟩).isSome=true)(hlo:∀ j,j<i->w.cell? ⟨g,j,none⟩=vs[j]?)(j:Nat)(hj:j<n+1) :
  ((w.setCells g i [xv]).setCells g (i+1) (vs.drop i)).cell? ⟨g,j,none⟩=(putAt vs i xv)[j]?:=by
 have hd:(vs.drop i).length=n - i:=by simp[hl]
 have h1:∀ k,k<[xv].length->(w.cell? ⟨g,i+k,none⟩).isSome=true:=fun k hk=>hsp _ (by simp at hk;omega)
 have h0:∀ k,k<(vs.drop i).length->((w.setCells g i [xv]).cell? ⟨g,i+1+k,none⟩).isSome=true:=fun k hk=>K4 h1 (hsp _ (by omega))
 rcases Nat.lt_trichotomy j i with h | h | h
 ·rw[Dc (.inl (by omega)),Dc (.inl h),hlo j h,PN (by omega) h]
 ·subst h
  rw[Dc (.inl (by omega)),FU h1 (AkU _) (by simp),PP (by omega)];simp
 ·rw[FU h0 (by omega) (by omega),PO (by omega) h,All]
  congr 1;omega
theorem BT.putAt {w w':World}{n0 i:Nat}{v v' u:Value}{vs:List Value}{q:List (List Int)}{m:List Int}(h:BT w n0 v vs q)(hm:Ga w n0 u m)(hi:i<=q.length)
  (hr:w'.ownsRow n0 98 1 v' (q.length+1) (putAt vs i u)) (ht:∀ k,k<w.heap.size->v.ownBlock≠some k->w'.heap[k]?=w.heap[k]?):BT w' n0 v' (putAt vs i u) (putAt q i m):=by
 have hl:=h.len
 have sep:∀ (x:Value) (l:List Int),Ga w n0 x l->Ga w' n0 x l:=fun x l hx=>hx.same fun k hk=>ht k (hx.row.lt k hk).2 fun e=>by
  obtain⟨c1,e1⟩:=AW hx.row hk
  obtain⟨c2,e2⟩:=AW h.row e
  exact Ef e1 e2 (by decide) rfl
 refine⟨by rw[GK hi];exact hr,by rw[GK hi,GK (by omega),hl],fun j x l hx hl'=>?_⟩
 rcases Nat.lt_trichotomy j i with hj | hj | hj
 ·rw[PN (by omega) hj]at hx hl'
  exact sep x l (h.each j x l hx hl')
 ·subst hj
  rw[PP (by omega)]at hx hl'
  cases hx;cases hl'
  exact sep _ _ hm
 ·rw[PO (by omega) hj]at hx hl'
  exact sep x l (h.each _ x l hx hl')
theorem Gh {w:World}{n0 n:Nat}{e:TypeId}{v:Value}{xs:List Value}(h:w.ownsRow n0 e 1 v n xs):v.oneCell'=true:=by
 rcases h.2 with⟨rfl,_⟩ | ⟨g,cap,cur,rfl,_⟩<;>rfl
set_option maxHeartbeats 1000000 in
set_option maxRecDepth 100000 in
theorem Tl {w:World}{n0 V:Nat}{qv xv:Value}{vs:List Value}{q:List (List Int)}{x:List Int}(i:Nat)(hq:BT w n0 qv vs q)(hV:w.heap[V]?=some (.cells #[xv] 98 (0,0)))(hne:qv.ownBlock≠some V)
  (hx:Ga w n0 xv x) (hi:i<=q.length) (hbig:(q.length+1)*24<=140737488355328) (hn0:n0<=w.heap.size) :
  Calls Tryz.prog 188 #[qv,.int .i64 i,.slice (some ⟨V,0,none⟩) 1 1] w fun e w' =>
   ∃ v',e=.returned v'/\BT w' n0 v' (putAt vs i xv) (putAt q i x)/\Cb w w' (fun k=>qv.ownBlock=some k):=by
 have hxv:=Gh hx.row
 have hV0:w.cell? ⟨V,0,none⟩=some xv:=Ai hV rfl
 have hlen:=hq.len
 by_cases hin:i=q.length
 ·subst hin
  obtain⟨ki,khi,khz0,khz1,khz2⟩:=B8 G6
  obtain⟨ao,cap,rfl,hcl,_⟩:=Ek hq.row
  rcases Nat.eq_or_lt_of_le hcl with rfl | hcl
  all_goals
   go_enter Tryz.func188,Tryz.ntmps188
   go_wp2_with (at_builtin;refine OX _ rfl (.tmp 23) (.tmp 24) 84 rfl n0 98 ki (.slice none 0 0) 1 24 Tryz.underlying84 khi khz0 khz1 khz2 rfl (by decide) _ q.length vs rfl hq.row ⟨V,0,none⟩ 1 1 [xv] rfl rfl ?k1 ?k2 ?k3 ?k4 hn0 ?kK)
   case k1 =>
    intro j u hj
    obtain rfl:j=0:=by have:=(AkR.1 hj).1;simpa using this
    simp at hj;subst hj;exact hV0
   case k2=>intro u hu;simp at hu;subst hu;exact hxv
   case k3=>unfold maxLen;omega
   case k4=>omega
   case kK =>
    intro kv w2 hown2 hgrow2 _
    have HQ:Hid (BT w2 n0 kv (putAt vs q.length xv) (putAt q q.length x)) :=
     hq.putAt hx (AkU _) (by rw[show putAt vs q.length xv=vs++[xv] by rw[← hlen];exact Abx _ _];exact hown2) fun k hk hne=>hgrow2.block k hk fun e=>hne e.symm
    have HT:Hid (Cb w w2 (fun k=>(Value.slice ao q.length _).ownBlock=some k)):=(Cb.refl w _).grown hgrow2 fun k hk=>.inl hk
    clear hgrow2 hown2
    go_wp2
    go_ret
    exact⟨_,rfl,HQ.out,HT.out⟩
 ·have hlt:i<q.length:=by omega
  rcases hq.row.2 with⟨rfl,h0⟩ | ⟨g,cap,cur,rfl,hb,hg,h1,h2,h3,h4⟩
  ·omega
  ·have hcs:∀ (j:Nat) (v:Value),vs[j]?=some v->w.cell? ⟨g,0+j,none⟩=some v:=by
    intro j v hj
    have:=hq.row.cellAt j (by have:=(AkR.1 hj).1;omega)
    rw[Alk,this,hj]
   have hvs:∀ (j:Nat) (v:Value),[xv][j]?=some v->w.cell? ⟨V,0+j,none⟩=some v:=by
    intro j v hj
    obtain rfl:j=0:=by have:=(AkR.1 hj).1;simpa using this
    simp at hj;subst hj
    exact hV0
   have h1c:∀ v∈vs,v.oneCell'=true:=by
    intro v hv
    obtain⟨j,hj,rfl⟩:=Al4 hv
    exact Gh (hq.each j vs[j] q[j] (by simp[hj]) (by simp[show j<q.length by omega])).row
   have h1v:∀ v∈[xv],v.oneCell'=true:=by intro v hv;simp at hv;subst hv;exact hxv
   have hgV:V≠g:=by rintro rfl;exact hne rfl
   have hm2:=h2
   unfold maxLen at hm2
   by_cases hroom:q.length+1<=cap
   ·refine(Tk g 0 q.length cap i V 0 1 1 vs [xv] w hlt (by omega) hroom (by omega) hgV hlen rfl hcs (fun j hj=>?_) (fun j _=>by rw[Alk];exact Ay hg) hvs h1c h1v _ _ 1 cur.size (by simp[World.shape?,hV];rfl) (by simp[World.shape?,hg];rfl) (by omega) (Ay hV) (Ay hV)).mono ?_
    ·rw[Alk,Ai hg (by rw[AlR (by omega)])];rfl
    ·rintro e w' ⟨rfl,rfl⟩
     rw[Alk,Alk]
     obtain⟨c1,e1,z1⟩:=DL (vs.drop i) (i+1) w.drew cur hg
     obtain⟨c2,e2,z2⟩:=DL [xv] i _ c1 e1
     obtain⟨s1,s2,s3,s4⟩:=Dj (vs.drop i) (i+1) g w.drew
     obtain⟨s5,s6,s7,s8⟩:=Dj [xv] i g (w.drew.setCells g (i+1) (vs.drop i))
     have far:∀ k,k≠g->((w.drew.setCells g (i+1) (vs.drop i)).setCells g i [xv]).heap[k]?=w.heap[k]?:=fun k hk=>by rw[DK hk,DK hk];rfl
     refine⟨_,rfl,hq.putAt hx hi (Fy e2 hb hroom h2 (by omega) (by rw[GK (by omega),hlen]) fun j hj=>UK hlen hlt (fun k hk=>?_) (fun k hk=>?_) j hj) fun k _ hne=>far k fun e=>hne (by rw[e];rfl),
      ⟨s5.trans s1,s6.trans s2,s7.trans s3,by rw[s8,s4];exact AkU _,fun k _ hne=>far k fun e=>hne (by rw[e];rfl)⟩⟩
     ·show(w.cell? _).isSome=true
      rw[Ai hg (by rw[AlR (by omega)])];rfl
     ·show w.cell? _=_
      exact hq.row.cellAt k (by omega)
   ·refine(U9 g 0 q.length cap i V 0 1 1 vs [xv] w hlt (by omega) h1 (by omega) hbig hlen rfl hcs hvs h1c h1v).mono ?_
    rintro e w' ⟨rfl,rfl⟩
    generalize hROW:(vs.take i).toArray++Builtin.zeroCells (Value.slice none 0 0).cells (q.length+1 - i)++Builtin.zeroCells (Value.slice none 0 0).cells (grownCap w (q.length+1) cap 98 - (q.length+1))=ROW
    have hge:=grownCap_ge w (q.length+1) cap 98
    have hle:=grownCap_le_maxLen w (q.length+1) cap 98 (by unfold maxLen;omega)
    have hsz:ROW.size=grownCap w (q.length+1) cap 98:=by rw[← hROW];simp[Builtin.zeroCells,Value.cells];omega
    have hlo:∀ k,k<i->ROW[k]?=vs[k]?:=fun k hk=>by
     rw[← hROW,Array.append_assoc,Am6 (by simp;omega)];simp[hk]
    generalize grownCap w (q.length+1) cap 98=G at *
    obtain⟨W1,hW1⟩:∃ W1,W1=(w.alloc (.cells ROW 98)).drew:=⟨_,rfl⟩
    rw[← hW1]
    have hN:W1.heap[w.heap.size]?=some (.cells ROW 98 (0,0)):=by rw[hW1];exact heap_alloc_new w _
    have e0:(W1.setCells w.heap.size i [xv]).drew.setCells w.heap.size (i+1) (vs.drop i)=((W1.setCells w.heap.size i [xv]).setCells w.heap.size (i+1) (vs.drop i)).drew:=(K9 _ _ _ _).symm
    rw[e0]
    obtain⟨c1,e1,z1⟩:=DL [xv] i W1 ROW hN
    obtain⟨c2,e2,z2⟩:=DL (vs.drop i) (i+1) _ c1 e1
    obtain⟨s1,s2,s3,s4⟩:=Dj [xv] i w.heap.size W1
    obtain⟨s5,s6,s7,s8⟩:=Dj (vs.drop i) (i+1) w.heap.size (W1.setCells w.heap.size i [xv])
    have far:∀ k,k<w.heap.size->((W1.setCells w.heap.size i [xv]).setCells w.heap.size (i+1) (vs.drop i)).heap[k]?=w.heap[k]?:=fun k hk=>by
     rw[DK (by omega),DK (by omega),hW1];exact Below.heap_alloc _ _ _ hk
    refine⟨_,rfl,hq.putAt hx hi (Fy (w:=((W1.setCells w.heap.size i [xv]).setCells w.heap.size (i+1) (vs.drop i)).drew) e2 hn0 hge hle (by omega) (by rw[GK (by omega),hlen]) fun j hj=>SS hlen hlt (fun k hk=>?_) (fun k hk=>?_) j hj) fun k hk _=>far k hk,
     ⟨?_,?_,?_,?_,fun k hk _=>far k hk⟩⟩
    ·rw[Ai hN (by rw[AlR (by omega)])];rfl
    ·have:ROW[k]?=some ROW[k]:=by rw[AlR (by omega)]
     rw[Ai hN this,← this];exact hlo k hk
    ·exact(s5.trans s1).trans (by rw[hW1];rfl)
    ·exact(s6.trans s2).trans (by rw[hW1];rfl)
    ·exact(s7.trans s3).trans (by rw[hW1];rfl)
    ·show w.heap.size<=(World.heap _).size
     have:W1.heap.size=w.heap.size+1:=by rw[hW1];simp
     show w.heap.size<=((W1.setCells w.heap.size i [xv]).setCells w.heap.size (i+1) (vs.drop i)).heap.size
     rw[s8,s4];omega
end Go.Proofs.YtmdcknlpalfhhaaGreatDoor.Ch
namespace Go.Proofs.YtmdcknlpalfhhaaGreatDoor.Ch
open Go.RowKit
set_option maxHeartbeats 1000000 in
theorem Xp {w:World}{yv xv:Value}{x y:List Int}{X:Nat}(hy:Is pM w [yv] y)(hX:w.cell? ⟨X,0,none⟩=some xv)(hx:Is pM w [xv] x) :
  Calls Tryz.prog 186 #[yv,.pointer (some ⟨X,0,none⟩)] w fun e w'=>e=.returned (.bool (E4 x y))/\∃ n,w'=w.drewN n:=by
 have HC:=XK hx hy
 obtain⟨ao,ca,rfl,_⟩:=KH hx
 obtain⟨bo,cb,rfl,_⟩:=KH hy
 go_enter Tryz.func186,Tryz.ntmps186
 go_wp2_with fail
 refine HC.mono ?_;rintro e w1 ⟨rfl,nq,rfl⟩
 go_wp2
 go_ret
 exact⟨rfl,_,rfl⟩
set_option maxHeartbeats 1000000 in
theorem Va {w:World}{qv xv:Value}{x:List Int}{q:List (List Int)}{X:Nat}(hq:Is pQ w [qv] q)(hX:w.cell? ⟨X,0,none⟩=some xv)(hx:Is pM w [xv] x) :
  Calls Tryz.prog 185 #[qv,.func (.func 186) #[] #[.pointer (some ⟨X,0,none⟩)]] w fun e w'=>e=.returned (.int .i64 (IU x q))/\∃ n,w'=w.drewN n:=by
 obtain⟨ao,cap,rfl,h1,h2,h3⟩:=GM hq
 clear hq
 unfold maxLen at h2
 go_enter Tryz.func185,Tryz.ntmps185
 go_wp2
 go_loopw [8] (fun i wr=>∃ k:Nat,k<=q.length/\i=.int .i64 k/\(∀ j y,j<k->q[j]?=some y->E4 x y=false)/\∃ n,wr=w.drewN n) (fun i _=>q.length - (intOf i).toNat)
 case atStart=>exact⟨0,AkV _,rfl,fun j y h=>by omega,0,rfl⟩
 case round =>
  obtain⟨k,hk,rfl,hs,nq,rfl⟩:=hrel
  by_cases hlt:k<q.length
  ·obtain⟨b,off,rfl,hbl,hc⟩:=h3 (by omega)
   obtain⟨u,hu,hm⟩:=hc k q[k] (by simp[hlt])
   have HQ:q[k]?=some q[k]:=by simp[hlt]
   have HC:=Xp (hm.drewN L5 nq) (X:=X) hX (hx.drewN L5 nq)
   cases hl:E4 x q[k] with
   | true =>
    have HI:Hid (IU x q=k):=by unfold Hid IU;rw[Qg x q k _ HQ hs hl,Alj hlt]
    rw[hl]at HC
    clear hs hc h3 hl HQ
    generalize q[k]=m at *
    go_wp2_with (go_at_call 186;refine HC.mono ?_;rintro e w1 ⟨rfl,n1,rfl⟩)
    go_ret
    exact⟨by rw[HI.out];rfl,_,rfl⟩
   | false =>
    have HS:Hid (∀ j y,j<k+1->q[j]?=some y->E4 x y=false):=by
     intro j y hj hy
     by_cases e:j=k
     ·subst e;rw[HQ]at hy;cases hy;exact hl
     ·exact hs j y (by omega) hy
    rw[hl]at HC
    clear hs hc h3 hl HQ
    generalize q[k]=m at *
    go_wp2_with (go_at_call 186;refine HC.mono ?_;rintro e w1 ⟨rfl,n1,rfl⟩)
    go_roundw
    case rel=>exact⟨k+1,by omega,by go_num,HS.out,_,rfl⟩
    case measure=>simp[intOf];omega
  ·obtain rfl:k=q.length:=by omega
   have HI:Hid (IU x q=-1):=by unfold Hid IU;rw[N0 x q fun j y hy=>hs j y (AkR.1 hy).1 hy,Ak3 (by omega)]
   clear hs h3
   go_wp2
   go_ret
   exact⟨by rw[HI.out];rfl,_,rfl⟩
def fitM (fs:List D.Type)(m:List Int):List Int:=List.zipWith (fun t v=>Em t.Bits t.Signed v) fs m
def putE (room:Int)(fs:List D.Type)(q:List (List Int))(m:List Int):Int :=
 if m.length≠fs.length then 42 else if fs.all typeP=false then 42 else if room<=q.length then 45 else 0
def putX (fs:List D.Type)(q:List (List Int))(m:List Int)(sorted:Bool):List (List Int):=putAt q (if sorted then Ed (fitM fs m) q else q.length) (fitM fs m)
theorem ZT (n:Nat):(madeCells #[Value.int .i64 0] n).toList=List.replicate n (Value.int .i64 0):=toList_madeCells_one (.int .i64 0) n
def putSh (room:Int)(fs:List D.Type)(q:List (List Int))(m:List Int)(sh:Int):Int:=if putE room fs q m=0 then sh else 0
def putQ (room:Int)(fs:List D.Type)(q:List (List Int))(m:List Int)(sorted:Bool):List (List Int):=if putE room fs q m=0 then putX fs q m sorted else[]
theorem M7 {room sh:Int}{fs:List D.Type}{q:List (List Int)}{m:List Int}{e:Int}(h:putE room fs q m=e)(he:e≠0):putSh room fs q m sh=0:=by unfold putSh;rw[h,Ak3 he]
theorem PM {room:Int}{fs:List D.Type}{q:List (List Int)}{m:List Int}{sorted:Bool}{e:Int}(h:putE room fs q m=e)(he:e≠0):putQ room fs q m sorted=[]:=by unfold putQ;rw[h,Ak3 he]
def Hv (fs:List D.Type)(m:List Int)(k:Nat):List Int:=(fitM fs m).take k++List.replicate (m.length - k) 0
theorem fitM_len {fs:List D.Type}{m:List Int}(h:m.length=fs.length):(fitM fs m).length=m.length:=by simp[fitM,h]
theorem RW {fs:List D.Type}{m:List Int}{k:Nat}(h:m.length=fs.length)(hk:k<=m.length):(Hv fs m k).length=m.length:=by
 simp[Hv,fitM_len h];omega
theorem Acn {fs:List D.Type}{m:List Int}(h:m.length=fs.length):Hv fs m m.length=fitM fs m:=by
 simp[Hv];rw[← fitM_len h,Al1]
theorem Acm {fs:List D.Type}{m:List Int}{k:Nat}(h:m.length=fs.length)(hk:k<m.length)(t:D.Type)(ht:fs[k]?=some t) :
  (Hv fs m k).set k (Em t.Bits t.Signed (m.getD k 0))=Hv fs m (k+1):=by
 have hl:=fitM_len h
 have he:(fitM fs m)[k]?=some (Em t.Bits t.Signed (m.getD k 0)):=by
  simp[fitM,List.getElem?_zipWith,ht,List.getD,hk]
 unfold Hv
 rw[List.set_append_right _ _ (by simp;omega),GI he,show m.length - k=(m.length - (k+1))+1 by omega,List.replicate_succ]
 simp[show k - min k (fitM fs m).length=0 by omega]
theorem Ajf (b v:Int)(s:Bool):(Lit.int .i64 (Em b s v)).wf=true:=by
 rw[Adb]
 unfold Em
 split
 ·rename_i hb
  have hp:=Aer b hb.1 hb.2
  have e1:=Am5 (v+2 ^ b.toNat / 2) (show(2:Int) ^ b.toNat≠0 by omega)
  have e2:=Int.emod_lt_of_pos (v+2 ^ b.toNat / 2) (show(0:Int)<2 ^ b.toNat by omega)
  have e3:=Am5 v (show(2:Int) ^ b.toNat≠0 by omega)
  have e4:=Int.emod_lt_of_pos v (show(0:Int)<2 ^ b.toNat by omega)
  split<;>omega
 ·omega
structure PF (w wr:World) (room sh:Int) (fv qv:Value) (X L:Nat) (ys:List Int):Prop where
 b0:wr.heap[w.heap.size]?=some (.cells #[.int .i64 room,fv] 166 (0,0))
 b1:wr.heap[w.heap.size+1]?=some (.cells #[.int .i64 sh,qv] 86 (0,0))
 b2:wr.heap[w.heap.size+2]?=some (.cells #[.int .i64 0,.slice none 0 0] 86 (0,0))
 b4:wr.heap[X]?=some (.cells #[.slice (some ⟨w.heap.size+3,0,none⟩) L L] 98 (0,0))
 x:Ga wr w.heap.size (.slice (some ⟨w.heap.size+3,0,none⟩) L L) ys
 len:ys.length=L
 below:Below w.heap.size w wr
section
variable {w wr w2:World} {room sh:Int} {fv qv:Value} {X L:Nat} {ys:List Int}
theorem PF.lt (h:PF w wr room sh fv qv X L ys):w.heap.size+2<wr.heap.size/\X<wr.heap.size:=⟨BO h.b2,BO h.b4⟩
theorem PF.nx (h:PF w wr room sh fv qv X L ys)(k:Nat)(hk:(Value.slice (some ⟨w.heap.size+3,0,none⟩) L L).ownBlock=some k):X≠k:=by
 rintro rfl;obtain⟨c,hc⟩:=AW h.x.row hk;exact Ef h.b4 hc (by decide) rfl
theorem PF.kept (h:PF w wr room sh fv qv X L ys)(hb:Below wr.heap.size wr w2):PF w w2 room sh fv qv X L ys :=
 have hl:=h.lt
 ⟨(hb.block _ (by omega)).trans h.b0,(hb.block _ (by omega)).trans h.b1,(hb.block _ (by omega)).trans h.b2,(hb.block _ (by omega)).trans h.b4,h.x.same fun k hk=>hb.block k (h.x.row.lt k hk).2,h.len,h.below.trans (hb.mono h.below.size)⟩
theorem PF.cell (h:PF w wr room sh fv qv X L ys){k:Nat}(hk:k<L):wr.cell? ⟨w.heap.size+3,k,none⟩=some (.int .i64 (ys.getD k 0)):=by
 have hrow:=h.x.row
 rw[h.len]at hrow
 have:=h.len
 rw[hrow.cellAt k (by omega)];simp[List.getD,show k<ys.length by omega]
theorem PF.free (h:PF w wr room sh fv qv X L ys)(k:Nat):wr.frozen? ⟨w.heap.size+3,k,none⟩=false:=by
 have hrow:=h.x.row
 rw[h.len]at hrow
 exact hrow.frozenAt k
theorem PF.set (h:PF w wr room sh fv qv X L ys){k:Nat}{n:Int}(hn:(Lit.int .i64 n).wf=true)(hk:k<L):PF w (wr.setCell ⟨w.heap.size+3,k,none⟩ (.int .i64 n)) room sh fv qv X L (ys.set k n):=by
 have hrow:=h.x.row
 rw[h.len]at hrow
 have hst:=hrow.stored k (.int .i64 n)
 refine⟨?_,?_,?_,?_,⟨?_,fun i hi=>?_⟩,by rw[AlG];exact h.len,h.below.setCell (by simp) _⟩
 ·rw[Below.heap_setCell _ _ _ _ (by simp)];exact h.b0
 ·rw[Below.heap_setCell _ _ _ _ (by simp)];exact h.b1
 ·rw[Below.heap_setCell _ _ _ _ (by simp)];exact h.b2
 ·rw[Below.heap_setCell _ _ _ _ (h.nx (w.heap.size+3) rfl)];exact h.b4
 ·rw[AlG,h.len,List.map_set];exact hst.1
 ·rw[AlG]at hi
  by_cases e:i=k
  ·subst e;simp[List.getD,hi];exact hn
  ·have:=h.x.wf i hi
   simpa[List.getD,Am0 (Ne.symm e)] using this
end
theorem BT.base {w:World}{n0 n1:Nat}{v:Value}{vs:List Value}{q:List (List Int)}(h:BT w n0 v vs q)(hb:n1<=n0):BT w n1 v vs q :=
 ⟨⟨h.row.1,h.row.2.imp id fun⟨g,cap,cur,e,h1,h2⟩=>⟨g,cap,cur,e,Alg hb h1,h2⟩⟩,h.len,fun i u m hu hm=>(h.each i u m hu hm).base hb⟩
theorem Zb {w wO:World}{room sh:Int}{fv qv ov:Value}{vs:List Value}{X L O:Nat}{x:List Int}{q:List (List Int)}(hp:PF w wO room sh fv qv X L x)(hown:BT wO w.heap.size ov vs q)
  (hO:wO.heap[O]?=some (.cells #[.int .i64 sh,ov] 86 (0,0))) (i V:Nat) (hV:wO.heap.size=V) (hi:i<=q.length) (hbig:(q.length+1)*24<=140737488355328) :
  Calls Tryz.prog 188 #[ov,.int .i64 i,.slice (some ⟨V,0,none⟩) 1 1] (wO.alloc (.cells #[.slice (some ⟨w.heap.size+3,0,none⟩) L L] 98)) fun e w' =>
   ∃ ao cap vs',e=.returned (.slice ao (q.length+1) cap)/\BT w' w.heap.size (.slice ao (q.length+1) cap) vs' (putAt q i x)/\w'.heap[O]?=some (.cells #[.int .i64 sh,ov] 86 (0,0)) /\
    w'.heap[w.heap.size+2]?=some (.cells #[.int .i64 0,.slice none 0 0] 86 (0,0))/\Below w.heap.size w w':=by
 subst hV
 have hsz:=hp.below.size
 have hlt:=hp.lt
 have hOl:=BO hO
 refine(Tl i (hown.alloc _) (heap_alloc_new wO _) (fun e=>by have:=(hown.row.lt _ e).2;omega) (hp.x.alloc _) hi hbig (by simp;omega)).mono ?_
 rintro e w' ⟨v',rfl,hq',ht⟩
 obtain⟨ao,cap,rfl,_⟩:=Ek hq'.row
 rw[GK hi]at hq' ⊢
 have far:∀ (k:Nat) (c:Array Value) (t:TypeId),wO.heap[k]?=some (.cells c t (0,0))->t≠98->w'.heap[k]?=some (.cells c t (0,0)):=fun k c t hk hne=>by
  have hkl:=BO hk
  rw[ht.block k (by simp;omega) (fun e=>by obtain⟨cur,hcur⟩:=AW hown.row e;exact Ef hk hcur hne rfl),Below.heap_alloc _ _ _ hkl];exact hk
 refine⟨ao,cap,_,rfl,hq',far O _ _ hO (by decide),far _ _ _ hp.b2 (by decide),?_⟩
 exact(hp.below.alloc hsz _).trans (ht.below (by simp;omega) fun k hk=>(hown.row.lt k hk).1)
theorem AeP {w:World}{v:Value}{fs:List D.Type}(h:Is (Pkg.slice 2 16 H5) w [v] fs) :
  ∃ ao cap,v=.slice ao fs.length cap/\fs.length<=cap/\cap<=maxLen/\(0<fs.length->∃ b off,ao=some ⟨b,off,none⟩/\b<w.heap.size /\
   ∀ i t,fs[i]?=some t->w.cell? ⟨b,off+i*2,none⟩=some (.int .i64 t.Bits)/\w.cell? ⟨b,off+i*2+1,none⟩=some (.bool t.Signed)):=by
 obtain⟨ao,cap,e,h1,h2,h3⟩:=Qc h
 refine⟨ao,cap,e,h1,h2,fun hp=>?_⟩
 obtain⟨b,off,e2,hb,hel⟩:=h3 hp
 refine⟨b,off,e2,hb,fun i t ht=>?_⟩
 obtain⟨es,_,h5,h6⟩:=hel i t ht
 simp only[H5,AeO,U8,Tj,Zu]at h6
 obtain⟨_,rfl,_,_,rfl,rfl⟩:=h6
 exact⟨by have:=h5 0 (by omega);exact this,by have:=h5 1 (by omega);exact this⟩
end Go.Proofs.YtmdcknlpalfhhaaGreatDoor.Ch
namespace Go.Proofs.YtmdcknlpalfhhaaGreatDoor.Ch
open Go.RowKit Go.Lib
def cutAt {α:Type}(l:List α)(i:Nat):List α:=l.take i++l.drop (i+1)
theorem KO {α:Type}{l:List α}{i:Nat}(h:i<l.length):(cutAt l i).length=l.length - 1:=by
 unfold cutAt;simp;omega
theorem VA {α:Type}{l:List α}{i j:Nat}(h:i<l.length)(hj:j<i):(cutAt l i)[j]?=l[j]?:=by
 unfold cutAt
 rw[Ak0 (by simp;omega),AlS,Alj hj]
theorem VB {α:Type}{l:List α}{i j:Nat}(h:i<l.length)(hj:i<=j):(cutAt l i)[j]?=l[j+1]?:=by
 unfold cutAt
 rw[Ak8 (by simp;omega),AmE,All]
 congr 1;omega
theorem BT.cutAt {w w':World}{n0 i:Nat}{v v':Value}{vs:List Value}{q:List (List Int)}(h:BT w n0 v vs q)(hi:i<q.length)
  (hr:w'.ownsRow n0 98 1 v' (q.length - 1) (cutAt vs i)) (ht:∀ k,k<w.heap.size->v.ownBlock≠some k->w'.heap[k]?=w.heap[k]?):BT w' n0 v' (cutAt vs i) (cutAt q i):=by
 have hl:=h.len
 have sep:∀ (x:Value) (l:List Int),Ga w n0 x l->Ga w' n0 x l:=fun x l hx=>hx.same fun k hk=>ht k (hx.row.lt k hk).2 fun e=>by
  obtain⟨c1,e1⟩:=AW hx.row hk
  obtain⟨c2,e2⟩:=AW h.row e
  exact Ef e1 e2 (by decide) rfl
 refine⟨by rw[KO hi];exact hr,by rw[KO hi,KO (by omega),hl],fun j x l hx hl'=>?_⟩
 by_cases hj:j<i
 ·rw[VA (by omega) hj]at hx hl'
  exact sep x l (h.each j x l hx hl')
 ·rw[VB (by omega) (by omega)]at hx hl'
  exact sep x l (h.each _ x l hx hl')
set_option maxHeartbeats 1000000 in
set_option maxRecDepth 100000 in
theorem Tv {w:World}{n0:Nat}{qv:Value}{vs:List Value}{q:List (List Int)}(i:Nat)(hq:BT w n0 qv vs q)(hi:i<q.length) :
  Calls Tryz.prog 190 #[qv,.int .i64 i,.int .i64 ((i:Int)+1)] w fun e w' =>
   ∃ ao cap vs',e=.returned (.slice ao (q.length - 1:Nat) cap)/\BT w' n0 (.slice ao (q.length - 1:Nat) cap) vs' (cutAt q i)/\Cb w w' (fun k=>qv.ownBlock=some k):=by
 have hlen:=hq.len
 obtain⟨ki,khi,khz0,khz1,khz2⟩:=B8 G6
 rcases hq.row.2 with⟨rfl,h0⟩ | ⟨g,cap,cur,rfl,hb,hg,h1,h2,h3,h4⟩
 ·omega
 have hm2:=h2
 unfold maxLen at hm2
 have hcell:∀ j,j<cap->(w.cell? ⟨g,j,none⟩).isSome=true:=fun j hj=>by
  rw[Ai hg (by rw[AlR (by omega)])];rfl
 obtain⟨news,hnews⟩:∃ news,news=vs.drop (i+1):=⟨_,rfl⟩
 have hnl:news.length=q.length - (i+1):=by rw[hnews];simp[hlen]
 obtain⟨A,hA,hsrc⟩:∃ A:Addr,(if cap=i+1 then some (⟨g,0,none⟩:Addr) else some ⟨g,i+1,none⟩)=some A/\Hid (∀ (t:Nat) (u:Value),news[t]?=some u->w.drew.cell? (A.add t)=some u):=by
  by_cases h:cap=i+1
  ·refine⟨⟨g,0,none⟩,by simp[h],fun t u hu=>?_⟩
   have:=(AkR.1 hu).1
   omega
  ·refine⟨⟨g,i+1,none⟩,by simp[h],fun t u hu=>?_⟩
   have ht:=(AkR.1 hu).1
   rw[hnews,All]at hu
   rw[Addr.add_lit]
   have:=hq.row.cellAt (i+1+t) (by omega)
   rw[hu]at this;exact this
 have s1:Hid (news.length=(q.length - (i+1))*1):=by rw[Nat.mul_one];exact hnl
 have s2:Hid (∀ u∈news,u.oneCell'=true):=by
  intro u hu
  rw[hnews]at hu
  obtain⟨j,hj,rfl⟩:=Al4 (AmA hu)
  exact Gh (hq.each j vs[j] q[j] (by simp[hj]) (by simp[show j<q.length by omega])).row
 have s3:Hid (∀ t,t<news.length->(w.drew.cell? ⟨g,0+i*1+t,none⟩).isSome=true/\w.drew.frozen? ⟨g,0+i*1+t,none⟩=false):=by
  intro t ht
  exact⟨hcell _ (by omega),Ay hg⟩
 obtain⟨W1,hW1⟩:∃ W1,W1=w.drew.setCells g (0+i*1) news:=⟨_,rfl⟩
 obtain⟨c1,e1,z1⟩:=DL news (0+i*1) w.drew cur hg
 rw[← hW1]at e1
 have hcl:∀ ty,(Builtin.clear_ #[84] ty #[.slice (some ⟨g,i+(q.length - (i+1)),none⟩) (q.length - (i+(q.length - (i+1)))) (cap - (i+(q.length - (i+1))))]).run Tryz.prog W1=.ok (.tuple #[]) (W1.setCells g (i+(q.length - (i+1))) (List.replicate (q.length - (i+(q.length - (i+1)))) (.slice none 0 0))) :=
  fun ty=>Lib.run_clear_slice W1 _ _ ty _ Tryz.underlying84 Tryz.zeroValue98 rfl rfl g (i+(q.length - (i+1))) _ _ (by omega) (fun t ht=>by rw[Ai e1 (by rw[AlR (by omega)])];rfl) (fun t ht=>Ay e1)
 have hic:i<=cap:=by omega
 have hjc:i+1<=cap:=by omega
 have hj0:(0:Int)<=(i:Int)+1:=by omega
 have hjn:(i:Int)+1<=(q.length:Int):=by omega
 have hW:Hid (W1=w.drew.setCells g (0+i*1) news):=hW1
 have HF:Hid (∃ ao cap' vs',(Value.slice (some ⟨g,0,none⟩) (i+(q.length - (i+1))) cap)=.slice ao (q.length - 1:Nat) cap'/\BT (W1.setCells g (i+(q.length - (i+1))) (List.replicate (q.length - (i+(q.length - (i+1)))) (.slice none 0 0))) n0 (.slice ao (q.length - 1:Nat) cap') vs' (cutAt q i)/\Cb w (W1.setCells g (i+(q.length - (i+1))) (List.replicate (q.length - (i+(q.length - (i+1)))) (.slice none 0 0))) (fun k=>(Value.slice (some ⟨g,0,none⟩) q.length cap).ownBlock=some k)):=by
  have n1:i+(q.length - (i+1))=q.length - 1:=by omega
  rw[n1,show q.length - (q.length - 1)=1 by omega]
  obtain⟨c2,e2,z2⟩:=DL (List.replicate 1 (Value.slice none 0 0)) (q.length - 1) W1 c1 e1
  have far:∀ k,k≠g->(W1.setCells g (q.length - 1) (List.replicate 1 (Value.slice none 0 0))).heap[k]?=w.heap[k]?:=fun k hk=>by rw[DK hk,hW1,DK hk];rfl
  obtain⟨s1,s2,s3,s4⟩:=Dj news (0+i*1) g w.drew
  obtain⟨s5,s6,s7,s8⟩:=Dj (List.replicate 1 (Value.slice none 0 0)) (q.length - 1) g W1
  rw[← hW1]at s1 s2 s3 s4
  refine⟨_,_,cutAt vs i,rfl,hq.cutAt hi (Fy e2 hb (by omega) h2 (by omega) (by rw[KO (by omega),hlen]) fun j hj=>?_) fun k _ hne=>far k fun e=>hne (by rw[e];rfl),
   ⟨s5.trans s1,s6.trans s2,s7.trans s3,by rw[s8,s4];exact AkU _,fun k _ hne=>far k fun e=>hne (by rw[e];rfl)⟩⟩
  rw[Dc (.inl hj),hW1]
  by_cases hji:j<i
  ·rw[Dc (.inl (by omega)),VA (by omega) hji]
   exact hq.row.cellAt j (by omega)
  ·rw[FU (w:=w.drew) (o:=0+i*1) (vs:=news) (fun k hk=>hcell (0+i*1+k) (by omega)) (by omega) (by omega),VB (by omega) (by omega),hnews,All]
   congr 1;omega
 clear hW1 e1 hcell
 go_enter Tryz.func190,Tryz.ntmps190
 go_wp2_with fail
 go_region_law (refine step_append_room rfl (.tmp 22) (.tmp 25) 84 rfl 98 ki 1 Tryz.underlying84 khi khz1 g 0 i cap (by simp[Act.eval,Act.put]) A (q.length - (i+1)) (cap - (i+1)) news (by simp[Act.eval,Act.put]) s1.out hsrc.out s2.out (by omega) s3.out ?_;rw[← hW.out])
 go_wp2
 go_ret
 obtain⟨ao,cap',vs',e,h5,h6⟩:=HF.out
 exact⟨ao,cap',vs',by rw[← e];rfl,h5,h6⟩
theorem BT.base' {w:World}{n0 n1:Nat}{v:Value}{vs:List Value}{q:List (List Int)}(h:BT w n0 v vs q)(hb:n1<=n0):BT w n1 v vs q :=
 ⟨⟨h.row.1,h.row.2.imp id fun⟨g,cap,cur,e,h1,h2⟩=>⟨g,cap,cur,e,Alg hb h1,h2⟩⟩,h.len,fun i u m hu hm=>(h.each i u m hu hm).base hb⟩
set_option maxRecDepth 100000 in
set_option maxHeartbeats 1000000 in
theorem AaJ {w:World}{qv:Value}{q:List (List Int)}(sh n:Int)(hq:Is pQ w [qv] q)(hn:n<0∨(q.length:Int)<=n) :
  Calls Tryz.prog 166 #[.agg #[.int .i64 sh,qv],.int .i64 n] w fun e w'=>e=.returned (.tuple #[.agg #[.int .i64 0,.slice none 0 0],.slice none 0 0,.int .i64 46])/\Below w.heap.size w w':=by
 obtain⟨qo,qc,rfl,_⟩:=GM hq
 have hres:((w.alloc (.cells #[.int .i64 sh,.slice qo q.length qc] 86)).alloc (.cells #[.int .i64 0,.slice none 0 0] 86)).heap[w.heap.size+1]?=some (.cells #[.int .i64 0,.slice none 0 0] 86 (0,0)):=by
  have:=heap_alloc_new (w.alloc (.cells #[.int .i64 sh,.slice qo q.length qc] 86)) (.cells #[.int .i64 0,.slice none 0 0] 86)
  simpa using this
 have hb:Below w.heap.size w ((w.alloc (.cells #[.int .i64 sh,.slice qo q.length qc] 86)).alloc (.cells #[.int .i64 0,.slice none 0 0] 86)):=((Below.refl _ w).alloc (AkU _) _).alloc (by simp) _
 rcases hn with hn | hn
 ·go_enter Tryz.func166,Tryz.ntmps166
  go_wp2
  exact M6 rfl rfl hres Tryz.underlying86 rfl (by kernel_rfl) rfl ⟨rfl,hb⟩
 ·have hd:decide (n<0)=false:=by simp;omega
  go_enter Tryz.func166,Tryz.ntmps166
  go_wp2
  exact M6 rfl rfl hres Tryz.underlying86 rfl (by kernel_rfl) rfl ⟨rfl,hb⟩
set_option maxRecDepth 100000 in
set_option maxHeartbeats 1000000 in
theorem WM {w:World}{qv:Value}{q:List (List Int)}(sh:Int)(n:Nat)(hq:Is pQ w [qv] q)(hsm:Small q)(hn:n<q.length) :
  Calls Tryz.prog 166 #[.agg #[.int .i64 sh,qv],.int .i64 n] w fun e w'=>∃ ov vs mv,e=.returned (.tuple #[.agg #[.int .i64 sh,ov],mv,.int .i64 0]) /\
   BT w' w.heap.size ov vs (cutAt q n)/\Ga w' w.heap.size mv (q.getD n [])/\Below w.heap.size w w':=by
 obtain⟨qo,qc,rfl,_⟩:=GM hq
 generalize hw0:(w.alloc (.cells #[.int .i64 sh,.slice qo q.length qc] 86)).alloc (.cells #[.int .i64 0,.slice none 0 0] 86)=w0
 have hb0:Below w.heap.size w w0:=by rw[← hw0];exact((Below.refl _ w).alloc (AkU _) _).alloc (by simp) _
 have hres0:w0.heap[w.heap.size+1]?=some (.cells #[.int .i64 0,.slice none 0 0] 86 (0,0)):=by
  have:=heap_alloc_new (w.alloc (.cells #[.int .i64 sh,.slice qo q.length qc] 86)) (.cells #[.int .i64 0,.slice none 0 0] 86)
  rw[← hw0];simpa using this
 have HC:=MH sh (hq.below YM hb0) hsm
 rw[← hw0]at HC
 have HW:=Lib.hid hw0
 clear hw0
 have hnd:(n:Int)<(q.length:Int):=by omega
 have hql:=hsm.1
 obtain⟨mm,hmm⟩:∃ mm,mm=q.getD n []:=⟨_,rfl⟩
 rw[← hmm]
 have HMM:=Lib.hid hmm
 clear hmm
 go_enter Tryz.func166,Tryz.ntmps166
 go_wp2_with fail
 (with_reducible refine HC.mono ?_);rintro e w2 ⟨ov,vs,rfl,hown2,hb2⟩
 rw[HW.out]at hown2 hb2
 obtain⟨oo,oc,rfl,_,_,h3⟩:=Ek hown2.row
 obtain⟨g,rfl,hg1,hg2,hg3⟩:=h3 (by omega)
 have hvn:n<vs.length:=by rw[hown2.len];exact hn
 have hmv:=hown2.each n vs[n] mm (by simp[hvn]) (by rw[HMM.out];simp[List.getD,hn])
 obtain⟨mo,mc,hme,_⟩:=Ek hmv.row
 have hmc:=hg3 n hn
 rw[Ak1 hvn,hme]at hmc
 rw[hme]at hmv
 have hg2':=hg2
 have hs0:w.heap.size<=w0.heap.size:=hb0.size
 have hs2:w0.heap.size<=w2.heap.size:=hb2.size
 have hres2:w2.heap[w.heap.size+1]?=_:=(hb2.block _ (BO hres0)).trans hres0
 have hl2:=BO hres2
 have hn1:w.heap.size+1≠w2.heap.size:=by omega
 have hn2:w2.heap.size≠w.heap.size+1:=fun e=>hn1 e.symm
 have HD:=Tv n ((hown2.base' hs0).alloc (.cells #[.int .i64 sh,.slice (some ⟨g,0,none⟩) q.length oc] 86)) hn
 clear hme h3 hg3
 go_wp2_with fail
 (with_reducible refine HD.mono ?_);rintro e w4 ⟨ao,cap,vs',rfl,hq4,ht4⟩
 have hO4:w4.heap[w2.heap.size]?=some (.cells #[.int .i64 sh,.slice (some ⟨g,0,none⟩) q.length oc] 86 (0,0)):=by
  rw[ht4.block _ (by simp) (by simp[Value.ownBlock];omega)];exact heap_alloc_new _ _
 have hr4:w4.heap[w.heap.size+1]?=some (.cells #[.int .i64 0,.slice none 0 0] 86 (0,0)):=by
  rw[ht4.block _ (by simp;omega) (by intro e;obtain⟨cur,hcur⟩:=AW hown2.row e;exact Ef hres2 hcur (by decide) rfl),Below.heap_alloc _ _ _ hl2];exact hres2
 have hm4:Ga w4 w.heap.size (.slice mo mm.length mc) mm:=(hmv.base hs0).same fun k hk=>by
  have hkl:=(hmv.row.lt k hk).2
  rw[ht4.block _ (by simp;omega) (by intro e;obtain⟨cur,hcur⟩:=AW hown2.row e;obtain⟨cur',hcur'⟩:=AW hmv.row hk;exact Ef hcur' hcur (by decide) rfl),Below.heap_alloc _ _ _ hkl]
 have hb4:Below w.heap.size w w4:=((hb0.trans (hb2.mono hs0)).alloc (by omega) _).trans (ht4.below (by simp;omega) fun k hk=>Alg hs0 (hown2.row.lt k hk).1)
 have cO0:w4.cell? ⟨w2.heap.size,0,none⟩=some (.int .i64 sh):=Ai hO4 rfl
 have cO1:w4.cell? ⟨w2.heap.size,1,none⟩=some (.slice (some ⟨g,0,none⟩) q.length oc):=Ai hO4 rfl
 have fO1:w4.frozen? ⟨w2.heap.size,1,none⟩=false:=Ay hO4
 have r0:w4.cell? ⟨w.heap.size+1,0,none⟩=some (.int .i64 0):=Ai hr4 rfl
 have r1:w4.cell? ⟨w.heap.size+1,1,none⟩=some (.slice none 0 0):=Ai hr4 rfl
 have f0:w4.frozen? ⟨w.heap.size+1,0,none⟩=false:=Ay hr4
 have f1:w4.frozen? ⟨w.heap.size+1,1,none⟩=false:=Ay hr4
 clear hown2 hmv ht4 hmc
 go_wp2
 have hr5:(w4.setCell ⟨w2.heap.size,1,none⟩ (.slice ao (q.length - 1) cap)).heap[w.heap.size+1]?=_:=(Below.heap_setCell _ _ _ _ hn1).trans hr4
 have hres:(((w4.setCell ⟨w2.heap.size,1,none⟩ (.slice ao (q.length - 1) cap)).setCell ⟨w.heap.size+1,0,none⟩ (.int .i64 sh)).setCell ⟨w.heap.size+1,1,none⟩ (.slice ao (q.length - 1) cap)).heap[w.heap.size+1]?=some (.cells #[.int .i64 sh,.slice ao (q.length - 1) cap] 86 (0,0)):=by
  rw[A1 (A1 hr5 _)];rfl
 refine M6 rfl rfl hres Tryz.underlying86 rfl (by kernel_rfl) rfl ⟨.slice ao (q.length - 1) cap,vs',.slice mo mm.length mc,rfl,?_,?_,?_⟩
 ·exact((hq4.set hO4 (by decide) (by decide) _).set hr5 (by decide) (by decide) _).set (A1 hr5 _) (by decide) (by decide) _
 ·refine hm4.same fun k hk=>?_
  have e:∀ {B:Nat} {c:Array Value},w4.heap[B]?=some (.cells c 86 (0,0))->k≠B:=fun hB e=>by
   subst e;obtain⟨cur,hcur⟩:=AW hm4.row hk;exact Ef hcur hB (by decide) rfl
  rw[Below.heap_setCell _ _ _ _ (e hr4),Below.heap_setCell _ _ _ _ (e hr4),Below.heap_setCell _ _ _ _ (e hO4)]
 ·exact((hb4.setCell (p:=⟨w2.heap.size,1,none⟩) (by simp;omega) _).setCell (p:=⟨w.heap.size+1,0,none⟩) (AlJ _ _) _).setCell (p:=⟨w.heap.size+1,1,none⟩) (AlJ _ _) _
end Go.Proofs.YtmdcknlpalfhhaaGreatDoor.Ch
namespace Go.Proofs.YtmdcknlpalfhhaaGreatDoor
open Go.RowKit
def LL (f:List D.Type)(args init:List Int)(k:Nat):List Int:=(List.range init.length).map fun i=>if i<k then IW (f.getD i default) (args.getD i 0) else init.getD i 0
def Hb (m:D.Model)(typ:Int)(args:List Int):D.Process:=⟨typ,(A9 m typ).Start,(A9 m typ).Prio,LL (A9 m typ).Frame args (A9 m typ).Init args.length⟩
def Aez : D.Process:=⟨0,0,0,[]⟩
def GS (m:D.Model)(typ:Int)(args:List Int):D.Process × Int :=
 bif !Dt m then(Aez,40)
 else bif decide (typ<0)||(decide ((m.Procs.length:Int)<=typ)||(decide (typ=m.Claim)||decide ((args.length:Int)≠(A9 m typ).Params))) then(Aez,42)
 else(Hb m typ args,0)
def N6 (e:D.Env)(p:D.Process):D.Env:={ e with S:={ e.S with Procs:=e.S.Procs++[p] } }
def BY (e:D.Env)(x:Int):D.Env × Int × Int :=
 bif decide ((BS e (Ax e.M x).Args).2≠0) then(e,0,(BS e (Ax e.M x).Args).2)
 else bif decide ((GS e.M (Ax e.M x).N (BS e (Ax e.M x).Args).1).2≠0) then(e,0,(GS e.M (Ax e.M x).N (BS e (Ax e.M x).Args).1).2)
 else(N6 e (GS e.M (Ax e.M x).N (BS e (Ax e.M x).Args).1).1,e.S.Procs.length,0)
def CO (e:D.Env)(x v:Int):D.Env × Int:=(stE e x v,(AX e x v).2)
def I9 (e:D.Env)(s:D.Stmt):D.Env × Int :=
 bif DP e s.B then(bif decide ((BY e s.B).2.2≠0) then((BY e s.B).1,(BY e s.B).2.2) else CO (BY e s.B).1 s.A (BY e s.B).2.1)
 else bif decide ((AY e s.B).2≠0) then(e,(AY e s.B).2) else CO e s.A (AY e s.B).1
def Ja (e:D.Env)(c:Int)(k:D.Chan):D.Env:={ e with S:={ e.S with Chans:=e.S.Chans.set (c - 1).toNat k } }
def Er (k:D.Chan)(n:Int):D.Chan × List Int × Int :=
 bif decide (n<0)||decide ((k.Queue.length:Int)<=n) then(⟨0,[]⟩,[],46) else(⟨k.Shape,Ch.cutAt k.Queue n.toNat⟩,k.Queue.getD n.toNat [],0)
def Gg (e:D.Env)(s:D.Stmt):D.Env × Int :=
 bif decide ((Ba e s).2.2≠0) then(e,(Ba e s).2.2)
 else bif decide ((Er (Co e (Ba e s).1) (Ba e s).2.1).2.2≠0) then(e,(Er (Co e (Ba e s).1) (Ba e s).2.1).2.2)
 else Dw (bif decide (s.N<2) then Ja e (Ba e s).1 (Er (Co e (Ba e s).1) (Ba e s).2.1).1 else e) s (Er (Co e (Ba e s).1) (Ba e s).2.1).2.1
def QT (m:D.Model)(k:D.Chan)(l:List Int)(sorted:Bool):D.Chan × Int :=
 (⟨Ch.putSh (BU m k.Shape).Room (BU m k.Shape).Fields k.Queue l k.Shape,Ch.putQ (BU m k.Shape).Room (BU m k.Shape).Fields k.Queue l sorted⟩,Ch.putE (BU m k.Shape).Room (BU m k.Shape).Fields k.Queue l)
def AdW (e:D.Env)(s:D.Stmt):D.Env × Int :=
 (Ja e (AA e s).1 (QT e.M (Co e (AA e s).1) (AA e s).2.1 (decide (s.N=1))).1,(QT e.M (Co e (AA e s).1) (AA e s).2.1 (decide (s.N=1))).2)
def CN (e:D.Env)(w:Wy):D.Trans:=(Cc (Dp e) w.Esc).getD w.Way.toNat default
def HH (e:D.Env)(w:Wy):D.Trans:=(Cc (Dp (BH e w.With)) w.WithEsc).getD w.WithWay.toNat default
def Jb (e:D.Env)(s:D.Stmt)(w:Wy):D.Env × Int :=
 bif decide ((AA e s).2.2≠0) then(e,(AA e s).2.2)
 else bif decide (0<=w.With) then({ e with S:=(Dw (BH e w.With) (HH e w).S (AA e s).2.1).1.S },(Dw (BH e w.With) (HH e w).S (AA e s).2.1).2)
 else AdW e s
def Hk (e:D.Env)(n:Int):D.Env:={ e with S:={ e.S with Chans:=e.S.Chans++[⟨n,[]⟩] } }
def I4 (e:D.Env)(s:D.Stmt):Int:=bif decide ((AY e s.A).2=0)&&decide ((AY e s.A).1=0) then 50 else(AY e s.A).2
def Dn (pr:ByteArray->List Int->ByteArray)(e:D.Env)(s:D.Stmt)(w:Wy):D.Env × ByteArray × Int :=
 if s.Kind=1 then(bif DP e s.A then((BY e s.A).1,⟨#[]⟩,(BY e s.A).2.2) else(e,⟨#[]⟩,0))
 else if s.Kind=2 then((I9 e s).1,⟨#[]⟩,(I9 e s).2)
 else if s.Kind=3 then(e,⟨#[]⟩,I4 e s)
 else if s.Kind=4 then(e,bif decide ((BS e s.Args).2≠0) then⟨#[]⟩ else pr s.Text (BS e s.Args).1,(BS e s.Args).2)
 else if s.Kind=9 then((CO (Hk e s.N) s.A (e.S.Chans.length+1:Nat)).1,⟨#[]⟩,(CO (Hk e s.N) s.A (e.S.Chans.length+1:Nat)).2)
 else if s.Kind=5 then((Jb e s w).1,⟨#[]⟩,(Jb e s w).2)
 else if s.Kind=6 then((Gg e s).1,⟨#[]⟩,(Gg e s).2)
 else(e,⟨#[]⟩,0)
def Ep (l:List D.Process)(k to:Int):List D.Process:=l.set k.toNat { l.getD k.toNat default with Loc:=to }
def K7 (e:D.Env)(w:Wy)(s:D.State):D.State :=
 { s with Procs:=Ep (bif decide (0<=w.With) then Ep s.Procs w.With (HH e w).To else s.Procs) e.Pid (CN e w).To,Last:=e.Pid }
def AcA (e:D.Env):D.State:={ e.S with Procs:=e.S.Procs.take e.Pid.toNat,Last:=e.Pid,Alone:=bif decide (e.Pid<=e.S.Alone) then -1 else e.S.Alone }
def Yu : D.State:=⟨[],[],[],0,0,0⟩
def goE (pr:ByteArray->List Int->ByteArray)(e:D.Env)(w:Wy):D.State × ByteArray × Int :=
 bif decide (w.Err≠0) then(Yu,⟨#[]⟩,w.Err) else bif decide (w.Way<0) then(AcA e,⟨#[]⟩,0)
 else bif decide ((Dn pr e (CN e w).S w).2.2≠0) then(Yu,⟨#[]⟩,(Dn pr e (CN e w).S w).2.2)
 else(K7 e w (Dn pr e (CN e w).S w).1.S,(Dn pr e (CN e w).S w).2.1,0)
end Go.Proofs.YtmdcknlpalfhhaaGreatDoor
namespace Go.Proofs.YtmdcknlpalfhhaaGreatDoor
open Go.RowKit
structure EI (m:D.Model) (s:D.State):Prop where
 g:BE m.Globals s.Globals=true
 cl:s.Chans.length<=32
 pl:s.Procs.length<=16
 l:0<=s.Last/\s.Last<16
 a:-1<=s.Alone/\s.Alone<s.Procs.length
 c:∀ c∈s.Chans,Dg m c=true
 p:∀ p∈s.Procs,A2 m p=true
 k:GD m s=true
theorem Ec {m:D.Model}{s:D.State}:DJ m s=true ↔ EI m s:=by
 unfold DJ K6
 simp only[AkO,AkS]
 rw[Cm (d:=default) (f:=fun c=>Dg m c),Cm (d:=default) (f:=fun p=>A2 m p)]
 exact⟨fun⟨⟨⟨⟨⟨⟨⟨⟨⟨h1,h2⟩,h3⟩,h4⟩,h5⟩,h6⟩,h7⟩,h8⟩,h9⟩,h10⟩=>⟨h1,h2,h3,⟨h4,h5⟩,⟨h6,h7⟩,h8,h9,h10⟩,
  fun h=>⟨⟨⟨⟨⟨⟨⟨⟨⟨h.g,h.cl⟩,h.pl⟩,h.l.1⟩,h.l.2⟩,h.a.1⟩,h.a.2⟩,h.c⟩,h.p⟩,h.k⟩⟩
structure Gb (b:Int->Prop) (s t:D.State):Prop where
 last:t.Last=s.Last
 alone:t.Alone=s.Alone
 claim:t.Claim=s.Claim
 len:s.Procs.length<=t.Procs.length
 old:∀ i:Nat,i<s.Procs.length->(t.Procs.getD i default).Type_=(s.Procs.getD i default).Type_/\(t.Procs.getD i default).Loc=(s.Procs.getD i default).Loc/\(¬ b i->(t.Procs.getD i default).Frame=(s.Procs.getD i default).Frame)
theorem Gb.refl {b:Int->Prop}{s:D.State}:Gb b s s:=⟨rfl,rfl,rfl,AkU _,fun _ _=>⟨rfl,rfl,fun _=>rfl⟩⟩
theorem Gb.trans {b:Int->Prop}{s t u:D.State}(h:Gb b s t)(k:Gb b t u):Gb b s u :=
 ⟨k.last.trans h.last,k.alone.trans h.alone,k.claim.trans h.claim,Alg h.len k.len,fun i hi=>by
  obtain⟨a1,a2,a3⟩:=h.old i hi
  obtain⟨b1,b2,b3⟩:=k.old i (Ale hi h.len)
  exact⟨b1.trans a1,b2.trans a2,fun hb=>(b3 hb).trans (a3 hb)⟩⟩
theorem Gb.less {b c:Int->Prop}{s t:D.State}(h:Gb b s t)(hb:∀ i,b i->c i):Gb c s t :=
 ⟨h.last,h.alone,h.claim,h.len,fun i hi=>⟨(h.old i hi).1,(h.old i hi).2.1,fun hn=>(h.old i hi).2.2 fun hbi=>hn (hb _ hbi)⟩⟩
theorem MD {α:Type}{l:List α}{t j:Nat}{p d:α}:(l.set t p).getD j d=if t=j/\j<l.length then p else l.getD j d:=by
 simp only[Ak2,AmT]
 by_cases h:t=j
 ·subst h
  by_cases h2:t<l.length<;>simp[h2]
 ·simp[h]
theorem MF {t:D.Type}{v:Int}(h:HY t=true):DF t (IW t v)=true:=by
 have h0:=h
 unfold HY at h
 simp only[AkO,AkS]at h
 obtain⟨h1,h2,h3⟩:=h
 unfold DF IW Em
 rw[h0,Alj ⟨h1,h2⟩,AlI]
 cases hs:t.Signed with
 | true =>
  rw[hs]at h3
  simp at h3
  rcases h3 with h3 | h3<;>rw[h3]<;>simp<;>omega
 | false =>
  have hp:(0:Int)<2 ^ t.Bits.toNat:=Int.pow_pos (by decide)
  have:=Am5 v (Int.ne_of_gt hp)
  have:=Int.emod_lt_of_pos v hp
  simp;omega
theorem Uh {t:D.Type}{v:Int}(h:DF t v=true):HY t=true:=by
 unfold DF at h
 simp only[AkO]at h
 exact h.1
theorem AaD {t:List D.Type}{l:List Int}{k:Nat}(h:BE t l=true)(hk:k<l.length):DF (t.getD k default) (l.getD k 0)=true:=by
 unfold BE at h
 simp only[AkO,AkS]at h
 exact Bx.1 h.2 k hk
theorem Jr {t:List D.Type}{l:List Int}(hl:t.length=l.length)(h:∀ k,k<l.length->DF (t.getD k default) (l.getD k 0)=true):BE t l=true:=by
 unfold BE
 simp only[AkO,AkS]
 exact⟨hl,Bx.2 h⟩
theorem Rf {t:List D.Type}{l:List Int}(h:BE t l=true)(k:Nat)(v:Int):BE t (l.set k (IW (t.getD k default) v))=true:=by
 have hl:=EK h
 refine Jr (by simp[hl]) fun i hi=>?_
 rw[AlG]at hi
 have hx:=AaD h hi
 rw[MD]
 split
 ·rename_i hk
  obtain⟨rfl,_⟩:=hk
  exact MF (Uh hx)
 ·exact hx
section
variable {m : D.Model} {s:D.State}
theorem EI.setP (h:EI m s){l:List D.Process}(hl:l.length=s.Procs.length)(hp:∀ p∈l,A2 m p=true):EI m { s with Procs:=l } :=
 ⟨h.g,h.cl,by show l.length<=16;rw[hl];exact h.pl,h.l,⟨h.a.1,by show s.Alone<(l.length:Int);rw[hl];exact h.a.2⟩,h.c,hp,h.k⟩
theorem EI.addP (h:EI m s){p:D.Process}(hl:s.Procs.length<16)(hp:A2 m p=true):EI m { s with Procs:=s.Procs++[p] }:=by
 refine⟨h.g,h.cl,by show(s.Procs++[p]).length<=16;simp;omega,h.l,⟨h.a.1,?_⟩,h.c,fun q hq=>?_,h.k⟩
 ·have:=h.a.2
  show s.Alone<((s.Procs++[p]).length:Int)
  simp;omega
 ·rcases Als.1 hq with hq | hq
  ·exact h.p _ hq
  ·obtain rfl:=Aln.1 hq;exact hp
theorem EI.setC (h:EI m s){k:Nat}{c:D.Chan}(hc:Dg m c=true):EI m { s with Chans:=s.Chans.set k c } :=
 ⟨h.g,by show(s.Chans.set k c).length<=32;rw[AlG];exact h.cl,h.pl,h.l,h.a,fun x hx=>(FP hx).elim (h.c x) fun e=>by rw[e];exact hc,h.p,h.k⟩
theorem Xt {p:D.Process}{f:List Int}(h:A2 m p=true)(hf:BE (A9 m p.Type_).Frame f=true):A2 m { p with Frame:=f }=true:=by
 unfold A2 at h ⊢
 simp only[AkO]at h ⊢
 exact⟨h.1,hf⟩
theorem Aeo {p:D.Process}{to:Int}(h:A2 m p=true)(ht:inP (A9 m p.Type_).Locs.length to=true):A2 m { p with Loc:=to }=true:=by
 unfold A2 at h ⊢
 simp only[AkO]at h ⊢
 exact⟨⟨⟨h.1.1.1,ht⟩,h.1.2⟩,h.2⟩
theorem Ai1 {l:List D.Process}{i:Nat}(h:i<l.length):l.getD i default∈l:=Aw h
theorem EI.put (h:EI m s){who k v:Int}(hi:0<=who->who<s.Procs.length):EI m (N9 m s who k v):=by
 unfold N9
 cases c:decide (who<0) with
 | true=>exact⟨Rf h.g _ _,h.cl,h.pl,h.l,h.a,h.c,h.p,h.k⟩
 | false =>
  have h0:0<=who:=by have:=Ak6 c;omega
  have hw:=hi h0
  refine h.setP (AlG ..) fun p hp=>?_
  rcases FP hp with hp | rfl
  ·exact h.p _ hp
  ·have hq:=h.p _ (Ai1 (i:=who.toNat) (by omega))
   exact Xt hq (Rf (EB hq).2.2.2.1 _ _)
theorem Ab4 {who k v:Int}{b:Int->Prop}(hb:0<=who->b who):Gb b s (N9 m s who k v):=by
 unfold N9
 cases c:decide (who<0) with
 | true=>exact⟨rfl,rfl,rfl,AkU _,fun _ _=>⟨rfl,rfl,fun _=>rfl⟩⟩
 | false =>
  have h0:0<=who:=by have:=Ak6 c;omega
  refine⟨rfl,rfl,rfl,by show s.Procs.length<=(s.Procs.set _ _).length;rw[AlG];exact AkU _,fun i hi=>?_⟩
  show((s.Procs.set who.toNat (AdT m (s.Procs.getD who.toNat default) k v)).getD i default).Type_=_/\((s.Procs.set who.toNat (AdT m (s.Procs.getD who.toNat default) k v)).getD i default).Loc=_/\(_->((s.Procs.set who.toNat (AdT m (s.Procs.getD who.toNat default) k v)).getD i default).Frame=_)
  rw[MD]
  split
  ·rename_i hk
   obtain⟨rfl,_⟩:=hk
   exact⟨rfl,rfl,fun hn=>absurd (by rw[Int.toNat_of_nonneg h0];exact hb h0) hn⟩
  ·exact⟨rfl,rfl,fun _=>rfl⟩
end
theorem AdH {e:D.Env}{ev:Evl}{x:D.Expr}(hs:x.V.Scope≠2)(h0:0<=x.V.Scope/\x.V.Scope<=2)(h:0<=(BG e ev x).1)(h2:(BG e ev x).2.2=0):(BG e ev x).1=e.Pid:=by
 unfold BG at h h2 ⊢
 cases c0:decide (x.Op≠2) with
 | true=>rw[c0,AkQ]at h2;simp at h2
 | false =>
 rw[c0,AkN]at h h2
 rw[AkN]
 cases c1:decide ((Dq e ev x.V).2≠0) with
 | true=>rw[c1,AkQ]at h2;exact absurd h2 (AkW c1)
 | false =>
 rw[c1,AkN]at h h2
 rw[AkN]
 cases c2:decide ((F3 ev x.V.Slot x.V.Dims).2≠0) with
 | true=>rw[c2,AkQ]at h2;exact absurd h2 (AkW c2)
 | false =>
 rw[c2,AkN]at h
 rw[AkN]
 show(Dq e ev x.V).1=e.Pid
 have h:0<=(Dq e ev x.V).1:=h
 unfold Dq at h c1 ⊢
 cases d1:decide (x.V.Scope=0) with
 | true =>
  rw[d1,AkQ]at h c1
  cases d2:decide ((e.S.Globals.length:Int)<Ew x.V) with
  | true=>rw[d2,AkQ]at c1;simp at c1
  | false=>rw[d2,AkN]at h;exact absurd h (by decide)
 | false =>
  rw[d1,AkN]at h c1
  rw[AkN]
  have hs1:x.V.Scope=1:=by have:=Ak6 d1;omega
  rw[Aly hs1,AkQ]at c1 ⊢
  cases d2:(decide (e.Pid<0)||decide (((DR e e.Pid).Frame.length:Int)<Ew x.V)) with
  | true=>rw[d2,AkQ]at c1;simp at c1
  | false=>rfl
theorem Rk {e:D.Env}{x v:Int}(hw:Av e.M)(hs:(Ax e.M x).V.Scope≠2)(h:(AX e x v).2=0):EI e.M e.S/\EI e.M (AX e x v).1/\Gb (fun i=>i=e.Pid) e.S (AX e x v).1:=by
 unfold AX at h ⊢
 cases c1:decide (CG e x≠0) with
 | true=>rw[c1,AkQ]at h;exact absurd h (AkW c1)
 | false =>
 rw[c1,AkN]at h
 rw[AkN]
 obtain⟨hE,h0,h1⟩:=IX (x:=x) hw (by simpa using c1)
 cases c2:decide ((BG e (Fp e) (Ax e.M x)).2.2≠0) with
 | true=>rw[c2,AkQ]at h;exact absurd h (AkW c2)
 | false =>
 rw[AkN]
 have hz:(BG e (Fp e) (Ax e.M x)).2.2=0:=by simpa using c2
 have hin:=Ks hE h0 h1 hz
 have hf:=Ec.1 hE.fits
 have hop:(Ax e.M x).Op=2:=by
  unfold BG at hz
  cases c0:decide ((Ax e.M x).Op≠2) with
  | true=>rw[c0,AkQ]at hz;simp at hz
  | false=>simpa using c0
 exact⟨hf,hf.put fun hp=>(hin.own hp).1,Ab4 fun hp=>AdH hs (Lh ((Afb hE h0 h1).var hop)).scope hp hz⟩
end Go.Proofs.YtmdcknlpalfhhaaGreatDoor
