/-
  Texts, joined: CsPutW, CsV, WhW2, PrB, PrW, PrX, Fm1, Fm2, WhPr, WhW3, SpI, SpJ, QsL, QsM, SpH, SpQ, SpV1, SpV2, VjCut, SpV3, SpV4, QsV5, QsP, QsV9, LawKit, QsLaid, QsWalk, QsRow.
-/
import Derived.Test.YtnhamlpcpngafaaGreatDoorQkE
import Derived.RegionTactic
import Derived.Shelf.Strings.BuilderK
import Derived.Lib.OthersKept
import Derived.Lib.BufferKept
import Derived.WalkKit
import Derived.Lib.Hide
import Derived.Lib.SliceRun
import Derived.Laws.IdiomStrings
import Derived.BigGuard
import Derived.Laws.Bits64b
import Derived.Lib.LaidTab
import Derived.KernelRfl
import Derived.Test.YtnhamlpcpngafaaGreatDoorRows
import Derived.ProofKit
import Derived.OpenShut
import Derived.Test.YtnhamlpcpngafaaGreatDoorCards
import Derived.Test.YtnhamlpcpngafaaGreatDoorTie
import Derived.Deep.DeepHandedRow
import Derived.Stop.LaidErr
namespace Go.Proofs.YtnhamlpcpngafaaGreatDoor.Ch
open Go.RowKit
set_option maxRecDepth 100000 in
set_option maxHeartbeats 2000000 in
theorem Agh {w:World}{fv qv mv:Value}{fs:List D.Type}{q:List (List Int)}{m:List Int}(room sh:Int)(sorted:Bool)(R:Is (Pkg.slice 2 16 IC) w [fv] fs)(hq:Is pQ w [qv] q)(hm:Is pM w [mv] m)
  (hsm:Small q) (S:(q.length+1)*24<=140737488355328) (hm8:m.length*8<=140737488355328) :
  Calls Tryz.prog 138 #[.agg #[.int .i64 room,fv],.agg #[.int .i64 sh,qv],mv,.bool sorted] w fun e w' =>
   (∃ ov vs,e=.returned (.tuple #[.agg #[.int .i64 (putSh room fs q m sh),ov],.int .i64 (putE room fs q m)])/\Ci w' w.heap.size ov vs (putQ room fs q m sorted))/\Below w.heap.size w w':=by
 obtain⟨mo,mc,rfl,hm1,hm2,hmw,L⟩:=Lx hm;obtain⟨fo,fc,rfl,hf1,hf2,C⟩:=Aj0 R;obtain⟨qo,qc,rfl,hqa,hqb,hqc⟩:=Hh hq;obtain⟨ki,khi,khz0,khz1,khz2⟩:=Cs Kz;have T:=hm2;have U:=hf2;have V:=hqb;unfold maxLen at T U V
 by_cases M:m.length=fs.length
 ·have hne:((m.length:Int) != (fs.length:Int))=false:=by simp[M]
  have HL:=Lib.hid M;have hle1:=Arh M;have hle2:=Arh M.symm;clear M
  go_enter Tryz.func138,Tryz.ntmps138
  go_wp2_with (at_make;refine wpList_make_full _ rfl (.tmp 24) (.tmp 24) 87 rfl w.heap.size 2 ki (.int .i64 0) 1 Tryz.underlying87 khi khz0 khz1 .i64 .i64 _ _ m.length rfl rfl ?hL ?hC ?b2 ?b3 ?b4 ?hK)
  case hL=>omega
  case hC=>omega
  case b2=>rw[khz2];omega
  case b3=>unfold maxLen;omega
  case b4=>simp;omega
  case hK =>
   intro P u d;have P0:PF w (P.alloc (.cells #[.slice (some ⟨w.heap.size+3,0,none⟩) m.length m.length] 87)) room sh (.slice fo fs.length fc) (.slice qo q.length qc) P.heap.size m.length (Ip fs m 0):=by
    have hs1:=d.size;simp at hs1;refine⟨?_,?_,?_,heap_alloc_new _ _,⟨?_,fun i hi=>?_⟩,Uh HL.out (ApD _),?_⟩
    ·rw[Below.heap_alloc _ _ _ (by omega),d.block _ (by simp;omega) (by simp)];rw[Below.heap_alloc _ _ _ (by simp;omega),Below.heap_alloc _ _ _ (by simp)];exact heap_alloc_new _ _
    ·rw[Below.heap_alloc _ _ _ (by omega),d.block _ (by simp) (by simp)];rw[Below.heap_alloc _ _ _ (by simp)];have:=heap_alloc_new (w.alloc (.cells #[.int .i64 room,.slice fo fs.length fc] 86)) (.cells #[.int .i64 sh,.slice qo q.length qc] 84);simpa using this
    ·rw[Below.heap_alloc _ _ _ (by omega),d.block _ (by simp) (by simp)];have:=heap_alloc_new ((w.alloc (.cells #[.int .i64 room,.slice fo fs.length fc] 86)).alloc (.cells #[.int .i64 sh,.slice qo q.length qc] 84)) (.cells #[.int .i64 0,.slice none 0 0] 84);simpa using this
    ·have hz:(Ip fs m 0).map (Value.int .i64)=(madeCells #[Value.int .i64 0] m.length).toList:=by rw[AdY];simp[Ip]
     rw[hz,Uh HL.out (ApD _)];exact u.alloc _
    ·have:(Ip fs m 0).getD i 0=0:=by simp[Ip,List.getD,List.getElem?_replicate];split<;>rfl
     rw[this];rfl
    ·exact(((((Below.refl _ w).alloc (ApC _) _).alloc (by simp) _).alloc (by simp;omega) _).grown d (by simp;omega) (by simp)).alloc (by omega) _
   clear u d;have c0:=Am P0.b0 (i:=1) rfl
   go_wp2
   go_loopw [29] (fun i wr=>∃ k:Nat,k<=m.length/\i=.int .i64 k/\(∀ j t,j<k->fs[j]?=some t->typeP t=true)/\PF w wr room sh (.slice fo fs.length fc) (.slice qo q.length qc) P.heap.size m.length (Ip fs m k)) (fun i _=>m.length - (intOf i).toNat)
   case atStart=>exact⟨0,ApD _,rfl,fun j t h=>by omega,P0⟩
   case round =>
    obtain⟨k,hk,rfl,v,hp⟩:=hrel
    by_cases E:k<m.length
    ·obtain⟨mb,moff,rfl,hmb,W⟩:=L (by omega);obtain⟨fb,foff,rfl,X,Y⟩:=C (by omega);have Q:fs[k]?=some fs[k]:=by simp[show k<fs.length by omega]
     obtain⟨hc0,hc1⟩:=Y k _ Q;have hm0:=W k E;have J:=Ag4 HL.out E _ Q;have hwf:=An8 fs[k].Bits (m.getD k 0) fs[k].Signed;rw[← hp.below.cell (p:=⟨fb,foff+k*2,none⟩) X]at hc0;rw[← hp.below.cell (p:=⟨fb,foff+k*2+1,none⟩) X]at hc1;have hsz:=hp.below.size;obtain⟨hlt2,hltX⟩:=hp.lt;have HT:=Lib.hid Q;have HSET:=Lib.hid J;clear W Y hm L C Q J hqc R hq;generalize fs[k]=t at *;generalize m.getD k 0=z at *;obtain⟨tb,ts⟩:=t;have hA:Below wr.heap.size wr (wr.alloc (.cells #[.int .i64 tb,.bool ts] 93)):=Fb _ _;have HG:=Yx ⟨tb,ts⟩ (wr.alloc (.cells #[.int .i64 tb,.bool ts] 93));unfold tyV at HG
     by_cases F:typeP ⟨tb,ts⟩=true
     ·rw[F]at HG;have HTY:Hid (∀ j t,j<k+1->fs[j]?=some t->typeP t=true):=by
       intro j t hj Z
       by_cases e:j=k
       ·subst e;rw[HT.out]at Z;cases Z;exact F
       ·exact v j t (by omega) Z
      clear v
      go_wp2_with fail
      refine HG.mono ?_;rintro e w2 ⟨rfl,n⟩;have g:=(hp.kept hA).kept n;have N:w2.heap[wr.heap.size]?=some (.cells #[.int .i64 tb,.bool ts] 93 (0,0)):=(n.block _ (by simp)).trans (heap_alloc_new _ _);have mc2:w2.cell? ⟨mb,moff+k,none⟩=some (.int .i64 z):=(g.below.cell (p:=⟨mb,moff+k,none⟩) hmb).trans hm0;have t0:w2.cell? ⟨wr.heap.size,0,none⟩=some (.int .i64 tb):=Am N rfl;have t1:w2.cell? ⟨wr.heap.size,1,none⟩=some (.bool ts):=Am N rfl;have x0:w2.cell? ⟨P.heap.size,0,none⟩=some (.slice (some ⟨w.heap.size+3,0,none⟩) m.length m.length):=Am g.b4 rfl;have hT3:=Cc N;have hX3:=Cc g.b4;have hm3':mb<w2.heap.size:=by have:=n.size;simp at this;omega
      go_wp2
      go_region_with (go_at_call 169;(with_reducible refine(Ala _ _ _ _).mono ?_);rintro e w3 ⟨rfl,s⟩;obtain⟨hc3,C⟩:=AkM s;have G:=g.kept (w2:=w3) ⟨s.os,s.tape,s.output,s.size,s.block⟩;have x3:=G.cell E;have f3:=G.free k;have x03:=Am G.b4 (i:=0) rfl;have HP:Hid (PF w (w3.setCell ⟨w.heap.size+3,k,none⟩ (.int .i64 (DL tb ts z))) room sh (.slice (some ⟨fb,foff,none⟩) fs.length fc) (.slice qo q.length qc) P.heap.size m.length (Ip fs m (k+1))):=(by have:=G.set hwf E;rw[HSET.out]at this;exact this))
      all_goals
       go_wp2
       go_roundw
       case rel=>exact⟨k+1,by omega,by go_num,HTY.out,HP.out⟩
       case measure=>simp[intOf];omega
     ·have HE:Hid (putE room fs q m=42):=by
       unfold Hid putE;rw[ApT (by simp[HL.out]),Aqc];simp only[List.all_eq_false];exact⟨_,List.mem_iff_getElem?.2 ⟨k,HT.out⟩,F⟩
      rw[Aqn.2 F]at HG;clear v
      go_wp2_with fail
      refine HG.mono ?_;rintro e w2 ⟨rfl,n⟩;have g:=(hp.kept hA).kept n;have r0:w2.cell? ⟨w.heap.size+2,0,none⟩=some (.int .i64 0):=Am g.b2 rfl;have r1:w2.cell? ⟨w.heap.size+2,1,none⟩=some (.slice none 0 0):=Am g.b2 rfl;have f0:w2.frozen? ⟨w.heap.size+2,0,none⟩=false:=AH g.b2;have f1:w2.frozen? ⟨w.heap.size+2,1,none⟩=false:=AH g.b2
      go_wp2
      have a:((w2.setCell ⟨w.heap.size+2,0,none⟩ (.int .i64 0)).setCell ⟨w.heap.size+2,1,none⟩ (.slice none 0 0)).heap[w.heap.size+2]?=some (.cells #[.int .i64 0,.slice none 0 0] 84 (0,0)):=by
       rw[Bp (Bp g.b2 _)];rfl
      refine Ej rfl rfl a Tryz.underlying84 rfl (by kernel_rfl) rfl ⟨⟨.slice none 0 0,[],?_,?_⟩,?_⟩
      ·rw[HE.out,OE HE.out (by decide)];rfl
      ·rw[RL HE.out (by decide)];exact Ci.nil _ _
      ·exact(g.below.setCell (p:=⟨w.heap.size+2,0,none⟩) (Aqu _ _) _).setCell (p:=⟨w.heap.size+2,1,none⟩) (Aqu _ _) _
    ·obtain rfl:k=m.length:=by omega
     rw[Ag5 HL.out]at hp;have b0:wr.cell? ⟨w.heap.size,0,none⟩=some (.int .i64 room):=Am hp.b0 rfl;have b1:wr.cell? ⟨w.heap.size+1,0,none⟩=some (.int .i64 sh):=Am hp.b1 rfl;have b2:wr.cell? ⟨w.heap.size+1,1,none⟩=some (.slice qo q.length qc):=Am hp.b1 rfl;have K:fs.all typeP=true:=by
      rw[Aqa];intro t Q;obtain⟨j,hj⟩:=List.mem_iff_getElem?.1 Q;exact v j t (by have:=(Apz.1 hj).1;omega) hj
     clear v L C
     by_cases y:room<=q.length
     ·have HE:Hid (putE room fs q m=45):=by
       unfold Hid putE;rw[ApT (by simp[HL.out]),ApT (by simp[K]),Aqc y]
      have r0:wr.cell? ⟨w.heap.size+2,0,none⟩=some (.int .i64 0):=Am hp.b2 rfl;have r1:wr.cell? ⟨w.heap.size+2,1,none⟩=some (.slice none 0 0):=Am hp.b2 rfl;have f0:wr.frozen? ⟨w.heap.size+2,0,none⟩=false:=AH hp.b2;have f1:wr.frozen? ⟨w.heap.size+2,1,none⟩=false:=AH hp.b2
      go_wp2
      have a:((wr.setCell ⟨w.heap.size+2,0,none⟩ (.int .i64 0)).setCell ⟨w.heap.size+2,1,none⟩ (.slice none 0 0)).heap[w.heap.size+2]?=some (.cells #[.int .i64 0,.slice none 0 0] 84 (0,0)):=by
       rw[Bp (Bp hp.b2 _)];rfl
      refine Ej rfl rfl a Tryz.underlying84 rfl (by kernel_rfl) rfl ⟨⟨.slice none 0 0,[],?_,?_⟩,?_⟩
      ·rw[HE.out,OE HE.out (by decide)];rfl
      ·rw[RL HE.out (by decide)];exact Ci.nil _ _
      ·exact(hp.below.setCell (p:=⟨w.heap.size+2,0,none⟩) (Aqu _ _) _).setCell (p:=⟨w.heap.size+2,1,none⟩) (Aqu _ _) _
     ·have HE:Hid (putE room fs q m=0):=by
       unfold Hid putE;rw[ApT (by simp[HL.out]),ApT (by simp[K]),ApT y]
      have HC:=N9 sh (hq.below AcO hp.below) hsm
      go_wp2_with fail
      refine HC.mono ?_;rintro e w2 ⟨ov,vs,rfl,o,n⟩;obtain⟨oo,oc,rfl,_⟩:=EK o.row;have H:=(hp.kept n).kept (Fb _ (.cells #[.int .i64 sh,.slice oo q.length oc] 84));have hOO:(w2.alloc (.cells #[.int .i64 sh,.slice oo q.length oc] 84)).heap[w2.heap.size]?=_:=heap_alloc_new _ _;have r:=(o.base hp.below.size).alloc (.cells #[.int .i64 sh,.slice oo q.length oc] 84);have xO:(w2.alloc (.cells #[.int .i64 sh,.slice oo q.length oc] 84)).cell? ⟨P.heap.size,0,none⟩=some (.slice (some ⟨w.heap.size+3,0,none⟩) m.length m.length):=Am H.b4 rfl;have HX:=Yr r.is xO H.x.is;have I:w.heap.size+2≠w2.heap.size:=by have h1:=n.size;have h2:=hp.lt;omega
      have hn2:w2.heap.size≠w.heap.size+2:=fun e=>I e.symm
      have O:w.heap.size<=w2.heap.size:=by have h1:=n.size;have h2:=hp.lt;omega
      have HSH:Hid (putSh room fs q m sh=sh):=by unfold Hid putSh;rw[HE.out,Aqc rfl]
      clear o HC hq P0 c0 b0 b1 b2;cases sorted with
      | false =>
       have HI:=Adf H r hOO q.length (w2.heap.size+1) (by simp) (ApC _) S;have HQ:Hid (putQ room fs q m false=putAt q q.length (fitM fs m)):=by unfold Hid putQ putX;rw[HE.out,Aqc rfl];rfl
       go_wp2_with fail
       refine HI.mono ?_;rintro e f ⟨ao,cap,vs',rfl,A,b,c,B⟩;have cO0:f.cell? ⟨w2.heap.size,0,none⟩=some (.int .i64 sh):=Am b rfl;have cO1:f.cell? ⟨w2.heap.size,1,none⟩=some (.slice oo q.length oc):=Am b rfl;have fO1:f.frozen? ⟨w2.heap.size,1,none⟩=false:=AH b;have r0:f.cell? ⟨w.heap.size+2,0,none⟩=some (.int .i64 0):=Am c rfl;have r1:f.cell? ⟨w.heap.size+2,1,none⟩=some (.slice none 0 0):=Am c rfl;have f0:f.frozen? ⟨w.heap.size+2,0,none⟩=false:=AH c;have f1:f.frozen? ⟨w.heap.size+2,1,none⟩=false:=AH c
       go_wp2
       have hO5:=Bp (i:=1) b (.slice ao (q.length+1) cap);have l:(f.setCell ⟨w2.heap.size,1,none⟩ (.slice ao (q.length+1) cap)).heap[w.heap.size+2]?=_:=(Below.heap_setCell _ _ _ _ I).trans c;have a:(((f.setCell ⟨w2.heap.size,1,none⟩ (.slice ao (q.length+1) cap)).setCell ⟨w.heap.size+2,0,none⟩ (.int .i64 sh)).setCell ⟨w.heap.size+2,1,none⟩ (.slice ao (q.length+1) cap)).heap[w.heap.size+2]?=some (.cells #[.int .i64 sh,.slice ao (q.length+1) cap] 84 (0,0)):=by
        rw[Bp (Bp l _)];rfl
       refine Ej rfl rfl a Tryz.underlying84 rfl (by kernel_rfl) rfl ⟨⟨.slice ao (q.length+1) cap,vs',?_,?_⟩,?_⟩
       ·rw[HE.out,HSH.out];rfl
       ·rw[HQ.out];exact((A.set b (by decide) (by decide) _).set l (by decide) (by decide) _).set (Bp l _) (by decide) (by decide) _
       ·exact((B.setCell (p:=⟨w2.heap.size,1,none⟩) O _).setCell (p:=⟨w.heap.size+2,0,none⟩) (Aqu _ _) _).setCell (p:=⟨w.heap.size+2,1,none⟩) (Aqu _ _) _
      | true =>
       have HQ:Hid (putQ room fs q m true=putAt q (ED (fitM fs m) q) (fitM fs m)):=by unfold Hid putQ putX;rw[HE.out,Aqc rfl];rfl
       go_wp2_with fail
       refine HX.mono ?_;rintro e w3 ⟨rfl,nq,rfl⟩;have hle:=Uj (fitM fs m) q;have HI:=Adf (wO:=(w2.alloc (.cells #[.int .i64 sh,.slice oo q.length oc] 84)).drewN nq) (H.kept (below_drewN (Below.refl _ _) nq)) (r.same fun _ _ _=>rfl) hOO (ED (fitM fs m) q) (w2.heap.size+1) (by simp) hle S
       by_cases hf:ED (fitM fs m) q<q.length
       ·have HIX:Hid (Jz (fitM fs m) q=(ED (fitM fs m) q:Nat)):=by unfold Hid Jz;rw[Aqc hf]
        rw[HIX.out];generalize ED (fitM fs m) q=at_ at *
        go_wp2_with fail
        refine HI.mono ?_;rintro e f ⟨ao,cap,vs',rfl,A,b,c,B⟩;have cO0:f.cell? ⟨w2.heap.size,0,none⟩=some (.int .i64 sh):=Am b rfl;have cO1:f.cell? ⟨w2.heap.size,1,none⟩=some (.slice oo q.length oc):=Am b rfl;have fO1:f.frozen? ⟨w2.heap.size,1,none⟩=false:=AH b;have r0:f.cell? ⟨w.heap.size+2,0,none⟩=some (.int .i64 0):=Am c rfl;have r1:f.cell? ⟨w.heap.size+2,1,none⟩=some (.slice none 0 0):=Am c rfl;have f0:f.frozen? ⟨w.heap.size+2,0,none⟩=false:=AH c;have f1:f.frozen? ⟨w.heap.size+2,1,none⟩=false:=AH c
        go_wp2
        have hO5:=Bp (i:=1) b (.slice ao (q.length+1) cap);have l:(f.setCell ⟨w2.heap.size,1,none⟩ (.slice ao (q.length+1) cap)).heap[w.heap.size+2]?=_:=(Below.heap_setCell _ _ _ _ I).trans c;have a:(((f.setCell ⟨w2.heap.size,1,none⟩ (.slice ao (q.length+1) cap)).setCell ⟨w.heap.size+2,0,none⟩ (.int .i64 sh)).setCell ⟨w.heap.size+2,1,none⟩ (.slice ao (q.length+1) cap)).heap[w.heap.size+2]?=some (.cells #[.int .i64 sh,.slice ao (q.length+1) cap] 84 (0,0)):=by
         rw[Bp (Bp l _)];rfl
        refine Ej rfl rfl a Tryz.underlying84 rfl (by kernel_rfl) rfl ⟨⟨.slice ao (q.length+1) cap,vs',?_,?_⟩,?_⟩
        ·rw[HE.out,HSH.out];rfl
        ·rw[HQ.out];exact((A.set b (by decide) (by decide) _).set l (by decide) (by decide) _).set (Bp l _) (by decide) (by decide) _
        ·exact((B.setCell (p:=⟨w2.heap.size,1,none⟩) O _).setCell (p:=⟨w.heap.size+2,0,none⟩) (Aqu _ _) _).setCell (p:=⟨w.heap.size+2,1,none⟩) (Aqu _ _) _
       ·have HIX:Hid (Jz (fitM fs m) q=-1):=by unfold Hid Jz;rw[ApT hf]
        rw[HIX.out];have Z:ED (fitM fs m) q=q.length:=by omega
        rw[Z]at HI HQ
        go_wp2_with fail
        refine HI.mono ?_;rintro e f ⟨ao,cap,vs',rfl,A,b,c,B⟩;have cO0:f.cell? ⟨w2.heap.size,0,none⟩=some (.int .i64 sh):=Am b rfl;have cO1:f.cell? ⟨w2.heap.size,1,none⟩=some (.slice oo q.length oc):=Am b rfl;have fO1:f.frozen? ⟨w2.heap.size,1,none⟩=false:=AH b;have r0:f.cell? ⟨w.heap.size+2,0,none⟩=some (.int .i64 0):=Am c rfl;have r1:f.cell? ⟨w.heap.size+2,1,none⟩=some (.slice none 0 0):=Am c rfl;have f0:f.frozen? ⟨w.heap.size+2,0,none⟩=false:=AH c;have f1:f.frozen? ⟨w.heap.size+2,1,none⟩=false:=AH c
        go_wp2
        have hO5:=Bp (i:=1) b (.slice ao (q.length+1) cap);have l:(f.setCell ⟨w2.heap.size,1,none⟩ (.slice ao (q.length+1) cap)).heap[w.heap.size+2]?=_:=(Below.heap_setCell _ _ _ _ I).trans c;have a:(((f.setCell ⟨w2.heap.size,1,none⟩ (.slice ao (q.length+1) cap)).setCell ⟨w.heap.size+2,0,none⟩ (.int .i64 sh)).setCell ⟨w.heap.size+2,1,none⟩ (.slice ao (q.length+1) cap)).heap[w.heap.size+2]?=some (.cells #[.int .i64 sh,.slice ao (q.length+1) cap] 84 (0,0)):=by
         rw[Bp (Bp l _)];rfl
        refine Ej rfl rfl a Tryz.underlying84 rfl (by kernel_rfl) rfl ⟨⟨.slice ao (q.length+1) cap,vs',?_,?_⟩,?_⟩
        ·rw[HE.out,HSH.out];rfl
        ·rw[HQ.out];exact((A.set b (by decide) (by decide) _).set l (by decide) (by decide) _).set (Bp l _) (by decide) (by decide) _
        ·exact((B.setCell (p:=⟨w2.heap.size,1,none⟩) O _).setCell (p:=⟨w.heap.size+2,0,none⟩) (Aqu _ _) _).setCell (p:=⟨w.heap.size+2,1,none⟩) (Aqu _ _) _
 ·have HE:Hid (putE room fs q m=42):=by
   unfold Hid putE;rw[Aqc M]
  have hne:((m.length:Int) != (fs.length:Int))=true:=by simp;omega
  clear M
  go_enter Tryz.func138,Tryz.ntmps138
  go_wp2
  have a:(((w.alloc (.cells #[.int .i64 room,.slice fo fs.length fc] 86)).alloc (.cells #[.int .i64 sh,.slice qo q.length qc] 84)).alloc (.cells #[.int .i64 0,.slice none 0 0] 84)).heap[w.heap.size+2]?=some (.cells #[.int .i64 0,.slice none 0 0] 84 (0,0)):=by
   have:=heap_alloc_new ((w.alloc (.cells #[.int .i64 room,.slice fo fs.length fc] 86)).alloc (.cells #[.int .i64 sh,.slice qo q.length qc] 84)) (.cells #[.int .i64 0,.slice none 0 0] 84);simpa using this
  refine Ej rfl rfl a Tryz.underlying84 rfl (by kernel_rfl) rfl ⟨⟨.slice none 0 0,[],?_,?_⟩,?_⟩
  ·rw[HE.out,OE HE.out (by decide)];rfl
  ·rw[RL HE.out (by decide)];exact Ci.nil _ _
  ·exact(((Below.refl _ w).alloc (ApC _) _).alloc (by simp) _).alloc (by simp;omega) _
end Go.Proofs.YtnhamlpcpngafaaGreatDoor.Ch
namespace Go.Proofs.YtnhamlpcpngafaaGreatDoor.Ch
open Go.RowKit
def WfM (m:List Int):Prop:=∀ x∈m,(Lit.int .i64 x).wf=true
def WfQ (q:List (List Int)):Prop:=∀ m∈q,WfM m
def WfTs (l:List D.Type):Prop:=∀ t∈l,(Lit.int .i64 t.Bits).wf=true
section
variable {w : World} {E:AN} {m:Option Phi} {v:Value}
theorem VM {α:Type}{l:List α}{i:Nat}{x d:α}(h:l[i]?=some x):l.getD i d=x:=by simp[List.getD,h]
theorem AdB {fz:Bool}{x:List Int}(h:V w E m (Ad fz x) v)(d:WfM x):Is pM w [v] x:=by
 obtain⟨a,cap,rfl,h1,h2,h3⟩:=V.sl_inv h;refine⟨a,cap,rfl,h1,h2,fun hp=>?_⟩;obtain⟨b,off,rfl,e,_,_,u,f,hv⟩:=h3 hp;refine⟨b,off,rfl,e,fun i y c=>⟨[.int .i64 y],rfl,fun k g=>?_,rfl,d y (Aql c)⟩⟩;obtain rfl:k=0:=by omega
 have hi:i<x.length:=(Apz.1 c).1;have h1:=f i 0 _ hi rfl;have h2:=(hv i 0 _ hi rfl).sc_inv;rw[VM c]at h2;rw[h1,h2];rfl
theorem VE {q:List (List Int)}(h:V w E m (B3 true q) v)(d:WfQ q):Is pQ w [v] q:=by
 obtain⟨a,cap,rfl,h1,h2,h3⟩:=V.sl_inv h;refine⟨a,cap,rfl,h1,h2,fun hp=>?_⟩;obtain⟨b,off,rfl,e,_,_,u,f,hv⟩:=h3 hp;refine⟨b,off,rfl,e,fun i y c=>⟨[u i 0],rfl,fun k g=>?_,?_⟩⟩
 ·obtain rfl:k=0:=by omega
  have hi:i<q.length:=(Apz.1 c).1;rw[f i 0 _ hi rfl];rfl
 ·have hi:i<q.length:=(Apz.1 c).1;have:=hv i 0 _ hi rfl;rw[VM c]at this;exact AdB this (d y (Aql c))
theorem Aj1 {l:List D.Type}(h:V w E m (AC true l) v)(g:WfTs l):Is (Pkg.slice 2 16 IC) w [v] l:=by
 obtain⟨a,cap,rfl,h1,h2,h3⟩:=V.sl_inv h;refine⟨a,cap,rfl,h1,h2,fun hp=>?_⟩;obtain⟨b,off,rfl,j,_,_,u,d,hv⟩:=h3 hp;refine⟨b,off,rfl,j,fun i y c=>⟨[.int .i64 y.Bits,.bool y.Signed],rfl,fun k n=>?_,?_⟩⟩
 ·have hi:i<l.length:=(Apz.1 c).1;have e:=(hv i 0 _ hi rfl).sc_inv;have f:=(hv i 1 _ hi rfl).sc_inv;rw[VM c]at e f
  match k,n with
  | 0,_=>rw[d i 0 _ hi rfl,e];rfl
  | 1,_=>rw[d i 1 _ hi rfl,f];rfl
 ·exact⟨[.int .i64 y.Bits],[.bool y.Signed],rfl,rfl,⟨rfl,g y (Aql c)⟩,[.bool y.Signed],[],rfl,rfl,rfl,rfl⟩
theorem Ah8 {n0:Nat}{x:List Int}(h:GD w n0 v x)(c:∀ k,E.fz k->k<n0):V w E m (Ad true x) v:=by
 obtain⟨ao,cap,rfl,h1,h2,h3⟩:=EK h.row;refine Arg h1 h2 fun hp=>?_
 obtain⟨g,rfl,hg,b,d⟩:=h3 hp;refine⟨g,0,rfl,b,fun e=>by have:=c g e;omega,fun i _=>rfl,fun i _=>.int .i64 (x.getD i 0),fun i j y hi a=>?_,fun i j y hi a=>?_⟩
 ·match j,a with
  | 0,_ =>
   have:=d i hi;simp only[Ap5,Nat.mul_one,AqJ];rw[this];simp[List.getD,hi]
  | j+1,a=>simp at a
 ·match j,a with
  | 0,a=>simp only[ApG,Apx]at a;subst a;exact .sc
  | j+1,a=>simp at a
theorem Ah7 {n0:Nat}{vs:List Value}{q:List (List Int)}(h:Ci w n0 v vs q)(c:∀ k,E.fz k->k<n0):V w E m (B3 true q) v:=by
 obtain⟨ao,cap,rfl,h1,h2,h3⟩:=EK h.row;refine Arg h1 h2 fun hp=>?_
 obtain⟨g,rfl,hg,b,d⟩:=h3 hp;refine⟨g,0,rfl,b,fun e=>by have:=c g e;omega,fun i _=>rfl,fun i _=>vs.getD i undef,fun i j y hi a=>?_,fun i j y hi a=>?_⟩
 ·match j,a with
  | 0,_ =>
   have:=d i hi;simp only[Ap5,Nat.mul_one,AqJ];rw[this];simp[List.getD,h.len,hi]
  | j+1,a=>simp at a
 ·match j,a with
  | 0,a =>
   simp only[ApG,Apx]at a;subst a;have hv:vs[i]?=some (vs.getD i undef):=by simp[List.getD,h.len,hi]
   have f:q[i]?=some (q.getD i []):=by simp[List.getD,hi]
   exact Ah8 (h.each i _ _ hv f) c
  | j+1,a=>simp at a
end
theorem put_spec (room sh:Int)(sorted:Bool){fs:List D.Type}{q:List (List Int)}{m:List Int}(h1:WfTs fs)(h2:WfQ q)(h3:WfM m)(a:Small q)(b:(q.length+1)*24<=140737488355328)(c:m.length*8<=140737488355328) :
  Aj Tryz.prog 138 [] [.agg [Aa room,AC true fs],.agg [Aa sh,B3 true q],Ad true m,.sc (.bool sorted)] [] (.tup [.agg [Aa (putSh room fs q m sh),B3 true (putQ room fs q m sorted)],.sc (.int .i64 (putE room fs q m))]):=by
 refine Aj.hand ⟨_,Tryz.func138,rfl,by kernel_rfl⟩ fun w E vs d _ _ _ hs=>?_
 obtain⟨p,us1,rfl,f,hs⟩:=hs.cons_inv;obtain⟨t,us2,rfl,g,hs⟩:=hs.cons_inv;obtain⟨u,us3,rfl,h,hs⟩:=hs.cons_inv;obtain⟨x,us4,rfl,i,hs⟩:=hs.cons_inv;obtain rfl:=hs.nil_inv;obtain⟨r,fv,rfl,j,k⟩:=V.agg2_inv f;obtain⟨s,qv,rfl,hs',l⟩:=V.agg2_inv g;rw[j.sc_inv,hs'.sc_inv,i.sc_inv];refine(Agh room sh sorted (Aj1 k h1) (VE l h2) (AdB h h3) a b c).mono ?_;rintro e w' ⟨⟨ov,vs,rfl,n⟩,o⟩;exact⟨_,rfl,UN (ZP .sc (Ah7 n d)) .sc,o⟩
theorem take_spec (sh:Int)(n:Nat){q:List (List Int)}(h2:WfQ q)(a:Small q)(c:n<q.length) :
  Aj Tryz.prog 140 [] [.agg [Aa sh,B3 true q],.sc (.int .i64 n)] [] (.tup [.agg [Aa sh,B3 true (cutAt q n)],Ad true (q.getD n []),.sc (.int .i64 0)]):=by
 refine Aj.hand ⟨_,Tryz.func140,rfl,by kernel_rfl⟩ fun w E vs b _ _ _ hs=>?_
 obtain⟨k,us1,rfl,d,hs⟩:=hs.cons_inv;obtain⟨l,us2,rfl,f,hs⟩:=hs.cons_inv;obtain rfl:=hs.nil_inv;obtain⟨s,qv,rfl,hs',g⟩:=V.agg2_inv d;rw[hs'.sc_inv,f.sc_inv];refine(ZX sh n (VE g h2) a c).mono ?_;rintro e w' ⟨ov,vs,mv,rfl,h,i,j⟩;exact⟨_,rfl,Ah6 (ZP .sc (Ah7 h b)) (Ah8 i b) .sc,j⟩
theorem take_none_spec (sh n:Int){q:List (List Int)}(h2:WfQ q)(a:n<0∨(q.length:Int)<=n) :
  Aj Tryz.prog 140 [] [.agg [Aa sh,B3 true q],.sc (.int .i64 n)] [] (.tup [.agg [Aa 0,B3 true []],Ad true [],.sc (.int .i64 46)]):=by
 refine Aj.hand ⟨_,Tryz.func140,rfl,by kernel_rfl⟩ fun w E vs g _ _ _ hs=>?_
 obtain⟨h,us1,rfl,b,hs⟩:=hs.cons_inv;obtain⟨i,us2,rfl,c,hs⟩:=hs.cons_inv;obtain rfl:=hs.nil_inv;obtain⟨s,qv,rfl,hs',d⟩:=V.agg2_inv b;rw[hs'.sc_inv,c.sc_inv];refine(AeK sh n (VE d h2) a).mono ?_;rintro e w' ⟨rfl,f⟩;exact⟨_,rfl,Ah6 (ZP .sc (.nil (ApD _))) (.nil (ApD _)) .sc,f⟩
end Go.Proofs.YtnhamlpcpngafaaGreatDoor.Ch
namespace Go.Proofs.YtnhamlpcpngafaaGreatDoor
open Go.RowKit
theorem AhV {v:Int}(h:B33 v):(Lit.int .i64 v).wf=true:=by
 unfold B33 at h;simp only[Lit.wf,Apv,ApB];show -9223372036854775808<=v/\v<=9223372036854775807;omega
theorem WH {t:List D.Type}{l:List Int}(h:Bw t l=true):Ch.WfM l:=fun x a=>by
 obtain⟨i,hi,rfl⟩:=Aqr a;have:=Q0 h hi;rw[show l.getD i 0=l[i] by simp[List.getD,hi]]at this;exact AhV this
structure Aom (m:D.Model) (k:D.Chan):Prop where
 sh:0<=k.Shape/\k.Shape<m.Shapes.length
 wq:Ch.WfQ k.Queue
 small:Ch.Small k.Queue
 wt:Ch.WfTs (BV m k.Shape).Fields
 q:k.Queue.length<=16
 f:(BV m k.Shape).Fields.length<=8
 ty:∀ x∈k.Queue,x.length=(BV m k.Shape).Fields.length
theorem AmX {m:D.Model}{k:D.Chan}(c:G3 m=true)(h:Dg m k=true):Aom m k:=by
 obtain⟨⟨g,i⟩,l,j⟩:=Fa h;have a:=(Ou (Dp c).1).shape k.Shape.toNat (by omega);have a:Di (BV m k.Shape)=true:=a;unfold Di at a;simp only[Apv,ApB]at a;have n:=(Ky c).room k.Shape g i;have b:∀ x∈k.Queue,x.length=(BV m k.Shape).Fields.length:=fun x b=>Fg (j x b)
 refine⟨⟨g,i⟩,fun x b=>WH (j x b),⟨by omega,fun x h=>by have:=b x h;omega⟩,fun t h=>?_,by omega,a.1.2,b⟩;have:=(CF (d:=default) (f:=fun t=>Ft t)).1 a.2 t h;unfold Ft at this;simp only[Apv,ApB]at this;exact AhV (by unfold B33;omega)
theorem AeJ {m:D.Model}{k:D.Chan}{n:Int}(h:Aom m k):Aj Tryz.prog 140 [] [.agg (AM k),Aa n] [] (.tup [.agg (AM (EO k n).1),Ad true (EO k n).2.1,Aa (EO k n).2.2]):=by
 unfold EO;cases c:(decide (n<0)||decide ((k.Queue.length:Int)<=n)) with
 | true=>exact Ch.take_none_spec k.Shape n h.wq (by simpa using c)
 | false =>
  simp only[ApN,ApW]at c;have e:n=((n.toNat:Nat):Int):=by omega
  have:=Ch.take_spec k.Shape n.toNat h.wq h.small (show n.toNat<k.Queue.length by omega);rw[← e]at this;exact this
theorem Aju {m:D.Model}{k:D.Chan}{l:List Int}(b:Bool)(h:Aom m k)(a:Ch.WfM l)(c:l.length<=1048576) :
  Aj Tryz.prog 138 [] [.agg (D0 (BV m k.Shape)),.agg (AM k),Ad true l,Ac b] [] (.tup [.agg (AM (SX m k l b).1),Aa (SX m k l b).2]) :=
 Ch.put_spec (BV m k.Shape).Room k.Shape b h.wt h.wq a h.small (by have:=h.q;omega) (by omega)
section
variable {e : D.Env}
theorem AlM {α:Type}{f:α->List VV}{d x:α}{G:Nat->List VV}(a:G 0=f x):∀ j,j<[x].length->G j=f ([x].getD j d):=by
 intro j b;obtain rfl:j=0:=by simpa using b
 exact a
theorem B5 {e:D.Env}:leO (hsE e) (hsE e):=⟨Ob.le_refl _,Ob.le_refl _,Ob.le_refl _,trivial⟩
theorem AlW {p:D.Process}:leO [.box (FH e (.ow 1 0 e.S.Chans.length) (.ow 2 0 (e.S.Procs.length+1))),obC e.S,.arr true 0 (e.S.Procs.length+1) 4 (fun i=>bif i.blt e.S.Procs.length then AF (e.S.Procs.getD i default) else(fun i=>List.take 4 (List.drop (i*4) (AF p))) (i - e.S.Procs.length))] (hsE (PR e p)):=by
 have a:(PR e p).S.Procs.length=e.S.Procs.length+1:=by simp[PR]
 unfold hsE obP;rw[a];exact⟨Ob.le_refl _,Ob.le_refl _,Ap6 fun i hi=>AV (BR (f:=AF) (d:=default) (l:=e.S.Procs) (r:=[p]) (F:=fun i=>AF (e.S.Procs.getD i default)) (G:=fun i=>List.take 4 (List.drop (i*4) (AF p))) (fun _ _=>rfl) (AlM rfl) (by simpa using hi)),trivial⟩
theorem Pp {x:Int}(c:AG e.M)(hs:Bq e.S)(d:0<=x/\x<e.M.Exprs.length):Aj Tryz.prog 90 (hsE e) [.bp 0 0,Aa x] (hsE (Cj e x).1) (.tup [Aa (Cj e x).2.1,Aa (Cj e x).2.2]):=by
 have f:=hs.p;unfold Len at f;have g:(Ao e.M x).Args.length<=1048576:=(c.Exprs.2 _ (VR d)).Args.1;have b:Cj e x=bif decide ((BQ e (Ao e.M x).Args).2≠0) then(e,0,(BQ e (Ao e.M x).Args).2)
   else bif decide ((Hp e.M (Ao e.M x).N (BQ e (Ao e.M x).Args).1).2≠0) then(e,0,(Hp e.M (Ao e.M x).N (BQ e (Ao e.M x).Args).1).2)
   else(PR e (Hp e.M (Ao e.M x).N (BQ e (Ao e.M x).Args).1).1,(e.S.Procs.length:Int),0):=rfl
 generalize Cj e x=r at b;refine Aq Tryz.func90 (ZF (hsE r.1) r.2.1 r.2.2 e x rfl) ⟨d,BQ e (Ao e.M x).Args,Om (fun a _=>Sk c hs a) g,fun h1=>?_,fun h1=>⟨Hp e.M (Ao e.M x).N (BQ e (Ao e.M x).Args).1,Afr c ?_,fun h2=>?_,fun h2=>⟨by omega,?_⟩⟩⟩
 ·rw[AT]at h1;rw[h1,Apy]at b;subst b;exact⟨B5,VV.le_refl _⟩
 ·have:=Oj (show(BQ e (Ao e.M x).Args).2=0 by simpa using h1);omega
 ·rw[AT]at h1 h2;rw[h1,Apw,h2,Apy]at b;subst b;exact⟨B5,VV.le_refl _⟩
 ·rw[AT]at h1 h2;rw[h1,Apw,h2,Apw]at b;subst b;rw[AK (by omega) (by omega)];exact⟨AlW,AqV (by simp)⟩
theorem Y6 {x:Int}(hs:Bq e.S)(f:e.S.Procs.length<=16)(d:G3 e.M=true):(Cj e x).1.M=e.M/\Bq (Cj e x).1.S:=by
 rcases KH (e:=e) (x:=x) with⟨h1,_⟩ | ⟨p,h1,_,h3⟩
 ·rw[h1];exact⟨rfl,hs⟩
 ·rw[h1];refine⟨rfl,hs.g,hs.c,?_,hs.cs,fun q a=>?_⟩
  ·show Len (e.S.Procs++[p]).length;unfold Len;simp;omega
  ·rcases Ap1.1 a with a | a
   ·exact hs.ps _ a
   ·obtain rfl:=Ap4.1 a;obtain⟨⟨h,i⟩,_,j,_⟩:=Eb h3;obtain⟨b,_⟩:=Gb (Dp d).2.1 q.Type_.toNat (by omega);have b:Em (A3 e.M q.Type_)=true:=b;unfold Em at b;simp only[Apv,ApB]at b;have:=b.1.1.1.1.1.1.1.1;unfold Len;omega
theorem Kj (a:AG e.M)(hs:Bq e.S)(x v:Int):Aj Tryz.prog 95 (hsE e) [.bp 0 0,Aa x,Aa v] (hsE (C3 e x v).1) (Aa (C3 e x v).2):=Pk a hs x v
theorem Zk {s:D.Stmt}(h:BF e)(hs:EM e.M s)(c:s.Kind=2):Aj Tryz.prog 91 (hsE e) [.bp 0 0,.agg (Au s)] (hsE (JS e s).1) (Aa (JS e s).2):=by
 have a:=h.fit.small;have hB:=hs.k2 c;obtain⟨b1,b2⟩:=Y6 (x:=s.B) a h.fit.p h.may;have b:JS e s=bif Dz e s.B then(bif decide ((Cj e s.B).2.2≠0) then((Cj e s.B).1,(Cj e s.B).2.2) else C3 (Cj e s.B).1 s.A (Cj e s.B).2.1)
   else bif decide ((Be e s.B).2≠0) then(e,(Be e s.B).2) else C3 e s.A (Be e s.B).1:=rfl
 generalize JS e s=r at b;refine Aq Tryz.func91 (Ad1 (hsE r.1) r.2 e s) ⟨Dz e s.B,Jc fun _=>hB.2,fun h0=>⟨Cj e s.B,Pp h.wf a hB,fun h1=>?_,fun h1=>⟨C3 (Cj e s.B).1 s.A (Cj e s.B).2.1,Kj (by rw[b1];exact h.wf) b2 _ _,?_⟩⟩,
  fun h0=>⟨Be e s.B,Sk h.wf a s.B,fun h1=>?_,fun h1=>⟨C3 e s.A (Be e s.B).1,Kj h.wf a _ _,?_⟩⟩⟩
 ·rw[AT]at h1;rw[h0,Apy,h1,Apy]at b;subst b;exact⟨B5,VV.le_refl _⟩
 ·rw[AT]at h1;rw[h0,Apy,h1,Apw]at b;subst b;exact⟨B5,VV.le_refl _⟩
 ·rw[AT]at h1;rw[h0,Apw,h1,Apy]at b;subst b;exact⟨B5,VV.le_refl _⟩
 ·rw[AT]at h1;rw[h0,Apw,h1,Apw]at b;subst b;exact⟨B5,VV.le_refl _⟩
theorem T7 {c:Int}{k:D.Chan}:leO [.box (FH e (.ow 1 0 e.S.Chans.length) (.ow 2 0 e.S.Procs.length)),.arr true 0 e.S.Chans.length 2 (fun j=>bif Nat.beq j (c - 1).toNat then AM k else AM (e.S.Chans.getD j default)),obP e.S] (hsE (JU e c k)):=by
 have a:(JU e c k).S.Chans.length=e.S.Chans.length:=by simp[JU]
 unfold hsE obC;rw[a];refine⟨Ob.le_refl _,Ap6 fun j f=>AV ?_,Ob.le_refl _,trivial⟩;show _=AM ((e.S.Chans.set (c - 1).toNat k).getD j default);rw[Sa]
 by_cases h:(c - 1).toNat=j
 ·rw[← h,AqX,Apy,Aqc ⟨rfl,by omega⟩]
 ·rw[ApT (fun b=>h b.1)];have:Nat.beq j (c - 1).toNat=false:=by
   cases d:Nat.beq j (c - 1).toNat with
   | true=>exact absurd (ApA d).symm h
   | false=>rfl
  rw[this,Apw]
theorem Xf {c:Int}{k:D.Chan}(h:BF e)(a:Dg e.M k=true):Bq (JU e c k).S:=(VP h.may (Dx.2 ((Dx.1 h.fits).setC a))).small
theorem We {s:D.Stmt}(h:BF e)(hs:EM e.M s)(o:s.Kind=6):Aj Tryz.prog 97 (hsE e) [.bp 0 0,.agg (Au s)] (hsE (GI e s).1) (Aa (GI e s).2):=by
 have i:=h.fit.small;have h6:=hs.k6 o;have a:GI e s=bif decide ((Bj e s).2.2≠0) then(e,(Bj e s).2.2)
   else bif decide ((EO (B6 e (Bj e s).1) (Bj e s).2.1).2.2≠0) then(e,(EO (B6 e (Bj e s).1) (Bj e s).2.1).2.2)
   else DZ (bif decide (s.N<2) then JU e (Bj e s).1 (EO (B6 e (Bj e s).1) (Bj e s).2.1).1 else e) s (EO (B6 e (Bj e s).1) (Bj e s).2.1).2.1:=rfl
 generalize GI e s=r at a;refine Aq Tryz.func97 (Zn (hsE r.1) r.2 e s) ⟨Bj e s,Ak1 h.wf i hs.args h6,fun h1=>?_,fun h1=>?_⟩
 ·rw[AT]at h1;rw[h1,Apy]at a;subst a;exact⟨B5,VV.le_refl _⟩
 have p:(Bj e s).2.2=0:=by simpa using h1
 obtain⟨b,j⟩:=YA h.wf p;rw[AT]at h1;rw[h1,Apw]at a;generalize (Bj e s).1=c at b j a ⊢;generalize (Bj e s).2.1=n at a ⊢;have h2:=b.lo;have h3:=b.hi;have h4:=b.le;have k:=QC (Dx.1 h.fits) b;have l:=AmX h.may k;rw[AK (by omega) (by omega)];refine⟨by omega,EO (B6 e c) n,AeJ l,fun h5=>?_,fun h5=>?_⟩
 ·rw[AT]at h5;rw[h5,Apy]at a;subst a;exact⟨B5,VV.le_refl _⟩
 have f:(EO (B6 e c) n).2.2=0:=by simpa using h5
 have g:s.Args.length<=(EO (B6 e c) n).2.1.length:=by
  unfold EO at f ⊢;cases q:(decide (n<0)||decide (((B6 e c).Queue.length:Int)<=n)) with
  | true=>rw[q]at f;exact absurd (show(46:Int)=0 from f) (by decide)
  | false =>
   simp only[ApN,ApW]at q;have:=l.ty _ (Av (d:=[]) (show n.toNat<(B6 e c).Queue.length by omega));rw[Apw,← j];exact Arh this.symm
 have m:=AcM k f;rw[AT]at h5;rw[h5,Apw]at a;generalize EO (B6 e c) n=t at g m a ⊢;refine⟨fun h7=>?_,fun h7=>?_⟩
 ·rw[h7,Apy]at a;refine⟨by omega,DZ (JU e c t.1) s t.2.1,?_,?_⟩
  ·exact(J7 (e:=JU e c t.1) h.wf (Xf h m) hs.args (by omega) g).le T7 ⟨VV.le_refl _,VV.le_refl _,VV.le_refl _,trivial⟩ B5 (VV.le_refl _)
  ·rw[a];exact⟨B5,VV.le_refl _⟩
 ·rw[h7,Apw]at a;refine⟨DZ e s t.2.1,J7 h.wf i hs.args (by omega) g,?_⟩;rw[a];exact⟨B5,VV.le_refl _⟩
theorem OM {l:D.Loc}{esc:Int}(_:-1<=esc)(h2:esc<l.Esc.length):Cz l esc∈BN l:=by
 unfold Cz;cases c:decide (esc<0) with
 | true=>exact ApF
 | false =>
  have:0<=esc:=by have:=ApY c;omega
  exact ApM _ (Av (by omega))
theorem Zr (h:CA e):Aj Tryz.prog 51 [] [.agg (BJ e)] [] (.agg (A8 (Cy e))) :=
 Aq Tryz.func51 (Aee _ e rfl) ⟨⟨h.p0,h.ok.pid.2⟩,h.facts.1,h.facts.2,trivial,VV.le_refl _⟩
theorem ZJ {l:D.Loc}{esc i:Int}(_:-1<=esc)(h2:esc<l.Esc.length)(h3:0<=i)(h4:i<(Cz l esc).length):Aj Tryz.prog 50 [] [.agg (A8 l),Aa esc,Aa i] [] (.agg (Dr ((Cz l esc).getD i.toNat default))):=by
 refine AdZ (l:=l) (esc:=esc) (i:=i) (fun b=>⟨h3,by
   have a:Cz l esc=l.Out:=by unfold Cz;rw[Aqb b]<;>rfl
   rw[a]at h4;exact h4⟩) (fun b=>⟨h2,h3,by
   have a:Cz l esc=l.Esc.getD esc.toNat []:=by unfold Cz;rw[Ap9 (by omega)]<;>rfl
   rw[a]at h4;exact h4⟩)
structure Uy (e:D.Env) (s:D.Stmt) (w:Wy):Prop where
 hB:CA (BA e w.With)
 b1:-1<=w.WithEsc
 b2:w.WithEsc<(Cy (BA e w.With)).Esc.length
 b3:0<=w.WithWay
 b4:w.WithWay<(Cz (Cy (BA e w.With)) w.WithEsc).length
 kB:(Iw e w).S.Kind=6
 len:s.Args.length=(Iw e w).S.Args.length
theorem Uy.st {s:D.Stmt}{w:Wy}(m:Uy e s w):EM e.M (Iw e w).S:=(m.hB.ws (OM m.b1 m.b2)).st _ (Av (by have:=m.b3;have:=m.b4;omega))
theorem Zl {s:D.Stmt}{w:Wy}(h:BF e)(hs:EM e.M s)(j:0<=w.With->Uy e s w):Aj Tryz.prog 96 (hsE e) [.bp 0 0,.agg (Au s),.agg (AY w)] (hsE (JV e s w).1) (Aa (JV e s w).2):=by
 have f:=h.fit.small;have b:JV e s w=bif decide ((AD e s).2.2≠0) then(e,(AD e s).2.2)
   else bif decide (0<=w.With) then({ e with S:=(DZ (BA e w.With) (Iw e w).S (AD e s).2.1).1.S },(DZ (BA e w.With) (Iw e w).S (AD e s).2.1).2) else AiS e s:=rfl
 generalize JV e s w=R at b ⊢;refine Aq Tryz.func96 (Ad2 (hsE R.1) R.2 e s w rfl) ⟨AD e s,QJ h.wf f hs.args,fun h1=>?_,fun h1=>⟨fun h2=>?_,fun h2=>?_⟩⟩
 ·rw[AT]at h1;rw[h1,Apy]at b;subst b;exact⟨B5,VV.le_refl _⟩
 ·rw[AT]at h1;rw[h1,Apw,show decide (0<=w.With)=true from h2,Apy]at b;have m:=j (ApK h2);have k:=Kx (e:=e) (s:=s) (by simpa using h1);have n:=m.st.k6 m.kB;have o:=m.len;refine⟨Cy (BA e w.With),Zr m.hB,Iw e w,ZJ m.b1 m.b2 m.b3 m.b4,DZ (BA e w.With) (Iw e w).S (AD e s).2.1,J7 (e:=BA e w.With) h.wf f m.st.args (by omega) (by omega),?_⟩;subst b;exact⟨⟨Ob.le_refl _,Ob.le_refl _,Ob.le_refl _,trivial⟩,VV.le_refl _⟩
 ·have i:(AD e s).2.2=0:=by simpa using h1
  rw[AT]at h1;rw[h1,Apw,show decide (0<=w.With)=false from h2,Apw]at b;obtain⟨a,d⟩:=RX h.wf i;have hB:AiS e s=(JU e (AD e s).1 (SX e.M (B6 e (AD e s).1) (AD e s).2.1 (s.N==1)).1,(SX e.M (B6 e (AD e s).1) (AD e s).2.1 (s.N==1)).2):=by rw[ieq]<;>rfl
  rw[hB]at b;have p:=Kx i;have q:=hs.args;generalize (AD e s).1=c at a d b ⊢;generalize (AD e s).2.1=l at d p b ⊢;have r:=a.lo;have t:=a.hi;have u:=a.le;have g:=AmX h.may (QC (Dx.1 h.fits) a);rw[AK (by omega) (by omega)];refine⟨by omega,g.sh,SX e.M (B6 e c) l (s.N==1),Aju (s.N==1) g (WH d) (by omega),by omega,?_⟩;rw[b];exact⟨T7,VV.le_refl _⟩
theorem AgM {n:Int}:leO [.box (FH e (.ow 1 0 (e.S.Chans.length+1)) (.ow 2 0 e.S.Procs.length)),.arr true 0 (e.S.Chans.length+1) 2 (fun i=>bif i.blt e.S.Chans.length then AM (e.S.Chans.getD i default) else(fun i=>List.take 2 (List.drop (i*2) [Aa n,.nl])) (i - e.S.Chans.length)),obP e.S] (hsE (Ib e n)):=by
 have a:(Ib e n).S.Chans.length=e.S.Chans.length+1:=by simp[Ib]
 unfold hsE obC;rw[a];refine⟨Ob.le_refl _,Ap6 fun i hi=>?_,Ob.le_refl _,trivial⟩
 by_cases h:i<e.S.Chans.length
 ·refine AV ?_;rw[LH h];show _=AM ((e.S.Chans++[(⟨n,[]⟩:D.Chan)]).getD i default);simp[List.getD,ApL h]
 ·obtain rfl:i=e.S.Chans.length:=by omega
  rw[QA (ApC _),Nat.sub_self];have:Ew (Ib e n).S.Chans e.S.Chans.length=AM ⟨n,[]⟩:=by simp[Ew,Ib,List.getD]
  rw[this];show leL [Aa n,.nl] [Aa n,B3 true []];exact⟨VV.le_refl _,Aqd,trivial⟩
theorem Aho {pr:ByteArray->List Int->ByteArray}{s:D.Stmt}{w:Wy}(h:BF e)(hs:EM e.M s)(q:s.Kind=5->0<=w.With->Uy e s w)
  (l:s.Kind=4->(BQ e s.Args).2=0->Aj Tryz.prog 94 [] [Bm s.Text,Ad false (BQ e s.Args).1] [] (Bm (pr s.Text (BQ e s.Args).1))) :
  Aj Tryz.prog 52 (hsE e) [.bp 0 0,.agg (Au s),.agg (AY w)] (hsE (DT pr e s w).1) (.tup [Bm (DT pr e s w).2.1,Aa (DT pr e s w).2.2]):=by
 have b:=h.fit.small;have d:=h.fit.c;have a:DT pr e s w=if s.Kind=1 then(bif Dz e s.A then((Cj e s.A).1,⟨#[]⟩,(Cj e s.A).2.2) else(e,⟨#[]⟩,0))
   else if s.Kind=2 then((JS e s).1,⟨#[]⟩,(JS e s).2)
   else if s.Kind=3 then(e,⟨#[]⟩,LL e s)
   else if s.Kind=4 then(e,bif decide ((BQ e s.Args).2≠0) then⟨#[]⟩ else pr s.Text (BQ e s.Args).1,(BQ e s.Args).2)
   else if s.Kind=9 then((C3 (Ib e s.N) s.A (e.S.Chans.length+1:Nat)).1,⟨#[]⟩,(C3 (Ib e s.N) s.A (e.S.Chans.length+1:Nat)).2)
   else if s.Kind=5 then((JV e s w).1,⟨#[]⟩,(JV e s w).2)
   else if s.Kind=6 then((GI e s).1,⟨#[]⟩,(GI e s).2)
   else(e,⟨#[]⟩,0):=rfl
 generalize DT pr e s w=R at a ⊢;have ne:∀ {k:Int},(s.Kind==k)=false->s.Kind≠k:=fun h1 h2=>by rw[h2]at h1;simp at h1
 refine Aq Tryz.func52 (Aej R.1 R.2.1 R.2.2 e s w rfl rfl rfl rfl) ⟨fun k=>?_,fun k1=>⟨fun k=>?_,fun k2=>⟨fun k=>?_,fun f=>⟨fun k=>?_,fun j=>⟨fun k=>?_,fun m=>⟨fun k=>?_,fun n=>⟨fun k=>?_,fun k6=>?_⟩⟩⟩⟩⟩⟩⟩
 ·have k:=eq_of_beq k;rw[Aqc k]at a;have o:=hs.k1 k;refine⟨Dz e s.A,Jc fun _=>o.2,fun h1=>⟨Cj e s.A,Pp h.wf b o,?_⟩,fun h1=>?_⟩
  ·rw[h1,Apy]at a;subst a;exact⟨B5,VV.le_refl _⟩
  ·rw[h1,Apw]at a;subst a;exact⟨B5,VV.le_refl _⟩
 ·have k:=eq_of_beq k;rw[ApT (ne k1),Aqc k]at a;subst a;exact⟨JS e s,Zk h hs k,B5,VV.le_refl _⟩
 ·have k:=eq_of_beq k;rw[ApT (ne k1),ApT (ne k2),Aqc k]at a;subst a;refine⟨Be e s.A,Sk h.wf b s.A,fun h1=>⟨B5,AqV ?_⟩,fun h1=>⟨B5,AqV ?_⟩⟩
  ·show _=VV.tup [Bm ⟨#[]⟩,Aa (LL e s)];unfold LL;rw[Bh,ieq,ieq]at h1;rw[h1]<;>rfl
  ·show _=VV.tup [Bm ⟨#[]⟩,Aa (LL e s)];unfold LL;rw[Bh,ieq,ieq]at h1;rw[h1]<;>rfl
 ·have k:=eq_of_beq k;rw[ApT (ne k1),ApT (ne k2),ApT (ne f),Aqc k]at a;refine⟨BQ e s.Args,Om (fun x _=>Sk h.wf b x) hs.args,fun h1=>?_,fun h1=>⟨pr s.Text (BQ e s.Args).1,l k (by simpa using h1),?_⟩⟩
  ·rw[AT]at h1;rw[h1,Apy]at a;subst a;exact⟨B5,VV.le_refl _⟩
  ·have h0:(BQ e s.Args).2=0:=by simpa using h1
   rw[AT]at h1;rw[h1,Apw]at a;subst a;refine⟨B5,AqV ?_⟩;show _=VV.tup [Bm _,Aa (BQ e s.Args).2];rw[h0]<;>rfl
 ·have k:=eq_of_beq k;rw[ApT (ne k1),ApT (ne k2),ApT (ne f),ApT (ne j),Aqc k]at a;subst a;have i:Bq (Ib e s.N).S:=by
   refine⟨b.g,?_,b.p,fun c d=>?_,b.ps⟩
   ·show Len (e.S.Chans++[(⟨s.N,[]⟩:D.Chan)]).length;unfold Len;simp;omega
   ·rcases Ap1.1 d with d | d
    ·exact b.cs _ d
    ·obtain rfl:=Ap4.1 d;exact⟨ApD _,fun x r=>by cases r⟩
  refine⟨by omega,C3 (Ib e s.N) s.A (e.S.Chans.length+1:Nat),?_,B5,VV.le_refl _⟩;exact(Kj (e:=Ib e s.N) h.wf i _ _).le AgM ⟨VV.le_refl _,VV.le_refl _,VV.le_refl _,trivial⟩ B5 (VV.le_refl _)
 ·have k:=eq_of_beq k;rw[ApT (ne k1),ApT (ne k2),ApT (ne f),ApT (ne j),ApT (ne m),Aqc k]at a;subst a;exact⟨JV e s w,Zl h hs (q k),B5,VV.le_refl _⟩
 ·have k:=eq_of_beq k;rw[ApT (ne k1),ApT (ne k2),ApT (ne f),ApT (ne j),ApT (ne m),ApT (ne n),Aqc k]at a;subst a;exact⟨GI e s,We h hs k,B5,VV.le_refl _⟩
 ·rw[ApT (ne k1),ApT (ne k2),ApT (ne f),ApT (ne j),ApT (ne m),ApT (ne n),ApT (ne k6)]at a;subst a;exact⟨B5,VV.le_refl _⟩
end
end Go.Proofs.YtnhamlpcpngafaaGreatDoor
namespace Go.Proofs.YtnhamlpcpngafaaGreatDoor
open Go.RowKit
abbrev V2 : TypeId:=212
abbrev Od : TypeId:=5
def KT (B b:Nat)(s:ByteArray)(w:World):Prop:=Lib.IsBuilderF V2 Od B b (Lib.byteCells (bs s)) w
theorem LI (a s:ByteArray):bs (a++s)=bs a++bs s:=by simp[bs]
theorem V1 (a s:ByteArray):Lib.byteCells (bs a)++Lib.strCells s=Lib.byteCells (bs (a++s)):=by
 rw[LI];simp[Lib.byteCells,Lib.strCells,bs]
theorem Gp {B b:Nat}{a s:ByteArray}{w:World}(h:KT B b a w)(c:a.size+s.size<=140737488355328)(hB:B<=w.heap.size) :
  Calls Tryz.prog 126 #[.pointer (some ⟨b,0,none⟩),.string s] w fun e w'=>e=.returned (.tuple #[.int .i64 s.size,.nilIface])/\KT B b (a++s) w'/\Below B w w'/\Lib.OthersKept Od (some b) w w':=by
 refine(Any.Builder_WriteString_k Tryz.lays166 Tryz.Builder_Extra_166 B b (Lib.byteCells (bs a)) s w h (by rw[Lib.byteCells_length,← Ll];exact c) hB).mono ?_;rintro e w' ⟨rfl,h1,h2,h3⟩;refine⟨rfl,?_,h2,h3⟩;rw[V1]at h1;exact .inr h1
theorem UQ {B b:Nat}{a:ByteArray}{w:World}(h:KT B b a w)(hB:B<=w.heap.size) :
  Calls Tryz.prog 134 #[.pointer (some ⟨b,0,none⟩)] w fun e w'=>e=.returned (.string a)/\Below B w w':=by
 refine(Tryz.Builder_String_any_k B b (bs a) w h hB).mono ?_;rintro e w' ⟨rfl,_,h2,_⟩;refine⟨?_,h2⟩;show Ending.returned (.string (mk (bs a)))=_;rw[Yc]
theorem KT.below {B b:Nat}{a:ByteArray}{w w':World}(h:KT B b a w)(c:Below w.heap.size w w'):KT B b a w':=by
 have d:∀ p,Lib.BuilderAtF V2 Od B b p (Lib.byteCells (bs a)) w->Lib.BuilderAtF V2 Od B b p (Lib.byteCells (bs a)) w':=by
  intro p h;have f:=h.lt;obtain⟨hB,v,g,e,i⟩:=h;exact⟨hB,v,(c.block _ f).trans g,e.kept (row:=none) ⟨c.os,c.tape,c.output,c.size,fun k j _=>c.block k j⟩ (by cases hv:v.ownBlock<;>simp),i⟩
 rcases h with h | h
 ·exact .inl (d _ h)
 ·exact .inr (d _ h)
theorem KT.start (w:World):KT w.heap.size w.heap.size ⟨#[]⟩ (w.alloc (.cells #[.pointer none,.slice none 0 0] V2)):=Lib.IsBuilderF.of (Lib.fresh_isBuilder V2 Od w)
theorem CG.below {B:Nat}{w w':World}(h:CG w)(hB:∀ k,k∈EB->k<B)(a:Below B w w'):CG w':=h.congr fun k b=>a.block k (hB k b)
theorem OJ (a b:By):mk a++mk b=mk (a++b):=by
 have:bs (mk a++mk b)=bs (mk (a++b)):=by rw[LI,Y2,Y2,Y2]
 rw[← Yc (mk a++mk b),this,Yc]
theorem LM (a:ByteArray):a++mk []=a:=by
 have:bs (a++mk [])=bs a:=by rw[LI,Y2,Aq1]
 rw[← Yc (a++mk []),this,Yc]
theorem Y8 (a b c:ByteArray):a++b++c=a++(b++c):=ByteArray.append_assoc
abbrev Aj2 : TypeId:=23
theorem KT.above {B b:Nat}{a:ByteArray}{w w':World}(h:KT B b a w)(j:∀ k,B<=k->w'.heap[k]?=w.heap[k]?):KT B b a w':=by
 have d:∀ p,Lib.BuilderAtF V2 Od B b p (Lib.byteCells (bs a)) w->Lib.BuilderAtF V2 Od B b p (Lib.byteCells (bs a)) w':=by
  rintro p ⟨hB,v,e,c,f⟩;refine⟨hB,v,(j _ hB).trans e,⟨c.1,?_⟩,f⟩;rcases c.2 with m | ⟨g,cap,cur,fz,rfl,l,i,rest⟩
  ·exact .inl m
  ·exact .inr ⟨g,cap,cur,fz,rfl,l,(j _ l).trans i,rest⟩
 rcases h with h | h
 ·exact .inl (d _ h)
 ·exact .inr (d _ h)
def Acr (w:World)(a:Option Addr)(l:List Int):Prop:=0<l.length->∃ bb off,a=some ⟨bb,off,none⟩/\bb<w.heap.size/\∀ i,i<l.length->w.cell? ⟨bb,off+i,none⟩=some (.int .i64 (l.getD i 0))
structure PrI (w:World) (l:List Int) (T:ByteArray) (W:World):Prop where
 ab:∃ a cap,W.heap[w.heap.size]?=some (.cells #[.slice a l.length cap] Aj2 (0,0))/\l.length<=cap/\cap<=maxLen/\Acr w a l
 bd:KT (w.heap.size+1) (w.heap.size+1) T W
 bw:Below w.heap.size w W
 sz:w.heap.size+2<=W.heap.size
theorem PrI.write {w:World}{l:List Int}{T x:ByteArray}{W W':World}(h:PrI w l T W)(h1:KT (w.heap.size+1) (w.heap.size+1) (T++x) W')(h2:Below (w.heap.size+1) W W'):PrI w l (T++x) W':=by
 obtain⟨a,cap,b,r⟩:=h.ab;exact⟨⟨a,cap,(h2.block _ (Aqx _)).trans b,r⟩,h1,h.bw.trans (h2.mono (Ara _)),Ap0 h.sz h2.size⟩
theorem PrI.same {w:World}{l:List Int}{T:ByteArray}{W W':World}(h:PrI w l T W)(h2:Below W.heap.size W W'):PrI w l T W':=by
 obtain⟨a,cap,b,r⟩:=h.ab;have:=h.sz;exact⟨⟨a,cap,(h2.block _ (by omega)).trans b,r⟩,h.bd.below h2,h.bw.trans (h2.mono h.bw.size),Ap0 h.sz h2.size⟩
theorem Ct {w:World}{b i:Nat}{cs:Array Value}{t:TypeId}{v:Value}(h:w.heap[b]?=some (.cells cs t (0,0)))(hi:cs[i]?=some v):w.cell? ⟨b,i,none⟩=some v:=by
 simp[World.cell?,h,hi]
set_option maxRecDepth 100000 in
theorem Anu {n:Int}{W:World}(b:CG W)(a:I64 n):Calls Tryz.prog 131 #[.int .i64 n] W fun e W'=>e=.returned (.string (Ao2 n))/\Below W.heap.size W W':=by
 go_enter Tryz.func131,Tryz.ntmps131
 go_wp2_with fail
 refine(Tryz.strconv_FormatInt_10 n a.1 a.2 W b.tab).mono ?_;rintro e w' ⟨rfl,k,os,rfl⟩
 go_wp2
 go_ret
 exact⟨rfl,Lib.below_grow _ W (ApC _) k os⟩
set_option maxRecDepth 100000 in
theorem Anv {n:Int}{W:World}:Calls Tryz.prog 133 #[.int .i64 n] W fun e W'=>e=.returned (.string (mk [UInt8.ofNat (n % 256).toNat]))/\Below W.heap.size W W':=by
 go_enter Tryz.func133,Tryz.ntmps133
 go_wp2_with fail
 have a:(convert 210 9 (.slice (some ⟨W.heap.size,0,none⟩) 1 1)).run Tryz.prog (W.alloc (Obj.cells #[Value.int IntKind.u8 (n % 256)] 5))=.ok (.string (mk [UInt8.ofNat (n % 256).toNat])) (W.alloc (Obj.cells #[Value.int IntKind.u8 (n % 256)] 5)):=run_convert_bytes_back (P:=Tryz.prog) (W.alloc (Obj.cells #[Value.int IntKind.u8 (n % 256)] Od)) 210 9 Od ⟨W.heap.size,0,none⟩ 1 [UInt8.ofNat (n % 256).toNat] Tryz.underlying210 Tryz.underlying5 Tryz.underlying9 (fun j b=>by
  obtain rfl:j=0:=by simpa using b
  have e:((UInt8.ofNat (n % 256).toNat).toNat:Int)=n % 256:=by
   rw[UInt8.toNat_ofNat'];omega
  show World.cell? _ ⟨W.heap.size,0+0,none⟩=some (.int .u8 (((UInt8.ofNat (n % 256).toNat).toNat:Nat):Int));rw[e];exact Ct (heap_alloc_new _ _) rfl)
 rw[a]
 go_wp2
 go_ret
 exact⟨rfl,(Below.refl _ _).alloc (ApC _) _⟩
def S9 (b:Nat):Prop:=∀ (u:Nat) (W:World),u<4294967296->CG W->Calls Tryz.prog 129 #[.int .u64 u,.int .i64 b] W fun e W'=>e=.returned (.string (mk (I3 b u)))/\Below W.heap.size W W'
set_option maxRecDepth 100000 in
theorem Aaf {n:Int}{b kb:Nat}{W:World}(c:S9 b)(d:CG W)(f:W.heap[kb]?=some (.cells #[.int .i64 b] 3 (0,0))):Calls Tryz.prog 128 #[.int .i64 n,.pointer (some ⟨kb,0,none⟩)] W fun e W'=>e=.returned (.string (mk (I3 b (Yk n))))/\Below W.heap.size W W':=by
 have j:=Ct (i:=0) (v:=.int .i64 b) f rfl;have g:((Yk n:Nat):Int)=n % 4294967296:=by unfold Yk;omega
 have a:=c (Yk n) W (by unfold Yk;omega) d;rw[g]at a
 go_enter Tryz.func128,Tryz.ntmps128
 go_wp2_with fail
 refine a.mono ?_;rintro e w' ⟨rfl,h⟩
 go_wp2
 go_ret
 exact⟨rfl,h⟩
theorem PrI.step {w W:World}{n:Int}{l:List Int}{T:ByteArray}(h:PrI w (n::l) T W)(bb off cap len:Nat)(e:len=l.length)(d:len<=cap/\cap<=maxLen∨len=0/\cap<=maxLen)(b:bb<w.heap.size)(f:∀ i,i<l.length->w.cell? ⟨bb,off+i,none⟩=some (.int .i64 (l.getD i 0))):PrI w l T (W.setCell ⟨w.heap.size,0,none⟩ (.slice (some ⟨bb,off,none⟩) len cap)):=by
 obtain⟨a,c,g,_⟩:=h.ab;subst e;refine⟨⟨some ⟨bb,off,none⟩,cap,Bp g _,by omega,by omega,fun _=>⟨bb,off,rfl,b,f⟩⟩,h.bd.above fun k j=>Below.heap_setCell _ _ _ _ (by show k≠w.heap.size;omega),h.bw.setCell (ApC _) _,by simpa using h.sz⟩
theorem LJ {b:Nat}:∀ {g u:Nat},(L8 b g u).length<=g
 | 0,_=>ApC _
 | g+1,u=>by
  unfold L8;split
  ·simp
  ·have:=LJ (b:=b) (g:=g) (u:=u / b);simp;omega
theorem F3 {c:UInt8}{n:Int}(a:I64 n):(mk (CI c n)).size<=64:=by
 rw[Lk];unfold CI;split
 ·exact LJ
 split
 ·exact LJ
 split
 ·exact LJ
 split
 ·simp
 ·have:=Lib.itoa_length_le n a.1 a.2;omega
set_option maxRecDepth 100000 in
theorem AbI {w W:World}{l:List Int}{T:ByteArray}(A:CG w)(o:∀ k,k∈EB->k<w.heap.size)(h:PrI w l T W)(B:∀ n∈l,I64 n)(I:T.size<=70368744177664) :
  Calls Tryz.prog 125 #[.func (Fn.func 131) #[] #[],.pointer (some ⟨w.heap.size,0,none⟩),.pointer (some ⟨w.heap.size+1,0,none⟩)] W fun e W'=>(∃ v,e=.returned v)/\PrI w l.tail (T++mk ((l.take 1).flatMap (CI 100))) W'/\W.heap.size<=W'.heap.size:=by
 have J:=h.sz
 go_enter Tryz.func125,Tryz.ntmps125
 rcases l with _ | ⟨n,l⟩
 ·obtain⟨a,cap,p,d,f,y⟩:=h.ab;have C:=Ct (i:=0) (v:=.slice a 0 cap) p rfl
  go_wp2
  go_end0
  refine⟨⟨_,rfl⟩,?_,ApC _⟩;show PrI w [] (T++mk []) W;rw[LM];exact h
 ·obtain⟨a,cap,p,d,f,y⟩:=h.ab;have C:=Ct (i:=0) (v:=.slice a (l.length+1) cap) p rfl;obtain⟨bb,off,rfl,q,E⟩:=y (by simp);have K:W.cell? ⟨bb,off,none⟩=some (.int .i64 n):=(h.bw.cell q).trans (E 0 (by simp));have z:=B n (ApF ..)
  go_wp2_with fail
  refine(Anu (A.below o h.bw) z).mono ?_;rintro e W1 ⟨rfl,g⟩;have h1:=h.same g;have L:(mk (CI 100 n)).size<=64:=F3 z;have F:=g.size
  go_wp2_with fail
  refine(Gp (s:=mk (CI 100 n)) h1.bd (by omega) (by have:=h1.sz;omega)).mono ?_;rintro e W2 ⟨rfl,k1,k2,M⟩;have h2:=h1.write k1 k2;have G:=k2.size;obtain⟨H,cap2,j,c,r,t⟩:=h2.ab;have s2:=Ct (i:=0) (v:=.slice H (l.length+1) cap2) j rfl;have N:W2.frozen? ⟨w.heap.size,0,none⟩=false:=by simp[World.frozen?,j]
  obtain⟨bb2,off2,rfl,b,u⟩:=t (by simp);have x:l.length+1<=cap2:=c;have m:mk (((n::l).take 1).flatMap (CI 100))=mk (CI 100 n):=by simp
  clear m
  go_wp2
  all_goals
   go_end0
   refine⟨⟨_,rfl⟩,?_,by simp;omega⟩
   first
    | exact h2.step _ _ _ _ rfl (by omega) b fun i hi=>by have:=u (i+1) (by simp;omega);rw[show off2+1+i=off2+(i+1) by omega];simpa using this
    | exact h2.step _ _ _ _ rfl (by omega) b fun i hi=>by omega
set_option maxRecDepth 100000 in
theorem AnT {w W:World}{l:List Int}{T:ByteArray}(h:PrI w l T W)(x:∀ n∈l,I64 n)(F:T.size<=70368744177664) :
  Calls Tryz.prog 125 #[.func (Fn.func 133) #[] #[],.pointer (some ⟨w.heap.size,0,none⟩),.pointer (some ⟨w.heap.size+1,0,none⟩)] W fun e W'=>(∃ v,e=.returned v)/\PrI w l.tail (T++mk ((l.take 1).flatMap (CI 99))) W'/\W.heap.size<=W'.heap.size:=by
 have G:=h.sz
 go_enter Tryz.func125,Tryz.ntmps125
 rcases l with _ | ⟨n,l⟩
 ·obtain⟨a,cap,m,d,f,u⟩:=h.ab;have y:=Ct (i:=0) (v:=.slice a 0 cap) m rfl
  go_wp2
  go_end0
  refine⟨⟨_,rfl⟩,?_,ApC _⟩;show PrI w [] (T++mk []) W;rw[LM];exact h
 ·obtain⟨a,cap,m,d,f,u⟩:=h.ab;have y:=Ct (i:=0) (v:=.slice a (l.length+1) cap) m rfl;obtain⟨bb,off,rfl,o,z⟩:=u (by simp);have H:W.cell? ⟨bb,off,none⟩=some (.int .i64 n):=(h.bw.cell o).trans (z 0 (by simp));have A:=x n (ApF ..)
  go_wp2_with fail
  refine(Anv).mono ?_;rintro e W1 ⟨rfl,g⟩;have h1:=h.same g;have I:(mk (CI 99 n)).size<=64:=F3 A;have B:=g.size
  go_wp2_with fail
  refine(Gp (s:=mk (CI 99 n)) h1.bd (by omega) (by have:=h1.sz;omega)).mono ?_;rintro e W2 ⟨rfl,k1,k2,J⟩;have h2:=h1.write k1 k2;have C:=k2.size;obtain⟨E,cap2,j,c,p,q⟩:=h2.ab;have s2:=Ct (i:=0) (v:=.slice E (l.length+1) cap2) j rfl;have K:W2.frozen? ⟨w.heap.size,0,none⟩=false:=by simp[World.frozen?,j]
  obtain⟨bb2,off2,rfl,b,r⟩:=q (by simp);have t:l.length+1<=cap2:=c;have k:mk (((n::l).take 1).flatMap (CI 99))=mk (CI 99 n):=by simp
  clear k
  go_wp2
  all_goals
   go_end0
   refine⟨⟨_,rfl⟩,?_,by simp;omega⟩
   first
    | exact h2.step _ _ _ _ rfl (by omega) b fun i hi=>by have:=r (i+1) (by simp;omega);rw[show off2+1+i=off2+(i+1) by omega];simpa using this
    | exact h2.step _ _ _ _ rfl (by omega) b fun i hi=>by omega
set_option maxRecDepth 100000 in
theorem AnR {w W:World}{l:List Int}{T:ByteArray}{kb:Nat}(z:S9 10)(A:W.heap[kb]?=some (.cells #[.int .i64 10] 3 (0,0)))(B:CG w)(o:∀ k,k∈EB->k<w.heap.size)(h:PrI w l T W)(C:∀ n∈l,I64 n)(K:T.size<=70368744177664) :
  Calls Tryz.prog 125 #[.func (Fn.func 128) #[] #[.pointer (some ⟨kb,0,none⟩)],.pointer (some ⟨w.heap.size,0,none⟩),.pointer (some ⟨w.heap.size+1,0,none⟩)] W fun e W'=>(∃ v,e=.returned v)/\PrI w l.tail (T++mk ((l.take 1).flatMap (CI 117))) W'/\W.heap.size<=W'.heap.size:=by
 have L:=h.sz
 go_enter Tryz.func125,Tryz.ntmps125
 rcases l with _ | ⟨n,l⟩
 ·obtain⟨a,cap,p,d,f,y⟩:=h.ab;have E:=Ct (i:=0) (v:=.slice a 0 cap) p rfl
  go_wp2
  go_end0
  refine⟨⟨_,rfl⟩,?_,ApC _⟩;show PrI w [] (T++mk []) W;rw[LM];exact h
 ·obtain⟨a,cap,p,d,f,y⟩:=h.ab;have E:=Ct (i:=0) (v:=.slice a (l.length+1) cap) p rfl;obtain⟨bb,off,rfl,q,F⟩:=y (by simp);have M:W.cell? ⟨bb,off,none⟩=some (.int .i64 n):=(h.bw.cell q).trans (F 0 (by simp));have G:=C n (ApF ..)
  go_wp2_with fail
  refine(Aaf z (B.below o h.bw) A).mono ?_;rintro e W1 ⟨rfl,g⟩;have h1:=h.same g;have N:(mk (CI 117 n)).size<=64:=F3 G;have H:=g.size
  go_wp2_with fail
  refine(Gp (s:=mk (CI 117 n)) h1.bd (by omega) (by have:=h1.sz;omega)).mono ?_;rintro e W2 ⟨rfl,k1,k2,O⟩;have h2:=h1.write k1 k2;have I:=k2.size;obtain⟨J,cap2,j,c,r,t⟩:=h2.ab;have s2:=Ct (i:=0) (v:=.slice J (l.length+1) cap2) j rfl;have P:W2.frozen? ⟨w.heap.size,0,none⟩=false:=by simp[World.frozen?,j]
  obtain⟨bb2,off2,rfl,b,u⟩:=t (by simp);have x:l.length+1<=cap2:=c;have m:mk (((n::l).take 1).flatMap (CI 117))=mk (CI 117 n):=by simp
  clear m
  go_wp2
  all_goals
   go_end0
   refine⟨⟨_,rfl⟩,?_,by simp;omega⟩
   first
    | exact h2.step _ _ _ _ rfl (by omega) b fun i hi=>by have:=u (i+1) (by simp;omega);rw[show off2+1+i=off2+(i+1) by omega];simpa using this
    | exact h2.step _ _ _ _ rfl (by omega) b fun i hi=>by omega
set_option maxRecDepth 100000 in
theorem AnQ {w W:World}{l:List Int}{T:ByteArray}{kb:Nat}(z:S9 16)(A:W.heap[kb]?=some (.cells #[.int .i64 16] 3 (0,0)))(B:CG w)(o:∀ k,k∈EB->k<w.heap.size)(h:PrI w l T W)(C:∀ n∈l,I64 n)(K:T.size<=70368744177664) :
  Calls Tryz.prog 125 #[.func (Fn.func 128) #[] #[.pointer (some ⟨kb,0,none⟩)],.pointer (some ⟨w.heap.size,0,none⟩),.pointer (some ⟨w.heap.size+1,0,none⟩)] W fun e W'=>(∃ v,e=.returned v)/\PrI w l.tail (T++mk ((l.take 1).flatMap (CI 120))) W'/\W.heap.size<=W'.heap.size:=by
 have L:=h.sz
 go_enter Tryz.func125,Tryz.ntmps125
 rcases l with _ | ⟨n,l⟩
 ·obtain⟨a,cap,p,d,f,y⟩:=h.ab;have E:=Ct (i:=0) (v:=.slice a 0 cap) p rfl
  go_wp2
  go_end0
  refine⟨⟨_,rfl⟩,?_,ApC _⟩;show PrI w [] (T++mk []) W;rw[LM];exact h
 ·obtain⟨a,cap,p,d,f,y⟩:=h.ab;have E:=Ct (i:=0) (v:=.slice a (l.length+1) cap) p rfl;obtain⟨bb,off,rfl,q,F⟩:=y (by simp);have M:W.cell? ⟨bb,off,none⟩=some (.int .i64 n):=(h.bw.cell q).trans (F 0 (by simp));have G:=C n (ApF ..)
  go_wp2_with fail
  refine(Aaf z (B.below o h.bw) A).mono ?_;rintro e W1 ⟨rfl,g⟩;have h1:=h.same g;have N:(mk (CI 120 n)).size<=64:=F3 G;have H:=g.size
  go_wp2_with fail
  refine(Gp (s:=mk (CI 120 n)) h1.bd (by omega) (by have:=h1.sz;omega)).mono ?_;rintro e W2 ⟨rfl,k1,k2,O⟩;have h2:=h1.write k1 k2;have I:=k2.size;obtain⟨J,cap2,j,c,r,t⟩:=h2.ab;have s2:=Ct (i:=0) (v:=.slice J (l.length+1) cap2) j rfl;have P:W2.frozen? ⟨w.heap.size,0,none⟩=false:=by simp[World.frozen?,j]
  obtain⟨bb2,off2,rfl,b,u⟩:=t (by simp);have x:l.length+1<=cap2:=c;have m:mk (((n::l).take 1).flatMap (CI 120))=mk (CI 120 n):=by simp
  clear m
  go_wp2
  all_goals
   go_end0
   refine⟨⟨_,rfl⟩,?_,by simp;omega⟩
   first
    | exact h2.step _ _ _ _ rfl (by omega) b fun i hi=>by have:=u (i+1) (by simp;omega);rw[show off2+1+i=off2+(i+1) by omega];simpa using this
    | exact h2.step _ _ _ _ rfl (by omega) b fun i hi=>by omega
set_option maxRecDepth 100000 in
theorem AnS {w W:World}{l:List Int}{T:ByteArray}{kb:Nat}(z:S9 8)(A:W.heap[kb]?=some (.cells #[.int .i64 8] 3 (0,0)))(B:CG w)(o:∀ k,k∈EB->k<w.heap.size)(h:PrI w l T W)(C:∀ n∈l,I64 n)(K:T.size<=70368744177664) :
  Calls Tryz.prog 125 #[.func (Fn.func 128) #[] #[.pointer (some ⟨kb,0,none⟩)],.pointer (some ⟨w.heap.size,0,none⟩),.pointer (some ⟨w.heap.size+1,0,none⟩)] W fun e W'=>(∃ v,e=.returned v)/\PrI w l.tail (T++mk ((l.take 1).flatMap (CI 111))) W'/\W.heap.size<=W'.heap.size:=by
 have L:=h.sz
 go_enter Tryz.func125,Tryz.ntmps125
 rcases l with _ | ⟨n,l⟩
 ·obtain⟨a,cap,p,d,f,y⟩:=h.ab;have E:=Ct (i:=0) (v:=.slice a 0 cap) p rfl
  go_wp2
  go_end0
  refine⟨⟨_,rfl⟩,?_,ApC _⟩;show PrI w [] (T++mk []) W;rw[LM];exact h
 ·obtain⟨a,cap,p,d,f,y⟩:=h.ab;have E:=Ct (i:=0) (v:=.slice a (l.length+1) cap) p rfl;obtain⟨bb,off,rfl,q,F⟩:=y (by simp);have M:W.cell? ⟨bb,off,none⟩=some (.int .i64 n):=(h.bw.cell q).trans (F 0 (by simp));have G:=C n (ApF ..)
  go_wp2_with fail
  refine(Aaf z (B.below o h.bw) A).mono ?_;rintro e W1 ⟨rfl,g⟩;have h1:=h.same g;have N:(mk (CI 111 n)).size<=64:=F3 G;have H:=g.size
  go_wp2_with fail
  refine(Gp (s:=mk (CI 111 n)) h1.bd (by omega) (by have:=h1.sz;omega)).mono ?_;rintro e W2 ⟨rfl,k1,k2,O⟩;have h2:=h1.write k1 k2;have I:=k2.size;obtain⟨J,cap2,j,c,r,t⟩:=h2.ab;have s2:=Ct (i:=0) (v:=.slice J (l.length+1) cap2) j rfl;have P:W2.frozen? ⟨w.heap.size,0,none⟩=false:=by simp[World.frozen?,j]
  obtain⟨bb2,off2,rfl,b,u⟩:=t (by simp);have x:l.length+1<=cap2:=c;have m:mk (((n::l).take 1).flatMap (CI 111))=mk (CI 111 n):=by simp
  clear m
  go_wp2
  all_goals
   go_end0
   refine⟨⟨_,rfl⟩,?_,by simp;omega⟩
   first
    | exact h2.step _ _ _ _ rfl (by omega) b fun i hi=>by have:=u (i+1) (by simp;omega);rw[show off2+1+i=off2+(i+1) by omega];simpa using this
    | exact h2.step _ _ _ _ rfl (by omega) b fun i hi=>by omega
theorem PrI.start {w:World}{l:List Int}{a:Option Addr}{cap:Nat}(h1:l.length<=cap)(h2:cap<=maxLen)(h:Acr w a l):PrI w l (Go.Proofs.YtnhamlpcpngafaaGreatDoor.mk []) ((w.alloc (.cells #[.slice a l.length cap] Aj2)).alloc (.cells #[.pointer none,.slice none 0 0] V2)):=by
 refine⟨⟨a,cap,?_,h1,h2,h⟩,?_,?_,by simp⟩
 ·rw[Below.heap_alloc _ _ _ (by simp)];exact heap_alloc_new _ _
 ·have:=KT.start (w.alloc (.cells #[.slice a l.length cap] Aj2));rw[show(w.alloc (.cells #[.slice a l.length cap] Aj2)).heap.size=w.heap.size+1 by simp]at this;exact this
 ·exact((Below.refl _ w).alloc (ApC _) _).alloc (by simp) _
theorem S7 (a:ByteArray)(c:UInt8):Lib.byteCells (bs a)++[.int .u8 (c.toNat:Int)]=Lib.byteCells (bs (a++mk [c])):=by
 rw[LI];simp[Lib.byteCells,Y2]
theorem HZ {B b:Nat}{a:ByteArray}{w:World}{c:UInt8}{n:Int}(f:n=(c.toNat:Int))(h:KT B b a w)(d:a.size+1<=140737488355328)(hB:B<=w.heap.size) :
  Calls Tryz.prog 130 #[.pointer (some ⟨b,0,none⟩),.int .u8 n] w fun e w'=>e=.returned .nilIface/\KT B b (a++mk [c]) w'/\Below B w w':=by
 subst f;refine(Any.Builder_WriteByte_k Tryz.lays167 Tryz.Builder_Extra_167 B b (Lib.byteCells (bs a)) (c.toNat:Int) w h (by rw[Lib.byteCells_length,← Ll];exact d) hB).mono ?_;rintro e w' ⟨rfl,h1,h2,h3⟩;refine⟨rfl,?_,h2⟩;rw[S7]at h1;exact .inr h1
theorem NP {w:World}{l:List Int}{T:ByteArray}{W W':World}{c:UInt8}(h:PrI w l T W)(h1:KT (w.heap.size+1) (w.heap.size+1) (T++mk [c]) W')(h2:Below (w.heap.size+1) W W'):PrI w l (T++mk [c]) W':=h.write h1 h2
theorem AbK {c:UInt8}(h:c.toNat≠37):(c==37)=false:=by
 rw[beq_eq_false_iff_ne];rintro rfl;exact h rfl
theorem AmV {c:UInt8}(h:c.toNat=37):c=37:=AqA.1 h
theorem AjC {c:UInt8}{L:By}{l:List Int}(h:c.toNat≠37∨L=[]):Cp (c::L) l=c::Cp L l:=by
 cases L with
 | nil=>rfl
 | cons d r =>
  rcases h with h | h
  ·simp only[Cp,AbK h,Bool.not_false,Apy]
  ·cases h
theorem AoR {r:By}{l:List Int}:Cp (37::37::r) l=37::Cp r l:=rfl
theorem AlI {d:UInt8}{r:By}{l:List Int}(h1:d.toNat≠37)(h2:GN d=true):Cp (37::d::r) l=(l.take 1).flatMap (CI d)++Cp r l.tail:=by
 have e:Cp (37::d::r) l=bif d==37 then 37::Cp r l else bif GN d then(match l with | []=>Cp r [] | n::l=>CI d n++Cp r l) else 37::d::Cp r l:=rfl
 rw[e,AbK h1,h2,Apw,Apy];cases l with
 | nil=>rfl
 | cons n l=>simp
theorem AjD {d:UInt8}{r:By}{l:List Int}(h1:d.toNat≠37)(h2:GN d=false):Cp (37::d::r) l=37::d::Cp r l:=by
 have e:Cp (37::d::r) l=bif d==37 then 37::Cp r l else bif GN d then(match l with | []=>Cp r [] | n::l=>CI d n++Cp r l) else 37::d::Cp r l:=rfl
 rw[e,AbK h1,h2];rfl
theorem Og (T:ByteArray)(c:UInt8)(r:By):T++mk (c::r)=T++mk [c]++mk r:=by rw[Y8,OJ];rfl
theorem AmC (T:ByteArray)(a r:By):T++mk (a++r)=T++mk a++mk r:=by rw[Y8,OJ]
theorem Kn (T:ByteArray)(c:UInt8):(T++mk [c]).size=T.size+1:=by rw[ByteArray.size_append,Lk];rfl
theorem Ae6 {T:ByteArray}{c:UInt8}{l:List Int}(a:∀ n∈l,I64 n):(T++mk ((l.take 1).flatMap (CI c))).size<=T.size+64:=by
 rw[ByteArray.size_append];cases l with
 | nil=>simp[Lk]
 | cons n l =>
  have:=F3 (c:=c) (a n (ApF ..));simp only[List.take_succ_cons,List.take_zero,List.flatMap_cons,List.flatMap_nil,Aq1];omega
theorem Aag {c:UInt8}(h:GN c=true):c.toNat=100∨c.toNat=105∨c.toNat=101∨c.toNat=117∨c.toNat=120∨c.toNat=111∨c.toNat=99:=by
 simp only[GN,Aqv,beq_iff_eq]at h;rcases h with rfl | rfl | rfl | rfl | rfl | rfl | rfl<;>simp
theorem Ae8 {c:UInt8}(h:GN c=false):c.toNat≠100/\c.toNat≠105/\c.toNat≠101/\c.toNat≠117/\c.toNat≠120/\c.toNat≠111/\c.toNat≠99:=by
 simp only[GN,ApN,beq_eq_false_iff_ne]at h;obtain⟨h1,h2,h3,h4,h5,h6,h7⟩:=h;refine⟨fun e=>h1 ?_,fun e=>h2 ?_,fun e=>h3 ?_,fun e=>h4 ?_,fun e=>h5 ?_,fun e=>h6 ?_,fun e=>h7 ?_⟩<;>exact AqA.1 e
theorem AiI : CI 105=CI 100:=by funext n;simp[CI]
theorem AiJ : CI 101=CI 100:=by funext n;simp[CI]
theorem Kv {W:World}{b:Nat}:Calls Tryz.prog 127 #[.int .i64 b] W fun e W'=>e=.returned (.func (Fn.func 128) #[] #[.pointer (some ⟨W.heap.size,0,none⟩)])/\W'=W.alloc (.cells #[.int .i64 b] 3):=by
 go_enter Tryz.func127,Tryz.ntmps127
 go_wp2
 go_ret
 exact⟨rfl,rfl⟩
theorem AdP {t:ByteArray}{k:Nat}(h:k<t.size):(bs t).drop k=t[k]'h::(bs t).drop (k+1):=by
 have a:k<(bs t).length:=by rw[← Ll];exact h
 exact List.drop_eq_getElem_cons a
set_option maxRecDepth 100000 in
set_option maxHeartbeats 4000000 in
theorem X0 {w:World}{t:ByteArray}{l:List Int}{a:Option Addr}{cap:Nat}(z:CG w)(p:∀ k,k∈EB->k<w.heap.size)(h1:l.length<=cap)(h2:cap<=maxLen)(J:Acr w a l)(j:∀ n∈l,I64 n)(R:t.size<=1099511627776)
  (F:(∃ c∈bs t,c=117∨c=120∨c=111)->S9 10/\S9 16/\S9 8) :
  Calls Tryz.prog 94 #[.string t,.slice a l.length cap] w fun e w'=>e=.returned (.string (Dk t l))/\Below w.heap.size w w':=by
 have s:=PrI.start h1 h2 J;clear J h1 h2
 go_enter Tryz.func94,Tryz.ntmps94
 go_wp2_with fail
 generalize ((w.alloc (.cells #[.slice a l.length cap] Aj2)).alloc (.cells #[.pointer none,.slice none 0 0] V2))=W at s
 go_loopw [8] (fun i wr=>∃ (k:Nat) (rest:List Int) (T:ByteArray),k<=t.size/\i=.int .i64 k/\PrI w rest T wr/\T++mk (Cp ((bs t).drop k) rest)=Dk t l/\T.size<=64*k/\∀ n∈rest,I64 n) (fun i _=>t.size - (intOf i).toNat)
 case atStart=>exact⟨0,l,mk [],ApD _,rfl,s,by unfold Dk;rw[OJ];rfl,by simp[Lk],j⟩
 case round =>
  clear s j;obtain⟨k,rest,T,S,rfl,hp,d,U,j⟩:=hrel
  by_cases m:k<t.size
  ·have u:=AdP m;rw[u]at d;have L:=hp.sz
   by_cases K:(t[k]'m).toNat≠37∨k+1=t.size
   ·have A:Cp ((t[k]'m)::(bs t).drop (k+1)) rest=(t[k]'m)::Cp ((bs t).drop (k+1)) rest:=AjC (K.imp id fun h=>Ap2 (by rw[← Ll];omega));rw[A,Og]at d;clear A u
    by_cases G:(t[k]'m).toNat=37
    ·have g:k+1=t.size:=by omega
     go_wp2_with fail
     refine(HZ (c:=t[k]'m) (by rw[G];rfl) hp.bd (by omega) (by omega)).mono ?_;rintro e W2 ⟨rfl,k1,k2⟩;have f:=NP hp k1 k2;have hs:=Kn T (t[k]'m)
     go_wp2
     go_roundw
     case rel=>exact⟨k+1,rest,_,by omega,by go_num,f,d,by omega,j⟩
     case measure=>simp[intOf];omega
    ·go_wp2_with fail
     refine(HZ (c:=t[k]'m) rfl hp.bd (by omega) (by omega)).mono ?_;rintro e W2 ⟨rfl,k1,k2⟩;have f:=NP hp k1 k2;have hs:=Kn T (t[k]'m)
     go_wp2
     go_roundw
     case rel=>exact⟨k+1,rest,_,by omega,by go_num,f,d,by omega,j⟩
     case measure=>simp[intOf];omega
   ·have G:(t[k]'m).toNat=37:=by omega
    have g:k+1<t.size:=by omega
    have M:¬ k+1=t.size:=by omega
    have B:=AdP g;rw[AmV G,B]at d;clear K u
    by_cases x:(t[k+1]'g).toNat=37
    ·rw[AmV x,AoR,Og]at d
     go_wp2_with fail
     refine(HZ (c:=37) rfl hp.bd (by omega) (by omega)).mono ?_;rintro e W2 ⟨rfl,k1,k2⟩;have f:=NP hp k1 k2;have hs:=Kn T 37
     go_wp2
     go_roundw
     case rel=>exact⟨k+2,rest,_,by omega,by go_num,f,d,by omega,j⟩
     case measure=>simp[intOf];omega
    ·by_cases y:GN (t[k+1]'g)=true
     ·rw[AlI x y,AmC]at d;have o:=Ae6 (T:=T) (c:=t[k+1]'g) j;have q:t[k+1]'g∈bs t:=Array.getElem_mem_toList _;rcases Aag y with hd | hd | hd | hd | hd | hd | hd
      ·rw[show t[k+1]'g=100 from AqA.1 hd]at d o
       go_wp2_with fail
       refine(AbI z p hp j (by omega)).mono ?_;rintro e W2 ⟨⟨v,rfl⟩,f,_⟩
       go_wp2
       go_roundw
       case rel=>exact⟨k+2,rest.tail,_,by omega,by go_num,f,d,by omega,fun n h=>j n (AqU h)⟩
       case measure=>simp[intOf];omega
      ·rw[show t[k+1]'g=105 from AqA.1 hd,AiI]at d o
       go_wp2_with fail
       refine(AbI z p hp j (by omega)).mono ?_;rintro e W2 ⟨⟨v,rfl⟩,f,_⟩
       go_wp2
       go_roundw
       case rel=>exact⟨k+2,rest.tail,_,by omega,by go_num,f,d,by omega,fun n h=>j n (AqU h)⟩
       case measure=>simp[intOf];omega
      ·rw[show t[k+1]'g=101 from AqA.1 hd,AiJ]at d o
       go_wp2_with fail
       refine(AbI z p hp j (by omega)).mono ?_;rintro e W2 ⟨⟨v,rfl⟩,f,_⟩
       go_wp2
       go_roundw
       case rel=>exact⟨k+2,rest.tail,_,by omega,by go_num,f,d,by omega,fun n h=>j n (AqU h)⟩
       case measure=>simp[intOf];omega
      ·have C:=And.left (F ⟨_,q,by simp[show t[k+1]'g=117 from AqA.1 hd]⟩);rw[show t[k+1]'g=117 from AqA.1 hd]at d o
       go_wp2_with fail
       refine(Kv (b:=10)).mono ?_;rintro e W1 ⟨rfl,rfl⟩;have r:=hp.same ((Below.refl _ _).alloc (ApC _) (.cells #[.int .i64 10] 3))
       go_wp2_with fail
       refine(AnR C (heap_alloc_new _ _) z p r j (by omega)).mono ?_;rintro e W2 ⟨⟨v,rfl⟩,f,_⟩
       go_wp2
       go_roundw
       case rel=>exact⟨k+2,rest.tail,_,by omega,by go_num,f,d,by omega,fun n h=>j n (AqU h)⟩
       case measure=>simp[intOf];omega
      ·have C:=(fun h=>h.2.1) (F ⟨_,q,by simp[show t[k+1]'g=120 from AqA.1 hd]⟩);rw[show t[k+1]'g=120 from AqA.1 hd]at d o
       go_wp2_with fail
       refine(Kv (b:=16)).mono ?_;rintro e W1 ⟨rfl,rfl⟩;have r:=hp.same ((Below.refl _ _).alloc (ApC _) (.cells #[.int .i64 16] 3))
       go_wp2_with fail
       refine(AnQ C (heap_alloc_new _ _) z p r j (by omega)).mono ?_;rintro e W2 ⟨⟨v,rfl⟩,f,_⟩
       go_wp2
       go_roundw
       case rel=>exact⟨k+2,rest.tail,_,by omega,by go_num,f,d,by omega,fun n h=>j n (AqU h)⟩
       case measure=>simp[intOf];omega
      ·have C:=(fun h=>h.2.2) (F ⟨_,q,by simp[show t[k+1]'g=111 from AqA.1 hd]⟩);rw[show t[k+1]'g=111 from AqA.1 hd]at d o
       go_wp2_with fail
       refine(Kv (b:=8)).mono ?_;rintro e W1 ⟨rfl,rfl⟩;have r:=hp.same ((Below.refl _ _).alloc (ApC _) (.cells #[.int .i64 8] 3))
       go_wp2_with fail
       refine(AnS C (heap_alloc_new _ _) z p r j (by omega)).mono ?_;rintro e W2 ⟨⟨v,rfl⟩,f,_⟩
       go_wp2
       go_roundw
       case rel=>exact⟨k+2,rest.tail,_,by omega,by go_num,f,d,by omega,fun n h=>j n (AqU h)⟩
       case measure=>simp[intOf];omega
      ·rw[show t[k+1]'g=99 from AqA.1 hd]at d o
       go_wp2_with fail
       refine(AnT hp j (by omega)).mono ?_;rintro e W2 ⟨⟨v,rfl⟩,f,_⟩
       go_wp2
       go_roundw
       case rel=>exact⟨k+2,rest.tail,_,by omega,by go_num,f,d,by omega,fun n h=>j n (AqU h)⟩
       case measure=>simp[intOf];omega
     ·have E:GN (t[k+1]'g)=false:=by simpa using y
      obtain⟨n1,n2,V,X,Y,n6,Z⟩:=Ae8 E;rw[AjD x E,Og,Og]at d
      go_wp2_with fail
      refine(HZ (c:=37) rfl hp.bd (by omega) (by omega)).mono ?_;rintro e W2 ⟨rfl,k1,k2⟩;have f:=NP hp k1 k2;have hs:=Kn T 37;have N:=f.sz
      go_wp2_with fail
      refine(HZ (c:=t[k+1]'g) rfl f.bd (by omega) (by omega)).mono ?_;rintro e W3 ⟨rfl,O,P⟩;have H:=NP f O P;have Q:=Kn (T++mk [37]) (t[k+1]'g)
      go_wp2
      go_roundw
      case rel=>exact⟨k+2,rest,_,by omega,by go_num,H,d,by omega,j⟩
      case measure=>simp[intOf];omega
  ·obtain rfl:k=t.size:=by omega
   rw[Ap2 (by rw[← Ll];omega),show Cp [] rest=[] from rfl,LM]at d;have L:=hp.sz
   go_wp2_with fail
   refine(UQ hp.bd (by omega)).mono ?_;rintro e W2 ⟨rfl,I⟩;rw[d]
   go_wp2
   go_ret
   exact⟨rfl,hp.bw.trans (I.mono (Ara _))⟩
end Go.Proofs.YtnhamlpcpngafaaGreatDoor
namespace Go.Proofs.YtnhamlpcpngafaaGreatDoor
open Go.RowKit Go.Lib Go.Sort
theorem YR : ∀ (g u:Nat),u<10 ^ (g+1)->L8 10 (g+1) u=Lib.decDigits u
 | g,u,h=>by
  rw[Lib.decDigits];unfold L8
  by_cases a:u<10
  ·rw[Aqc a,dif_pos a];unfold GQ;rw[Aqc a]
  ·rw[ApT a,dif_neg a]
   match g,h with
   | 0,h=>omega
   | g+1,h =>
    rw[YR g (u / 10) (by rw[Nat.pow_succ]at h;omega)];unfold GQ;rw[Aqc (by omega)]
set_option maxHeartbeats 6400000 in
set_option maxRecDepth 100000 in
theorem Akc (u:Nat)(w:World)(q:u<4294967296)(f:Lib.TabIs Tryz.prog w "internal/strconv.uint64pow10" .u64 Lib.pow10Tab) :
  Calls Tryz.prog 167 #[.int .u64 u,.int .i64 10] w fun e w'=>e=.returned (.string ⟨(Lib.decDigits u).toArray⟩)/\Below w.heap.size w w':=by
 by_cases hs:u<100
 ·go_enter Tryz.func167,Tryz.ntmps167
  go_wp2_with (go_at_call 194;refine(Tryz.internal_strconv_small u hs _).mono ?_;rintro e w' ⟨rfl,rfl⟩)
  go_ret
  exact⟨rfl,Below.refl _ _⟩
 ·have g:1<=u:=by omega
  have a:u<18446744073709551616:=by omega
  have l:Lib.nDigits u<=20:=by have:=Lib.numDigits_eq u g a;split at this<;>omega
  have i:Tryz.prog.arrayLen 275=24:=by kernel_rfl
  have o:∀ W,(Instr.sliceAt 275 (.pointer (some ⟨w.heap.size,0,none⟩)) none (some (.int .i64 (Lib.nDigits u:Int))) none).run Tryz.prog W=.ok (.slice (some ⟨w.heap.size,0,none⟩) (Lib.nDigits u) 24) W:=fun W=>by
   rw[run_sliceAt_array_h W 275 ⟨w.heap.size,0,none⟩ (by kernel_rfl) .i64 (Lib.nDigits u:Int) (by omega) (by rw[i];omega)]
   go_simp
  have d:=Lib.holds_zero0 w 275 (Lib.nDigits u) (by omega);have c:=Tryz.internal_strconv_formatBase10 w.heap.size 0 24 u (Array.replicate (Lib.nDigits u) 0) (w.alloc (.cells Lib.zeros24 275)) d (by rw[Arv];exact Lib.lt_pow_nDigits u) a (by rw[Arv];omega);rw[Arv]at c;have HH0:=Lib.hid d;clear d i
  go_enter Tryz.func167,Tryz.ntmps167
  go_wp2_with (go_at_call 195;refine(Tryz.internal_strconv_numDigits u g a _ (Lib.tabIs_alloc f _)).mono ?_;rintro e w' ⟨rfl,rfl⟩)
  go_at_call 196
  refine c.mono ?_;rintro e w' ⟨rfl,k,r,dk,rfl,m⟩;have p:(convert 210 9 (.slice (some ⟨w.heap.size,0,none⟩) (Lib.nDigits u) 24)).run Tryz.prog ((putRow (fun(b:UInt8)=>Value.int .u8 (b.toNat:Int)) (w.alloc (.cells Lib.zeros24 275)) w.heap.size 0 dk).drewN k)=.ok (.string ⟨(Lib.decDigits u).toArray⟩) ((putRow (fun(b:UInt8)=>Value.int .u8 (b.toNat:Int)) (w.alloc (.cells Lib.zeros24 275)) w.heap.size 0 dk).drewN k):=by
   have h:=run_convert_bytes_back (P:=Tryz.prog) ((putRow (fun(b:UInt8)=>Value.int .u8 (b.toNat:Int)) (w.alloc (.cells Lib.zeros24 275)) w.heap.size 0 dk).drewN k) 210 9 5 ⟨w.heap.size,0,none⟩ 24 (Lib.decDigits u) Tryz.underlying210 Tryz.underlying5 Tryz.underlying9 (fun j n=>by
    rw[Lib.row_is_numeral m j n,Lib.add_plain,World.cell?_drewN];exact cell?_putRow (fun(b:UInt8)=>Value.int .u8 (b.toNat:Int)) _ w.heap.size 0 _ dk HH0.out (by rw[m.size,Arv]) j (by rw[m.size];rw[Lib.decDigits_length]at n;exact n))
   rw[Lib.decDigits_length]at h;exact h
  go_wp2
  go_ret
  obtain⟨os,eo⟩:=Lib.fin_at w (.cells Lib.zeros24 275) dk k 0;refine⟨rfl,?_⟩;rw[eo];exact Lib.below_grow _ w (ApC _) k os
theorem An7 : S9 10:=fun u W a b=>by
 have h:=Akc u W a b.tab
 go_enter Tryz.func129,Tryz.ntmps129
 go_wp2_with fail
 refine h.mono ?_;rintro e w' ⟨rfl,c⟩
 go_wp2
 go_ret
 have e:mk (I3 10 u)=⟨(Lib.decDigits u).toArray⟩:=by unfold I3 mk;rw[YR 63 u (by omega)]
 rw[e];exact⟨rfl,c⟩
end Go.Proofs.YtnhamlpcpngafaaGreatDoor
namespace Go.Proofs.YtnhamlpcpngafaaGreatDoor
open Go.RowKit
theorem CG.lt {w:World}(h:CG w):∀ k,k∈EB->k<w.heap.size:=fun k b=>by
 have lt:∀ {g i:Nat} {v:Value},w.cell? ⟨g,i,none⟩=some v->g<w.heap.size:=fun{g i v} h=>by
  rcases Aqj g w.heap.size with a | a
  ·exact a
  ·simp[World.cell?,Array.getElem?_eq_none a]at h
 simp only[EB,Aqk,List.mem_nil_iff,or_false]at b;rcases b with rfl | rfl | rfl
 all_goals first | exact lt (h.tab.cell Vv 0 (by decide)) | exact lt (h.db.cell T5 0 (by decide)) | exact lt h.len.choose_spec
theorem CG.alloc {w:World}(h:CG w)(o:Obj):CG (w.alloc o):=h.congr fun k a=>Below.heap_alloc _ _ _ (h.lt k a)
theorem RP (x:Int)(w:World)(a:bits BinOp.and IntKind.i64 x (wrap64 (x - 1))=0) :
  Calls Tryz.prog 208 #[.int .i64 x] w fun e w'=>e=.returned (.bool true)/\w'=w:=by
 go_enter Tryz.func208,Tryz.ntmps208
 go_wp2
 go_ret
 exact⟨rfl,rfl⟩
set_option maxHeartbeats 1000000 in
theorem QY (x k idx:Nat)(w:World)(c:((x:Int)==0)=false)
  (a:IntKind.u64.wrap (bits BinOp.and IntKind.u64 (x:Int) (IntKind.u64.wrap (-(x:Int)))*285870213051353865) / 288230376151711744=(idx:Int))
  (hi:idx<64) (d:k<64) (b:w.cell? ⟨2,idx,none⟩=some (.int .u8 k)) :
  Calls Tryz.prog 216 #[.int .u64 x] w fun e w'=>e=.returned (.int .i64 k)/\w'=w:=by
 go_enter Tryz.func216,Tryz.ntmps216
 go_wp2_with (simp only[a])
 go_ret
 exact⟨rfl,rfl⟩
theorem WG (x k:Nat)(w:World)(h:Calls Tryz.prog 216 #[.int .u64 x] w fun e w'=>e=.returned (.int .i64 k)/\w'=w) :
  Calls Tryz.prog 209 #[.int .u64 x] w fun e w'=>e=.returned (.int .i64 k)/\w'=w:=by
 go_enter Tryz.func209,Tryz.ntmps209
 go_wp2_with fail
 refine h.mono ?_;rintro e w' ⟨rfl,rfl⟩
 go_wp2
 go_ret
 exact⟨rfl,rfl⟩
theorem JL {cur:Array Value}{ik:Nat}{L:By}{d:UInt8}(b:cur.size=65)(c:ik+L.length=65)(a:∀ j,j<L.length->cur[ik+j]?=some (.int .u8 ((L.getD j 0).toNat:Int)))(h1:1<=ik) :
  ∀ j,j<(d::L).length->(cur.setIfInBounds (ik - 1) (.int .u8 (d.toNat:Int)))[ik - 1+j]?=some (.int .u8 (((d::L).getD j 0).toNat:Int)):=fun j e=>by
 match j with
 | 0=>rw[AqJ,Array.getElem?_setIfInBounds_self_of_lt (by omega)];rfl
 | j+1 =>
  rw[Array.getElem?_setIfInBounds_ne (by omega),show ik - 1+(j+1)=ik+j by omega,a j (by simpa using e)];rfl
theorem N8 (n:Nat)(h:n<16)(a:n<(⟨#[48,49,50,51,52,53,54,55,56,57,97,98,99,100,101,102,103,104,105,106,107,108,109,110,111,112,113,114,115,116,117,118,119,120,121,122]⟩:ByteArray).size):(⟨#[48,49,50,51,52,53,54,55,56,57,97,98,99,100,101,102,103,104,105,106,107,108,109,110,111,112,113,114,115,116,117,118,119,120,121,122]⟩:ByteArray)[n]=GQ n:=by
 match n,h with
 | 0,_=>rfl
 | 1,_=>rfl
 | 2,_=>rfl
 | 3,_=>rfl
 | 4,_=>rfl
 | 5,_=>rfl
 | 6,_=>rfl
 | 7,_=>rfl
 | 8,_=>rfl
 | 9,_=>rfl
 | 10,_=>rfl
 | 11,_=>rfl
 | 12,_=>rfl
 | 13,_=>rfl
 | 14,_=>rfl
 | 15,_=>rfl
 | n+16,h=>exact absurd h (by omega)
theorem AlG (w:World):Calls Tryz.prog 208 #[.int .i64 16] w fun e w'=>e=.returned (.bool true)/\w'=w:=RP 16 w (by kernel_rfl)
theorem Aos (w:World)(a:CG w):Calls Tryz.prog 209 #[.int .u64 16] w fun e w'=>e=.returned (.int .i64 4)/\w'=w :=
 WG 16 4 w (QY 16 4 15 w rfl (by kernel_rfl) (by decide) (by decide) (a.db.cell T5 15 (by decide)))
theorem Aoi (n:Nat)(h:n<1099511627776):bits BinOp.and IntKind.u64 (n:Int) 15=((n % 16:Nat):Int):=by
 have:=bits_and_u64_nat n 15 (by omega) (by omega);rw[show((15:Nat):Int)=15 from rfl]at this;rw[this,show(15:Nat)=2 ^ 4 - 1 from rfl,Arp]
set_option maxHeartbeats 4000000 in
set_option maxRecDepth 100000 in
theorem Amv (u:Nat)(w:World)(K:u<4294967296)(B:CG w) :
  Calls Tryz.prog 197 #[.slice none 0 0,.int .u64 u,.int .i64 16,.bool false,.bool false] w fun e w'=>e=.returned (.tuple #[.slice none 0 0,.string (mk (I3 16 u))])/\Below w.heap.size w w':=by
 go_enter Tryz.func197,Tryz.ntmps197
 go_wp2_with (first | (go_at_call 208;refine(AlG _).mono ?_;rintro e C ⟨rfl,rfl⟩) | (go_at_call 209;refine(Aos _ (B.alloc _)).mono ?_;rintro e C ⟨rfl,rfl⟩))
 have E:(w.alloc (.cells Tryz.zeroCells286 286)).heap[w.heap.size]?=some (.cells Tryz.zeroCells286 286 (0,0)):=heap_alloc_new _ _;have v:Below w.heap.size w (w.alloc (.cells Tryz.zeroCells286 286)):=(Below.refl _ w).alloc (ApC _) _;generalize w.alloc (.cells Tryz.zeroCells286 286)=wa at *
 go_loopw [1,13] (fun uv iv wr=>∃ (n ik:Nat) (L:By) (cur:Array Value),uv=.int .u64 n/\iv=.int .i64 ik/\ik+L.length=65/\n<16 ^ (8 - L.length)/\L.length<=8/\I3 16 u=L8 16 (64 - L.length) n++L/\wr.heap[w.heap.size]?=some (.cells cur 286 (0,0))/\cur.size=65/\(∀ j,j<L.length->cur[ik+j]?=some (.int .u8 ((L.getD j 0).toNat:Int)))/\Below w.heap.size w wr) (fun uv _ _=>(intOf uv).toNat)
 case atStart=>exact⟨u,65,[],_,rfl,rfl,rfl,by show u<16 ^ 8;omega,ApD _,by rw[Aq1];rfl,E,by kernel_rfl,fun j s=>by simp at s,v⟩
 case round =>
  obtain⟨n,ik,L,cur,rfl,rfl,k,t,F,l,a,g,c,f⟩:=hrel;have m:16 ^ (8 - L.length)<=16 ^ 8:=AqT (by decide) (Nat.sub_le _ _);have o:16 ^ 8<=8589934592:=by decide
  have p:n<1099511627776:=ApR t (Ap0 m (Ap0 o (by decide)));clear m o;have hand:=Aoi n p;have q:ik - 1<cur.size:=by omega
  have M:wr.cell? ⟨w.heap.size,ik - 1,none⟩=some (cur.getD (ik - 1) undef):=Am a (by simp[Array.getD,q]);clear q;have N:wr.frozen? ⟨w.heap.size,ik - 1,none⟩=false:=AH a
  by_cases G:16<=n
  ·have x:(16:Int)<=(n:Int):=by omega
   have r:((ik - 1:Nat):Int)<65:=by omega
   have z:n % 16<16:=Nat.mod_lt _ (by omega)
   go_wp2
   rw[N8 (n % 16) (by omega)];have H:L.length<8:=by
    rcases Aqj L.length 8 with h | h
    ·exact h
    ·rw[show 8 - L.length=0 by omega]at t;simp at t;omega
   refine⟨⟨n / 16,ik - 1,GQ (n % 16)::L,_,congrArg _ (by omega),congrArg _ (by omega),by simp;omega,?_,by simp;omega,?_,Bp a _,by simp[g],?_,f.setCell (ApC _) _⟩,by simp[intOf];omega⟩
   ·rw[show 8 - L.length=8 - (L.length+1)+1 by omega,Nat.pow_succ]at t;rw[Aqi];exact Art (by omega)
   ·rw[l,Aqi,show 64 - L.length=64 - (L.length+1)+1 by omega];show(if n<16 then _ else _)++L=_;rw[ApT (by omega),Aqp];rfl
   ·exact JL g k c (by omega)
  ·have x:(n:Int)<16:=by omega
   have r:((ik - 1:Nat):Int)<65:=by omega
   have y:Tryz.prog.arrayLen 286=65:=by kernel_rfl
   have I:∀ W,(Instr.sliceAt 286 (.pointer (some ⟨w.heap.size,0,none⟩)) (some (.int .i64 ((ik:Int) - 1))) none none).run Tryz.prog W=.ok (.slice (some ⟨w.heap.size,ik - 1,none⟩) (L.length+1) (L.length+1)) W:=fun W=>by
    rw[run_sliceAt_array_l W 286 ⟨w.heap.size,0,none⟩ (by kernel_rfl) .i64 _ (by omega) (by rw[y];omega)]
    go_simp
    refine⟨?_,?_⟩<;>omega
   have b:=JL (d:=GQ n) g k c (by omega);have i:(wr.setCell ⟨w.heap.size,ik - 1,none⟩ (.int .u8 ((GQ n).toNat:Int))).heap[w.heap.size]?=_:=Bp a _;have J:(convert 210 9 (.slice (some ⟨w.heap.size,ik - 1,none⟩) (L.length+1) (L.length+1))).run Tryz.prog (wr.setCell ⟨w.heap.size,ik - 1,none⟩ (.int .u8 ((GQ n).toNat:Int)))=.ok (.string ⟨(GQ n::L).toArray⟩) (wr.setCell ⟨w.heap.size,ik - 1,none⟩ (.int .u8 ((GQ n).toNat:Int))) :=
    run_convert_bytes_back (P:=Tryz.prog) _ 210 9 5 ⟨w.heap.size,ik - 1,none⟩ (L.length+1) (GQ n::L) Tryz.underlying210 Tryz.underlying5 Tryz.underlying9 fun j s=>by
     rw[Addr.add_lit,Am i (b j s),show(GQ n::L).getD j 0=(GQ n::L)[j] from by unfold List.getD;rw[ApH s];rfl]
   have A:=N8 n (by omega);have e:L8 16 (64 - L.length) n=[GQ n]:=by
    rw[show 64 - L.length=63 - L.length+1 by omega];show(if n<16 then _ else _)=_;rw[Aqc (by omega)]
   rw[e]at l
   go_wp2
   go_ret2
   exact⟨rfl,f.setCell (ApC _) _⟩
theorem AgZ (u:Nat)(w:World)(a:u<4294967296)(b:CG w) :
  Calls Tryz.prog 167 #[.int .u64 u,.int .i64 16] w fun e w'=>e=.returned (.string (mk (I3 16 u)))/\Below w.heap.size w w':=by
 have h:=Amv u w a b
 go_enter Tryz.func167,Tryz.ntmps167
 go_wp2_with fail
 refine h.mono ?_;rintro e w' ⟨rfl,c⟩
 go_wp2
 go_ret
 exact⟨rfl,c⟩
theorem An6 : S9 16:=fun u W a b=>by
 have h:=AgZ u W a b
 go_enter Tryz.func129,Tryz.ntmps129
 go_wp2_with fail
 refine h.mono ?_;rintro e w' ⟨rfl,c⟩
 go_wp2
 go_ret
 exact⟨rfl,c⟩
theorem AnO (w:World):Calls Tryz.prog 208 #[.int .i64 8] w fun e w'=>e=.returned (.bool true)/\w'=w:=RP 8 w (by kernel_rfl)
theorem Apk (w:World)(a:CG w):Calls Tryz.prog 209 #[.int .u64 8] w fun e w'=>e=.returned (.int .i64 3)/\w'=w :=
 WG 8 3 w (QY 8 3 7 w rfl (by kernel_rfl) (by decide) (by decide) (a.db.cell T5 7 (by decide)))
theorem Ape (n:Nat)(h:n<1099511627776):bits BinOp.and IntKind.u64 (n:Int) 7=((n % 8:Nat):Int):=by
 have:=bits_and_u64_nat n 7 (by omega) (by omega);rw[show((7:Nat):Int)=7 from rfl]at this;rw[this,show(7:Nat)=2 ^ 3 - 1 from rfl,Arp]
set_option maxHeartbeats 4000000 in
set_option maxRecDepth 100000 in
theorem Aoh (u:Nat)(w:World)(K:u<4294967296)(B:CG w) :
  Calls Tryz.prog 197 #[.slice none 0 0,.int .u64 u,.int .i64 8,.bool false,.bool false] w fun e w'=>e=.returned (.tuple #[.slice none 0 0,.string (mk (I3 8 u))])/\Below w.heap.size w w':=by
 go_enter Tryz.func197,Tryz.ntmps197
 go_wp2_with (first | (go_at_call 208;refine(AnO _).mono ?_;rintro e C ⟨rfl,rfl⟩) | (go_at_call 209;refine(Apk _ (B.alloc _)).mono ?_;rintro e C ⟨rfl,rfl⟩))
 have E:(w.alloc (.cells Tryz.zeroCells286 286)).heap[w.heap.size]?=some (.cells Tryz.zeroCells286 286 (0,0)):=heap_alloc_new _ _;have v:Below w.heap.size w (w.alloc (.cells Tryz.zeroCells286 286)):=(Below.refl _ w).alloc (ApC _) _;generalize w.alloc (.cells Tryz.zeroCells286 286)=wa at *
 go_loopw [1,13] (fun uv iv wr=>∃ (n ik:Nat) (L:By) (cur:Array Value),uv=.int .u64 n/\iv=.int .i64 ik/\ik+L.length=65/\n<8 ^ (11 - L.length)/\L.length<=11/\I3 8 u=L8 8 (64 - L.length) n++L/\wr.heap[w.heap.size]?=some (.cells cur 286 (0,0))/\cur.size=65/\(∀ j,j<L.length->cur[ik+j]?=some (.int .u8 ((L.getD j 0).toNat:Int)))/\Below w.heap.size w wr) (fun uv _ _=>(intOf uv).toNat)
 case atStart=>exact⟨u,65,[],_,rfl,rfl,rfl,by show u<8 ^ 11;omega,ApD _,by rw[Aq1];rfl,E,by kernel_rfl,fun j s=>by simp at s,v⟩
 case round =>
  obtain⟨n,ik,L,cur,rfl,rfl,k,t,F,l,a,g,c,f⟩:=hrel;have m:8 ^ (11 - L.length)<=8 ^ 11:=AqT (by decide) (Nat.sub_le _ _);have o:8 ^ 11<=8589934592:=by decide
  have p:n<1099511627776:=ApR t (Ap0 m (Ap0 o (by decide)));clear m o;have hand:=Ape n p;have q:ik - 1<cur.size:=by omega
  have M:wr.cell? ⟨w.heap.size,ik - 1,none⟩=some (cur.getD (ik - 1) undef):=Am a (by simp[Array.getD,q]);clear q;have N:wr.frozen? ⟨w.heap.size,ik - 1,none⟩=false:=AH a
  by_cases G:8<=n
  ·have x:(8:Int)<=(n:Int):=by omega
   have r:((ik - 1:Nat):Int)<65:=by omega
   have z:n % 8<8:=Nat.mod_lt _ (by omega)
   go_wp2
   rw[N8 (n % 8) (by omega)];have H:L.length<11:=by
    rcases Aqj L.length 11 with h | h
    ·exact h
    ·rw[show 11 - L.length=0 by omega]at t;simp at t;omega
   refine⟨⟨n / 8,ik - 1,GQ (n % 8)::L,_,congrArg _ (by omega),congrArg _ (by omega),by simp;omega,?_,by simp;omega,?_,Bp a _,by simp[g],?_,f.setCell (ApC _) _⟩,by simp[intOf];omega⟩
   ·rw[show 11 - L.length=11 - (L.length+1)+1 by omega,Nat.pow_succ]at t;rw[Aqi];exact Art (by omega)
   ·rw[l,Aqi,show 64 - L.length=64 - (L.length+1)+1 by omega];show(if n<8 then _ else _)++L=_;rw[ApT (by omega),Aqp];rfl
   ·exact JL g k c (by omega)
  ·have x:(n:Int)<8:=by omega
   have r:((ik - 1:Nat):Int)<65:=by omega
   have y:Tryz.prog.arrayLen 286=65:=by kernel_rfl
   have I:∀ W,(Instr.sliceAt 286 (.pointer (some ⟨w.heap.size,0,none⟩)) (some (.int .i64 ((ik:Int) - 1))) none none).run Tryz.prog W=.ok (.slice (some ⟨w.heap.size,ik - 1,none⟩) (L.length+1) (L.length+1)) W:=fun W=>by
    rw[run_sliceAt_array_l W 286 ⟨w.heap.size,0,none⟩ (by kernel_rfl) .i64 _ (by omega) (by rw[y];omega)]
    go_simp
    refine⟨?_,?_⟩<;>omega
   have b:=JL (d:=GQ n) g k c (by omega);have i:(wr.setCell ⟨w.heap.size,ik - 1,none⟩ (.int .u8 ((GQ n).toNat:Int))).heap[w.heap.size]?=_:=Bp a _;have J:(convert 210 9 (.slice (some ⟨w.heap.size,ik - 1,none⟩) (L.length+1) (L.length+1))).run Tryz.prog (wr.setCell ⟨w.heap.size,ik - 1,none⟩ (.int .u8 ((GQ n).toNat:Int)))=.ok (.string ⟨(GQ n::L).toArray⟩) (wr.setCell ⟨w.heap.size,ik - 1,none⟩ (.int .u8 ((GQ n).toNat:Int))) :=
    run_convert_bytes_back (P:=Tryz.prog) _ 210 9 5 ⟨w.heap.size,ik - 1,none⟩ (L.length+1) (GQ n::L) Tryz.underlying210 Tryz.underlying5 Tryz.underlying9 fun j s=>by
     rw[Addr.add_lit,Am i (b j s),show(GQ n::L).getD j 0=(GQ n::L)[j] from by unfold List.getD;rw[ApH s];rfl]
   have A:=N8 n (by omega);have e:L8 8 (64 - L.length) n=[GQ n]:=by
    rw[show 64 - L.length=63 - L.length+1 by omega];show(if n<8 then _ else _)=_;rw[Aqc (by omega)]
   rw[e]at l
   go_wp2
   go_ret2
   exact⟨rfl,f.setCell (ApC _) _⟩
theorem Akb (u:Nat)(w:World)(a:u<4294967296)(b:CG w) :
  Calls Tryz.prog 167 #[.int .u64 u,.int .i64 8] w fun e w'=>e=.returned (.string (mk (I3 8 u)))/\Below w.heap.size w w':=by
 have h:=Aoh u w a b
 go_enter Tryz.func167,Tryz.ntmps167
 go_wp2_with fail
 refine h.mono ?_;rintro e w' ⟨rfl,c⟩
 go_wp2
 go_ret
 exact⟨rfl,c⟩
theorem Ao4 : S9 8:=fun u W a b=>by
 have h:=Akb u W a b
 go_enter Tryz.func129,Tryz.ntmps129
 go_wp2_with fail
 refine h.mono ?_;rintro e w' ⟨rfl,c⟩
 go_wp2
 go_ret
 exact⟨rfl,c⟩
theorem Aby {t:ByteArray}{l:List Int}{fz:Bool}(h:t.size<=1048576)(b:∀ n∈l,B33 n):Aj Tryz.prog 94 [] [Bm t,Ad fz l] [] (Bm (Dk t l)):=by
 refine Aj.hand ⟨_,Tryz.func94,rfl,by kernel_rfl⟩ fun w E vs i c hB _ a=>?_
 obtain⟨j,us1,rfl,d,a⟩:=a.cons_inv;obtain⟨k,us2,rfl,e,a⟩:=a.cons_inv;obtain rfl:=a.nil_inv;obtain rfl:=d.sc_inv;obtain⟨ao,cap,rfl,h1,h2,h3⟩:=Amz e;refine(X0 c hB h1 h2 h3 (fun n f=>by have:=b n f;unfold B33 at this;unfold I64;omega) (by omega) fun _=>⟨An7,An6,Ao4⟩).mono ?_;rintro r w' ⟨rfl,g⟩;exact⟨_,rfl,.sc,g⟩
theorem Zc {e:D.Env}(d:AG e.M):∀ (l out:List Int),(∀ x∈out,B33 x)->∀ x∈(JP (Be e) out l).1,B33 x
 | [],out,h=>h
 | a::l,out,h=>by
  have f:JP (Be e) out (a::l)=bif decide ((Be e a).2≠0) then([],(Be e a).2) else JP (Be e) (out++[(Be e a).1]) l:=rfl
  rw[f];cases c:decide ((Be e a).2≠0) with
  | true=>intro x b;cases b
  | false =>
   refine Zc d l _ fun x b=>?_
   rcases Ap1.1 b with b | b
   ·exact h x b
   ·obtain rfl:=Ap4.1 b;exact(Ahf d a (by simpa using c)).1
theorem Zd {e:D.Env}{l:List Int}(b:AG e.M){x:Int}(a:x∈(BQ e l).1):B33 x:=Zc b l [] (fun x a=>by cases a) x a
section
variable {e : D.Env} {w:Wy}
theorem Zz (h:CA e):Aj Tryz.prog 48 [] [.agg (Ae e)] [] (.agg (Ah (Ahk e))):=by
 have hp:=h.ok.pid;have h0:=h.p0;have d:(e.S.Procs.take e.Pid.toNat).length=e.Pid.toNat:=by simp;omega
 have a:VV.le (.sl true e.Pid.toNat 4 fun i=>AF (e.S.Procs.getD i default)) (AI true (e.S.Procs.take e.Pid.toNat)):=by
  show VV.le _ (.sl true (e.S.Procs.take e.Pid.toNat).length 4 fun i=>AF ((e.S.Procs.take e.Pid.toNat).getD i default));rw[d];exact AqD (.inl rfl) fun j f=>AV (by rw[AeL f])
 have c:∀ b,decide (e.S.Alone>=((e.Pid.toNat:Nat):Int))=b->decide (e.Pid<=e.S.Alone)=b:=fun b g=>by rw[← g,Aqe,ApB,ApB];omega
 refine Aq Tryz.func48 (Aei (Ahk e) e) ⟨e.S,Ut h.ok.fit,⟨h0,by omega⟩,fun h1=>⟨trivial,?_⟩,fun h1=>⟨trivial,?_⟩⟩
 ·refine AqH ⟨VV.le_refl _,VV.le_refl _,a,VV.le_refl _,AqV ?_,VV.le_refl _,trivial⟩;show _=Aa (bif decide (e.Pid<=e.S.Alone) then -1 else e.S.Alone);rw[c _ h1]<;>rfl
 ·refine AqH ⟨VV.le_refl _,VV.le_refl _,a,VV.le_refl _,AqV ?_,VV.le_refl _,trivial⟩;show _=Aa (bif decide (e.Pid<=e.S.Alone) then -1 else e.S.Alone);rw[c _ h1]<;>rfl
theorem AiN {l:List D.Process}{t j:Nat}{F:Nat->List VV}{to:Int}(c:t<l.length)(a:j<l.length)(b:∀ i,i<l.length->F i=AF (l.getD i default)) :
  (bif j.beq t then(bif Nat.beq 1 4 then[Aa to] else List.take 1 (F t)++[Aa to]++List.drop 2 (F t)) else F j)=AF ((l.set t { l.getD t default with Loc:=to }).getD j default):=by
 rw[← Rp a,b t c,b j a]
 all_goals rfl
theorem VL (h:CA e)(a:w∈Bt e)(h0:0<=w.Way):Aol e w/\(0<=w.With->Uy e (Dd e w).S w):=by
 obtain⟨g,i,j⟩:=(Wu a).2 h0;obtain⟨_,_,r,_⟩:=j w a;have c:=h.ws (OM g i);have d:Dd e w∈Cz (Cy e) w.Esc:=Av (by omega);have hB:0<=w.With->Uy e (Dd e w).S w/\w.With≠e.Pid/\w.With<e.S.Procs.length:=fun hv=>by
  obtain⟨s,k,f,t,l,n,o,p,q,b⟩:=(AjN a).2 hv;exact⟨⟨⟨⟨h.ok.fits,h.ok.may,h.ok.wf,by show -1<=w.With;omega,f⟩,hv⟩,l,n,o,p,q,b⟩,k,f⟩
 refine⟨⟨c.st _ d,c.to _ d,fun hv=>?_⟩,fun hv=>(hB hv).1⟩;obtain⟨m,n1,n2⟩:=hB hv;exact⟨n1,n2,m.st,m.kB,(m.hB.ws (OM m.b1 m.b2)).to _ (Av (by have:=m.b3;have:=m.b4;omega))⟩
theorem Aj8 (h:CA e)(h0:HH e=0)(f:w∈Bt e):Aj Tryz.prog 32 [] [.agg (Ae e),.agg (AY w)] [] (.tup [.agg (Ah (goE Dk e w).1),Bm (goE Dk e w).2.1,Aa (goE Dk e w).2.2]):=by
 have M:=Lr h;have u:=Ut h.ok.fit;have B:=h.ok.pid;have E:=h.p0;have c:goE Dk e w=bif decide (w.Err≠0) then(Acu,⟨#[]⟩,w.Err) else bif decide (w.Way<0) then(Ahk e,⟨#[]⟩,0)
   else bif decide ((DT Dk e (Dd e w).S w).2.2≠0) then(Acu,⟨#[]⟩,(DT Dk e (Dd e w).S w).2.2) else(L5 e w (DT Dk e (Dd e w).S w).1.S,(DT Dk e (Dd e w).S w).2.1,0):=rfl
 have a:=VL h f;have z:=Wu f;have k:0<=w.Way->e.S.Procs.length<=(DT Dk e (Dd e w).S w).1.S.Procs.length:=fun s=>by
  have g:=(a s).1;exact(YQ (pr:=Dk) h.ok.wf (Dx.1 h.ok.fits) g.st (fun F G=>Xi f s F G) (fun hv=>(g.v hv).2.2.1.t6 (g.v hv).2.2.2.1)).keep.len
 have n:0<=w.Way->Aj Tryz.prog 52 (hsE e) [.bp 0 0,.agg (Au (Dd e w).S),.agg (AY w)] (hsE (DT Dk e (Dd e w).S w).1) (.tup [Bm (DT Dk e (Dd e w).S w).2.1,Aa (DT Dk e (Dd e w).S w).2.2]):=fun s=>by
  have g:=(a s).1.st;exact Aho h.ok g (fun _ hv=>(a s).2 hv) fun _ _=>Aby g.wf.Text fun x H=>Zd h.ok.wf H
 generalize goE Dk e w=r at c ⊢;generalize DT Dk e (Dd e w).S w=y at c n k;refine Aq Tryz.func32 (Ak0 r e w rfl rfl rfl rfl) ⟨HH e,Wm h.ok.wf h.small,fun h1=>?_,fun _=>⟨Bt e,J6 h,decide (w∈Bt e),Wk (by omega),fun b=>?_,fun _=>⟨fun b=>?_,fun o=>⟨fun b=>⟨Ahk e,Zz h,?_⟩,fun s=>?_⟩⟩⟩⟩
 ·rw[h0]at h1;cases h1
 ·rw[Aqb f]at b;cases b
 ·rw[AT]at b;rw[b,Apy]at c;subst c;exact⟨trivial,R3⟩
 ·rw[AT]at o;rw[o,Apw,b,Apy]at c;subst c;exact⟨trivial,VV.le_refl _⟩
 rw[AT]at o;rw[o,Apw,s,Apw]at c;have d:0<=w.Way:=by have:=ApY s;omega
 obtain⟨I,J,K⟩:=z.2 d;obtain⟨_,_,L,_⟩:=K w f;have C:=k d;refine⟨e.S,u,Cy e,KU h,Dd e w,ZJ I J d L,y,n d,fun b=>?_,fun q=>⟨fun b=>?_,fun b=>⟨by omega,?_⟩⟩⟩
 ·rw[AT]at b;rw[show decide (y.2.2≠0)=true from b,Apy]at c;subst c;exact⟨trivial,R3⟩
 ·have hv:0<=w.With:=ApK b;have m:=(a d).2 hv;obtain⟨N,O,_⟩:=(a d).1.v hv;refine⟨Cy (BA e w.With),KU m.hB,Iw e w,ZJ m.b1 m.b2 m.b3 m.b4,by omega,by omega,?_⟩;rw[AT]at q;rw[show decide (y.2.2≠0)=false from q,Apw]at c;subst c;refine⟨trivial,Aq4 ⟨AqH ⟨VV.le_refl _,VV.le_refl _,?_,VV.le_refl _,VV.le_refl _,VV.le_refl _,trivial⟩,VV.le_refl _,VV.le_refl _,trivial⟩⟩;show VV.le (.sl true y.1.S.Procs.length 4 _) (AI true (L5 e w y.1.S).Procs);have hg:(L5 e w y.1.S).Procs=Fi (Fi y.1.S.Procs w.With (Iw e w).To) e.Pid (Dd e w).To:=by
   unfold L5;rw[Aqb hv]<;>rfl
  rw[hg];show VV.le (.sl true y.1.S.Procs.length 4 _) (.sl true (Fi (Fi y.1.S.Procs w.With (Iw e w).To) e.Pid (Dd e w).To).length 4 _);rw[Fh,Fh];refine AqD (.inl rfl) fun j A=>AV ?_
  exact AiN (l:=Fi y.1.S.Procs w.With (Iw e w).To) (t:=e.Pid.toNat) (to:=(Dd e w).To) (by rw[Fh];omega) (by rw[Fh];exact A) fun i hi=>Rp (l:=y.1.S.Procs) (t:=w.With.toNat) (p:={ y.1.S.Procs.getD w.With.toNat default with Loc:=(Iw e w).To }) (by rw[Fh]at hi;exact hi)
 ·have hv:¬ 0<=w.With:=ApY b;rw[AT]at q;rw[show decide (y.2.2≠0)=false from q,Apw]at c;subst c;refine⟨trivial,Aq4 ⟨AqH ⟨VV.le_refl _,VV.le_refl _,?_,VV.le_refl _,VV.le_refl _,VV.le_refl _,trivial⟩,VV.le_refl _,VV.le_refl _,trivial⟩⟩;show VV.le (.sl true y.1.S.Procs.length 4 _) (AI true (L5 e w y.1.S).Procs);have hg:(L5 e w y.1.S).Procs=Fi y.1.S.Procs e.Pid (Dd e w).To:=by
   unfold L5;rw[Ap9 hv]<;>rfl
  rw[hg];show VV.le (.sl true y.1.S.Procs.length 4 _) (.sl true (Fi y.1.S.Procs e.Pid (Dd e w).To).length 4 _);rw[Fh];refine AqD (.inl rfl) fun j A=>AV ?_
  exact Rp (l:=y.1.S.Procs) (t:=e.Pid.toNat) (p:={ y.1.S.Procs.getD e.Pid.toNat default with Loc:=(Dd e w).To }) A
end
structure Gs (m:D.Model) (s:D.State):Prop where
 wf:AG m
 may:G3 m=true
 fits:Fe m s
section
variable {m : D.Model} {s:D.State} {e:D.Env} {w:Wy}
theorem Gs.check (h:Gs m s):Cb m s=0:=by
 unfold Cb;rw[h.may,Dx.2 h.fits]<;>rfl
theorem Gs.fit (h:Gs m s):Fit s:=VP h.may (Dx.2 h.fits)
theorem Gs.small (h:Gs m s):Bq s:=h.fit.small
theorem Gs.pid (h:Gs m s){i:Int}{t:Bool}{a:List Bool}(h0:0<=i/\i<s.Procs.length):CA ⟨m,s,i,t,a⟩/\HH ⟨m,s,i,t,a⟩=0:=by
 refine⟨⟨⟨Dx.2 h.fits,h.may,h.wf,⟨by show -1<=i;omega,h0.2⟩⟩,h0.1⟩,?_⟩;have h1:Cb (D.Env.mk m s i t a).M (D.Env.mk m s i t a).S=0:=h.check;unfold HH;grind
theorem J8 (h0:HH e=0):EN e=(Bt e,0):=by
 unfold EN;rw[h0]<;>rfl
theorem Ab5 (h:CA e)(a:w∈Bt e)(b:(goP e w).2.2=0):Whole e w (goP e w).1:=Aj7 h a (fun h0=>(VL h a h0).1) b
theorem Ue (h:CA e)(a:w∈Bt e)(b:(goP e w).2.2=0):Gs e.M (goP e w).1:=⟨h.ok.wf,h.ok.may,(Ab5 h a b).fits⟩
theorem Mo : ∀ {L:By} {l:List Int},(∀ n∈l,I64 n)->(Cp L l).length<=L.length*64
 | [],_,_=>ApD _
 | [_],_,_=>by show 1<=1*64;omega
 | c::d::r,l,h=>by
  have a:=Mo (L:=d::r) (l:=l) h;have b:=fun(l:List Int) (h:∀ n∈l,I64 n)=>Mo (L:=r) (l:=l) h
  unfold Cp;simp only[Aqi]at a ⊢;cases (!(c==37)) with
  | true=>grind
  | false =>
   rw[Apw];cases (d==37) with
   | true=>grind
   | false =>
    rw[Apw];cases GN d with
    | false=>grind
    | true =>
     rw[Apy];grind [ApM,F3,ApF,Lk,ApP]
theorem Qx (h:CA e)(b:w∈Bt e):(goP e w).2.1.size<=67108864:=by
 have a:(ByteArray.mk #[]).size<=67108864:=by decide
 unfold goP goE;cases decide (w.Err≠0) with
 | true=>exact a
 | false =>
 rw[Apw];cases d:decide (w.Way<0) with
 | true=>exact a
 | false =>
 rw[Apw];cases decide ((DT Dk e (Dd e w).S w).2.2≠0) with
 | true=>exact a
 | false =>
 rw[Apw];have h0:0<=w.Way:=by grind
 have g:=(VL h b h0).1.st;show(DT Dk e (Dd e w).S w).2.1.size<=_;unfold DT;split
 ·grind
 split
 ·exact a
 split
 ·exact a
 split
 ·show(bif decide ((BQ e (Dd e w).S.Args).2≠0) then(⟨#[]⟩:ByteArray) else Dk (Dd e w).S.Text (BQ e (Dd e w).S.Args).1).size<=_;cases decide ((BQ e (Dd e w).S.Args).2≠0) with
  | true=>exact a
  | false =>
   rw[Apw];have h1:=g.wf.Text;have h2:=Mo (L:=bs (Dd e w).S.Text) (l:=(BQ e (Dd e w).S.Args).1) fun x c=>by
    have:=Zd h.ok.wf c;unfold B33 at this;unfold I64;omega
   unfold Dk;grind [Lk,Ll]
 grind
theorem Lz {n:Nat}{g:Gn}(h:g∈C6 e n):∃ i:Nat,i<n/\g=(BA e i,(EN (BA e i)).1):=by
 induction n with
 | zero=>cases h
 | succ n ih =>
  rcases Ap1.1 (show g∈C6 e n++E8 e n from h) with h | h
  ·grind
  ·unfold E8 at h;grind
theorem OI {e:D.Env}:∀ {l:List Gn} {most:Int} {g:Gn},(FR e most l).1=some g->g∈l
 | [],_,_,h=>by cases h
 | x::r,most,g,h=>by
  unfold FR at h;cases c:decide (x.1.Pid=e.S.Alone) with
  | true =>
   grind
  | false =>
   rw[c,Apw]at h;exact ApM _ (OI h)
theorem Ab8 {g:Gn}(h:g∈C0 e):∃ i:Nat,i<e.S.Procs.length/\g=(BA e i,(EN (BA e i)).1):=by
 unfold C0 at h;refine Lz (n:=e.S.Procs.length) ?_;split at h
 ·next b _ a =>
  rw[Ap4.1 h];exact OI (congrArg Prod.fst a)
 grind
theorem MB (h:Gs m s){g:Gn}(hg:g∈En m s):∃ (i:Nat) (t:Bool),i<s.Procs.length/\g=(⟨m,s,i,t,Cg m s s.Procs.length⟩,Bt ⟨m,s,i,t,Cg m s s.Procs.length⟩):=by
 have b:FU m s=Cg m s s.Procs.length:=by
  unfold FU;rw[h.check]<;>rfl
 have c:∀ t,g∈C0 ⟨m,s,0,t,FU m s⟩->∃ (i:Nat) (t:Bool),i<s.Procs.length/\g=(⟨m,s,i,t,Cg m s s.Procs.length⟩,Bt ⟨m,s,i,t,Cg m s s.Procs.length⟩):=by
  intro t hg;obtain⟨i,hi,rfl⟩:=Ab8 hg;have hi:i<s.Procs.length:=hi;refine⟨i,t,hi,?_⟩;rw[b];have:=J8 (h.pid (i:=i) (t:=t) (a:=Cg m s s.Procs.length) ⟨by omega,by omega⟩).2;exact Prod.ext rfl (congrArg Prod.fst this)
 unfold En at hg;grind
theorem He : ∀ {l:List Gn} {p:D.Env × Wy},p∈Cq l->∃ g∈l,p.1=g.1/\p.2∈g.2
 | [],_,h=>by cases h
 | g::r,p,h=>by
  rcases Ap1.1 (show p∈g.2.map (fun w=>(g.1,w))++Cq r from h) with h | h
  ·obtain⟨w,a,rfl⟩:=Aqw.1 h;exact⟨g,ApF,rfl,a⟩
  ·obtain⟨b,h1,h2⟩:=He h;exact⟨b,ApM _ h1,h2⟩
theorem LC (h:Gs m s){p:D.Env × Wy}(hp:p∈C1 m s):p.1.M=m/\p.1.S=s/\CA p.1/\HH p.1=0/\p.2∈Bt p.1:=by
 obtain⟨g,hg,h1,h2⟩:=He hp;obtain⟨i,t,hi,rfl⟩:=MB h hg;have b:=h.pid (i:=i) (t:=t) (a:=Cg m s s.Procs.length) ⟨by omega,by omega⟩;grind
theorem OR {n:Nat}:(C6 e n).length<=n:=by
 induction n with
 | zero=>exact ApC _
 | succ n ih =>
  show(C6 e n++E8 e n).length<=_;rw[ApP];have:(E8 e n).length<=1:=by
   unfold E8;grind
  omega
theorem Ab9 : (C0 e).length<=e.S.Procs.length+1:=by
 unfold C0;grind [Nat.le_succ_of_le,Ap0,List.length_filter_le,OR]
theorem TR {K:Nat}:∀ {l:List Gn},(∀ g∈l,g.2.length<=K)->(Cq l).length<=l.length*K
 | [],_=>ApD _
 | g::r,h=>by
  show(g.2.map (fun w=>(g.1,w))++Cq r).length<=_;have h1:=h g ApF;have h2:=TR (l:=r) fun x a=>h x (ApM _ a)
  rw[ApP,AqL,Aqi,Nat.succ_mul];omega
theorem Sb (h:Gs m s):(En m s).length<=17:=by
 have hp:=h.fits.pl;have h1:=fun t=>Ab9 (e:=⟨m,s,0,t,FU m s⟩)
 have h2:∀ t,(C0 ⟨m,s,0,t,FU m s⟩).length<=17:=(by grind);unfold En;grind
theorem Uo (h:Gs m s):(C1 m s).length<=285230080:=by
 have h1:=Sb h;have h2:=TR (K:=16778240) (l:=En m s) fun g hg=>by
  obtain⟨i,t,hi,rfl⟩:=MB h hg;exact Lr (h.pid (i:=i) (t:=t) (a:=Cg m s s.Procs.length) ⟨by omega,by omega⟩).1
 have h3:=ApS 16778240 h1;unfold C1;omega
end
section
variable {m : D.Model} {s:D.State} {e:D.Env} {w:Wy}
theorem Lq {pid:Int}(h:(Cx m s pid).2=true):0<=pid/\pid<s.Procs.length:=by
 unfold Cx at h;grind
theorem NU {pid:Int}{k:Nat}{t:ByteArray}:onS m pid (k+1) s t=bif !(Cx m s pid).2||!(Cx m s pid).1.Dstep then(s,t,0) else
  match(EN ⟨m,s,pid,false,[]⟩).1.find? fun w=>decide (w.With<0) with
  | none=>(CU,noT,53)
  | some w=>bif decide ((goP ⟨m,s,pid,false,[]⟩ w).2.2≠0) then(CU,noT,(goP ⟨m,s,pid,false,[]⟩ w).2.2)
   else onS m pid k (goP ⟨m,s,pid,false,[]⟩ w).1 (t++(goP ⟨m,s,pid,false,[]⟩ w).2.1):=rfl
theorem Vp {pid:Int}:∀ {k:Nat} {s:D.State} {t:ByteArray},Gs m s->((onS m pid k s t).2.2=0->Gs m (onS m pid k s t).1)/\(onS m pid k s t).2.1.size<=t.size+k*67108864
 | 0,s,t,h=>by
  have i:onS m pid 0 s t=bif !(Cx m s pid).2||!(Cx m s pid).1.Dstep then(s,t,0) else(CU,noT,53):=rfl
  rw[i];cases (!(Cx m s pid).2||!(Cx m s pid).1.Dstep) with
  | true=>grind
  | false=>exact⟨(by grind),ApD _⟩
 | k+1,s,t,h=>by
  rw[NU];cases c:(!(Cx m s pid).2||!(Cx m s pid).1.Dstep) with
  | true=>grind
  | false =>
  rw[Apw];simp only[ApN,Arm]at c;obtain⟨f,j⟩:=h.pid (t:=false) (a:=[]) (Lq c.1);rw[J8 j];cases l:(Bt ⟨m,s,pid,false,[]⟩).find? fun w=>decide (w.With<0) with
  | none=>exact⟨(by grind),ApD _⟩
  | some w =>
   have d:=List.mem_of_find?_eq_some l;show((bif decide ((goP ⟨m,s,pid,false,[]⟩ w).2.2≠0) then(CU,noT,(goP ⟨m,s,pid,false,[]⟩ w).2.2) else onS m pid k (goP ⟨m,s,pid,false,[]⟩ w).1 (t++(goP ⟨m,s,pid,false,[]⟩ w).2.1)).2.2=0->Gs m (bif decide ((goP ⟨m,s,pid,false,[]⟩ w).2.2≠0) then(CU,noT,(goP ⟨m,s,pid,false,[]⟩ w).2.2) else onS m pid k (goP ⟨m,s,pid,false,[]⟩ w).1 (t++(goP ⟨m,s,pid,false,[]⟩ w).2.1)).1) /\
    (bif decide ((goP ⟨m,s,pid,false,[]⟩ w).2.2≠0) then(CU,noT,(goP ⟨m,s,pid,false,[]⟩ w).2.2) else onS m pid k (goP ⟨m,s,pid,false,[]⟩ w).1 (t++(goP ⟨m,s,pid,false,[]⟩ w).2.1)).2.1.size<=_
   cases g:decide ((goP ⟨m,s,pid,false,[]⟩ w).2.2≠0) with
   | true=>exact⟨fun h=>absurd h (ApK g),ApD _⟩
   | false =>
    rw[Apw];have n:(goP ⟨m,s,pid,false,[]⟩ w).2.2=0:=by simpa using g
    have o:=Qx f d;obtain⟨a,b⟩:=Vp (k:=k) (pid:=pid) (t:=t++(goP ⟨m,s,pid,false,[]⟩ w).2.1) (Ue f d n);grind
theorem SJ {pid:Int}(h:Gs m s):Gs m (DV m s pid):=by
 unfold DV;cases c:((Cx m s pid).2&&(Cx m s pid).1.Atomic) with
 | false=>exact h
 | true =>
  simp only[Apv]at c;have hp:=Lq c.1;have f:=h.fits;exact⟨h.wf,h.may,⟨f.g,f.cl,f.pl,f.l,⟨by show -1<=pid;omega,hp.2⟩,f.c,f.p,f.k⟩⟩
theorem AdH (h:Gs m s):Gs m { s with Alone:=-1 }:=by
 have f:=h.fits;have:=f.a;exact⟨h.wf,h.may,⟨f.g,f.cl,f.pl,f.l,(by grind),f.c,f.p,f.k⟩⟩
structure Apf (m:D.Model) (n:Nx):Prop where
 gs:n.Err=0->Gs m n.State
 text:n.Text.size<=13488881664
theorem Alg (h:CA e)(c:w∈Bt e):Apf e.M (DF e w):=by
 unfold DF;cases d:decide ((goP e w).2.2≠0) with
 | true=>exact⟨fun h=>absurd h (ApK d),ApD _⟩
 | false =>
 rw[Apw];have g:(goP e w).2.2=0:=by simpa using d
 obtain⟨a,b⟩:=Vp (pid:=e.Pid) (k:=200) (t:=noT) (Ue h c g);cases f:decide ((onS e.M e.Pid 200 (goP e w).1 noT).2.2≠0) with
 | true=>exact⟨fun h=>absurd h (ApK f),ApD _⟩
 | false =>
 rw[Apw];have i:=Qx h c;refine⟨fun _=>SJ (SJ (AdH (a (by simpa using f)))),?_⟩;show((goP e w).2.1++(onS e.M e.Pid 200 (goP e w).1 noT).2.1).size<=_;rw[ByteArray.size_append];have:noT.size=0:=rfl;omega
theorem K7 (h:Gs m s):(DW m s).2=0/\(DW m s).1.length<=285230080/\∀ n∈(DW m s).1,Apf m n:=by
 unfold DW;rw[h.check];refine⟨rfl,?_,fun n a=>?_⟩
 ·grind [AqL,Uo]
 ·obtain⟨p,hp,rfl⟩:=Aqw.1 (show n∈(C1 m s).map fun p=>DF p.1 p.2 from a);grind [LC,Alg]
end
section
variable {m : D.Model} {s:D.State} {e:D.Env} {w:Wy}
theorem TS {pid:Int}:∀ {k:Nat} {s:D.State} {t:ByteArray},Gs m s->(onS m pid k s t).2.2=0->(onS m pid k s t).1.Claim=s.Claim
 | 0,s,t,h,hz=>by
  have j:onS m pid 0 s t=bif !(Cx m s pid).2||!(Cx m s pid).1.Dstep then(s,t,0) else(CU,noT,53):=rfl
  grind
 | k+1,s,t,h,hz=>by
  rw[NU]at hz ⊢;cases c:(!(Cx m s pid).2||!(Cx m s pid).1.Dstep) with
  | true=>rfl
  | false =>
  rw[c,Apw]at hz;rw[Apw];simp only[ApN,Arm]at c;obtain⟨d,i⟩:=h.pid (t:=false) (a:=[]) (Lq c.1);rw[J8 i]at hz ⊢;cases f:(Bt ⟨m,s,pid,false,[]⟩).find? fun w=>decide (w.With<0) with
  | none=>grind
  | some w =>
   have b:=List.mem_of_find?_eq_some f;simp only[f]at hz ⊢;cases g:decide ((goP ⟨m,s,pid,false,[]⟩ w).2.2≠0) with
   | true=>grind
   | false =>
    rw[g,Apw]at hz;have h0:(goP ⟨m,s,pid,false,[]⟩ w).2.2=0:=by simpa using g
    rw[Apw,TS (Ue d b h0) hz];exact(Ab5 d b h0).claim
theorem Ov : (DF e w).Move=Ms e w:=by
 unfold DF;grind
theorem PQ {pid:Int}:(DV m s pid).Claim=s.Claim:=by
 unfold DV;grind
theorem Z8 (h:CA e)(a:w∈Bt e)(b:(DF e w).Err=0):(DF e w).State.Claim=e.S.Claim:=by
 unfold DF at b ⊢;cases c:decide ((goP e w).2.2≠0) with
 | true=>grind
 | false =>
 rw[c,Apw]at b;rw[Apw];have h0:(goP e w).2.2=0:=by simpa using c
 cases d:decide ((onS e.M e.Pid 200 (goP e w).1 noT).2.2≠0) with
 | true=>grind
 | false =>
 rw[Apw];show(DV _ (DV _ _ _) _).Claim=_;rw[PQ,PQ];exact(TS (Ue h a h0) (by simpa using d)).trans (Ab5 h a h0).claim
theorem Aii (a:(DF e w).Err≠0):(DF e w).State=CU/\(DF e w).Text=noT:=by
 unfold DF at a ⊢;grind
theorem N1 : ∀ {n:Nat},(C6 e n).Pairwise fun a b=>a.1.Pid<b.1.Pid
 | 0=>List.Pairwise.nil
 | n+1=>by
  show(C6 e n++E8 e n).Pairwise _;refine List.pairwise_append.2 ⟨N1,?_,fun a f b d=>?_⟩
  ·unfold E8;cases decide (0<(EN (BA e n)).1.length)<;>simp
  ·obtain⟨i,hi,rfl⟩:=Lz f;unfold E8 at d;cases c:decide (0<(EN (BA e n)).1.length) with
   | false=>rw[c]at d;cases d
   | true =>
    rw[c]at d;rw[Ap4.1 d];show(i:Int)<(n:Int);omega
theorem Yz : ∀ {n i:Nat},i<n->(EN (BA e i)).1≠[]->(BA e i,(EN (BA e i)).1)∈C6 e n
 | n+1,i,hi,h=>by
  show _∈C6 e n++E8 e n;rcases AqO.1 hi with hi | rfl
  ·exact List.mem_append_left _ (Yz hi h)
  ·refine List.mem_append_right _ ?_;unfold E8;grind [Aqb,List.length_pos_iff,Ap4]
theorem R9 {n:Nat}{g:Gn}(h:g∈C6 e n):g.2≠[]:=by
 induction n with
 | zero=>cases h
 | succ n ih =>
  rcases Ap1.1 (show g∈C6 e n++E8 e n from h) with h | h
  ·exact ih h
  ·unfold E8 at h;grind
theorem Mt : ∀ {l:List Gn} {most:Int},(FR e most l).1=none->(∀ g∈l,g.1.Pid≠e.S.Alone/\Eo e g<=(FR e most l).2)/\most<=(FR e most l).2/\((FR e most l).2=most∨∃ g∈l,Eo e g=(FR e most l).2)
 | [],most,_=>⟨fun _ hg=>absurd hg List.not_mem_nil,Aq7 _,.inl rfl⟩
 | x::r,most,h=>by
  unfold FR at h ⊢;cases c:decide (x.1.Pid=e.S.Alone) with
  | true=>grind
  | false =>
   rw[c,Apw]at h;rw[Apw];obtain⟨h1,h2,h3⟩:=Mt h;grind
theorem TV : ∀ {l:List Gn} {most:Int} {g:Gn},(FR e most l).1=some g->g.1.Pid=e.S.Alone
 | x::r,most,g,h=>by
  unfold FR at h;cases c:decide (x.1.Pid=e.S.Alone) with
  | true =>
   grind
  | false =>
   rw[c,Apw]at h;exact TV h
structure Acs (e:D.Env) (l:List Gn):Prop where
 sorted:l.Pairwise fun a b=>a.1.Pid<b.1.Pid
 prio:∀ a∈l,∀ b∈l,Eo e a=Eo e b
 ways:∀ a∈l,a.2≠[]
theorem Ag8 : Acs e (C0 e):=by
 unfold C0;split
 ·next g _ d =>
  refine⟨List.pairwise_singleton ..,fun a c b f=>?_,fun a c=>?_⟩
  ·grind
  ·rw[Ap4.1 c];exact R9 (OI (congrArg Prod.fst d))
 ·refine⟨N1.filter _,fun a c b f=>?_,fun a c=>R9 (List.mem_filter.1 c).1⟩;grind
theorem YE (hp:∀ g∈C6 e e.S.Procs.length,0<Eo e g)(h:C6 e e.S.Procs.length≠[]):C0 e≠[]:=by
 unfold C0;split
 ·simp
 ·next most b =>
  obtain⟨h1,h2,h3⟩:=Mt (e:=e) (l:=C6 e e.S.Procs.length) (most:=0) (congrArg Prod.fst b);rw[show(FR e 0 (C6 e e.S.Procs.length)).2=most from congrArg Prod.snd b]at h1 h2 h3;obtain⟨g,hg⟩:=List.exists_mem_of_ne_nil _ h;have:=hp g hg;have:=(h1 g hg).2;obtain⟨c,a,h3⟩:=h3.resolve_left (by omega);exact List.ne_nil_of_mem (List.mem_filter.2 ⟨a,Aqb h3⟩)
theorem VQ {g:Gn}(hg:g∈C6 e e.S.Procs.length)(c:g.1.Pid=e.S.Alone):∃ a,C0 e=[a]/\a.1.Pid=e.S.Alone:=by
 unfold C0;split
 ·next a _ b=>exact⟨a,rfl,TV (congrArg Prod.fst b)⟩
 ·next most b=>exact absurd c ((Mt (e:=e) (l:=C6 e e.S.Procs.length) (most:=0) (congrArg Prod.fst b)).1 g hg).1
theorem NR : ∀ {l:List Gn},(l.Pairwise fun a b=>a.1.Pid<b.1.Pid)->(Cq l).Pairwise fun a b=>a.1.Pid<=b.1.Pid
 | [],_=>List.Pairwise.nil
 | g::r,h=>by
  obtain⟨h1,h2⟩:=List.pairwise_cons.1 h;show(g.2.map (fun w=>(g.1,w))++Cq r).Pairwise _;refine List.pairwise_append.2 ⟨?_,NR h2,fun a c b d=>?_⟩
  ·exact List.pairwise_map.2 (List.pairwise_of_forall fun _ _=>Aq7 _)
  grind [Aqw,He,Int.le_of_lt]
theorem OU : Acs ⟨m,s,0,false,[]⟩ (En m s):=by
 have h:∀ t,Acs ⟨m,s,0,false,[]⟩ (C0 ⟨m,s,0,t,FU m s⟩):=fun t=>by
  have:=Ag8 (e:=⟨m,s,0,t,FU m s⟩);exact⟨this.sorted,this.prio,this.ways⟩
 unfold En;grind
abbrev Md (m:D.Model)(s:D.State)(i:Nat):List Wy:=Bt ⟨m,s,i,false,Cg m s s.Procs.length⟩
theorem Aoj (h:Gs m s):FU m s=Cg m s s.Procs.length:=by
 unfold FU;rw[h.check]<;>rfl
theorem AdE (h:Gs m s){i:Nat}(hi:i<s.Procs.length)(b:Md m s i≠[]):(BA ⟨m,s,0,false,FU m s⟩ i,Md m s i)∈C6 ⟨m,s,0,false,FU m s⟩ s.Procs.length:=by
 have c:(EN (BA ⟨m,s,0,false,FU m s⟩ i)).1=Md m s i:=by
  have:=J8 (h.pid (i:=i) (t:=false) (a:=Cg m s s.Procs.length) ⟨by omega,by omega⟩).2;rw[Aoj h];exact congrArg Prod.fst this
 grind [Yz]
theorem AjA (h:Gs m s){t:Bool}{a:List Bool}:∀ g∈C6 ⟨m,s,0,t,a⟩ s.Procs.length,0<Eo ⟨m,s,0,t,a⟩ g:=fun g hg=>by
 obtain⟨i,hi,rfl⟩:=Lz hg;have hp:=Eb (h.fits.p _ (Av (d:=default) hi));have b:=(Gb (Dp h.may).2.1 (s.Procs.getD i default).Type_.toNat (by omega)).1;unfold Em at b;simp only[Apv,ApB]at b;have c:Eo ⟨m,s,0,t,a⟩ (BA ⟨m,s,0,t,a⟩ i,(EN (BA ⟨m,s,0,t,a⟩ i)).1)=(s.Procs.getD i default).Prio:=rfl;rw[c,hp.2.2.2.2.1];unfold A3;omega
theorem AjE {l:List Gn}(h:l≠[])(b:∀ g∈l,g.2≠[]):Cq l≠[]:=by
 cases l with
 | nil=>exact absurd rfl h
 | cons g r =>
  intro a;have:=List.append_eq_nil_iff.1 (show g.2.map (fun w=>(g.1,w))++Cq r=[] from a);simp_all
theorem Ui (h:Gs m s){i:Nat}(hi:i<s.Procs.length)(a:Md m s i≠[]):En m s=C0 ⟨m,s,0,false,FU m s⟩/\En m s≠[]:=by
 have b:=YE (AjA h) (List.ne_nil_of_mem (AdE h hi a));unfold En;grind [Aqb,List.length_pos_iff]
def Adg (s:D.State)(n:Nx):Int:=(s.Procs.getD n.Move.Pid.toNat default).Prio
structure Am1 (m:D.Model) (s:D.State) (l:List Nx):Prop where
 alone:∀ i:Nat,i<s.Procs.length->Md m s i≠[]->(i:Int)=s.Alone->∀ x∈l,x.Move.Pid=i
 some:∀ i:Nat,i<s.Procs.length->Md m s i≠[]->l≠[]
 pid:∀ x∈l,0<=x.Move.Pid/\x.Move.Pid<s.Procs.length/\x.Move.Claim=-1
 sorted:l.Pairwise fun a b=>a.Move.Pid<=b.Move.Pid
 prio:∀ a∈l,∀ b∈l,Adg s a=Adg s b
 fine:∀ x∈l,x.Err=0->C8 m x.State=true/\x.State.Claim=s.Claim
 bad:∀ x∈l,x.Err≠0->x.State=CU/\x.Text=noT
theorem AeW (h:Gs m s):Am1 m s (DW m s).1:=by
 have t:(DW m s).1=(C1 m s).map fun p=>DF p.1 p.2:=by
  unfold DW;rw[h.check]<;>rfl
 have c:∀ p∈C1 m s,(DF p.1 p.2).Move.Pid=p.1.Pid/\(DF p.1 p.2).Move.Claim=-1:=fun p _=>by rw[Ov];exact⟨rfl,rfl⟩
 have d:=K7 h;rw[t]at d ⊢;refine⟨fun i hi n o x f=>?_,fun i hi n=>?_,fun x f=>?_,?_,fun a o b u=>?_,fun x f r=>?_,fun x f r=>?_⟩
 ·obtain⟨p,hp,rfl⟩:=Aqw.1 f;obtain⟨B,v,y⟩:=VQ (AdE h hi n) o;obtain⟨g,hg,h1,h2⟩:=He hp;grind [Ui,Ap4]
 ·intro z;exact AjE (Ui h hi n).2 OU.ways (List.map_eq_nil_iff.1 z)
 ·obtain⟨p,hp,rfl⟩:=Aqw.1 f;obtain⟨h1,h2,h3,h4,h5⟩:=LC h hp;have a:=h3.p0;have b:=h3.ok.pid.2;grind
 ·refine List.pairwise_map.2 ((NR (l:=En m s) OU.sorted).imp fun{a b} h=>?_);rw[Ov,Ov];exact h
 ·obtain⟨p,hp,rfl⟩:=Aqw.1 o;obtain⟨q,j,rfl⟩:=Aqw.1 u;unfold Adg;rw[(c p hp).1,(c q j).1];obtain⟨g,hg,h1,_⟩:=He hp;obtain⟨k,A,h2,_⟩:=He j;rw[h1,h2];exact OU.prio g hg k A
 ·obtain⟨p,hp,rfl⟩:=Aqw.1 f;obtain⟨h1,h2,h3,h4,h5⟩:=LC h hp;have:=Z8 h3 h5 r;rw[h2]at this;exact⟨Dx.2 ((d.2.2 _ f).gs r).fits,this⟩
 grind [Aqw,Aii]
end
def AlP (n:Int):D.Expr:=⟨1,n,-1,-1,-1,⟨0,0,0,0,[]⟩,[],[]⟩
def Uf : D.Expr:=⟨2,0,-1,-1,-1,⟨0,0,-1,-1,[]⟩,[],[]⟩
def App : D.Trans:=⟨⟨2,3,2,0,[],[],ByteArray.empty⟩,1,0⟩
def AoY : D.Proc:=⟨ByteArray.empty,0,[],[],[⟨[App],[],false,false,false,false,false⟩,⟨[],[],false,false,false,false,false⟩],0,1,2,1,-1⟩
def LS : D.Model:=⟨[⟨8,false⟩],[0],[],[],[AoY],-1,[AlP 1,Uf,⟨9,0,1,0,-1,⟨0,0,0,0,[]⟩,[],[]⟩,Uf]⟩
def VD : D.State:=⟨[0],[],[⟨0,0,1,[]⟩,⟨0,0,1,[]⟩],0,-1,-1⟩
def R5 : List Nx:=(DW LS VD).1
def AlY : List Nx:=(DW LS (R5.getD 0 default).State).1
theorem AlR : G3 LS=true:=by kernel_rfl
theorem Akg : C8 LS VD=true:=by kernel_rfl
theorem VB : R5.length=2:=by kernel_rfl
theorem An0 : (R5.getD 0 default).Move.Pid=0:=by kernel_rfl
theorem AnZ : (R5.getD 1 default).Move.Pid=1:=by kernel_rfl
theorem An2 : (R5.getD 0 default).Err=0:=by kernel_rfl
theorem An1 : (R5.getD 0 default).State.Globals=[1]:=by kernel_rfl
theorem AjX : AlY.length=1:=by kernel_rfl
theorem AlX : (AlY.getD 0 default).Move.Pid=1:=by kernel_rfl
theorem GG {α:Type}{P:α->Prop}:([]:List α).length<=1048576/\∀ y∈([]:List α),P y:=⟨ApD _,fun _ a=>absurd a List.not_mem_nil⟩
theorem Ak4 : GU AoY:=by
 refine⟨ApD _,rfl,GG,GG,⟨by decide,fun y a=>?_⟩,rfl,rfl,rfl,rfl,rfl⟩;rcases Aqk.1 a with rfl | a
 ·refine⟨⟨by decide,fun y a=>?_⟩,GG,trivial,trivial,trivial,trivial,trivial⟩;obtain rfl:=Ap4.1 a;exact⟨⟨rfl,rfl,rfl,rfl,GG,GG,ApD _⟩,rfl,rfl⟩
 ·obtain rfl:=Ap4.1 a;exact⟨GG,GG,trivial,trivial,trivial,trivial,trivial⟩
theorem Ak5 : AG LS:=by
 refine⟨⟨by decide,fun y a=>?_⟩,⟨by decide,fun y a=>?_⟩,GG,GG,⟨by decide,fun y a=>?_⟩,rfl,⟨by decide,fun y a=>?_⟩⟩
 ·obtain rfl:=Ap4.1 a;exact⟨rfl,trivial⟩
 ·obtain rfl:=Ap4.1 a;rfl
 ·obtain rfl:=Ap4.1 a;exact Ak4
 ·have:y=AlP 1∨y=Uf∨y=⟨9,0,1,0,-1,⟨0,0,0,0,[]⟩,[],[]⟩:=by
   have a:y∈[AlP 1,Uf,⟨9,0,1,0,-1,⟨0,0,0,0,[]⟩,[],[]⟩,Uf]:=a;grind
  rcases this with rfl | rfl | rfl<;>exact⟨rfl,rfl,rfl,rfl,rfl,⟨rfl,rfl,rfl,rfl,GG⟩,GG,GG⟩
theorem VJ : Gs LS VD:=⟨Ak5,AlR,Dx.1 Akg⟩
theorem Al4 : Gs LS (R5.getD 0 default).State:=((K7 VJ).2.2 _ (Av (d:=default) (by rw[show(DW LS VD).1.length=2 from VB];decide))).gs An2
theorem Ahe : C1 LS VD≠[]:=by
 intro h;have:=VB;unfold R5 DW at this;rw[VJ.check,h]at this;cases this
set_option maxRecDepth 100000
theorem AlH (r:D.Loc × Bool)(m:D.Model)(s:D.State)(pid:Int){z1}(a:z1=s.Procs.getD pid.toNat default){z2}(b:z2=VV.tup [VV.agg (A8 r.fst),Ac r.snd]):(fc Da AQ Tryz.f25 [] (.tup [.agg (A8 r.1),Ac r.2])).goal (St.init [] [.agg (Af m),.agg (Ah s),Aa pid]) =
  (BB (bif decide (pid<0) then true else decide (pid>=(↑s.Procs.length:Int))) (LQ (.tup [.agg [.nl,.nl,Ac false,Ac false,Ac false,Ac false,Ac false],Ac false]) z2) (inX pid s.Procs.length/\inX z1.Type_ m.Procs.length/\inX pid s.Procs.length/\inX z1.Loc (m.Procs.getD z1.Type_.toNat default).Locs.length/\LQ (.tup [.agg (A8 ((m.Procs.getD z1.Type_.toNat default).Locs.getD z1.Loc.toNat default)),Ac true]) z2)):=by subst a b;kernel_rfl
theorem Ali (r:D.State × ByteArray × Int)(m:D.Model)(s:D.State)(pid:Int):(fc Da Oh Tryz.f33 [] (.tup [.agg (Ah r.1),Bm r.2.1,Aa r.2.2])).goal (St.init [] [.agg (Af m),.agg (Ah s),Aa pid]) =
  (Ax (fc Da Oh Tryz.f33 [] (VV.tup [VV.agg (Ah r.fst),Bm r.snd.fst,Aa r.snd.snd])) [1,1,1,0] (AeX m s pid (⟨#[]⟩:ByteArray) (0:Int))):=by kernel_rfl
theorem Aiq (r:Nx)(e:D.Env)(w:Wy){c}(d:c=[Aa e.Pid,Aa w.Esc,Aa w.Way,Aa w.With,Aa w.WithEsc,Aa w.WithWay,Aa (-1),VV.nl,VV.nl,VV.nl,Aa 0,Aa 0,Aa 0,Aa 0,Bm ByteArray.empty]){f}(g:f=[Aa 0,Aa 0,Aa 0,Aa 0,Aa 0,Aa 0,Aa 0,VV.nl,VV.nl,VV.nl,Aa 0,Aa 0,Aa 0,Aa 0,Bm ByteArray.empty]){b}(h:b=VV.agg (DQ r)):(fc Da KM Tryz.f15 [] (.agg (DQ r))).goal (St.init [] [.agg (Ae e),.agg (AY w)]) =
  (∃ (y:D.State × ByteArray × Int),VC 32 [.agg (Ae e),.agg (AY w)] (.tup [.agg (Ah y.fst),Bm y.snd.fst,Aa y.snd.snd])/\BB (y.snd.snd==0) (∃ (a:D.State × ByteArray × Int),VC 33 [.agg (Af e.M),.agg (Ah y.fst),Aa e.Pid] (.tup [.agg (Ah a.fst),Bm a.snd.fst,Aa a.snd.snd])/\(↑(y.snd.fst.size+a.snd.fst.size):Int)<=(9223372036854775807:Int)/\BB (a.snd.snd != 0) (LQ (.agg [Aa e.Pid,Aa w.Esc,Aa w.Way,Aa w.With,Aa w.WithEsc,Aa w.WithWay,Aa (-1),.nl,.nl,.nl,Aa 0,Aa 0,Aa 0,Aa a.snd.snd,Bm ByteArray.empty]) b) (Ax (fc Da KM Tryz.f15 [] b) [1,1,1,1,1,1,0,1,0] (Ay [(2,.bp 0 0),(4,.bp 1 0),(5,.bp 2 0),(6,.bp 3 0),(7,Bm (y.snd.fst++a.snd.fst)),(60,.ow 4 0 2),(61,Aa (↑2:Int)),(62,Aa 0)] [.box (Ae e),.box f,.box c,.box [Ad true a.fst.Globals,A0 true a.fst.Chans,AI true a.fst.Procs,Aa a.fst.Last,Aa (-1),Aa a.fst.Claim],.arr true 0 2 1 fun(i:Nat)=>List.take 1 (List.drop (i*1) [Aa e.Pid,Aa w.With])]))) (BB (y.snd.snd != 0) (LQ (.agg [Aa e.Pid,Aa w.Esc,Aa w.Way,Aa w.With,Aa w.WithEsc,Aa w.WithWay,Aa (-1),.nl,.nl,.nl,Aa 0,Aa 0,Aa 0,Aa y.snd.snd,Bm ByteArray.empty]) b) (Ax (fc Da KM Tryz.f15 [] b) [1,1,1,1,1,1,0,1,0] (Ay [(2,.bp 0 0),(4,.bp 1 0),(5,.bp 2 0),(6,.bp 3 0),(7,Bm y.snd.fst),(60,.ow 4 0 2),(61,Aa (↑2:Int)),(62,Aa 0)] [.box (Ae e),.box f,.box c,.box [Ad true y.fst.Globals,A0 true y.fst.Chans,AI true y.fst.Procs,Aa y.fst.Last,Aa (-1),Aa y.fst.Claim],.arr true 0 2 1 fun(i:Nat)=>List.take 1 (List.drop (i*1) [Aa e.Pid,Aa w.With])])))):=by subst d g h;kernel_rfl
theorem AiW (r:List Gn)(e:D.Env):(fc Da SE Tryz.f45 [] (BU true r)).goal (St.init [] [.agg (Ae e)]) =
  (Ax (fc Da SE Tryz.f45 [] (BU true r)) [1,1,0,1,0] (Ay [(1,VV.bp 0 0),(3,VV.nl),(11,Aa (↑e.S.Procs.length:Int)),(12,Aa 0)] [Ob.box (Ae e)])):=by kernel_rfl
theorem Akj (r:List Gn)(e:D.Env):(fc Da KP Tryz.f31 [] (BU true r)).goal (St.init [] [.agg (Ae e)]) =
  (∃ (y:List Gn),VC 45 [VV.agg (Ae e)] (BU true y)/\Ax (fc Da KP Tryz.f31 [] (BU true r)) [1,1,1,0,1,0] (AcZ e y (0:Int) (0:Int))):=by kernel_rfl
theorem Amf (m:D.Model)(s:D.State)(l:Nat)(K:Exit->St->Prop):((fc Da AQ Tryz.f29 [] (.tup [])).piece (hdC 3 ((fc Da AQ Tryz.f29 [] (.tup [])).sub [])) [0,30,31,32] K).goal (St.init [.box (Af m),.box (Ah s)] [yV l,.bp 0 0,.bp 1 0]) =
  (∃ (y:List Bool × Int),VC 30 [VV.agg (Af m),VV.agg (Ah s)] (VV.tup [A6 true y.fst,Aa y.snd])/\∃ (a:List Gn),VC 31 [VV.agg [AC true m.Globals,Ad true m.Init,Bn true m.Shapes,Ad true m.Chans,BE true m.Procs,Aa m.Claim,BL true m.Exprs,Ad true s.Globals,A0 true s.Chans,AI true s.Procs,Aa s.Last,Aa s.Alone,Aa s.Claim,Aa 0,Ac false,A6 true y.fst]] (BU true a)/\BB ((↑a.length:Int)==0) (∃ (b:List Gn),VC 31 [VV.agg [AC true m.Globals,Ad true m.Init,Bn true m.Shapes,Ad true m.Chans,BE true m.Procs,Aa m.Claim,BL true m.Exprs,Ad true s.Globals,A0 true s.Chans,AI true s.Procs,Aa s.Last,Aa s.Alone,Aa s.Claim,Aa 0,Ac true,A6 true y.fst]] (BU true b)/\K Exit.normal (Rj l b (0:Int))) (K Exit.normal (Rj l a (0:Int)))):=by kernel_rfl
theorem Amm (l:Nat)(L:List Gn)(i:Int)(K:Exit->St->Prop):((fc Da AQ Tryz.f29 [] (.tup [])).piece (hdC 1 ((fc Da AQ Tryz.f29 [] (.tup [])).sub [1,1,1,1,0,0])) [0,30,31,32] K).goal (Rj l L i) =
  (BB (decide (i<(↑L.length:Int))) (K Exit.normal (Rj l L i)) (K (Exit.exit 0) (Rj l L i))):=by kernel_rfl
theorem Aml (l:Nat)(L:List Gn)(i:Int)(K:Exit->St->Prop):((fc Da AQ Tryz.f29 [] (.tup [])).piece (hdC 1 ((fc Da AQ Tryz.f29 [] (.tup [])).sub [1,1,1,1,0,0,1,1,0,0])) [0,30,31,32,8,37,38,39] K).goal (Rj l L i) =
  (inX i L.length/\K Exit.normal (W7 l L i (L.getD i.toNat default) (0:Int))):=by kernel_rfl
theorem Amk (l:Nat)(L:List Gn)(i:Int)(g:Gn)(j:Int)(K:Exit->St->Prop):((fc Da AQ Tryz.f29 [] (.tup [])).piece (hdC 1 ((fc Da AQ Tryz.f29 [] (.tup [])).sub [1,1,1,1,0,0,1,1,0,0,1,1,0,0])) [0,30,31,32,8,37,38,39] K).goal (W7 l L i g j) =
  (BB (decide (j<(↑g.snd.length:Int))) (K Exit.normal (W7 l L i g j)) (K (Exit.exit 2) (W7 l L i g j))):=by kernel_rfl
theorem Amj (l:Nat)(L:List Gn)(i:Int)(g:Gn)(j:Int)(K:Exit->St->Prop):((fc Da AQ Tryz.f29 [] (.tup [])).piece (hdC 0 ((fc Da AQ Tryz.f29 [] (.tup [])).sub [1,1,1,1,0,0,1,1,0,0,1,1,0,0,1,1,0,0])) [0,30,31,32,8,37,38,39,10] K).goal (W7 l L i g j) =
  (inX j g.snd.length/\K Exit.normal (Aox l L i g j (g.snd.getD j.toNat default))):=by kernel_rfl
theorem Ami (l:Nat)(L:List Gn)(i:Int)(g:Gn)(j:Int)(w:Wy)(K:Exit->St->Prop):((fc Da AQ Tryz.f29 [] (.tup [])).piece (AoQ 4 ((fc Da AQ Tryz.f29 [] (.tup [])).sub [1,1,1,1,0,0,1,1,0,0,1,1,0,0,1,1,0,0,1,0])) [0,30,31,32,8,37,38,39,43,45,46] K).goal (Aox l L i g j w) =
  (K Exit.normal (Ay [(0,VV.fn (Fn.yield l) []),(30,BU true L),(31,Aa (↑L.length:Int)),(32,Aa i),(8,VV.bp 0 0),(37,AW true g.snd),(38,Aa (↑g.snd.length:Int)),(39,Aa j),(43,VV.fn (Fn.yield l) []),(45,VV.agg (Ae g.fst)),(46,VV.agg (AY w))] [Ob.box (E9 g)])):=by kernel_rfl
theorem Amh (l:Nat)(L:List Gn)(i:Int)(g:Gn)(j:Int)(w:Wy)(b:Bool)(K:Exit->St->Prop):((fc Da AQ Tryz.f29 [] (.tup [])).piece (Aov 4 ((fc Da AQ Tryz.f29 [] (.tup [])).sub [1,1,1,1,0,0,1,1,0,0,1,1,0,0,1,1,0,0,1,0])) [0,30,31,32,8,37,38,39,48] K).goal (Ay ((47,Ac b)::lEy l L i g j w) [.box (E9 g)]) =
  (K Exit.normal (Ay [(0,VV.fn (Fn.yield l) []),(30,BU true L),(31,Aa (↑L.length:Int)),(32,Aa i),(8,VV.bp 0 0),(37,AW true g.snd),(38,Aa (↑g.snd.length:Int)),(39,Aa j),(48,Ac !b)] [Ob.box (E9 g)])):=by kernel_rfl
theorem Amg (l:Nat)(L:List Gn)(i:Int)(g:Gn)(j:Int)(K:Exit->St->Prop):((fc Da AQ Tryz.f29 [] (.tup [])).piece ((fc Da AQ Tryz.f29 [] (.tup [])).sub [1,1,1,1,0,0,1,1,0,0,1,1,0,0,1,1,1]) [0,30,31,32,8,37,38,39] K).goal (W7 l L i g j) =
  (K Exit.normal (W7 l L i g (IntKind.i64.wrap (j+(1:Int))))):=by kernel_rfl
theorem Ame (l:Nat)(L:List Gn)(i:Int)(K:Exit->St->Prop):((fc Da AQ Tryz.f29 [] (.tup [])).piece ((fc Da AQ Tryz.f29 [] (.tup [])).sub [1,1,1,1,0,0,1,1,1]) [0,30,31,32] K).goal (Rj l L i) =
  (K Exit.normal (Rj l L (IntKind.i64.wrap (i+(1:Int))))):=by kernel_rfl
theorem Aiv (r:D.State × ByteArray × Int)(m:D.Model)(s:D.State)(pid:Int)(t:ByteArray)(n:Int)(J:St->Prop){b}(c:b=[AC true m.Globals,Ad true m.Init,Bn true m.Shapes,Ad true m.Chans,BE true m.Procs,Aa m.Claim,BL true m.Exprs,Ad true s.Globals,A0 true s.Chans,AI true s.Procs,Aa s.Last,Aa s.Alone,Aa s.Claim,Aa pid,Ac false,VV.nl]){a}(d:a=VV.tup [VV.agg (Ah r.fst),Bm r.snd.fst,Aa r.snd.snd]){e}(f:e=[VV.nl,VV.nl,VV.nl,Aa 0,Aa 0,Aa 0]):((fc Da Oh Tryz.f33 [] (.tup [.agg (Ah r.1),Bm r.2.1,Aa r.2.2])).loop [1,1,1,0] J).goal (AeX m s pid t n) =
  (∃ (y:D.Loc × Bool),VC 25 [.agg (Af m),.agg (Ah s),Aa pid] (.tup [.agg (A8 y.fst),Ac y.snd])/\BB (bif !y.snd then true else !y.fst.Dstep) (LQ (.tup [.agg (Ah s),Bm t,Aa 0]) a) (BB (n==200) (LQ (.tup [.agg e,Bm (⟨#[]⟩:ByteArray),Aa 53]) a) (∃ (y:List Wy × Int),VC 53 [.agg b] (.tup [AW true y.fst,Aa y.snd])/\Ax ((fc Da Oh Tryz.f33 [] a).loop [1,1,1,0] J) [0,0,1,1,1,1,1,1,0,1,0] (Ay [(2,Aa pid),(3,.bp 0 0),(4,.bp 1 0),(6,.bp 2 0),(9,Bm t),(10,Aa n),(13,.bp 3 0),(16,Ac false),(52,AW true y.fst),(53,Aa (↑y.fst.length:Int)),(54,Aa 0)] [.box (Af m),.box (Ah s),.box e,.box b])))):=by subst c d f;kernel_rfl
theorem Aiu (r:D.State × ByteArray × Int)(m:D.Model)(s:D.State)(pid:Int)(t:ByteArray)(n:Int)(e:D.Env)(ws:List Wy)(i:Int)(J J2:St->Prop){a}(b:a=LQ (VV.tup [VV.agg [VV.nl,VV.nl,VV.nl,Aa 0,Aa 0,Aa 0],Bm (⟨#[]⟩:ByteArray),Aa 53]) (VV.tup [VV.agg (Ah r.fst),Bm r.snd.fst,Aa r.snd.snd])):(((fc Da Oh Tryz.f33 [] (.tup [.agg (Ah r.1),Bm r.2.1,Aa r.2.2])).loop [1,1,1,0] J).loop [0,0,1,1,1,1,1,1,0,1,0] J2).goal (AcX m s pid t n e ws i) =
  (BB (decide (i<(↑ws.length:Int))) (inX i ws.length/\BB (decide ((ws.getD i.toNat default).With>=0)) (J2 (AcX m s pid t n e ws (IntKind.i64.wrap (i+(1:Int))))) (∃ (y:D.State × ByteArray × Int),VC 32 [.agg (Ae e),.agg (AY (ws.getD i.toNat default))] (.tup [.agg (Ah y.fst),Bm y.snd.fst,Aa y.snd.snd])/\BB (y.snd.snd != 0) (LQ (.tup [.agg [.nl,.nl,.nl,Aa 0,Aa 0,Aa 0],Bm (⟨#[]⟩:ByteArray),Aa y.snd.snd]) (.tup [.agg (Ah r.fst),Bm r.snd.fst,Aa r.snd.snd])) ((↑(t.size+y.snd.fst.size):Int)<=(9223372036854775807:Int)/\BB false a (J (AeX m y.fst pid (t++y.snd.fst) (IntKind.i64.wrap (n+(1:Int)))))))) (BB true a (J (AeX m s pid t (IntKind.i64.wrap (n+(1:Int))))))):=by subst b;kernel_rfl
theorem Ae1 (r:Nx)(e:D.Env)(w:Wy)(s:D.State)(t:ByteArray)(i:Int)(J:St->Prop):((fc Da KM Tryz.f15 [] (.agg (DQ r))).loop [1,1,1,1,1,1,0,1,0] J).goal (Ox e w s t i) =
  (BB (decide (i<2)) (inX i 2/\∃ (y:D.Loc × Bool),VC 25 [VV.agg (Af e.M),VV.agg (Ah s),Aa ([e.Pid,w.With].getD i.toNat 0)] (VV.tup [VV.agg (A8 y.fst),Ac y.snd])/\BB (bif y.snd then y.fst.Atomic else false) (J (Ay [(2,VV.bp 0 0),(4,VV.bp 1 0),(5,VV.bp 2 0),(6,VV.bp 3 0),(7,Bm t),(60,VV.ow 4 0 2),(61,Aa 2),(62,Aa (IntKind.i64.wrap (i+(1:Int))))] [Ob.box (Ae e),Ob.box [Aa 0,Aa 0,Aa 0,Aa 0,Aa 0,Aa 0,Aa 0,VV.nl,VV.nl,VV.nl,Aa 0,Aa 0,Aa 0,Aa 0,Bm ByteArray.empty],Ob.box [Aa e.Pid,Aa w.Esc,Aa w.Way,Aa w.With,Aa w.WithEsc,Aa w.WithWay,Aa (-1),VV.nl,VV.nl,VV.nl,Aa 0,Aa 0,Aa 0,Aa 0,Bm ByteArray.empty],Ob.box [Ad true s.Globals,A0 true s.Chans,AI true s.Procs,Aa s.Last,Aa ([e.Pid,w.With].getD i.toNat 0),Aa s.Claim],Ob.arr true 0 2 1 (AJ [e.Pid,w.With])])) (J (Ox e w s t (IntKind.i64.wrap (i+(1:Int)))))) (LQ (VV.agg [Aa e.Pid,Aa w.Esc,Aa w.Way,Aa w.With,Aa w.WithEsc,Aa w.WithWay,Aa (-1),Ad true s.Globals,A0 true s.Chans,AI true s.Procs,Aa s.Last,Aa s.Alone,Aa s.Claim,Aa 0,Bm t]) (VV.agg (DQ r)))):=by kernel_rfl
theorem Afn (r:List Gn)(e:D.Env)(l:List Gn)(i:Int)(J:St->Prop):((fc Da SE Tryz.f45 [] (BU true r)).loop [1,1,0,1,0] J).goal (W8 e l i) =
  (BB (decide (i<(↑e.S.Procs.length:Int))) (∃ (y:List Wy × Int),VC 53 [VV.agg [AC true e.M.Globals,Ad true e.M.Init,Bn true e.M.Shapes,Ad true e.M.Chans,BE true e.M.Procs,Aa e.M.Claim,BL true e.M.Exprs,Ad true e.S.Globals,A0 true e.S.Chans,AI true e.S.Procs,Aa e.S.Last,Aa e.S.Alone,Aa e.S.Claim,Aa i,Ac e.Timeout,A6 true e.Able]] (VV.tup [AW true y.fst,Aa y.snd])/\BB (decide ((↑y.fst.length:Int) > 0)) ((l.length+1)*312<=140737488355328/\J (Ay [(1,VV.bp 0 0),(3,VV.ow 1 0 (l.length+1)),(11,Aa (↑e.S.Procs.length:Int)),(12,Aa (IntKind.i64.wrap (i+(1:Int))))] [Ob.box (Ae e),Ob.arr true 0 (l.length+1) 17 fun(i_1:Nat)=>bif i_1.blt l.length then E9 (l.getD i_1 default) else(fun(i_2:Nat)=>List.take 17 (List.drop (i_2*17) [AC true e.M.Globals,Ad true e.M.Init,Bn true e.M.Shapes,Ad true e.M.Chans,BE true e.M.Procs,Aa e.M.Claim,BL true e.M.Exprs,Ad true e.S.Globals,A0 true e.S.Chans,AI true e.S.Procs,Aa e.S.Last,Aa e.S.Alone,Aa e.S.Claim,Aa i,Ac e.Timeout,A6 true e.Able,AW true y.fst])) (i_1 - l.length)])) (J (W8 e l (IntKind.i64.wrap (i+(1:Int)))))) (LQ (BU true l) (BU true r))):=by kernel_rfl
theorem Aha (r:List Gn)(e:D.Env)(L:List Gn)(most i:Int)(J:St->Prop){a}(b:a=L.getD i.toNat default):((fc Da KP Tryz.f31 [] (BU true r)).loop [1,1,1,0,1,0] J).goal (AcZ e L most i) =
  (BB (decide (i<(↑L.length:Int))) (inX i L.length/\BB (a.fst.Pid==e.S.Alone) (LQ (.sl true 1 17 fun(i_1:Nat)=>List.take 17 (List.drop (i_1*17) (E9 a))) (BU true r)) (inX a.fst.Pid e.S.Procs.length/\J (AcZ e L (bif true then max most (e.S.Procs.getD a.fst.Pid.toNat default).Prio else min most (e.S.Procs.getD a.fst.Pid.toNat default).Prio) (IntKind.i64.wrap (i+(1:Int)))))) (Ax (fc Da KP Tryz.f31 [] (BU true r)) [1,1,1,1,1,0,1,0] (Ay [(1,.bp 0 0),(4,Aa most),(7,.nl),(39,BU true L),(40,Aa (↑L.length:Int)),(41,Aa 0)] [.box (Ae e)]))):=by subst b;kernel_rfl
theorem Ag9 (r:List Gn)(e:D.Env)(L out:List Gn)(most i:Int)(J:St->Prop){a}(b:a=L.getD i.toNat default):((fc Da KP Tryz.f31 [] (BU true r)).loop [1,1,1,1,1,0,1,0] J).goal (W6 e L out most i) =
  (BB (decide (i<(↑L.length:Int))) (inX i L.length/\inX a.fst.Pid e.S.Procs.length/\BB ((e.S.Procs.getD a.fst.Pid.toNat default).Prio==most) ((out.length+1)*312<=140737488355328/\J (Ay [(1,.bp 0 0),(4,Aa most),(7,.ow 1 0 (out.length+1)),(39,BU true L),(40,Aa (↑L.length:Int)),(41,Aa (IntKind.i64.wrap (i+(1:Int))))] [.box (Ae e),.arr true 0 (out.length+1) 17 fun(i_1:Nat)=>bif i_1.blt out.length then E9 (out.getD i_1 default) else(fun(i_2:Nat)=>List.take 17 (List.drop (i_2*17) (E9 a))) (i_1 - out.length)])) (J (W6 e L out most (IntKind.i64.wrap (i+(1:Int)))))) (LQ (BU true out) (BU true r))):=by subst b;kernel_rfl
theorem Alz (r:List Nx × Int)(m:D.Model)(s:D.State):(fc Da FN Tryz.f6 [] (.tup [CM true r.1,Aa r.2])).goal (St.init [] [.agg (Af m),.agg (Ah s)]) =
  (∃ (y:Int),VC 13 [VV.agg (Af m),VV.agg (Ah s)] (Aa y)/\BB (y != 0) (LQ (VV.tup [VV.nl,Aa y]) (VV.tup [CM true r.fst,Aa r.snd])) (∃ (y:D.Model × D.State),Aj Tryz.prog 14 [] [VV.agg (Af m),VV.agg (Ah s)] [Ob.box (Af y.fst),Ob.box (Ah y.snd)] (VV.fn (Fn.func (nat_lit 29)) [VV.bp 0 0,VV.bp 1 0])/\Ax (fc Da FN Tryz.f6 [] (VV.tup [CM true r.fst,Aa r.snd])) [1,1,1,0,1] (Ay [(7,VV.bp 0 0),(18,VV.fn (Fn.func (nat_lit 29)) [VV.bp 1 0,VV.bp 2 0])] [Ob.box [VV.nl],Ob.box (Af y.fst),Ob.box (Ah y.snd)]))):=by kernel_rfl
theorem Ai2 (r:List Nx × Int)(e:D.Env)(w:Wy)(l l2:List Nx):((fc Da FN Tryz.f6 [] (.tup [CM true r.1,Aa r.2])).rg [1,1,1,0,1] 2 [(7,.bp 0 0)] [.box [.ow 1 0 l2.length],.arr true 0 l2.length 15 (Hs l2)]).goal (Ay [(19,.agg (Ae e)),(20,.agg (AY w)),(7,.bp 0 0)] [.box [.ow 1 0 l.length],.arr true 0 l.length 15 (Hs l)]) =
  (∃ (y:Nx),VC 15 [VV.agg (Ae e),VV.agg (AY w)] (VV.agg (DQ y))/\(l.length+1)*176<=140737488355328/\leO [Ob.box [VV.ow 1 0 (l.length+1)],Ob.arr true 0 (l.length+1) 15 fun(i:Nat)=>bif i.blt l.length then DQ (l.getD i default) else(fun(i:Nat)=>List.take 15 (List.drop (i*15) (DQ y))) (i - l.length)] [Ob.box [VV.ow 1 0 l2.length],Ob.arr true 0 l2.length 15 (Hs l2)]/\True):=by kernel_rfl
theorem Ai1 (r:List Nx × Int)(l:List Nx):((fc Da FN Tryz.f6 [] (.tup [CM true r.1,Aa r.2])).after [1,1,1,0,1]).goal (Ay [(7,.bp 0 0)] [.box [.ow 1 0 l.length],.arr true 0 l.length 15 (Hs l)]) =
  (LQ (VV.tup [CM true l,Aa 0]) (VV.tup [CM true r.fst,Aa r.snd])):=by kernel_rfl
theorem Al6 (m:D.Model)(s:D.State){z1}(a:z1=VV.fn (Fn.func (nat_lit 29)) [VV.bp 0 0,VV.bp 1 0]):(B8 Tryz.prog tb Da AQ false Tryz.f14 [.box (Af m),.box (Ah s)] (.fn (.func 29) [.bp 0 0,.bp 1 0])).goal (St.init [] [.agg (Af m),.agg (Ah s)]) =
  (leO [.box (Af m),.box (Ah s)] [.box (Af m),.box (Ah s)]/\z1.le z1):=by subst a;kernel_rfl
end Go.Proofs.YtnhamlpcpngafaaGreatDoor
namespace Go.Proofs.YtnhamlpcpngafaaGreatDoor
open Go.RowKit
theorem Ls : ∀ (l r:List Gn),Cq (l++r)=Cq l++Cq r
 | [],_=>rfl
 | g::l,r=>by
  show g.2.map (fun w=>(g.1,w))++Cq (l++r)=(g.2.map (fun w=>(g.1,w))++Cq l)++Cq r;rw[Ls l r,Aqp]
def NV (L:List Gn)(i:Nat):Nat:=(Cq (L.take i)).length
theorem AlO {L:List Gn}:NV L L.length=(Cq L).length:=by unfold NV;rw[AqS]
theorem Mk {L:List Gn}{i:Nat}(hi:i<L.length):L.take (i+1)=L.take i++[L.getD i default]:=by
 rw[Arc];simp[List.getD,hi]
theorem AjJ {L:List Gn}{i:Nat}(hi:i<L.length):NV L (i+1)=NV L i+(L.getD i default).2.length:=by
 unfold NV;rw[Mk hi,Ls];simp[Cq]
theorem AlJ {L:List Gn}{i j:Nat}(hi:i<L.length)(a:j<(L.getD i default).2.length):NV L i+j<(Cq L).length/\(Cq L).getD (NV L i+j) default=((L.getD i default).1,(L.getD i default).2.getD j default):=by
 have e:Cq L=Cq (L.take i)++((L.getD i default).2.map (fun w=>((L.getD i default).1,w))++Cq (L.drop (i+1))):=by
  have h1:L=L.take (i+1)++L.drop (i+1):=(List.take_append_drop (i+1) L).symm;have h2:Cq L=Cq (L.take (i+1))++Cq (L.drop (i+1)):=by rw[← Ls,← h1]
  rw[h2,Mk hi,Ls];simp[Cq]
 have b:NV L i+j<(Cq L).length:=by
  rw[e];simp only[ApP,AqL];unfold NV;omega
 refine⟨b,?_⟩;rw[ApQ,e,ApX (by unfold NV;omega),show NV L i+j - (Cq (L.take i)).length=j by unfold NV;omega,ApL (by simpa using a)];generalize (L.getD i default)=g at a;rw[Ap3,ApH a,ApQ,ApH a];rfl
section
variable {m : D.Model} {s:D.State} {e:D.Env} {w:Wy}
theorem AjV : VV.le (.agg [.nl,.nl,Ac false,Ac false,Ac false,Ac false,Ac false]) (.agg (A8 default)):=AqH ⟨Aqd,Aqd,VV.le_refl _,VV.le_refl _,VV.le_refl _,VV.le_refl _,VV.le_refl _,trivial⟩
theorem X1 {pid:Int}(h:Gs m s):Aj Tryz.prog 25 [] [.agg (Af m),.agg (Ah s),Aa pid] [] (.tup [.agg (A8 (Cx m s pid).1),Ac (Cx m s pid).2]):=by
 have c:Cx m s pid=bif decide (pid<0)||decide ((s.Procs.length:Int)<=pid) then(default,false) else((FD m (s.Procs.getD pid.toNat default).Type_).getD (s.Procs.getD pid.toNat default).Loc.toNat default,true):=rfl
 generalize Cx m s pid=r at c;refine Aq Tryz.func25 (AlH r m s pid rfl rfl) ⟨fun b=>?_,fun b=>?_⟩
 ·rw[Br]at b;simp only[AqM]at b;rw[b,Apy]at c;subst c;exact⟨trivial,Aq4 ⟨AjV,VV.le_refl _,trivial⟩⟩
 ·rw[Br]at b;simp only[AqM]at b;rw[b,Apw]at c;subst c;simp only[ApN,ApW]at b;have hp:0<=pid/\pid<s.Procs.length:=by omega
  have f:=(h.pid (t:=false) (a:=[]) hp).1.facts;exact⟨hp,f.1,hp,f.2,trivial,VV.le_refl _⟩
theorem Aky {pid:Int}{b:Bool}:leL [AC true m.Globals,Ad true m.Init,Bn true m.Shapes,Ad true m.Chans,BE true m.Procs,Aa m.Claim,BL true m.Exprs,Ad true s.Globals,A0 true s.Chans,AI true s.Procs,Aa s.Last,Aa s.Alone,Aa s.Claim,Aa pid,Ac b,.nl] (Ae ⟨m,s,pid,b,[]⟩) :=
 ⟨VV.le_refl _,VV.le_refl _,VV.le_refl _,VV.le_refl _,VV.le_refl _,VV.le_refl _,VV.le_refl _,VV.le_refl _,VV.le_refl _,VV.le_refl _,VV.le_refl _,VV.le_refl _,VV.le_refl _,VV.le_refl _,VV.le_refl _,Aqd,trivial⟩
theorem Um {α:Type}{p:α->Bool}:∀ {l:List α} {i:Nat},(∀ j,j<i->∀ x,l[j]?=some x->p x=false)->l.find? p=(l.drop i).find? p
 | l,0,_=>by rw[List.drop_zero]
 | [],i+1,_=>by simp
 | x::l,i+1,h=>by
  rw[List.find?_cons,h 0 (by omega) x rfl,List.drop_succ_cons];exact Um fun j b y a=>h (j+1) (by omega) y a
theorem Vy {r:D.State × ByteArray × Int}{c:Int}(h:(CU,noT,c)=r):VV.le (.tup [.agg [.nl,.nl,.nl,Aa 0,Aa 0,Aa 0],Bm (⟨#[]⟩:ByteArray),Aa c]) (.tup [.agg (Ah r.1),Bm r.2.1,Aa r.2.2]):=by
 subst h;exact R3
theorem Ait {pid:Int}(h:Gs m s):Aj Tryz.prog 33 [] [.agg (Af m),.agg (Ah s),Aa pid] [] (.tup [.agg (Ah (onS m pid 200 s noT).1),Bm (onS m pid 200 s noT).2.1,Aa (onS m pid 200 s noT).2.2]):=by
 generalize c:onS m pid 200 s noT=r;refine Aq Tryz.func33 (Ali r m s pid) ?_;change Ax _ _ (AeX m s pid noT 0);refine Ar (fun g st=>∃ (n:Nat) (b:D.State) (t:ByteArray),n<=200/\g=200 - n/\Gs m b/\t.size<=n*67108864/\onS m pid (200 - n) b t=r/\st=AeX m b pid t n) ⟨_,Up.of ⟨0,s,noT,ApD _,rfl,h,ApD _,c,rfl⟩⟩ ?_;clear c h;rintro g st ⟨n,b,t,T,rfl,h,U,c,rfl⟩;refine ApI (Aiv r m b pid t n _ rfl rfl rfl) ⟨Cx m b pid,X1 h,fun f=>?_,fun f=>⟨fun o=>?_,fun o=>?_⟩⟩
 ·rw[Br]at f;cases E:200 - n with
  | zero =>
   rw[E]at c;have F:onS m pid 0 b t=bif !(Cx m b pid).2||!(Cx m b pid).1.Dstep then(b,t,0) else(CU,noT,53):=rfl
   rw[F,f,Apy]at c;subst c;exact⟨trivial,VV.le_refl _⟩
  | succ k =>
   rw[E,NU,f,Apy]at c;subst c;exact⟨trivial,VV.le_refl _⟩
 ·have z:n=200:=by simp at o;omega
  subst z;rw[Br]at f;have F:onS m pid 0 b t=bif !(Cx m b pid).2||!(Cx m b pid).1.Dstep then(b,t,0) else(CU,noT,53):=rfl
  rw[Nat.sub_self,F,f,Apw]at c;exact⟨trivial,Vy c⟩
 ·have z:n<200:=by simp at o;omega
  obtain⟨k,E⟩:∃ k,200 - n=k+1:=⟨200 - n - 1,by omega⟩;rw[Br]at f;rw[E,NU,f,Apw]at c;simp only[ApN,Arm]at f;obtain⟨v,H⟩:=h.pid (t:=false) (a:=[]) (Lq f.1);have O:=QK v.ok.wf v.small;rw[J8 H]at c O;refine⟨(Bt ⟨m,b,pid,false,[]⟩,0),O.le trivial ⟨AqH Aky,trivial⟩ trivial (VV.le_refl _),?_⟩;refine Ax.le (AS _) (l':=[(2,Aa pid),(3,.bp 0 0),(4,.bp 1 0),(6,.bp 2 0),(9,Bm t),(10,Aa n),(13,.bp 3 0),(16,Ac false),(52,AW true (Bt ⟨m,b,pid,false,[]⟩)),(53,Aa (Bt ⟨m,b,pid,false,[]⟩).length),(54,Aa 0)])
   (hs':=[.box (Af m),.box (Ah b),AkI,.box (Ae ⟨m,b,pid,false,[]⟩)]) ⟨Ob.le_refl _,Ob.le_refl _,Ob.le_refl _,Ob.le_box Aky,trivial⟩ ?_
  have A:=Lr v;change Ax _ _ (AcX m b pid t n ⟨m,b,pid,false,[]⟩ (Bt ⟨m,b,pid,false,[]⟩) 0);have q:∀ w∈Bt ⟨m,b,pid,false,[]⟩,Aj Tryz.prog 32 [] [.agg (Ae ⟨m,b,pid,false,[]⟩),.agg (AY w)] [] (.tup [.agg (Ah (goP ⟨m,b,pid,false,[]⟩ w).1),Bm (goP ⟨m,b,pid,false,[]⟩ w).2.1,Aa (goP ⟨m,b,pid,false,[]⟩ w).2.2])/\((goP ⟨m,b,pid,false,[]⟩ w).2.2=0->Gs m (goP ⟨m,b,pid,false,[]⟩ w).1)/\(goP ⟨m,b,pid,false,[]⟩ w).2.1.size<=67108864:=fun w u =>
   ⟨Aj8 v H u,fun I=>Ue v u I,Qx v u⟩
  generalize V:Bt ⟨m,b,pid,false,[]⟩=ws at c A q;generalize W:goP ⟨m,b,pid,false,[]⟩=G at c q;refine Ar (fun g st=>∃ i:Nat,i<=ws.length/\g=ws.length - i/\(∀ j,j<i->∀ x,ws[j]?=some x->decide (x.With<0)=false)/\st=AcX m b pid t n ⟨m,b,pid,false,[]⟩ ws i) ⟨_,Up.of ⟨0,ApD _,rfl,fun j P=>absurd P (AqZ _),rfl⟩⟩ ?_;rintro g st ⟨i,hi,rfl,R,rfl⟩;have J:=Um (p:=fun w:Wy=>decide (w.With<0)) R;simp only at c;rw[J]at c;refine ApI (Aiu r m b pid t n ⟨m,b,pid,false,[]⟩ ws i _ _ rfl) ⟨fun K=>?_,fun L=>⟨fun _=>?_,fun h=>by cases h⟩⟩
  ·have l:i<ws.length:=by have:=AL K;omega
   have M:(i:Int).toNat=i:=by omega
   rw[M];have Q:ws[i]?=some (ws.getD i default):=by simp[List.getD,l]
   have N:ws.drop i=ws.getD i default::ws.drop (i+1):=by simp_all
   obtain⟨g1,S,X⟩:=q _ (Av (d:=default) l);refine⟨⟨by omega,by omega⟩,fun hv=>?_,fun hv=>?_⟩
   ·refine⟨ws.length - (i+1),by omega,Up.of ⟨i+1,by omega,rfl,fun j P x H=>?_,by rw[Al (by omega)]⟩⟩;grind
   ·have B:decide ((ws.getD i default).With<0)=true:=by simp at hv ⊢;omega
    rw[N,List.find?_cons,B]at c;refine⟨G (ws.getD i default),g1,fun y=>?_,fun y=>⟨?_,⟨fun h=>(by cases h),fun _=>?_⟩⟩⟩
    ·rw[AT]at y;change(bif decide ((G (ws.getD i default)).2.2≠0) then _ else _)=r at c;rw[y,Apy]at c;exact⟨trivial,Vy c⟩
    ·omega
    ·rw[AT]at y;change(bif decide ((G (ws.getD i default)).2.2≠0) then _ else _)=r at c;rw[y,Apw]at c;have I:(G (ws.getD i default)).2.2=0:=by simpa using y
     refine⟨200 - (n+1),by omega,Up.of ⟨n+1,(G (ws.getD i default)).1,t++(G (ws.getD i default)).2.1,by omega,rfl,S I,?_,?_,by rw[Al (by omega)]⟩⟩
     ·grind
     grind
  ·have C:ws.length<=i:=by have:=AP L;omega
   rw[Ap2 C]at c;exact⟨trivial,Vy c⟩
end
section
variable {m : D.Model} {s:D.State} {e:D.Env} {w:Wy}
theorem Adw {a b c d f g:Int}{err:Int}:VV.le (.agg [Aa a,Aa b,Aa c,Aa d,Aa f,Aa g,Aa (-1),.nl,.nl,.nl,Aa 0,Aa 0,Aa 0,Aa err,Bm ByteArray.empty]) (.agg (DQ ⟨⟨a,b,c,d,f,g,-1⟩,CU,err,noT⟩)) :=
 AqH ⟨VV.le_refl _,VV.le_refl _,VV.le_refl _,VV.le_refl _,VV.le_refl _,VV.le_refl _,VV.le_refl _,Aqd,Aqd,Aqd,VV.le_refl _,VV.le_refl _,VV.le_refl _,VV.le_refl _,VV.le_refl _,trivial⟩
theorem Ai7 {a b:Int}(F:Nat->List VV)(h0:F 0=[Aa a])(h1:F 1=[Aa b]):∀ i,i<2->leL (F i) (AJ [a,b] i)
 | 0,_=>AV h0
 | 1,_=>AV h1
def alL (m:D.Model)(s:D.State)(l:List Int):D.State:=l.foldl (DV m) s
theorem AkU : ∀ {l:List Int} {s:D.State},Gs m s->Gs m (alL m s l)
 | [],_,h=>h
 | _::l,_,h=>AkU (l:=l) (SJ h)
theorem AkT {l:List Int}{k:Nat}(h:k<l.length):alL m s (l.take (k+1))=DV m (alL m s (l.take k)) (l.getD k 0):=by
 have:l.take (k+1)=l.take k++[l.getD k 0]:=by simp_all
 rw[this];unfold alL;grind
theorem AeZ {t:ByteArray}(h:Gs e.M s):Ax (fc Da KM Tryz.f15 [] (.agg (DQ ⟨Ms e w,DV e.M (DV e.M s e.Pid) w.With,0,t⟩))) [1,1,1,1,1,1,0,1,0] (Ox e w s t 0):=by
 have j:Ox e w s t 0=Ox e w (alL e.M s ([e.Pid,w.With].take 0)) t ((0:Nat):Int):=rfl;rw[j];refine As 2 (fun k=>Ox e w (alL e.M s ([e.Pid,w.With].take k)) t k) (fun _=>True) trivial ?_;intro k n _ J next
 have hg:=AkU (l:=[e.Pid,w.With].take k) h;have c:=fun(h:k<2)=>AkT (m:=e.M) (s:=s) (l:=[e.Pid,w.With]) (k:=k) h
 refine ApI (Ae1 _ e w _ t k J) ⟨fun f=>?_,fun g=>?_⟩
 ·have b:k<2:=by have:=AL f;omega
  have i:(k:Int).toNat=k:=by omega
  rw[i];have a:=c b;generalize alL e.M s ([e.Pid,w.With].take k)=s1 at hg a;refine⟨⟨by omega,by omega⟩,Cx e.M s1 ([e.Pid,w.With].getD k 0),X1 hg,fun d=>next _ b trivial (Up.of ?_),fun d=>next _ b trivial (Up.of ?_)⟩
  ·rw[Bh]at d;unfold DV at a;rw[d,Apy]at a;rw[a,Al (by omega)]<;>rfl
  ·rw[Bh]at d;unfold DV at a;rw[d,Apw]at a;rw[a,Al (by omega)]
 ·obtain rfl:k=2:=by have:=AP g;omega
  exact⟨trivial,VV.le_refl _⟩
theorem Ae0 (h:CA e)(j:HH e=0)(c:w∈Bt e):Aj Tryz.prog 15 [] [.agg (Ae e),.agg (AY w)] [] (.agg (DQ (DF e w))):=by
 generalize g:DF e w=r;refine Aq Tryz.func15 (Aiq r e w rfl rfl rfl) ⟨goP e w,Aj8 h j c,fun h1=>?_,fun h1=>?_⟩
 ·have i:(goP e w).2.2=0:=by simpa using h1
  have d:=Ue h c i;obtain⟨a,b⟩:=Vp (pid:=e.Pid) (k:=200) (t:=noT) d;have f:DF e w=bif decide ((onS e.M e.Pid 200 (goP e w).1 noT).2.2≠0) then⟨Ms e w,CU,(onS e.M e.Pid 200 (goP e w).1 noT).2.2,noT⟩
   else⟨Ms e w,DV e.M (DV e.M { (onS e.M e.Pid 200 (goP e w).1 noT).1 with Alone:=-1 } e.Pid) w.With,0,(goP e w).2.1++(onS e.M e.Pid 200 (goP e w).1 noT).2.1⟩:=by
   unfold DF;grind
  have l:=Qx h c;have n:noT.size=0:=rfl;rw[g]at f;refine⟨onS e.M e.Pid 200 (goP e w).1 noT,Ait d,by omega,fun h2=>?_,fun h2=>?_⟩
  ·rw[AT]at h2;rw[h2,Apy]at f;subst f;exact⟨trivial,Adw⟩
  ·rw[AT]at h2;rw[h2,Apw]at f;subst f;refine Ax.le (hs':=[.box (Ae e),.box AoZ,.box (Ao0 e w),.box (Ah { (onS e.M e.Pid 200 (goP e w).1 noT).1 with Alone:=-1 }),.arr true 0 2 1 (AJ [e.Pid,w.With])]) (AS _) ⟨Ob.le_refl _,Ob.le_refl _,Ob.le_refl _,Ob.le_refl _,Ap6 (Ai7 _ rfl rfl),trivial⟩ ?_;exact AeZ (AdH (a (by simpa using h2)))
 ·have i:(goP e w).2.2≠0:=by simpa using h1
  unfold DF at g;rw[Aqb i,Apy]at g;subst g;exact⟨fun _=>⟨trivial,Adw⟩,fun h2=>absurd (by simpa using h2) i⟩
theorem Aja {out:List Gn}{x:Gn}{G:Nat->List VV}(a:G 0=E9 x){i:Nat}(hi:i<out.length+1):(bif i.blt out.length then Jr out i else G (i - out.length))=Jr (out++[x]) i :=
 BR (f:=E9) (d:=default) (l:=out) (r:=[x]) (F:=Jr out) (fun _ _=>rfl) (by grind) (by simp;omega)
theorem AgW {k:Nat}:C6 e (k+1)=C6 e k++E8 e k:=rfl
theorem Afm (h:Gs e.M e.S):Aj Tryz.prog 45 [] [.agg (Ae e)] [] (BU true (C6 e e.S.Procs.length)):=by
 have hp:=h.fits.pl;refine Aq Tryz.func45 (AiW _ e) ?_;refine Ax.own 1 3 17 (Jr []) rfl ?_;change Ax _ _ (W8 e (C6 e 0) ((0:Nat):Int));refine As e.S.Procs.length (fun k=>W8 e (C6 e k) k) (fun _=>True) trivial ?_;intro k o _ J next
 have g:=OR (e:=e) (n:=k);have a:=AgW (e:=e) (k:=k);refine ApI (Afn _ e (C6 e k) k J) ⟨fun c=>?_,fun d=>?_⟩
 ·have b:k<e.S.Procs.length:=by have:=AL c;omega
  unfold E8 at a;refine⟨EN (BA e k),QK (e:=BA e k) h.wf h.small,fun l=>?_,fun l=>?_⟩
  ·rw[Aqb (by grind),Apy]at a;have f:e.S.Procs.length<=16:=hp;refine⟨by omega,next _ b trivial ?_⟩;rw[a,Al (by omega)];refine Up.mk (hs':=[.box (Ae e),.arr true 0 ((C6 e k).length+1) 17 (Jr (C6 e k++[(BA e k,(EN (BA e k)).1)]))]) (AS _) ⟨Ob.le_refl _,Ap6 fun i hi=>AV (Aja (x:=(BA e k,(EN (BA e k)).1)) (G:=fun j=>List.take 17 (List.drop (j*17) (E9 (BA e k,(EN (BA e k)).1)))) rfl hi),trivial⟩ ?_;unfold W8;grind
  ·rw[Ap9 (by grind),Apw,Aq1]at a;refine next _ b trivial (Up.of ?_)
   grind [Al]
 ·obtain rfl:k=e.S.Procs.length:=by have:=AP d;omega
  exact⟨trivial,VV.le_refl _⟩
theorem AbM {most:Int}{g:Gn}{r:List Gn}:FR e most (g::r)=bif decide (g.1.Pid=e.S.Alone) then(some g,most) else FR e (max most (Eo e g)) r:=rfl
theorem Uk (h:Gs e.M e.S):Aj Tryz.prog 31 [] [.agg (Ae e)] [] (BU true (C0 e)):=by
 have hp:e.S.Procs.length<=16:=h.fits.pl;have v:=OR (e:=e) (n:=e.S.Procs.length);have b:∀ g∈C6 e e.S.Procs.length,inX g.1.Pid e.S.Procs.length:=fun g hg=>by
  obtain⟨i,hi,rfl⟩:=Lz hg;exact⟨by show(0:Int)<=i;omega,by show(i:Int)<_;omega⟩
 have f:∀ r:Option Gn × Int,FR e 0 (C6 e e.S.Procs.length)=r->C0 e=match r with | (some g,_)=>[g] | (none,most)=>(C6 e e.S.Procs.length).filter fun g=>decide (Eo e g=most):=fun r B=>by
  unfold C0;rw[B]<;>rfl
 generalize C0 e=out at f;refine Aq Tryz.func31 (Akj out e) ⟨C6 e e.S.Procs.length,Afm h,?_⟩;generalize C6 e e.S.Procs.length=L at v b f;refine Ar (fun g st=>∃ (k:Nat) (most:Int),k<=L.length/\g=L.length - k/\FR e most (L.drop k)=FR e 0 L/\st=AcZ e L most k) ⟨_,Up.of ⟨0,0,ApD _,rfl,rfl,rfl⟩⟩ ?_;rintro g st ⟨k,most,C,rfl,t,rfl⟩;refine ApI (Aha out e L most k _ rfl) ⟨fun l=>?_,fun o=>?_⟩
 ·have a:k<L.length:=by have:=AL l;omega
  have q:(k:Int).toNat=k:=by omega
  rw[q];rw[Bs (d:=default) a,AbM]at t;refine⟨⟨by omega,by omega⟩,fun A=>?_,fun A=>⟨b _ (Av a),L.length - (k+1),by omega,Up.of ⟨k+1,max most (Eo e (L.getD k default)),by omega,rfl,?_,?_⟩⟩⟩
  ·rw[Aqb (by simpa using A),Apy]at t;have f:=f _ t.symm;subst f;refine⟨trivial,AqD (.inl rfl) fun j E=>AV ?_⟩;obtain rfl:j=0:=by omega
   rfl
  ·grind
  ·rw[Al (by omega)]<;>rfl
 ·obtain rfl:k=L.length:=by have:=AP o;omega
  rw[Aq9]at t;have f:out=L.filter fun g=>decide (Eo e g=most):=f _ t.symm
  have F:([]:List Gn)=(L.take 0).filter fun g=>decide (Eo e g=most):=rfl
  refine Ax.own 2 7 17 (Jr []) rfl ?_;change Ax _ _ (W6 e L ((L.take 0).filter fun g=>decide (Eo e g=most)) most ((0:Nat):Int));refine As L.length (fun k=>W6 e L ((L.take k).filter fun g=>decide (Eo e g=most)) most k) (fun _=>True) trivial ?_;intro k C _ J next
  have y:((L.take k).filter fun g=>decide (Eo e g=most)).length<=L.length:=(by grind);refine ApI (Ag9 out e L _ most k J rfl) ⟨fun l=>?_,fun o=>?_⟩
  ·have a:k<L.length:=by have:=AL l;omega
   have q:(k:Int).toNat=k:=by omega
   rw[q];have c:((L.take (k+1)).filter fun g=>decide (Eo e g=most))=((L.take k).filter fun g=>decide (Eo e g=most))++([L.getD k default].filter fun g=>decide (Eo e g=most)):=by rw[Mk a,List.filter_append]
   generalize ((L.take k).filter fun g=>decide (Eo e g=most))=acc at y c;refine⟨⟨by omega,by omega⟩,b _ (Av a),fun z=>⟨by omega,next _ a trivial ?_⟩,fun z=>next _ a trivial (Up.of ?_)⟩
   ·have u:decide (Eo e (L.getD k default)=most)=true:=by
     have:(e.S.Procs.getD (L.getD k default).1.Pid.toNat default).Prio=most:=by simpa using z
     exact Aqb this
    rw[List.filter_cons_of_pos (p:=fun g=>decide (Eo e g=most)) u,List.filter_nil]at c;rw[c,Al (by omega)];refine Up.mk (hs':=[.box (Ae e),.arr true 0 (acc.length+1) 17 (Jr (acc++[L.getD k default]))]) (AS _) ⟨Ob.le_refl _,Ap6 fun i hi=>AV (Aja (x:=L.getD k default) (G:=fun j=>List.take 17 (List.drop (j*17) (E9 (L.getD k default)))) rfl hi),trivial⟩ ?_;unfold W6;grind
   ·have u:¬ decide (Eo e (L.getD k default)=most)=true:=by
     have:¬ (e.S.Procs.getD (L.getD k default).1.Pid.toNat default).Prio=most:=by simpa using z
     exact fun h=>this (ApK h)
    grind [List.filter_cons_of_neg,Aq1,Al]
  ·obtain rfl:k=L.length:=by have:=AP o;omega
   rw[AqS,← f];exact⟨trivial,VV.le_refl _⟩
end
def X7 : Code->Array Oper
 | .region _ ops _=>ops
 | _=>#[]
def isR : Code->Bool
 | .region _ _ false=>true
 | _=>false
def Apb (N:Nat)(ops:Array Oper):Bool:=ops.toList.all fun o=>match o.dst with
 | some d=>Nat.blt d N
 | none=>true
theorem Amq {N:Nat}{ops:Array Oper}(h:Apb N ops=true)(i:Nat)(o:Oper)(d:Nat)(a:ops[i]?=some o)(hd:o.dst=some d):d<N:=by
 have b:o∈ops.toList:=by
  rw[← Array.getElem?_toList]at a;exact Aql a
 have:=Aqa.1 h o b;rw[hd]at this;exact ApO this
theorem AlV (l':List (Nat × VV))(hs:List Ob)(l:List (Nat × VV)):S8 (Ay (l++l') hs) (Ay l hs):=by
 refine⟨fun t=>?_,fun _=>Ob.le_refl _,rfl⟩;show VV.le (B9 t (l++l')) (B9 t l)
 induction l with
 | nil=>exact fun _ _ _ _ _=>.dead
 | cons p l ih =>
  obtain⟨j,x⟩:=p;simp only[AqG,B9];grind [VV.le_refl]
section
variable {c : Ctx} {E:AN} {J:JT} {K:Exit->Option Nat->St->Prop} {k:Option Nat} {st:St}
theorem Ee.forget (d:Iu J){code:Code}(keep:List Nat)(f:okF 0 keep st=true)(h:Ee c.P c.N E J code K k (Go.Proofs.YtnhamlpcpngafaaGreatDoor.forget 0 keep st)):Ee c.P c.N E J code K k st :=
 ⟨fun S _ a w hi=>let ⟨φ',b⟩:=hi.forget d f;h.h S φ' a w b⟩
theorem Xh (y:Iu J)(z:TOk c.P c.T){code:Code}(u:isR code=true)(kk tf d:Nat){i n:Nat}{oc:Oper}(v x:Operand){tys:Array TypeId}{l:Nat}{xs:Nat->List VV}
  (A:∀ k S T f vs,k<n->J (some k) S T f->(∀ b,S b->¬ T b)->Gd E (U S T) f->Dh f (E.add (U S T)) none (xs k) vs->YieldAt Fence.wide 0 c.P l vs f fun e w2 =>
   (e=.returned (.bool true)/\∃ S',J (some (k+1)) S' T w2/\Chg f S w2 S')∨(e=.returned (.bool false)/\∃ S',J none S' T w2/\Chg f S w2 S'))
  (g:(NH (Dl (X7 code) kk) c.N&&KG (Dl (X7 code) kk))=true) (p:Qu (Dl (X7 code) kk)=true) (j:(NH (CX (X7 code) (kk+1)) c.N&&KG (CX (X7 code) (kk+1)))=true) (o:Apb c.N (X7 code)=true)
  (q:(X7 code)[kk]?=some oc) (r:oc.op=.call { callee:=.value (.tmp tf),args:=#[v,x],argTypes:=tys }) (t:oc.guard=none) (hd:oc.dst=some d) (hi:i<n) (keep keep2:List Nat)
  (h:(c.piece (AoQ kk code) keep fun _ st1=>∃ l1 a,st1=Ay l1 a/\B9 tf l1=.fn (.yield l) []/\xs i=[(Ay l1 a).val v,(Ay l1 a).val x]/\(xs i).all VV.memA=true /\
   ∀ b,(c.piece (Aov kk code) keep2 fun _ st3=>K .normal (bif b then some (i+1) else none) st3).goal (Ay ((d,.sc (.bool b))::l1) a)).goal st) :
  Ee c.P c.N E J code K (some i) st:=by
 cases code with
 | region id ops b =>
  cases b with
  | false=>exact Aaj (ops:=ops) y z A g p j (Amq o) q r t hd hi keep keep2 h
  | true=>cases u
 | _=>cases u
end
section
variable {m : D.Model} {s:D.State} {e:D.Env} {w:Wy}
noncomputable def cEv:Ctx:=fc Da AQ Tryz.f29 [] (.tup [])
theorem Ao9 : tlC 3 (cEv.sub [])=.block 0 (.loop (cEv.sub [1,1,1,1,0,0])):=by kernel_rfl
theorem Ao8 : tlC 1 (cEv.sub [1,1,1,1,0,0])=.seq (.block 1 (cEv.sub [1,1,1,1,0,0,1,1,0,0])) (cEv.sub [1,1,1,1,0,0,1,1,1]):=by kernel_rfl
theorem Ao7 : tlC 1 (cEv.sub [1,1,1,1,0,0,1,1,0,0])=.block 2 (.loop (cEv.sub [1,1,1,1,0,0,1,1,0,0,1,1,0,0])):=by kernel_rfl
theorem Ao6 : tlC 1 (cEv.sub [1,1,1,1,0,0,1,1,0,0,1,1,0,0])=.seq (.block 3 (cEv.sub [1,1,1,1,0,0,1,1,0,0,1,1,0,0,1,1,0,0])) (cEv.sub [1,1,1,1,0,0,1,1,0,0,1,1,0,0,1,1,1]):=by kernel_rfl
theorem Ao5 : tlC 0 (cEv.sub [1,1,1,1,0,0,1,1,0,0,1,1,0,0,1,1,0,0])=.seq (cEv.sub [1,1,1,1,0,0,1,1,0,0,1,1,0,0,1,1,0,0,1,0]) (.cond (.tmp 48) .ret .skip):=by kernel_rfl
theorem Apa : ∃ oc tys,(X7 (cEv.sub [1,1,1,1,0,0,1,1,0,0,1,1,0,0,1,1,0,0,1,0]))[4]?=some oc/\oc.op=.call { callee:=.value (.tmp 43),args:=#[.tmp 45,.tmp 46],argTypes:=tys }/\oc.guard=none/\oc.dst=some 47:=⟨_,_,rfl,rfl,rfl,rfl⟩
def Wd (m:D.Model)(s:D.State)(k:Nat):List VV:=[.agg (Ae ((C1 m s).getD k default).1),.agg (AY ((C1 m s).getD k default).2)]
theorem AkV (h:Gs m s):FU m s=Cg m s s.Procs.length:=by
 unfold FU;rw[h.check]<;>rfl
theorem Sf (h:Gs m s):Ph Tryz.prog 29 [.box (Af m),.box (Ah s)] [.bp 0 0,.bp 1 0] (C1 m s).length (Wd m s):=by
 refine Al0 (c:=cEv.sub []) Tryz.func29 (by kernel_rfl) rfl (by decide) ?_;intro l E J f C;have r:∀ t a,Gs (D.Env.mk m s 0 t a).M (D.Env.mk m s 0 t a).S:=fun _ _=>h
 have u:En m s=bif decide (0<(C0 ⟨m,s,0,false,Cg m s s.Procs.length⟩).length) then C0 ⟨m,s,0,false,Cg m s s.Procs.length⟩ else C0 ⟨m,s,0,true,Cg m s s.Procs.length⟩:=by
  unfold En;rw[AkV h]
 have v:C1 m s=Cq (En m s):=rfl;have x:=Sb h;have n:∀ g∈En m s,g.2.length<=16778240:=fun g hg=>by
  obtain⟨i,t,hi,rfl⟩:=MB h hg;exact Lr (h.pid (i:=i) (t:=t) (a:=Cg m s s.Procs.length) ⟨by omega,by omega⟩).1
 have q:Ee cEv.P cEv.N E J (tlC 3 (cEv.sub [])) (fun e k _=>(e=.normal∨e=.ret)/\(k=some (C1 m s).length∨k=none)) (some 0) (Rj l (En m s) 0):=by
  have o:∀ k,Wd m s k=[.agg (Ae ((C1 m s).getD k default).1),.agg (AY ((C1 m s).getD k default).2)]:=fun _=>rfl
  generalize Wd m s=xs at C o;rw[v]at C o ⊢;generalize En m s=L at C x n o;clear u v;rw[Ao9];refine Jo (Tx f (fun g k st=>∃ i,i<=L.length/\g=L.length - i/\k=some (NV L i)/\st=Rj l L i) ⟨_,Up.of ⟨0,ApD _,rfl,rfl,rfl⟩⟩ ?_);rintro g k st ⟨i,hi,rfl,rfl,rfl⟩;refine IQ (c:=cEv) f Ai Ak [0,30,31,32] 1 (by kernel_rfl) (by kernel_rfl) ((Amm l L i _).mpr ⟨fun F=>?_,fun G=>?_⟩)
  ·have p:i<L.length:=by have:=AL F;omega
   have H:(i:Int).toNat=i:=by omega
   have I:=n _ (Av (d:=default) p);have y:=fun j=>AlJ (L:=L) (i:=i) (j:=j) p
   have z:=AjJ p;show Ee cEv.P cEv.N E J (tlC 1 (cEv.sub [1,1,1,1,0,0])) _ _ _;rw[Ao8];refine Ny (Jo (IQ (c:=cEv) f Ai Ak [0,30,31,32,8,37,38,39] 1 (by kernel_rfl) (by kernel_rfl) ((Aml l L i _).mpr ⟨⟨by omega,by omega⟩,?_⟩)));rw[H];generalize L.getD i default=gn at I y z;show Ee cEv.P cEv.N E J (tlC 1 (cEv.sub [1,1,1,1,0,0,1,1,0,0])) _ _ _;rw[Ao7];refine Jo (Tx f (fun g k st=>∃ j,j<=gn.2.length/\g=gn.2.length - j/\k=some (NV L i+j)/\st=W7 l L i gn j) ⟨_,Up.of ⟨0,ApD _,rfl,rfl,rfl⟩⟩ ?_);rintro g k st ⟨j,Z,rfl,rfl,rfl⟩;refine IQ (c:=cEv) f Ai Ak [0,30,31,32,8,37,38,39] 1 (by kernel_rfl) (by kernel_rfl) ((Amk l L i gn j _).mpr ⟨fun O=>?_,fun Q=>?_⟩)
   ·have A:j<gn.2.length:=by have:=AL O;omega
    have R:(j:Int).toNat=j:=by omega
    obtain⟨T,U⟩:=y j A;show Ee cEv.P cEv.N E J (tlC 1 (cEv.sub [1,1,1,1,0,0,1,1,0,0,1,1,0,0])) _ _ _;rw[Ao6];refine Ny (Jo (IQ (c:=cEv) f Ai Ak [0,30,31,32,8,37,38,39,10] 0 (by kernel_rfl) (by kernel_rfl) ((Amj l L i gn j _).mpr ⟨⟨by omega,by omega⟩,?_⟩)));rw[R];show Ee cEv.P cEv.N E J (tlC 0 (cEv.sub [1,1,1,1,0,0,1,1,0,0,1,1,0,0,1,1,0,0])) _ _ _;rw[Ao5];obtain⟨oc,tys,V,W,X,Y⟩:=Apa;refine Ny (Xh (c:=cEv) f Ai (by kernel_rfl) 4 43 47 (.tmp 45) (.tmp 46) C (by kernel_rfl) (by kernel_rfl) (by kernel_rfl) (by kernel_rfl) V W X Y T [0,30,31,32,8,37,38,39,43,45,46] [0,30,31,32,8,37,38,39,48] ((Ami l L i gn j _ _).mpr ⟨_,_,rfl,rfl,?_,?_,fun b=>(Amh l L i gn j _ b _).mpr ?_⟩))
    ·rw[o,U]<;>rfl
    ·rw[o]<;>rfl
    ·refine Afh (t:=48) (b:=!b) rfl (fun B=>?_) fun B=>?_
     ·obtain rfl:b=false:=by simpa using B
      exact AiU ⟨.inr rfl,.inr rfl⟩
     ·obtain rfl:b=true:=by simpa using B
      refine Afg ?_;show Ee cEv.P cEv.N E J (cEv.sub [1,1,1,1,0,0,1,1,0,0,1,1,0,0,1,1,1]) _ _ _;refine Ee.cv f (AlV [(48,Ac !true)] _ [(0,yV l),(30,BU true L),(31,Aa L.length),(32,Aa i),(8,.bp 0 0),(37,AW true gn.2),(38,Aa gn.2.length),(39,Aa j)]).cv ?_;refine Rq (c:=cEv) f Ai Ak (by kernel_rfl) [0,30,31,32,8,37,38,39] ((Amg l L i gn j _).mpr ?_);refine⟨gn.2.length - (j+1),by omega,Up.of ⟨j+1,by omega,rfl,rfl,?_⟩⟩;rw[Al (by omega)]
   ·obtain rfl:j=gn.2.length:=by have:=AP Q;omega
    show Ee cEv.P cEv.N E J (cEv.sub [1,1,1,1,0,0,1,1,1]) _ _ _;refine Ee.forget (c:=cEv) f [0,30,31,32] rfl ?_;change Ee cEv.P cEv.N E J (cEv.sub [1,1,1,1,0,0,1,1,1]) _ _ (Rj l L i);refine Rq (c:=cEv) f Ai Ak (by kernel_rfl) [0,30,31,32] ((Ame l L i _).mpr ?_);refine⟨L.length - (i+1),by omega,Up.of ⟨i+1,by omega,rfl,by rw[z],?_⟩⟩;rw[Al (by omega)]
  ·obtain rfl:i=L.length:=by have:=AP G;omega
   refine⟨.inl rfl,.inl ?_⟩;rw[AlO]
 refine IQ (c:=cEv) f Ai Ak [0,30,31,32] 3 (by kernel_rfl) (by kernel_rfl) ((Amf m s l _).mpr ⟨(Cg m s s.Procs.length,0),AhE h.wf h.small h.check,C0 ⟨m,s,0,false,Cg m s s.Procs.length⟩,Uk (r _ _),fun B=>⟨C0 ⟨m,s,0,true,Cg m s s.Procs.length⟩,Uk (r _ _),?_⟩,fun B=>?_⟩)
 ·rw[Ap9 (by grind),Apw]at u;rw[u]at q;exact q
 ·rw[Aqb (by grind),Apy]at u;rw[u]at q;exact q
end
def rfI : Code->Nat
 | .block i _=>i
 | _=>0
def rfA : Code->Code
 | .block _ (.rangeFunc _ _ a _)=>a
 | _=>.skip
def rfB : Code->Code
 | .block _ (.rangeFunc _ _ _ b)=>b
 | _=>.skip
theorem TJ {c:Ctx}(o:TOk c.P c.T)(d:c.P.follows .mixedOrders=true){rel:List Nat}{st:St}(id tg:Nat)(ps:List Tmp)(assign body:Code)(q:c.sub rel=.block id (.rangeFunc (.tmp tg) ps.toArray assign body))(r:c.L.base=0)
  (hB:(PK c.N assign&&Kq c.N body)=true) (f:ps.Nodup/\∀ p,p∈ps->p<c.N) {gf:Nat} (eg:Ic c.P gf) {hi:List Ob} {caps:List VV} {n:Nat} {xs:Nat->List VV} (g:Ph c.P gf hi caps n xs)
  (h:∀ k,(xs k).length=ps.length) (ic ii:List Nat) (h1:ET st.nx ic=true) (h2:ET st.nx ii=true) (h3:(ic.all fun i=>!(ii.any (Nat.beq i)))=true)
  (b:List (Nat × VV)) (nb:Nat) (a:Nat->List Ob) (u:∀ k,(a k).length=nb) (j:WW nb b=true) (v:∀ t,VV.le (IY st ic (st.t t)) (B9 t b)) (x:leO (ic.map (EC st ic)) (a 0))
  (hg:VV.le (IY st ii (st.t tg)) (.fn (.func gf) caps)) (l:leO (ii.map (EC st ii)) hi)
  (round:∀ k,k<n->A7 ((c.rg rel nb b (a (k+1))).goal (Ay (ps.zip (xs k)++b) (a k)))) (done:A7 ((c.after rel).goal (Ay b (a n)))):Ax c rel st :=
 Aal o d id tg ps assign body q r hB f eg g h ic ii h1 h2 h3 b nb a u j v x hg l (fun k y=>(round k y).out) done.out
theorem Adx (x:VV):VV.le x .dead:=fun _ _ _ _ _=>.dead
theorem ZW {α:Type}{l:List α}{k:Nat}{d:α}(h:k<l.length):l.take (k+1)=l.take k++[l.getD k d]:=by
 rw[Arc];simp[List.getD,h]
theorem Aoy : [19,20].Nodup/\∀ p,p∈[19,20]->p<(Tryz.f6).ntmps:=by decide
section
variable {m : D.Model} {s:D.State} {e:D.Env} {w:Wy}
theorem Se : Aj Tryz.prog 14 [] [.agg (Af m),.agg (Ah s)] [.box (Af m),.box (Ah s)] (.fn (.func 29) [.bp 0 0,.bp 1 0]) :=
 Aq Tryz.func14 (Al6 m s rfl) ⟨Hz _,VV.le_refl _⟩
theorem AnE {out:List Nx}{x:Nx}{G:Nat->List VV}(a:G 0=DQ x){i:Nat}(hi:i<out.length+1):(bif i.blt out.length then Hs out i else G (i - out.length))=Hs (out++[x]) i :=
 BR (f:=DQ) (d:=default) (l:=out) (r:=[x]) (F:=Hs out) (fun _ _=>rfl) (fun j b=>by
  obtain rfl:j=0:=by simpa using b
  exact a) (by simp;omega)
def AgT (l:List Nx):List Ob:=[.box [.ow 1 0 l.length],.arr true 0 l.length 15 (Hs l)]
theorem Air (L l l2:List Nx):((fc Da FN Tryz.f6 [] (.tup [CM true (L,(0:Int)).1,Aa (L,(0:Int)).2])).rg [1,1,1,0,1] 2 [(7,.bp 0 0)] (AgT l2)).goal (Ay ([19,20].zip [.agg (Ae e),.agg (AY w)]++[(7,.bp 0 0)]) (AgT l)) =
  ((fc Da FN Tryz.f6 [] (.tup [CM true (L,(0:Int)).1,Aa (L,(0:Int)).2])).rg [1,1,1,0,1] 2 [(7,.bp 0 0)] [.box [.ow 1 0 l2.length],.arr true 0 l2.length 15 (Hs l2)]).goal (Ay [(19,.agg (Ae e)),(20,.agg (AY w)),(7,.bp 0 0)] [.box [.ow 1 0 l.length],.arr true 0 l.length 15 (Hs l)]):=by kernel_rfl
theorem Ane {L l:List Nx}{x:Nx}(h:Aj Tryz.prog 15 [] [.agg (Ae e),.agg (AY w)] [] (.agg (DQ x)))(a:l.length<=285230080):A7 (((fc Da FN Tryz.f6 [] (.tup [CM true (L,(0:Int)).1,Aa (L,(0:Int)).2])).rg [1,1,1,0,1] 2 [(7,.bp 0 0)] (AgT (l++[x]))).goal (Ay ([19,20].zip [.agg (Ae e),.agg (AY w)]++[(7,.bp 0 0)]) (AgT l))):=by
 refine ApI ((Air L l (l++[x])).trans (Ai2 (L,0) e w l (l++[x]))) ⟨x,h,by omega,?_,trivial⟩;rw[ApP];exact⟨Ob.le_refl _,Ap6 fun i hi=>AV (AnE (x:=x) (G:=fun i=>List.take 15 (List.drop (i*15) (DQ x))) rfl hi),trivial⟩
theorem Alh {L l:List Nx}(a:l=L):A7 (((fc Da FN Tryz.f6 [] (.tup [CM true (L,(0:Int)).1,Aa (L,(0:Int)).2])).after [1,1,1,0,1]).goal (Ay [(7,.bp 0 0)] (AgT l))):=by
 subst a;exact ApI (Ai1 (l,0) l) ⟨trivial,VV.le_refl _⟩
theorem Ra (h:Gs m s):Aj Tryz.prog 6 [] [.agg (Af m),.agg (Ah s)] [] (.tup [CM true (DW m s).1,Aa (DW m s).2]):=by
 have o:DW m s=((C1 m s).map fun p=>DF p.1 p.2,0):=by
  unfold DW;rw[h.check]<;>rfl
 have f:=Uo h;have b:∀ k,k<(C1 m s).length->Aj Tryz.prog 15 [] (Wd m s k) [] (.agg (DQ (DF ((C1 m s).getD k default).1 ((C1 m s).getD k default).2))):=fun k i=>by
  obtain⟨_,_,h3,h4,h5⟩:=LC h (Av (d:=default) i);exact Ae0 h3 h4 h5
 refine Aq Tryz.func6 (Alz (DW m s) m s) ⟨Cb m s,Fv h.wf h.small (fun h=>(Ky h).clp),fun h1=>?_,fun _=>⟨(m,s),Se,?_⟩⟩
 ·rw[h.check]at h1;cases h1
 rw[o];refine Ax.cv (Cv.ownBox 0 0 15 (Hs []) rfl rfl) ?_;have c:=Sf h;have a:∀ k,Wd m s k=[.agg (Ae ((C1 m s).getD k default).1),.agg (AY ((C1 m s).getD k default).2)]:=fun _=>rfl
 generalize Wd m s=xs at c b a;generalize C1 m s=L at c b a f;refine TJ Ai Ak (rfI ((fc Da FN Tryz.f6 [] (.tup [.nl,.nl])).sub [1,1,1,0,1])) 18 [19,20] (rfA ((fc Da FN Tryz.f6 [] (.tup [.nl,.nl])).sub [1,1,1,0,1])) (rfB ((fc Da FN Tryz.f6 [] (.tup [.nl,.nl])).sub [1,1,1,0,1])) (by kernel_rfl) rfl (by kernel_rfl) Aoy
  ⟨_,Tryz.func29,rfl,rfl⟩ c (fun k=>by rw[a]<;>rfl) [0,3] [1,2] rfl rfl rfl [(7,.bp 0 0)] 2 (fun k=>AgT ((L.take k).map fun p=>DF p.1 p.2)) (fun _=>rfl) rfl (fun t=>?_) ?_ ?_ ?_ (fun k i=>?_) ?_
 ·show VV.le (IY _ _ (B9 t [(7,.bp 0 0),(18,_)])) (B9 t [(7,.bp 0 0)]);simp only[B9];cases Nat.beq t 7 with
  | true=>exact VV.le_refl _
  | false=>exact Adx _
 ·exact Hz _
 ·exact VV.le_refl _
 ·exact Hz _
 ·have g:=b k i;rw[a]at g ⊢;have j:(L.take (k+1)).map (fun p=>DF p.1 p.2)=(L.take k).map (fun p=>DF p.1 p.2)++[DF (L.getD k default).1 (L.getD k default).2]:=by
   rw[ZW (d:=default) i,Arb]<;>rfl
  have n:((L.take k).map (fun p=>DF p.1 p.2)).length=k:=by simp;omega
  rw[j];generalize (L.take k).map (fun p=>DF p.1 p.2)=l at n;exact Ane g (by omega)
 ·exact Alh (by rw[AqS])
end
section
variable {m : D.Model} {s:D.State}
theorem AhG : Cg m s s.Procs.length=(List.range s.Procs.length).map (Iq m s):=by
 unfold Cg;simp_all
theorem Abq (h:Gs m s):Aj Tryz.prog 7 [] [.agg (Af m),.agg (Ah s)] [] (A6 true (Cg m s s.Procs.length)):=by
 have hp:=h.fits.pl;rw[AhG];refine Aq Tryz.func7 (Agf _ m s) ?_;refine Ax.own 2 5 1 (Ex []) rfl ?_;change Ax _ _ (Aip m s ((List.range 0).map (Iq m s)) ((0:Nat):Int));refine As s.Procs.length (fun k=>Aip m s ((List.range k).map (Iq m s)) k) (fun _=>True) trivial ?_;intro k n _ J next
 have j:((List.range k).map (Iq m s)).length=k:=by simp
 refine ApI (Abr _ m s _ k J) ⟨fun e=>?_,fun g=>?_⟩
 ·have c:k<s.Procs.length:=by have:=AL e;omega
  refine⟨Bt (AdM m s k),(RA (h.pid (i:=k) (t:=false) (a:=[]) ⟨by omega,by omega⟩).1).le trivial ⟨AqH ⟨VV.le_refl _,VV.le_refl _,VV.le_refl _,VV.le_refl _,VV.le_refl _,VV.le_refl _,VV.le_refl _,VV.le_refl _,VV.le_refl _,VV.le_refl _,VV.le_refl _,VV.le_refl _,VV.le_refl _,VV.le_refl _,VV.le_refl _,Aqd,trivial⟩,trivial⟩ trivial (VV.le_refl _),by omega,next _ c trivial (Up.mk (l':=[(2,.bp 0 0),(3,.bp 1 0),(5,.ow 2 0 ((List.range (k+1)).map (Iq m s)).length),(6,Aa ((k+1:Nat):Int))]) (hs':=[.box (Af m),.box (Ah s),.arr true 0 ((List.range (k+1)).map (Iq m s)).length 1 (Ex ((List.range (k+1)).map (Iq m s)))]) ?_ ?_ rfl)⟩
  ·grind [Al,AS]
  ·rw[List.range_succ,Arb,ApP];exact⟨Ob.le_refl _,Ob.le_refl _,Ap6 fun i hi=>AV (BR (f:=fun b=>[Ac b]) (d:=false) (l:=(List.range k).map (Iq m s)) (r:=[Iq m s k]) (F:=fun i=>[Ac (((List.range k).map (Iq m s)).getD i false)]) (G:=fun i=>List.take 1 (List.drop (i*1) [Ac (Iq m s k)])) (fun _ _=>rfl) (by grind) (by simp at hi ⊢;omega)),trivial⟩
 ·obtain rfl:k=s.Procs.length:=by have:=AP g;omega
  exact⟨trivial,VV.le_refl _⟩
theorem Anc : [20,21].Nodup/\∀ p,p∈[20,21]->p<(Tryz.f11).ntmps:=by decide
def Aj3 (m:D.Model)(s:D.State):Nat->List Ob
 | 0=>Yv m s
 | _+1=>Yv m CU
theorem ZZ (h:Gs m s)(d:C1 m s≠[]):Aj Tryz.prog 11 [] [.agg (Af m),.agg (Ah s)] [] (.tup [Ac false,Aa 0]):=by
 have c:=List.length_pos_iff.2 d;refine Aq Tryz.func11 (Alf false 0 m s) ⟨Cb m s,Fv h.wf h.small (fun h=>(Ky h).clp),fun h1=>?_,fun _=>⟨(m,s),Se,?_⟩⟩
 ·rw[h.check]at h1;cases h1
 have b:=Sf h;have a:∀ k,Wd m s k=[.agg (Ae ((C1 m s).getD k default).1),.agg (AY ((C1 m s).getD k default).2)]:=fun _=>rfl
 generalize Wd m s=xs at b a;generalize C1 m s=L at b a c;refine TJ Ai Ak (rfI ((fc A5 G7 Tryz.f11 [] (.tup [.nl,.nl])).sub [1,1,0,1])) 19 [20,21] (rfA ((fc A5 G7 Tryz.f11 [] (.tup [.nl,.nl])).sub [1,1,0,1])) (rfB ((fc A5 G7 Tryz.f11 [] (.tup [.nl,.nl])).sub [1,1,0,1])) (by kernel_rfl) rfl (by kernel_rfl) Anc
  ⟨_,Tryz.func29,rfl,rfl⟩ b (fun k=>by rw[a]<;>rfl) [0,1,2,3] [4,5] rfl rfl rfl Adz 4 (Aj3 m s) (fun k=>by cases k<;>rfl) rfl (fun t=>?_) ?_ ?_ ?_ (fun k f=>?_) ?_
 ·show VV.le (IY _ _ (B9 t [(2,.bp 0 0),(3,.bp 1 0),(4,.bp 2 0),(5,.bp 3 0),(19,_)])) (B9 t [(2,.bp 0 0),(3,.bp 1 0),(4,.bp 2 0),(5,.bp 3 0)]);simp only[B9];cases Nat.beq t 2 with
  | true=>exact VV.le_refl _
  | false =>
  cases Nat.beq t 3 with
  | true=>exact VV.le_refl _
  | false =>
  cases Nat.beq t 4 with
  | true=>exact VV.le_refl _
  | false =>
  cases Nat.beq t 5 with
  | true=>exact VV.le_refl _
  | false=>exact Adx _
 ·exact Hz _
 ·exact VV.le_refl _
 ·exact Hz _
 ·rw[a];cases k with
  | zero=>exact ApI (WR false 0 m s _ _ _) ⟨trivial,VV.le_refl _⟩
  | succ k=>exact ApI (WR false 0 m CU _ _ _) ⟨trivial,VV.le_refl _⟩
 ·have:Aj3 m s L.length=Yv m CU:=by
   obtain⟨n,e⟩:∃ n,L.length=n+1:=⟨L.length - 1,by omega⟩;rw[e]<;>rfl
  rw[this];refine ApI (Aih false 0 m CU) ?_;refine Ar (fun _ st=>st=AcR m CU 0) ⟨0,Up.of rfl⟩ ?_;rintro g st rfl;exact ApI (Aig false 0 m CU 0 _ rfl) ⟨fun h=>(by cases h),fun _=>⟨trivial,VV.le_refl _⟩⟩
theorem Af4 (n:Int):Aj Tryz.prog 23 [] [Aa n] [] (.agg (Az (AlP n))) :=
 Aq Tryz.func23 (Ajj _ n) ⟨trivial,AqH ⟨VV.le_refl _,VV.le_refl _,VV.le_refl _,VV.le_refl _,VV.le_refl _,VV.le_refl _,VV.le_refl _,VV.le_refl _,VV.le_refl _,Aqd,Aqd,Aqd,trivial⟩⟩
theorem RG : Aj Tryz.prog 24 [] [] [] (.agg (Az Uf)) :=
 Aq Tryz.func24 (Af7 _) ⟨trivial,AqH ⟨VV.le_refl _,VV.le_refl _,VV.le_refl _,VV.le_refl _,VV.le_refl _,VV.le_refl _,VV.le_refl _,VV.le_refl _,VV.le_refl _,Aqd,Aqd,Aqd,trivial⟩⟩
theorem XT : Aj Tryz.prog 10 [] [] [] (.agg (Af LS)):=by
 refine Aq Tryz.func10 (Abe LS rfl) ⟨_,Af4 1,_,RG,_,RG,trivial,AqH ⟨AqD (.inl rfl) fun i hi=>AV ?_,AqD (.inl rfl) fun i hi=>AV ?_,Aqd,Aqd,AqD (.inl rfl) fun i hi=>?_,VV.le_refl _,AqD (.inl rfl) fun i hi=>?_,trivial⟩⟩
 ·obtain rfl:i=0:=by omega
  rfl
 ·obtain rfl:i=0:=by omega
  rfl
 ·obtain rfl:i=0:=by omega
  refine⟨VV.le_refl _,VV.le_refl _,Aqd,Aqd,AqD (.inl rfl) fun j a=>?_,VV.le_refl _,VV.le_refl _,VV.le_refl _,VV.le_refl _,VV.le_refl _,trivial⟩
  match j,a with
  | 0,_ =>
   refine⟨AqD (.inl rfl) fun k b=>?_,Aqd,VV.le_refl _,VV.le_refl _,VV.le_refl _,VV.le_refl _,VV.le_refl _,trivial⟩;obtain rfl:k=0:=by omega
   exact⟨VV.le_refl _,VV.le_refl _,VV.le_refl _,VV.le_refl _,Aqd,Aqd,VV.le_refl _,VV.le_refl _,VV.le_refl _,trivial⟩
  | 1,_=>exact⟨Aqd,Aqd,VV.le_refl _,VV.le_refl _,VV.le_refl _,VV.le_refl _,VV.le_refl _,trivial⟩
 ·match i,hi with
  | 0,_=>exact AV rfl
  | 1,_=>exact AV rfl
  | 2,_=>exact⟨VV.le_refl _,VV.le_refl _,VV.le_refl _,VV.le_refl _,VV.le_refl _,VV.le_refl _,VV.le_refl _,VV.le_refl _,VV.le_refl _,Aqd,Aqd,Aqd,trivial⟩
  | 3,_=>exact AV rfl
end
section
variable {m : D.Model}
theorem M5 {i run:Int}{P:Int->Prop}(a:∀ k,P k->EY m i run k=false/\∀ j∈BC (Ao m k),P j) :
  ∀ {g:Nat} {seen:List Bool} {l:List Int},(∀ k∈l,P k)->M6 m i run g seen l=true
 | 0,_,[],_=>rfl
 | 0,_,_::_,_=>rfl
 | _+1,_,[],_=>rfl
 | g+1,seen,k::r,h=>by
  unfold M6;obtain⟨h1,h2⟩:=a k (h k ApF);rw[h1,Apw,M5 a fun j b=>h j (ApM _ b),M5 a (by grind)];grind
def AkY (m:D.Model)(i run k:Int):Prop:=0<=k/\k<m.Exprs.length/\∃ (g:Nat) (b:Bool),k.toNat<g/\LX m i g k b=true/\(b=true->k=run)
theorem Adu (e:EW m){i run k:Int}(h:AkY m i run k):EY m i run k=false/\∀ j∈BC (Ao m k),AkY m i run j:=by
 obtain⟨h0,f,g,b,hg,a,r⟩:=h;obtain⟨g,rfl⟩:∃ l,g=l+1:=⟨g - 1,by omega⟩;unfold LX at a;simp only[Apv,Aqt,AO]at a;obtain⟨o,s,p⟩:=a;refine⟨?_,fun j c=>?_⟩
 ·unfold P2 at o;unfold EY;grind
 ·obtain⟨n,d,rfl⟩:=Aqr c;have q:=N0 (e.at h0 f) _ c;have:=p n d;rw[show(BC (Ao m k)).getD n 0=(BC (Ao m k))[n] by simp[List.getD,d]]at this;exact⟨by omega,by omega,g,false,by omega,this,fun h=>by cases h⟩
theorem Vw {i run k:Int}{b:Bool}(h0:0<=k)(a:k<m.Exprs.length)(h:Gq m i k b=true)(c:b=true->k=run):AkY m i run k:=⟨h0,a,_,b,Aqx _,h,c⟩
theorem Am2 (c:EW m){i:Int}{s:D.Stmt}(h:UF m i s=true):Mc m i s=true:=by
 unfold UF Uu at h;simp only[Apv,Aqt,Aqv,Aqt,ApW,AO]at h;obtain⟨h1,h2,h3,h4,h5⟩:=h;obtain⟨d,e,f⟩:=K6 h1;unfold Mc;rw[h1,Ap7,Apv];refine⟨?_,M5 (P:=AkY m i _) (fun k=>Adu c) fun k a=>?_⟩
 ·revert h2;grind
 ·rcases Ap1.1 a with a | a
  ·obtain⟨n,b,rfl⟩:=Aqr a;have:=h5 n b;rw[show s.Args.getD n 0=s.Args[n] by simp[List.getD,b]]at this;have hi:=d _ a;grind [Vw]
  ·grind [Vw]
theorem AlF (c:EW m){i:Int}(a:(A3 m i).Provided<m.Exprs.length)(h:J9 m i=true):Du m i=true:=by
 unfold J9 at h;unfold Du;simp only[Apv,Aqv,ApB,AO]at h ⊢;refine⟨fun k b=>?_,(Int.lt_or_le (A3 m i).Provided 0).imp id fun h0=>M5 (P:=AkY m i _) (fun k=>Adu c) fun k b=>?_⟩
 ·have:=h.1 k b;unfold Yl Oo at this;unfold Vu Kf;simp only[AO]at this ⊢;exact fun j d n e=>Am2 c (this j d n e)
 ·rw[Ap4.1 b];exact Vw h0 a (h.2.resolve_left (by omega)) fun h=>by cases h
theorem Ti {n:Nat}:∀ {ws:List (List D.Trans)} {many k:Nat},(∀ j,j<ws.length->(0<k+j->(ws.getD j []).length≠0)/\∀ h,h<(ws.getD j []).length->inP n ((ws.getD j []).getD h default).To=true) ->
  many+IE ws<=1024->Hk n many k ws=some (many+IE ws)
 | [],many,k,_,_=>rfl
 | w::r,many,k,h,hm=>by
  have c:IE (w::r)=w.length+IE r:=rfl;obtain⟨a,b⟩:=h 0 (Nat.zero_lt_succ _);unfold Hk;have a:0<k->w.length≠0:=a;have b:Cu w.length (fun i=>inP n (w.getD i default).To)=true:=AO.2 b;rw[show(decide (0<k)&&decide (w.length=0))=false by grind,Ap9 (by omega:¬ 1024<many+w.length),b,Ti (fun j d=>by
   have:=h (j+1) (Nat.succ_lt_succ d);exact⟨fun _=>this.1 (by omega),this.2⟩) (by omega),c,AqF]<;>rfl
theorem T0 {m:D.Model}{a:Int}{p:D.Proc}:∀ {ls:List D.Loc} {many i:Nat},(∀ j,j<ls.length->PU m a p ((i+j:Nat):Int) (ls.getD j default)=false/\SS p (BN (ls.getD j default))=true) ->
  many+ON ls<=1024->ID p.Locs.length p.Final many i ls=true
 | [],_,_,_,_=>rfl
 | l::r,many,i,h,hm=>by
  have f:ON (l::r)=IE (BN l)+ON r:=rfl;obtain⟨c,b1⟩:=h 0 (Nat.zero_lt_succ _);have c:PU m a p ((i:Nat):Int) l=false:=c;have b1:SS p (BN l)=true:=b1;have d:OL p.Final i l=false:=by
   unfold PU at c;unfold OL;grind
  unfold SS Ka Kg at b1;simp only[AO,Apv,Aqt]at b1;unfold ID;rw[d,Ti (fun j b=>⟨fun h0=>by have:=(b1 j b).1;grind,fun n e=>by have:=(b1 j b).2 n e;unfold inP;grind⟩) (by omega)];exact T0 (fun j b=>by
   have:=h (j+1) (Nat.succ_lt_succ b);rw[show i+1+j=i+(j+1) by omega];exact this) (by omega)
theorem Aj9 {i:Nat}(h:E3 m i=true):DK m i=false:=by
 unfold E3 at h;simp only[Apv,Aqt,ApB,AO]at h;obtain⟨h1,h2,h3,h4,h5⟩:=h;have hp:A3 m i=m.Procs.getD i default:=rfl;rw[hp]at h1 h2 h3 h4 h5;unfold DK;generalize m.Procs.getD i default=p at *;have d:=T0 (m:=m) (a:=i) (p:=p) (ls:=p.Locs) (many:=0) (i:=0) (by grind) (by omega);unfold AeO at h1;unfold AeN at h2;simp only[Br,ApN,ApW,bne_eq_false_iff_eq]at h1 h2;have g1:Em p=true:=by
  unfold Em;grind
 have e:E7 p=true:=by
  unfold E7 inP;grind
 have f:(decide ((i:Int)=m.Claim)&&!EV p)=false:=by
  cases c:decide ((i:Int)=m.Claim) with
  | false=>rfl
  | true =>
   have c:=ApK c;unfold Aid at h3;have:EV p=true:=by
    unfold EV IS;simp only[Apv,ApB,AO];rw[show((i:Int)==m.Claim)=true by simpa using c,Apy]at h3;simp only[Br,ApN,ApW]at h3;refine⟨by omega,fun k b=>?_⟩;have:=(h4 k b).1;unfold PU at this;grind
   rw[this]<;>rfl
 grind
theorem AjO (b:AG m)(h:Vs m=true):G3 m=true:=by
 have a:=Yg h;unfold Vs JH at h;unfold G3 JI;rw[a]at h ⊢;have c:=Jh b (by rw[a];decide);rw[show decide (0<((0:Int),(0:Int)).1)=false from rfl,Apw]at h ⊢;have k1:¬ 0<=Q7 m:=by grind
 rw[Ap9 k1,Apw]at h;have k2:¬ 16<EU m m.Procs.length:=by grind
 rw[Ap9 k2,Apw]at h;have d:¬ 0<=AhD m:=by grind
 have e:Gl m=-1:=DE fun i hi=>by rw[Aj9 (FM (f:=fun i:Nat=>E3 m i) (by unfold Q7 at k1;omega) i hi)]<;>rfl
 have g:Jt m=-1:=DE (f:=fun i:Nat=>Du m i) fun i hi=>AlF c (Ot (FM (f:=fun i:Nat=>E3 m i) (by unfold Q7 at k1;omega) i hi)).1 (FM (f:=fun i:Nat=>J9 m i) (by unfold AhD at d;omega) i hi)
 grind
theorem Aad {s:D.State}(a:AG m)(h:Hn m s=0):Vs m=true/\C8 m s=true/\Cb m s=0:=by
 unfold Hn at h;cases c:Vs m with
 | false=>rw[c]at h;cases h
 | true =>
  rw[c,Apy]at h;cases d:C8 m s with
  | false=>rw[d]at h;cases h
  | true =>
   refine⟨rfl,rfl,?_⟩;unfold Cb;rw[AjO a c,d]<;>rfl
end
theorem Ax.forget {c:Ctx}{rel:List Nat}{st:St}(keep:List Nat)(d:okF c.L.base keep st=true)(h:Ax c rel (Go.Proofs.YtnhamlpcpngafaaGreatDoor.forget c.L.base keep st)):Ax c rel st :=
 ⟨fun E _ a w e=>let ⟨φ1,f,g⟩:=e.forget d
  AqQ (h.h E φ1 a w f) fun _ _ _ ⟨E',b,φ',h0,h1,h2,h3⟩=>⟨E',b,φ',h0,h1,h2,g.trans h3⟩⟩
theorem Yj : Aj Tryz.prog 4 [] [] [] (Ac true):=by
 refine Aq Tryz.func4 (Alp true) ⟨LS,XT,?_⟩;refine Ax.pubB (hs':=[.box (Af LS),.box (Ah VD),.gone 1,.gone 1]) 8 8 (by kernel_rfl) ?_;refine Ax.forget [1,2] (by kernel_rfl) ?_;refine Eq.mpr (congrArg (Ax _ _) (show Go.Proofs.YtnhamlpcpngafaaGreatDoor.forget 0 [1,2] (Ay [(1,.bp 0 0),(2,.bp 1 0)] [.box (Af LS),.box (Ah VD),.gone 1,.gone 1])=Ay [(1,.bp 0 0),(2,.bp 1 0)] [.box (Af LS),.box (Ah VD)] by kernel_rfl)) ?_;have z:∀ {m:D.Model} {s:D.State},Gs m s->Aj Tryz.prog 6 [] [.agg (Af m),.agg (Ah s)] [] (.tup [CM true ((DW m s).1,(0:Int)).1,Aa ((DW m s).1,(0:Int)).2]):=fun h=>by
  have:=Ra h;rw[(K7 h).1]at this;exact this
 have h1:=z VJ;have h2:=z Al4;have g:=ZZ VJ Ahe;have d:=VB;have i:=An0;have j:=AnZ;have e:=An1;have f:=AjX;have k:=AlX;change Aj _ _ _ [_,.agg (Ah (R5.getD 0 default).State)] _ (.tup [CM true (AlY,(0:Int)).1,_]) at h2;change Aj _ _ _ _ _ (.tup [CM true (R5,(0:Int)).1,_]) at h1;generalize AlY=K at *;generalize R5=L at *;have l:Int.toNat 0=0:=rfl;have n:Int.toNat 1=1:=rfl;have b:inX 0 L.length:=⟨by decide,by rw[d];decide⟩;have o:inX 1 L.length:=⟨by decide,by rw[d];decide⟩;refine DU (c:=fc A5 QD Tryz.f4 [] (Ac true)) (rel:=[1,1,1]) Ai Ak (by kernel_rfl) (AiK true LS VD rfl rfl) ⟨(L,0),h1,fun _=>b,fun a=>?_,fun _=>⟨b,(K,0),h2,(false,0),g,fun a=>?_,fun _=>⟨fun _=>b,fun _=>o,fun _=>b,fun _=>⟨by decide,?_⟩,fun _=>⟨by decide,by rw[f];decide⟩,Aw ?_⟩⟩⟩
 ·have a:(bif (L.length:Int) != 2 then true else((L.getD 0 default).State.Globals.length:Int) != 1)=true:=a;rw[d,e]at a;cases a
 ·have a:((K.length:Int) != 1)=true:=a;rw[f]at a;cases a
 ·show(0:Int)<((L.getD 0 default).State.Globals.length:Int);rw[e]
  decide
 ·rw[l,n,i,j,e,k]<;>rfl
section
variable {m : D.Model} {s:D.State}
theorem ZH {l:List Nx}(g:Gs m s)(law:Am1 m s l)(v:l.length<=285230080):Ax (fc A5 EF Tryz.f3 [] (Ac true)) [1,1,1,1,1,1,1,1,1,0,1,0] (Pu m s true l 0):=by
 change Ax _ _ (Pu m s true l ((0:Nat):Int));refine As l.length (fun k=>Pu m s true l k) (fun _=>True) trivial ?_;intro k w _ J next
 refine ApI (XH true m s true l k J rfl rfl rfl rfl) ⟨fun r=>?_,fun _=>Aw rfl⟩;have f:k<l.length:=by have:=AL r;omega
 have t:(k:Int).toNat=k:=by omega
 rw[t,show Int.toNat 0=0 from rfl];have p:=Av (d:=default) f;have h0:=Av (d:=default) (show 0<l.length by omega);have i:=law.pid _ p;have b:=law.pid _ h0;have a:=law.prio _ p _ h0;have c:=law.fine _ p;have o:=law.bad _ p;have e:0<k->(l.getD (IntKind.i64.wrap ((k:Int) - 1)).toNat default).Move.Pid<=(l.getD k default).Move.Pid:=fun h=>by
  rw[AK (by omega) (by omega),show((k:Int) - 1).toNat=k - 1 by omega];have:=List.pairwise_iff_getElem.1 law.sorted (k - 1) k (by omega) f (by omega);simpa[List.getD,f,(by omega:k - 1<l.length)] using this
 unfold Adg at a;generalize l.getD (IntKind.i64.wrap ((k:Int) - 1)).toNat default=y at e ⊢;generalize l.getD 0 default=z at b a ⊢;generalize l.getD k default=x at i a c o e ⊢;have j:inX (k:Int) l.length:=⟨by omega,by omega⟩;have nx:J (Pu m s true l (IntKind.i64.wrap ((k:Int)+1))):=next _ f trivial (Up.of (by rw[Al (by omega)]))
 refine⟨j,fun n=>?_,fun _=>⟨i.1,i.2.1⟩,fun _=>⟨by decide,by omega⟩,fun _=>⟨b.1,b.2.1⟩,fun n=>?_,fun _=>⟨j,fun q=>⟨j,true,?_,fun _=>j,fun n=>?_,fun _=>nx⟩,fun q=>⟨j,fun _=>j,fun n=>?_,fun _=>nx⟩⟩⟩
 ·have h1:0<k:=by simp at n;omega
  rw[AK (by omega) (by omega)];exact⟨by omega,by omega⟩
 ·rw[a,i.2.2,Ap9 (show ¬ x.Move.Pid<0 by omega),Ap9 (show ¬ x.Move.Pid>=(s.Procs.length:Int) by omega)]at n;simp at n;have:=e (by omega);omega
 ·have u:=(c (by simpa using q)).1;have:=TB (m:=m) (s:=x.State) (Gs.mk g.wf g.may (Dx.1 u)).small (Ou (Dp g.may).1).claim.2;rw[u]at this;exact this
 ·rw[(c (by simpa using q)).2]at n;simp at n
 ·obtain⟨b1,b2⟩:=o (by simpa using q);rw[b1,b2,show(noT.toList==(⟨#[]⟩:ByteArray).toList)=true from beq_self_eq_true _]at n;cases n
theorem ZI (d:AG m)(hs:QN s):Aj Tryz.prog 3 [] [.agg (Af m),.agg (Ah s)] [] (Ac true):=by
 refine Aq Tryz.func3 (AaU true m s rfl) ⟨true,Yj,Hn m s,U8 d (Aix hs),fun _=>Aw rfl,fun h=>?_⟩;obtain⟨u,v,x⟩:=Aad d (by simpa using h);have g:Gs m s:=⟨d,AjO d u,Dx.1 v⟩;have law:=AeW g;have r:=(K7 g).2.1;refine⟨DW m s,Ra g,_,Abq g,?_⟩;generalize (DW m s).1=l at law r ⊢;change Ax _ _ (Ri m s true l (Cg m s s.Procs.length) ((List.range 0).any fun i=>decide (0<(Md m s i).length)) ((0:Nat):Int));have w:=g.fits.pl;refine As s.Procs.length (fun k=>Ri m s true l (Cg m s s.Procs.length) ((List.range k).any fun i=>decide (0<(Md m s i).length)) k) (fun _=>True) trivial ?_;intro k y _ J next
 refine ApI (XJ true m s true l _ _ k J) ⟨fun p=>?_,fun _=>⟨fun e=>?_,fun _=>ZH g law r⟩⟩
 ·have c:k<s.Procs.length:=by have:=AL p;omega
  have nx:J (Ri m s true l (Cg m s s.Procs.length) (bif (List.range k).any fun i=>decide (0<(Md m s i).length) then true else decide (((Md m s k).length:Int) > 0)) (IntKind.i64.wrap ((k:Int)+1))):=next _ c trivial (Up.of (by
   rw[Al (by omega),List.range_succ,List.any_append,Arw,List.any_nil,Bool.or_false,Br];have:decide (((Md m s k).length:Int) > 0)=decide (0<(Md m s k).length):=by rw[Aqe,ApB,ApB];omega
   rw[this]))
  refine⟨Md m s k,RA (g.pid (i:=k) (t:=false) (a:=Cg m s s.Procs.length) ⟨by omega,by omega⟩).1,fun e=>?_,fun _=>nx⟩;rw[Bh,Apv]at e;have q:=law.alone k c (List.length_pos_iff.1 (by have:=ApK e.1;omega)) (by simpa using e.2);generalize (bif (List.range k).any fun i=>decide (0<(Md m s i).length) then true else decide (((Md m s k).length:Int) > 0))=some at nx ⊢;change Ax _ _ (W4 m s true l _ some k ((0:Nat):Int));refine As l.length (fun j=>W4 m s true l (Cg m s s.Procs.length) some k j) (fun _=>True) trivial ?_;intro j z _ J2 next2;refine ApI (XI true m s true l _ some k j _ _) ⟨fun f=>?_,fun _=>nx⟩;have b:j<l.length:=by have:=AL f;omega
  have n:(j:Int).toNat=j:=by omega
  rw[n];refine⟨⟨by omega,by omega⟩,fun o=>?_,fun _=>next2 _ b trivial (Up.of (by rw[Al (by omega)]))⟩;rw[q _ (Av b)]at o;simp at o
 ·rw[Bh,Apv,List.any_eq_true]at e;obtain⟨⟨i,hi,d⟩,h0⟩:=e;have hi:=Aqo.1 hi;exact absurd (ApV (by simpa using h0)) (law.some i (by omega) (List.length_pos_iff.1 (ApK d)))
end
end Go.Proofs.YtnhamlpcpngafaaGreatDoor
namespace Go.Proofs.YtnhamlpcpngafaaGreatDoor
open Go.ChangeShapes Go.WideShapes Go.ChangeAt Go.RowKit
theorem own : ownKnob Tryz.prog.godebug=none:=by kernel_rfl
theorem AlZ : laidOutB Tryz.prog=true:=by kernel_rfl
theorem SR {H:Type}{enc:TypeId × Value->H}{P:Program}(c:laidOutB P=true){W W':World}(e:Below W.heap.size W W') :
  ∀ (ts:List TypeId) (vs:List Value) (ds:List (DataW H)) (ps:List MemPlace),ts.all (fun t=>P.readableRec t&&decide (t<P.types.size))=true ->
   DataW.TrodAll enc P W 0 (fun _=>true) true ts vs ds ps->DataW.TrodAll enc P W' 0 (fun b=>decide (b<W.heap.size)) true ts vs ds ps:=by
 intro ts
 induction ts with
 | nil =>
  intro vs ds ps _ h;obtain⟨rfl,rfl,rfl⟩:=trodAll_nil h;exact trodAll_mk0
 | cons t ts ih =>
  intro vs ds ps a h;rw[Ark,Apv,Apv]at a;obtain⟨v,vs',d,ds',p,q,rfl,rfl,rfl,h1,h2⟩:=trodAll_cons h;have lt1:∀ x∈p,x.block<W.heap.size:=by obtain⟨m,f⟩:=h1;exact DataW.trod_lt m _ _ _ f
  exact trodAll_cons_mk (Below.trod c a.1.1 (ApK a.1.2) h1 e lt1) (ih vs' ds' q a.2 h2)
theorem AjW {H:Type}{enc:TypeId × Value->H}{P:Program}{f:Func}{s:ChangeSpec}{tb:TypeId}(n:laidOutB P=true)
  (hp:f.params.toList.all (fun t=>P.readableRec t&&decide (t<P.types.size))=true) (o:f.resultTypes=#[tb]) (c:P.underlying tb=some .bool) (a:s.vars=[])
  {W W':World} {args:Array Value} {ds gs:List (DataW H)} {before:List MemPlace}
  (j:DataW.Whole enc P f.params.toList s.vars false W args.toList ds gs before)
  (e:∀ ds,ds.length=f.params.toList.length->s.fn H ds={ results:=[.lit (.bool true)],args:=ds }) (k:Below W.heap.size W W') :
  s.post enc P f false true false false W args (.bool true) W':=by
 have g:=j;obtain⟨p,q,l,m,rfl,r,u⟩:=j;rw[a]at m;obtain⟨rfl,rfl⟩:=trodVars_none m;have b:∀ (ts:List TypeId) (vs:List Value) (ds:List (DataW H)) (ps:List MemPlace),DataW.TrodAll enc P W 0 (fun _=>true) true ts vs ds ps->ds.length=ts.length:=by
  intro ts
  induction ts with
  | nil=>intro vs ds ps h;obtain⟨_,rfl,_⟩:=trodAll_nil h;rfl
  | cons t ts ih=>intro vs ds ps h;obtain⟨v,vs',d,ds',p,q,rfl,rfl,rfl,_,h2⟩:=trodAll_cons h;simp[ih _ _ _ h2]
 have i:=e (ds++[]) (by simpa using b _ _ _ _ l);refine⟨ds,[],_,[],p,[],g,?_,?_,?_,k.frame _,fun h=>by cases h⟩
 ·rw[i,o];exact trodAll_mk1 (shut_bool c _)
 ·rw[i,Aq1];exact SR n k _ _ _ _ hp l
 ·rw[i,a];rfl
theorem Ao3 : (Tryz.prog.globals[0]?).map (·.type)=some 285:=by kernel_rfl
theorem AkC : Tryz.prog.cellsOf 285=20:=by kernel_rfl
theorem AkB : Tryz.prog.cellsOf 220=1:=by kernel_rfl
theorem Apq : (Tryz.prog.globals[2]?).map (·.type)=some 294:=by kernel_rfl
theorem Amu : Tryz.prog.cellsOf 294=64:=by kernel_rfl
theorem Amt : Tryz.prog.cellsOf 5=1:=by kernel_rfl
theorem Agz : Rows.stepWholeRow.laid.filter (fun x=>x.2.handleName?.isSome)=[]:=by kernel_rfl
theorem AjU {W:World}(h:laidMetH Tryz.prog Rows.stepWholeRow.laid W):CG W/\∀ k,k∈EB->k<W.heap.size:=by
 unfold laidMetH at h;rw[Agz]at h;have h:laidMet Tryz.prog Rows.stepWholeRow.laid W:=h;have h1:=h.tail;have h2:=h1.tail;have a:CG W:=⟨Lib.tabIs_of_head Vv Ao3 Tryz.underlying285 Tryz.underlying220 AkB AkC h2,
  Lib.tabIs_of_head T5 Apq Tryz.underlying294 Tryz.underlying5 Amt Amu h1⟩
 refine⟨a,fun k c=>?_⟩;have lt:∀ {g i:Nat} {v:Value},W.cell? ⟨g,i,none⟩=some v->g<W.heap.size:=fun{g i v} h=>by
  rcases Aqj g W.heap.size with b | b
  ·exact b
  ·simp[World.cell?,Array.getElem?_eq_none b]at h
 simp only[EB,Aqk,List.mem_nil_iff,or_false]at c;rcases c with rfl | rfl
 ·exact lt (a.tab.cell Vv 0 (by decide))
 ·exact lt (a.db.cell T5 0 (by decide))
def AmU : DataW Unit->Value
 | .lit (.int k n)=>.int k n
 | _=>undef
def Ake : DataW Unit->Array Value
 | .agg l=>(l.flatMap fun x=>match x with
  | .agg m=>m.map AmU
  | y=>[AmU y]).toArray
 | _=>#[]
def AnN (c:Array Value):Obj->Obj
 | .cells _ t frozen=>.cells c t frozen
 | o=>o
noncomputable def OP (os:Os):World :=
 let w0:=World.holding Tryz.prog os ⟨#[],#[],[]⟩
 { w0 with heap:=((w0.heap.modify 1 (AnN (Ake Rows.laid_math_bits_deBruijn32tab))).modify 2 (AnN (Ake Rows.laid_math_bits_deBruijn64tab))).modify 0 (AnN (Ake Rows.laid_internal_strconv_uint64pow10)) }
def Vq : Value:=.slice none 0 0
def zI : Value:=.int .i64 0
def AcB : Array Value:=#[.agg #[Vq,Vq,Vq,Vq,Vq,zI,Vq],.agg #[Vq,Vq,Vq,zI,zI,zI]]
set_option maxRecDepth 100000 in
theorem AjY (os:Os):laidMet Tryz.prog Rows.stepWholeRow.laid ((OP os).forCall (fun _ _=>0) ⟨#[],AcB,[]⟩).memory :=
 laidMet_of_run' 8 (by kernel_rfl) (by kernel_rfl)
end Go.Proofs.YtnhamlpcpngafaaGreatDoor
namespace Go.Proofs.YtnhamlpcpngafaaGreatDoor.stepWhole
open Go.ChangeShapes Go.WideShapes Go.ChangeAt Go.RowKit
open Go.Proofs.YtnhamlpcpngafaaGreatDoor
theorem Nw {w:World}{E:AN}{x y:VV}{u v:Value}(h1:V w E none x u)(h2:V w E none y v):Dh w E none [x,y] #[u,v]:=by
 refine⟨rfl,fun j q a=>?_⟩
 match j,a with
 | 0,a=>obtain rfl:=ApU a;exact h1
 | 1,a=>obtain rfl:=ApU a;exact h2
 | j+2,a=>simp at a
theorem Apg {w:World}{cs cs2:Array Value}{x:D.Model}{s:D.State}(g:CG w)(hB:∀ k,k∈EB->k<w.heap.size)(i:Is Qs w cs.toList x)(c:Qs.mu x<=1048576)(d:Is Qq w cs2.toList s)(a:Qq.mu s<=1048576) :
  Calls Tryz.prog 3 #[.agg cs,.agg cs2] w fun e w'=>e=.returned (.bool true)/\Below w.heap.size w w':=by
 obtain⟨h1,h2,h3⟩:=Akt.ok (E:=⟨fun _=>False,fun _=>False,0,[]⟩) (m:=none) (fun _ h=>h) c i;obtain⟨k1,k2,l⟩:=Akr.ok (E:=⟨fun _=>False,fun _=>False,0,[]⟩) (m:=none) (fun _ h=>h) a d;refine((ZI h3 l).start g hB (Nw (.agg h1 fun j y f=>?_) (.agg k1 fun j y f=>?_))).mono ?_
 ·have:=h2 j y f
  rwa [show cs.toList.getD j undef=cs.getD j undef by simp[List.getD]]at this
 ·have:=k2 j y f
  rwa [show cs2.toList.getD j undef=cs2.getD j undef by simp[List.getD]]at this
 rintro e w' ⟨u,rfl,b,n⟩;exact⟨by rw[n.sc_inv],b⟩
theorem reads (os:Os){H:Type}(enc:TypeId × Value->H):∃ places,DataW.whole enc Tryz.prog ((OP os).forCall (fun _ _=>0) ⟨#[],AcB,[]⟩).memory Tryz.f3.params.toList Rows.stepWholeSpec.vars false AcB.toList 8 =
  some ([.agg [.nil,.nil,.nil,.nil,.nil,.lit (.int .i64 0),.nil],.agg [.nil,.nil,.nil,.lit (.int .i64 0),.lit (.int .i64 0),.lit (.int .i64 0)]],[],places):=⟨[],by kernel_rfl⟩
end Go.Proofs.YtnhamlpcpngafaaGreatDoor.stepWhole
namespace Go.Proofs.YtnhamlpcpngafaaGreatDoor.stepWhole
open Go.ChangeShapes Go.WideShapes Go.ChangeAt Go.RowKit
open Go.Proofs.YtnhamlpcpngafaaGreatDoor
set_option maxRecDepth 100000 in
theorem AnW (os:Os)(started:os.Started)(H:Type)(enc:TypeId × Value->H)(F:Stop.Interp) :
  ReturnsInHanded {} Tryz.checked os 3 .any ((Rows.OpenSpec.upto Rows.stepWholeSpec).preRow enc Tryz.prog Tryz.f3 Rows.stepWholeUptoRow.domain false Rows.stepWholeUptoRow.laid) (((Rows.OpenSpec.upto Rows.stepWholeSpec).at F).post enc Tryz.prog Tryz.f3 false true false false):=by
 obtain⟨places,f⟩:=reads os enc;refine returnsInHanded_of_row (C:=Tryz.checked) (s:=Rows.OpenSpec.upto Rows.stepWholeSpec) own started (by kernel_rfl) Tryz.func3
  (witness_row_at (enc:=enc) (C:=Tryz.checked) false (OP os) AcB rfl (by kernel_rfl) (by kernel_rfl) (by kernel_rfl)
   (OpenSpec.preRow_of_cond 8 f (by kernel_rfl) (fun k w=>by cases w;kernel_rfl) (by kernel_rfl) (AjY os))) ?_
 intro W base args ds gs before d o _ a _ b M _;have a:Rows.uptoSmall H (ds++gs)=true:=a _ rfl;have b:laidMetH Tryz.prog Rows.stepWholeRow.laid W:=b;have c:∀ (j:Nat) t v,Tryz.f3.params[j]?=some t->args[j]?=some v->Value.okWide Tryz.prog W .any base t v:=d;have g:=o;obtain⟨p,q,i,N,rfl,y,z⟩:=o;have r:DataW.TrodAll enc Tryz.prog W 0 (fun _=>true) true Tryz.f3.params.toList args.toList ds p:=i;rw[Tryz.params3]at r c;obtain⟨A,B,l,m,p0,O,rfl,rfl,rfl,h0,h1⟩:=trodAll_two r;obtain⟨x,f,E,_⟩:=Pkg.open_one Ya h0;obtain⟨cs,rfl,G⟩:=okWide_struct Tryz.underlying29 (c 0 29 A rfl rfl);obtain⟨s,hs,I,_⟩:=Pkg.open_one X8 h1;obtain⟨cs2,rfl,u⟩:=okWide_struct Tryz.underlying33 (c 1 33 B rfl rfl);have n:Rows.uptoBulk l+Rows.uptoBulk m<=1048576:=by
  have h:=ApK a;have e:Rows.uptoBulkAll ([l,m]++gs)=Rows.uptoBulk l+(Rows.uptoBulk m+Rows.uptoBulkAll gs):=by
   simp only[AqG,Aq0,Rows.uptoBulkAll]
  rw[e]at h;omega
 obtain⟨J,hB⟩:=AjU b;refine(Apg J hB f (by omega) hs (by omega)).mono fun e W' ⟨K,L⟩=>?_
 subst K;exact⟨_,rfl,AjW AlZ (by kernel_rfl) rfl Tryz.underlying4 rfl g (fun ds h=>match ds,h with | [_,_],_=>rfl) L⟩
end Go.Proofs.YtnhamlpcpngafaaGreatDoor.stepWhole
