/-
  Texts, joined: CsPut, CsTake, WhP, WhI, WhJ, WhA, WhH, WhK, ShelfP, PrN, PrP, SpP, SpE, VjRnd, VjRng, VjRgs, VjIt, VjIt2, VjIt3, SpA, QsS, QsA, QsH, QsE1, QsE2, QsE3, QsE4, QsE5, QsW1, QsW2, QsW3, QsW4, QsB, QsK, EmW1, WhW1.
-/
import Derived.Test.YtnhamlpcpngafaaGreatDoorQkD
import Derived.Deep.RegionHeld3
import Derived.Deep.RegionLaw
import Derived.Lib.SlicesDelete
import Derived.KernelRfl
import Derived.Shelf.Strings.BuilderK
import Derived.Shelf.Strconv.Itoa4
import Derived.Lib.ItoaLen
import Derived.Lib.AppendIntMem
import Derived.Lib.SmallJoins
import Derived.RangeFuncNested
import Derived.OrdersIn
import Derived.OwnWalkIn
namespace Go.Proofs.YtnhamlpcpngafaaGreatDoor.Ch
open Go.RowKit
set_option maxHeartbeats 1000000 in
theorem Abt {w:World}{yv xv:Value}{x y:List Int}{X:Nat}(a:Is pM w [yv] y)(c:w.cell? ⟨X,0,none⟩=some xv)(b:Is pM w [xv] x) :
  Calls Tryz.prog 173 #[yv,.pointer (some ⟨X,0,none⟩)] w fun e w'=>e=.returned (.bool (FE x y))/\∃ n,w'=w.drewN n:=by
 have HC:=AbP b a;obtain⟨ao,ca,rfl,_⟩:=Lx b;obtain⟨bo,cb,rfl,_⟩:=Lx a
 go_enter Tryz.func173,Tryz.ntmps173
 go_wp2_with fail
 refine HC.mono ?_;rintro e d ⟨rfl,nq,rfl⟩
 go_wp2
 go_ret
 exact⟨rfl,_,rfl⟩
set_option maxHeartbeats 1000000 in
theorem Yr {w:World}{qv xv:Value}{x:List Int}{q:List (List Int)}{X:Nat}(g:Is pQ w [qv] q)(l:w.cell? ⟨X,0,none⟩=some xv)(o:Is pM w [xv] x) :
  Calls Tryz.prog 172 #[qv,.func (.func 173) #[] #[.pointer (some ⟨X,0,none⟩)]] w fun e w'=>e=.returned (.int .i64 (Jz x q))/\∃ n,w'=w.drewN n:=by
 obtain⟨ao,cap,rfl,h1,h2,h3⟩:=Hh g;clear g;unfold maxLen at h2
 go_enter Tryz.func172,Tryz.ntmps172
 go_wp2
 go_loopw [8] (fun i wr=>∃ k:Nat,k<=q.length/\i=.int .i64 k/\(∀ j y,j<k->q[j]?=some y->FE x y=false)/\∃ n,wr=w.drewN n) (fun i _=>q.length - (intOf i).toNat)
 case atStart=>exact⟨0,ApD _,rfl,fun j y h=>by omega,0,rfl⟩
 case round =>
  obtain⟨k,t,rfl,hs,nq,rfl⟩:=hrel
  by_cases a:k<q.length
  ·obtain⟨b,off,rfl,p,f⟩:=h3 (by omega);obtain⟨u,v,r⟩:=f k q[k] (by simp[a]);have HQ:q[k]?=some q[k]:=by simp[a]
   have HC:=Abt (r.drewN Na nq) (X:=X) l (o.drewN Na nq);cases c:FE x q[k] with
   | true =>
    have HI:Hid (Jz x q=k):=by unfold Hid Jz;rw[Sc x q k _ HQ hs c,Aqc a]
    rw[c]at HC;clear hs f h3 c HQ;generalize q[k]=m at *
    go_wp2_with (go_at_call 173;refine HC.mono ?_;rintro e s ⟨rfl,n1,rfl⟩)
    go_ret
    exact⟨by rw[HI.out];rfl,_,rfl⟩
   | false =>
    have HS:Hid (∀ j y,j<k+1->q[j]?=some y->FE x y=false):=by
     intro j y z d
     by_cases e:j=k
     ·subst e;rw[HQ]at d;cases d;exact c
     ·exact hs j y (by omega) d
    rw[c]at HC;clear hs f h3 c HQ;generalize q[k]=m at *
    go_wp2_with (go_at_call 173;refine HC.mono ?_;rintro e s ⟨rfl,n1,rfl⟩)
    go_roundw
    case rel=>exact⟨k+1,by omega,by go_num,HS.out,_,rfl⟩
    case measure=>simp[intOf];omega
  ·obtain rfl:k=q.length:=by omega
   have HI:Hid (Jz x q=-1):=by unfold Hid Jz;rw[PM x q fun j y d=>hs j y (Apz.1 d).1 d,ApT (by omega)]
   clear hs h3
   go_wp2
   go_ret
   exact⟨by rw[HI.out];rfl,_,rfl⟩
def fitM (fs:List D.Type)(m:List Int):List Int:=List.zipWith (fun t v=>DL t.Bits t.Signed v) fs m
def putE (room:Int)(fs:List D.Type)(q:List (List Int))(m:List Int):Int :=
 if m.length≠fs.length then 42 else if fs.all typeP=false then 42 else if room<=q.length then 45 else 0
def putX (fs:List D.Type)(q:List (List Int))(m:List Int)(sorted:Bool):List (List Int):=putAt q (if sorted then ED (fitM fs m) q else q.length) (fitM fs m)
theorem AdY (n:Nat):(madeCells #[Value.int .i64 0] n).toList=List.replicate n (Value.int .i64 0):=toList_madeCells_one (.int .i64 0) n
def putSh (room:Int)(fs:List D.Type)(q:List (List Int))(m:List Int)(sh:Int):Int:=if putE room fs q m=0 then sh else 0
def putQ (room:Int)(fs:List D.Type)(q:List (List Int))(m:List Int)(sorted:Bool):List (List Int):=if putE room fs q m=0 then putX fs q m sorted else[]
theorem OE {room sh:Int}{fs:List D.Type}{q:List (List Int)}{m:List Int}{e:Int}(h:putE room fs q m=e)(a:e≠0):putSh room fs q m sh=0:=by unfold putSh;rw[h,ApT a]
theorem RL {room:Int}{fs:List D.Type}{q:List (List Int)}{m:List Int}{sorted:Bool}{e:Int}(h:putE room fs q m=e)(a:e≠0):putQ room fs q m sorted=[]:=by unfold putQ;rw[h,ApT a]
def Ip (fs:List D.Type)(m:List Int)(k:Nat):List Int:=(fitM fs m).take k++List.replicate (m.length - k) 0
theorem fitM_len {fs:List D.Type}{m:List Int}(h:m.length=fs.length):(fitM fs m).length=m.length:=by simp[fitM,h]
theorem Uh {fs:List D.Type}{m:List Int}{k:Nat}(h:m.length=fs.length)(a:k<=m.length):(Ip fs m k).length=m.length:=by
 simp[Ip,fitM_len h];omega
theorem Ag5 {fs:List D.Type}{m:List Int}(h:m.length=fs.length):Ip fs m m.length=fitM fs m:=by
 simp[Ip];rw[← fitM_len h,AqS]
theorem Ag4 {fs:List D.Type}{m:List Int}{k:Nat}(h:m.length=fs.length)(a:k<m.length)(t:D.Type)(b:fs[k]?=some t) :
  (Ip fs m k).set k (DL t.Bits t.Signed (m.getD k 0))=Ip fs m (k+1):=by
 have d:=fitM_len h;have c:(fitM fs m)[k]?=some (DL t.Bits t.Signed (m.getD k 0)):=by
  simp[fitM,List.getElem?_zipWith,b,List.getD,a]
 unfold Ip;rw[List.set_append_right _ _ (by simp;omega),G9 c,show m.length - k=(m.length - (k+1))+1 by omega,List.replicate_succ];simp[show k - min k (fitM fs m).length=0 by omega]
theorem An8 (b v:Int)(s:Bool):(Lit.int .i64 (DL b s v)).wf=true:=by
 rw[AhU];unfold DL;split
 ·rename_i a;have hp:=AbA b a.1 a.2;have c:=Aq5 (v+2 ^ b.toNat / 2) (show(2:Int) ^ b.toNat≠0 by omega);have d:=Int.emod_lt_of_pos (v+2 ^ b.toNat / 2) (show(0:Int)<2 ^ b.toNat by omega);have e:=Aq5 v (show(2:Int) ^ b.toNat≠0 by omega);have f:=Int.emod_lt_of_pos v (show(0:Int)<2 ^ b.toNat by omega);split<;>omega
 ·omega
structure PF (w wr:World) (room sh:Int) (fv qv:Value) (X L:Nat) (ys:List Int):Prop where
 b0:wr.heap[w.heap.size]?=some (.cells #[.int .i64 room,fv] 86 (0,0))
 b1:wr.heap[w.heap.size+1]?=some (.cells #[.int .i64 sh,qv] 84 (0,0))
 b2:wr.heap[w.heap.size+2]?=some (.cells #[.int .i64 0,.slice none 0 0] 84 (0,0))
 b4:wr.heap[X]?=some (.cells #[.slice (some ⟨w.heap.size+3,0,none⟩) L L] 87 (0,0))
 x:GD wr w.heap.size (.slice (some ⟨w.heap.size+3,0,none⟩) L L) ys
 len:ys.length=L
 below:Below w.heap.size w wr
section
variable {w wr w2:World} {room sh:Int} {fv qv:Value} {X L:Nat} {ys:List Int}
theorem PF.lt (h:PF w wr room sh fv qv X L ys):w.heap.size+2<wr.heap.size/\X<wr.heap.size:=⟨Cc h.b2,Cc h.b4⟩
theorem PF.nx (h:PF w wr room sh fv qv X L ys)(k:Nat)(a:(Value.slice (some ⟨w.heap.size+3,0,none⟩) L L).ownBlock=some k):X≠k:=by
 rintro rfl;obtain⟨c,b⟩:=Bf h.x.row a;exact FL h.b4 b (by decide) rfl
theorem PF.kept (h:PF w wr room sh fv qv X L ys)(a:Below wr.heap.size wr w2):PF w w2 room sh fv qv X L ys :=
 have c:=h.lt
 ⟨(a.block _ (by omega)).trans h.b0,(a.block _ (by omega)).trans h.b1,(a.block _ (by omega)).trans h.b2,(a.block _ (by omega)).trans h.b4,h.x.same fun k b=>a.block k (h.x.row.lt k b).2,h.len,h.below.trans (a.mono h.below.size)⟩
theorem PF.cell (h:PF w wr room sh fv qv X L ys){k:Nat}(b:k<L):wr.cell? ⟨w.heap.size+3,k,none⟩=some (.int .i64 (ys.getD k 0)):=by
 have a:=h.x.row;rw[h.len]at a;have:=h.len;rw[a.cellAt k (by omega)];simp[List.getD,show k<ys.length by omega]
theorem PF.free (h:PF w wr room sh fv qv X L ys)(k:Nat):wr.frozen? ⟨w.heap.size+3,k,none⟩=false:=by
 have a:=h.x.row;rw[h.len]at a;exact a.frozenAt k
theorem PF.set (h:PF w wr room sh fv qv X L ys){k:Nat}{n:Int}(c:(Lit.int .i64 n).wf=true)(d:k<L):PF w (wr.setCell ⟨w.heap.size+3,k,none⟩ (.int .i64 n)) room sh fv qv X L (ys.set k n):=by
 have a:=h.x.row;rw[h.len]at a;have b:=a.stored k (.int .i64 n);refine⟨?_,?_,?_,?_,⟨?_,fun i hi=>?_⟩,by rw[Aqs];exact h.len,h.below.setCell (by simp) _⟩
 ·rw[Below.heap_setCell _ _ _ _ (by simp)];exact h.b0
 ·rw[Below.heap_setCell _ _ _ _ (by simp)];exact h.b1
 ·rw[Below.heap_setCell _ _ _ _ (by simp)];exact h.b2
 ·rw[Below.heap_setCell _ _ _ _ (h.nx (w.heap.size+3) rfl)];exact h.b4
 ·rw[Aqs,h.len,List.map_set];exact b.1
 ·rw[Aqs]at hi
  by_cases e:i=k
  ·subst e;simp[List.getD,hi];exact c
  ·have:=h.x.wf i hi;simpa[List.getD,List.getElem?_set_ne (Ne.symm e)] using this
end
theorem Ci.base {w:World}{n0 n1:Nat}{v:Value}{vs:List Value}{q:List (List Int)}(h:Ci w n0 v vs q)(a:n1<=n0):Ci w n1 v vs q :=
 ⟨⟨h.row.1,h.row.2.imp id fun⟨g,cap,cur,e,h1,h2⟩=>⟨g,cap,cur,e,Ap0 a h1,h2⟩⟩,h.len,fun i u m b c=>(h.each i u m b c).base a⟩
theorem Adf {w wO:World}{room sh:Int}{fv qv ov:Value}{vs:List Value}{X L O:Nat}{x:List Int}{q:List (List Int)}(hp:PF w wO room sh fv qv X L x)(a:Ci wO w.heap.size ov vs q)
  (m:wO.heap[O]?=some (.cells #[.int .i64 sh,ov] 84 (0,0))) (i V:Nat) (o:wO.heap.size=V) (hi:i<=q.length) (d:(q.length+1)*24<=140737488355328) :
  Calls Tryz.prog 175 #[ov,.int .i64 i,.slice (some ⟨V,0,none⟩) 1 1] (wO.alloc (.cells #[.slice (some ⟨w.heap.size+3,0,none⟩) L L] 87)) fun e w' =>
   ∃ ao cap vs',e=.returned (.slice ao (q.length+1) cap)/\Ci w' w.heap.size (.slice ao (q.length+1) cap) vs' (putAt q i x)/\w'.heap[O]?=some (.cells #[.int .i64 sh,ov] 84 (0,0)) /\
    w'.heap[w.heap.size+2]?=some (.cells #[.int .i64 0,.slice none 0 0] 84 (0,0))/\Below w.heap.size w w':=by
 subst o;have h:=hp.below.size;have p:=hp.lt;have r:=Cc m;refine(VH i (a.alloc _) (heap_alloc_new wO _) (fun e=>by have:=(a.row.lt _ e).2;omega) (hp.x.alloc _) hi d (by simp;omega)).mono ?_;rintro e w' ⟨s,rfl,b,n⟩;obtain⟨ao,cap,rfl,_⟩:=EK b.row;rw[Hb hi]at b ⊢;have far:∀ (k:Nat) (c:Array Value) (t:TypeId),wO.heap[k]?=some (.cells c t (0,0))->t≠87->w'.heap[k]?=some (.cells c t (0,0)):=fun k c t f j=>by
  have l:=Cc f;rw[n.block k (by simp;omega) (fun e=>by obtain⟨cur,g⟩:=Bf a.row e;exact FL f g j rfl),Below.heap_alloc _ _ _ l];exact f
 refine⟨ao,cap,_,rfl,b,far O _ _ m (by decide),far _ _ _ hp.b2 (by decide),?_⟩;exact(hp.below.alloc h _).trans (n.below (by simp;omega) fun k f=>(a.row.lt k f).1)
theorem Aj0 {w:World}{v:Value}{fs:List D.Type}(h:Is (Pkg.slice 2 16 IC) w [v] fs) :
  ∃ ao cap,v=.slice ao fs.length cap/\fs.length<=cap/\cap<=maxLen/\(0<fs.length->∃ b off,ao=some ⟨b,off,none⟩/\b<w.heap.size /\
   ∀ i t,fs[i]?=some t->w.cell? ⟨b,off+i*2,none⟩=some (.int .i64 t.Bits)/\w.cell? ⟨b,off+i*2+1,none⟩=some (.bool t.Signed)):=by
 obtain⟨ao,cap,e,h1,h2,h3⟩:=R7 h;refine⟨ao,cap,e,h1,h2,fun hp=>?_⟩;obtain⟨b,off,c,d,a⟩:=h3 hp;refine⟨b,off,c,d,fun i t f=>?_⟩;obtain⟨es,_,h5,h6⟩:=a i t f;simp only[IC,AjZ,Yp,VF,AdA]at h6;obtain⟨_,rfl,_,_,rfl,rfl⟩:=h6;exact⟨by have:=h5 0 (by omega);exact this,by have:=h5 1 (by omega);exact this⟩
end Go.Proofs.YtnhamlpcpngafaaGreatDoor.Ch
namespace Go.Proofs.YtnhamlpcpngafaaGreatDoor.Ch
open Go.RowKit Go.Lib
def cutAt {α:Type}(l:List α)(i:Nat):List α:=l.take i++l.drop (i+1)
theorem LF {α:Type}{l:List α}{i:Nat}(h:i<l.length):(cutAt l i).length=l.length - 1:=by
 unfold cutAt;simp;omega
theorem YS {α:Type}{l:List α}{i j:Nat}(h:i<l.length)(a:j<i):(cutAt l i)[j]?=l[j]?:=by
 unfold cutAt;rw[ApL (by simp;omega),AqP,Aqc a]
theorem YT {α:Type}{l:List α}{i j:Nat}(h:i<l.length)(a:i<=j):(cutAt l i)[j]?=l[j+1]?:=by
 unfold cutAt;rw[ApX (by simp;omega),Arr,Aqg]
 congr 1;omega
theorem Ci.cutAt {w w':World}{n0 i:Nat}{v c:Value}{vs:List Value}{q:List (List Int)}(h:Ci w n0 v vs q)(hi:i<q.length)
  (f:w'.ownsRow n0 87 1 c (q.length - 1) (cutAt vs i)) (g:∀ k,k<w.heap.size->v.ownBlock≠some k->w'.heap[k]?=w.heap[k]?):Ci w' n0 c (cutAt vs i) (cutAt q i):=by
 have m:=h.len;have sep:∀ (x:Value) (l:List Int),GD w n0 x l->GD w' n0 x l:=fun x l b=>b.same fun k d=>g k (b.row.lt k d).2 fun e=>by
  obtain⟨r,n⟩:=Bf b.row d;obtain⟨s,o⟩:=Bf h.row e;exact FL n o (by decide) rfl
 refine⟨by rw[LF hi];exact f,by rw[LF hi,LF (by omega),m],fun j x l b a=>?_⟩
 by_cases p:j<i
 ·rw[YS (by omega) p]at b a;exact sep x l (h.each j x l b a)
 ·rw[YT (by omega) (by omega)]at b a;exact sep x l (h.each _ x l b a)
set_option maxHeartbeats 1000000 in
set_option maxRecDepth 100000 in
theorem VS {w:World}{n0:Nat}{qv:Value}{vs:List Value}{q:List (List Int)}(i:Nat)(m:Ci w n0 qv vs q)(hi:i<q.length) :
  Calls Tryz.prog 178 #[qv,.int .i64 i,.int .i64 ((i:Int)+1)] w fun e w' =>
   ∃ ao cap vs',e=.returned (.slice ao (q.length - 1:Nat) cap)/\Ci w' n0 (.slice ao (q.length - 1:Nat) cap) vs' (cutAt q i)/\Cw w w' (fun k=>qv.ownBlock=some k):=by
 have d:=m.len;obtain⟨ki,khi,khz0,khz1,khz2⟩:=Cs HA;rcases m.row.2 with⟨rfl,h0⟩ | ⟨g,cap,cur,rfl,E,hg,h1,h2,h3,h4⟩
 ·omega
 have v:=h2;unfold maxLen at v;have b:∀ j,j<cap->(w.cell? ⟨g,j,none⟩).isSome=true:=fun j r=>by
  rw[Am hg (by rw[AqC (by omega)])];rfl
 obtain⟨news,a⟩:∃ news,news=vs.drop (i+1):=⟨_,rfl⟩;have x:news.length=q.length - (i+1):=by rw[a];simp[d]
 obtain⟨A,R,n⟩:∃ A:Addr,(if cap=i+1 then some (⟨g,0,none⟩:Addr) else some ⟨g,i+1,none⟩)=some A/\Hid (∀ (t:Nat) (u:Value),news[t]?=some u->w.drew.cell? (A.add t)=some u):=by
  by_cases h:cap=i+1
  ·refine⟨⟨g,0,none⟩,by simp[h],fun t u f=>?_⟩;have:=(Apz.1 f).1;omega
  ·refine⟨⟨g,i+1,none⟩,by simp[h],fun t u f=>?_⟩;have y:=(Apz.1 f).1;rw[a,Aqg]at f;rw[Addr.add_lit];have:=m.row.cellAt (i+1+t) (by omega);rw[f]at this;exact this
 have s1:Hid (news.length=(q.length - (i+1))*1):=by rw[Nat.mul_one];exact x
 have s2:Hid (∀ u∈news,u.oneCell'=true):=by
  intro u f;rw[a]at f;obtain⟨j,r,rfl⟩:=Aqr (Aru f);exact GJ (m.each j vs[j] q[j] (by simp[r]) (by simp[show j<q.length by omega])).row
 have s:Hid (∀ t,t<news.length->(w.drew.cell? ⟨g,0+i*1+t,none⟩).isSome=true/\w.drew.frozen? ⟨g,0+i*1+t,none⟩=false):=by
  intro t y;exact⟨b _ (by omega),AH hg⟩
 obtain⟨W1,c⟩:∃ W1,W1=w.drew.setCells g (0+i*1) news:=⟨_,rfl⟩;obtain⟨F,p,S⟩:=D8 news (0+i*1) w.drew cur hg;rw[← c]at p;have G:∀ ty,(Builtin.clear_ #[82] ty #[.slice (some ⟨g,i+(q.length - (i+1)),none⟩) (q.length - (i+(q.length - (i+1)))) (cap - (i+(q.length - (i+1))))]).run Tryz.prog W1=.ok (.tuple #[]) (W1.setCells g (i+(q.length - (i+1))) (List.replicate (q.length - (i+(q.length - (i+1)))) (.slice none 0 0))) :=
  fun ty=>Lib.run_clear_slice W1 _ _ ty _ Tryz.underlying82 Tryz.zeroValue87 rfl rfl g (i+(q.length - (i+1))) _ _ (by omega) (fun t y=>by rw[Am p (by rw[AqC (by omega)])];rfl) (fun t y=>AH p)
 have H:i<=cap:=by omega
 have I:i+1<=cap:=by omega
 have J:(0:Int)<=(i:Int)+1:=by omega
 have K:(i:Int)+1<=(q.length:Int):=by omega
 have L:Hid (W1=w.drew.setCells g (0+i*1) news):=c;have HF:Hid (∃ ao cap' vs',(Value.slice (some ⟨g,0,none⟩) (i+(q.length - (i+1))) cap)=.slice ao (q.length - 1:Nat) cap'/\Ci (W1.setCells g (i+(q.length - (i+1))) (List.replicate (q.length - (i+(q.length - (i+1)))) (.slice none 0 0))) n0 (.slice ao (q.length - 1:Nat) cap') vs' (cutAt q i)/\Cw w (W1.setCells g (i+(q.length - (i+1))) (List.replicate (q.length - (i+(q.length - (i+1)))) (.slice none 0 0))) (fun k=>(Value.slice (some ⟨g,0,none⟩) q.length cap).ownBlock=some k)):=by
  have n1:i+(q.length - (i+1))=q.length - 1:=by omega
  rw[n1,show q.length - (q.length - 1)=1 by omega];obtain⟨T,M,U⟩:=D8 (List.replicate 1 (Value.slice none 0 0)) (q.length - 1) W1 F p;have far:∀ k,k≠g->(W1.setCells g (q.length - 1) (List.replicate 1 (Value.slice none 0 0))).heap[k]?=w.heap[k]?:=fun k z=>by rw[D7 z,c,D7 z];rfl
  obtain⟨s1,s2,s,C⟩:=DO news (0+i*1) g w.drew;obtain⟨N,O,P,Q⟩:=DO (List.replicate 1 (Value.slice none 0 0)) (q.length - 1) g W1;rw[← c]at s1 s2 s C;refine⟨_,_,cutAt vs i,rfl,m.cutAt hi (F6 M E (by omega) h2 (by omega) (by rw[LF (by omega),d]) fun j r=>?_) fun k _ l=>far k fun e=>l (by rw[e];rfl),
   ⟨N.trans s1,O.trans s2,P.trans s,by rw[Q,C];exact ApC _,fun k _ l=>far k fun e=>l (by rw[e];rfl)⟩⟩
  rw[DG (.inl r),c]
  by_cases B:j<i
  ·rw[DG (.inl (by omega)),YS (by omega) B];exact m.row.cellAt j (by omega)
  ·rw[Gt (w:=w.drew) (o:=0+i*1) (vs:=news) (fun k z=>b (0+i*1+k) (by omega)) (by omega) (by omega),YT (by omega) (by omega),a,Aqg]
   congr 1;omega
 clear c p b
 go_enter Tryz.func178,Tryz.ntmps178
 go_wp2_with fail
 go_region_law (refine step_append_room rfl (.tmp 22) (.tmp 25) 82 rfl 87 ki 1 Tryz.underlying82 khi khz1 g 0 i cap (by simp[Act.eval,Act.put]) A (q.length - (i+1)) (cap - (i+1)) news (by simp[Act.eval,Act.put]) s1.out n.out s2.out (by omega) s.out ?_;rw[← L.out])
 go_wp2
 go_ret
 obtain⟨ao,cap',vs',e,h5,h6⟩:=HF.out;exact⟨ao,cap',vs',by rw[← e];rfl,h5,h6⟩
theorem Ci.base' {w:World}{n0 n1:Nat}{v:Value}{vs:List Value}{q:List (List Int)}(h:Ci w n0 v vs q)(a:n1<=n0):Ci w n1 v vs q :=
 ⟨⟨h.row.1,h.row.2.imp id fun⟨g,cap,cur,e,h1,h2⟩=>⟨g,cap,cur,e,Ap0 a h1,h2⟩⟩,h.len,fun i u m b c=>(h.each i u m b c).base a⟩
set_option maxRecDepth 100000 in
set_option maxHeartbeats 1000000 in
theorem AeK {w:World}{qv:Value}{q:List (List Int)}(sh n:Int)(d:Is pQ w [qv] q)(b:n<0∨(q.length:Int)<=n) :
  Calls Tryz.prog 140 #[.agg #[.int .i64 sh,qv],.int .i64 n] w fun e w'=>e=.returned (.tuple #[.agg #[.int .i64 0,.slice none 0 0],.slice none 0 0,.int .i64 46])/\Below w.heap.size w w':=by
 obtain⟨qo,qc,rfl,_⟩:=Hh d;have a:((w.alloc (.cells #[.int .i64 sh,.slice qo q.length qc] 84)).alloc (.cells #[.int .i64 0,.slice none 0 0] 84)).heap[w.heap.size+1]?=some (.cells #[.int .i64 0,.slice none 0 0] 84 (0,0)):=by
  have:=heap_alloc_new (w.alloc (.cells #[.int .i64 sh,.slice qo q.length qc] 84)) (.cells #[.int .i64 0,.slice none 0 0] 84);simpa using this
 have c:Below w.heap.size w ((w.alloc (.cells #[.int .i64 sh,.slice qo q.length qc] 84)).alloc (.cells #[.int .i64 0,.slice none 0 0] 84)):=((Below.refl _ w).alloc (ApC _) _).alloc (by simp) _;rcases b with b | b
 ·go_enter Tryz.func140,Tryz.ntmps140
  go_wp2
  exact OB rfl rfl a Tryz.underlying84 rfl (by kernel_rfl) rfl ⟨rfl,c⟩
 ·have hd:decide (n<0)=false:=by simp;omega
  go_enter Tryz.func140,Tryz.ntmps140
  go_wp2
  exact OB rfl rfl a Tryz.underlying84 rfl (by kernel_rfl) rfl ⟨rfl,c⟩
set_option maxRecDepth 100000 in
set_option maxHeartbeats 1000000 in
theorem ZX {w:World}{qv:Value}{q:List (List Int)}(sh:Int)(n:Nat)(P:Is pQ w [qv] q)(A:Small q)(J:n<q.length) :
  Calls Tryz.prog 140 #[.agg #[.int .i64 sh,qv],.int .i64 n] w fun e w'=>∃ ov vs mv,e=.returned (.tuple #[.agg #[.int .i64 sh,ov],mv,.int .i64 0]) /\
   Ci w' w.heap.size ov vs (cutAt q n)/\GD w' w.heap.size mv (q.getD n [])/\Below w.heap.size w w':=by
 obtain⟨qo,qc,rfl,_⟩:=Hh P;generalize j:(w.alloc (.cells #[.int .i64 sh,.slice qo q.length qc] 84)).alloc (.cells #[.int .i64 0,.slice none 0 0] 84)=w0;have t:Below w.heap.size w w0:=by rw[← j];exact((Below.refl _ w).alloc (ApC _) _).alloc (by simp) _
 have l:w0.heap[w.heap.size+1]?=some (.cells #[.int .i64 0,.slice none 0 0] 84 (0,0)):=by
  have:=heap_alloc_new (w.alloc (.cells #[.int .i64 sh,.slice qo q.length qc] 84)) (.cells #[.int .i64 0,.slice none 0 0] 84);rw[← j];simpa using this
 have HC:=N9 sh (P.below AcO t) A;rw[← j]at HC;have HW:=Lib.hid j;clear j;have R:(n:Int)<(q.length:Int):=by omega
 have S:=A.1;obtain⟨mm,u⟩:∃ mm,mm=q.getD n []:=⟨_,rfl⟩;rw[← u];have HMM:=Lib.hid u;clear u
 go_enter Tryz.func140,Tryz.ntmps140
 go_wp2_with fail
 (with_reducible refine HC.mono ?_);rintro e w2 ⟨ov,vs,rfl,a,r⟩
 rw[HW.out]at a r;obtain⟨oo,oc,rfl,_,_,h3⟩:=EK a.row;obtain⟨g,rfl,T,K,C⟩:=h3 (by omega);have E:n<vs.length:=by rw[a.len];exact J
 have i:=a.each n vs[n] mm (by simp[E]) (by rw[HMM.out];simp[List.getD,J]);obtain⟨mo,mc,v,_⟩:=EK i.row;have F:=C n J;rw[ApH E,v]at F;rw[v]at i;have Q:=K;have s:w.heap.size<=w0.heap.size:=t.size;have U:w0.heap.size<=w2.heap.size:=r.size;have d:w2.heap[w.heap.size+1]?=_:=(r.block _ (Cc l)).trans l;have L:=Cc d;have G:w.heap.size+1≠w2.heap.size:=by omega
 have V:w2.heap.size≠w.heap.size+1:=fun e=>G e.symm
 have HD:=VS n ((a.base' s).alloc (.cells #[.int .i64 sh,.slice (some ⟨g,0,none⟩) q.length oc] 84)) J;clear v h3 C
 go_wp2_with fail
 (with_reducible refine HD.mono ?_);rintro e h ⟨ao,cap,vs',rfl,M,m⟩
 have o:h.heap[w2.heap.size]?=some (.cells #[.int .i64 sh,.slice (some ⟨g,0,none⟩) q.length oc] 84 (0,0)):=by
  rw[m.block _ (by simp) (by simp[Value.ownBlock];omega)];exact heap_alloc_new _ _
 have f:h.heap[w.heap.size+1]?=some (.cells #[.int .i64 0,.slice none 0 0] 84 (0,0)):=by
  rw[m.block _ (by simp;omega) (by intro e;obtain⟨cur,b⟩:=Bf a.row e;exact FL d b (by decide) rfl),Below.heap_alloc _ _ _ L];exact d
 have H:GD h w.heap.size (.slice mo mm.length mc) mm:=(i.base s).same fun k z=>by
  have N:=(i.row.lt k z).2;rw[m.block _ (by simp;omega) (by intro e;obtain⟨cur,b⟩:=Bf a.row e;obtain⟨cur',x⟩:=Bf i.row z;exact FL x b (by decide) rfl),Below.heap_alloc _ _ _ N]
 have O:Below w.heap.size w h:=((t.trans (r.mono s)).alloc (by omega) _).trans (m.below (by simp;omega) fun k z=>Ap0 s (a.row.lt k z).1);have cO0:h.cell? ⟨w2.heap.size,0,none⟩=some (.int .i64 sh):=Am o rfl;have cO1:h.cell? ⟨w2.heap.size,1,none⟩=some (.slice (some ⟨g,0,none⟩) q.length oc):=Am o rfl;have fO1:h.frozen? ⟨w2.heap.size,1,none⟩=false:=AH o;have W:h.cell? ⟨w.heap.size+1,0,none⟩=some (.int .i64 0):=Am f rfl;have X:h.cell? ⟨w.heap.size+1,1,none⟩=some (.slice none 0 0):=Am f rfl;have Y:h.frozen? ⟨w.heap.size+1,0,none⟩=false:=AH f;have Z:h.frozen? ⟨w.heap.size+1,1,none⟩=false:=AH f;clear a i m F
 go_wp2
 have y:(h.setCell ⟨w2.heap.size,1,none⟩ (.slice ao (q.length - 1) cap)).heap[w.heap.size+1]?=_:=(Below.heap_setCell _ _ _ _ G).trans f;have I:(((h.setCell ⟨w2.heap.size,1,none⟩ (.slice ao (q.length - 1) cap)).setCell ⟨w.heap.size+1,0,none⟩ (.int .i64 sh)).setCell ⟨w.heap.size+1,1,none⟩ (.slice ao (q.length - 1) cap)).heap[w.heap.size+1]?=some (.cells #[.int .i64 sh,.slice ao (q.length - 1) cap] 84 (0,0)):=by
  rw[Bp (Bp y _)];rfl
 refine OB rfl rfl I Tryz.underlying84 rfl (by kernel_rfl) rfl ⟨.slice ao (q.length - 1) cap,vs',.slice mo mm.length mc,rfl,?_,?_,?_⟩
 ·exact((M.set o (by decide) (by decide) _).set y (by decide) (by decide) _).set (Bp y _) (by decide) (by decide) _
 ·refine H.same fun k z=>?_
  have e:∀ {B:Nat} {c:Array Value},h.heap[B]?=some (.cells c 84 (0,0))->k≠B:=fun hB e=>by
   subst e;obtain⟨cur,b⟩:=Bf H.row z;exact FL b hB (by decide) rfl
  rw[Below.heap_setCell _ _ _ _ (e f),Below.heap_setCell _ _ _ _ (e f),Below.heap_setCell _ _ _ _ (e o)]
 ·exact((O.setCell (p:=⟨w2.heap.size,1,none⟩) (by simp;omega) _).setCell (p:=⟨w.heap.size+1,0,none⟩) (Aqu _ _) _).setCell (p:=⟨w.heap.size+1,1,none⟩) (Aqu _ _) _
end Go.Proofs.YtnhamlpcpngafaaGreatDoor.Ch
namespace Go.Proofs.YtnhamlpcpngafaaGreatDoor
open Go.RowKit
def MJ (f:List D.Type)(args init:List Int)(k:Nat):List Int:=(List.range init.length).map fun i=>if i<k then IG (f.getD i default) (args.getD i 0) else init.getD i 0
def MI (m:D.Model)(typ:Int)(args:List Int):D.Process:=⟨typ,(A3 m typ).Start,(A3 m typ).Prio,MJ (A3 m typ).Frame args (A3 m typ).Init args.length⟩
def AjL : D.Process:=⟨0,0,0,[]⟩
def Hp (m:D.Model)(typ:Int)(args:List Int):D.Process × Int :=
 bif !G3 m then(AjL,40)
 else bif decide (typ<0)||(decide ((m.Procs.length:Int)<=typ)||(decide (typ=m.Claim)||decide ((args.length:Int)≠(A3 m typ).Params))) then(AjL,42)
 else(MI m typ args,0)
def PR (e:D.Env)(p:D.Process):D.Env:={ e with S:={ e.S with Procs:=e.S.Procs++[p] } }
def Cj (e:D.Env)(x:Int):D.Env × Int × Int :=
 bif decide ((BQ e (Ao e.M x).Args).2≠0) then(e,0,(BQ e (Ao e.M x).Args).2)
 else bif decide ((Hp e.M (Ao e.M x).N (BQ e (Ao e.M x).Args).1).2≠0) then(e,0,(Hp e.M (Ao e.M x).N (BQ e (Ao e.M x).Args).1).2)
 else(PR e (Hp e.M (Ao e.M x).N (BQ e (Ao e.M x).Args).1).1,e.S.Procs.length,0)
def C3 (e:D.Env)(x v:Int):D.Env × Int:=(stE e x v,(Bg e x v).2)
def JS (e:D.Env)(s:D.Stmt):D.Env × Int :=
 bif Dz e s.B then(bif decide ((Cj e s.B).2.2≠0) then((Cj e s.B).1,(Cj e s.B).2.2) else C3 (Cj e s.B).1 s.A (Cj e s.B).2.1)
 else bif decide ((Be e s.B).2≠0) then(e,(Be e s.B).2) else C3 e s.A (Be e s.B).1
def JU (e:D.Env)(c:Int)(k:D.Chan):D.Env:={ e with S:={ e.S with Chans:=e.S.Chans.set (c - 1).toNat k } }
def EO (k:D.Chan)(n:Int):D.Chan × List Int × Int :=
 bif decide (n<0)||decide ((k.Queue.length:Int)<=n) then(⟨0,[]⟩,[],46) else(⟨k.Shape,Ch.cutAt k.Queue n.toNat⟩,k.Queue.getD n.toNat [],0)
def GI (e:D.Env)(s:D.Stmt):D.Env × Int :=
 bif decide ((Bj e s).2.2≠0) then(e,(Bj e s).2.2)
 else bif decide ((EO (B6 e (Bj e s).1) (Bj e s).2.1).2.2≠0) then(e,(EO (B6 e (Bj e s).1) (Bj e s).2.1).2.2)
 else DZ (bif decide (s.N<2) then JU e (Bj e s).1 (EO (B6 e (Bj e s).1) (Bj e s).2.1).1 else e) s (EO (B6 e (Bj e s).1) (Bj e s).2.1).2.1
def SX (m:D.Model)(k:D.Chan)(l:List Int)(sorted:Bool):D.Chan × Int :=
 (⟨Ch.putSh (BV m k.Shape).Room (BV m k.Shape).Fields k.Queue l k.Shape,Ch.putQ (BV m k.Shape).Room (BV m k.Shape).Fields k.Queue l sorted⟩,Ch.putE (BV m k.Shape).Room (BV m k.Shape).Fields k.Queue l)
def AiS (e:D.Env)(s:D.Stmt):D.Env × Int :=
 (JU e (AD e s).1 (SX e.M (B6 e (AD e s).1) (AD e s).2.1 (decide (s.N=1))).1,(SX e.M (B6 e (AD e s).1) (AD e s).2.1 (decide (s.N=1))).2)
def Dd (e:D.Env)(w:Wy):D.Trans:=(Cz (Cy e) w.Esc).getD w.Way.toNat default
def Iw (e:D.Env)(w:Wy):D.Trans:=(Cz (Cy (BA e w.With)) w.WithEsc).getD w.WithWay.toNat default
def JV (e:D.Env)(s:D.Stmt)(w:Wy):D.Env × Int :=
 bif decide ((AD e s).2.2≠0) then(e,(AD e s).2.2)
 else bif decide (0<=w.With) then({ e with S:=(DZ (BA e w.With) (Iw e w).S (AD e s).2.1).1.S },(DZ (BA e w.With) (Iw e w).S (AD e s).2.1).2)
 else AiS e s
def Ib (e:D.Env)(n:Int):D.Env:={ e with S:={ e.S with Chans:=e.S.Chans++[⟨n,[]⟩] } }
def LL (e:D.Env)(s:D.Stmt):Int:=bif decide ((Be e s.A).2=0)&&decide ((Be e s.A).1=0) then 50 else(Be e s.A).2
def DT (pr:ByteArray->List Int->ByteArray)(e:D.Env)(s:D.Stmt)(w:Wy):D.Env × ByteArray × Int :=
 if s.Kind=1 then(bif Dz e s.A then((Cj e s.A).1,⟨#[]⟩,(Cj e s.A).2.2) else(e,⟨#[]⟩,0))
 else if s.Kind=2 then((JS e s).1,⟨#[]⟩,(JS e s).2)
 else if s.Kind=3 then(e,⟨#[]⟩,LL e s)
 else if s.Kind=4 then(e,bif decide ((BQ e s.Args).2≠0) then⟨#[]⟩ else pr s.Text (BQ e s.Args).1,(BQ e s.Args).2)
 else if s.Kind=9 then((C3 (Ib e s.N) s.A (e.S.Chans.length+1:Nat)).1,⟨#[]⟩,(C3 (Ib e s.N) s.A (e.S.Chans.length+1:Nat)).2)
 else if s.Kind=5 then((JV e s w).1,⟨#[]⟩,(JV e s w).2)
 else if s.Kind=6 then((GI e s).1,⟨#[]⟩,(GI e s).2)
 else(e,⟨#[]⟩,0)
def Fi (l:List D.Process)(k to:Int):List D.Process:=l.set k.toNat { l.getD k.toNat default with Loc:=to }
def L5 (e:D.Env)(w:Wy)(s:D.State):D.State :=
 { s with Procs:=Fi (bif decide (0<=w.With) then Fi s.Procs w.With (Iw e w).To else s.Procs) e.Pid (Dd e w).To,Last:=e.Pid }
def Ahk (e:D.Env):D.State:={ e.S with Procs:=e.S.Procs.take e.Pid.toNat,Last:=e.Pid,Alone:=bif decide (e.Pid<=e.S.Alone) then -1 else e.S.Alone }
def Acu : D.State:=⟨[],[],[],0,0,0⟩
def goE (pr:ByteArray->List Int->ByteArray)(e:D.Env)(w:Wy):D.State × ByteArray × Int :=
 bif decide (w.Err≠0) then(Acu,⟨#[]⟩,w.Err) else bif decide (w.Way<0) then(Ahk e,⟨#[]⟩,0)
 else bif decide ((DT pr e (Dd e w).S w).2.2≠0) then(Acu,⟨#[]⟩,(DT pr e (Dd e w).S w).2.2)
 else(L5 e w (DT pr e (Dd e w).S w).1.S,(DT pr e (Dd e w).S w).2.1,0)
end Go.Proofs.YtnhamlpcpngafaaGreatDoor
namespace Go.Proofs.YtnhamlpcpngafaaGreatDoor
open Go.RowKit
structure Fe (m:D.Model) (s:D.State):Prop where
 g:Bw m.Globals s.Globals=true
 cl:s.Chans.length<=32
 pl:s.Procs.length<=16
 l:0<=s.Last/\s.Last<16
 a:-1<=s.Alone/\s.Alone<s.Procs.length
 c:∀ c∈s.Chans,Dg m c=true
 p:∀ p∈s.Procs,Bd m p=true
 k:G5 m s=true
theorem Dx {m:D.Model}{s:D.State}:C8 m s=true ↔ Fe m s:=by
 unfold C8 I0;simp only[Apv,ApB];rw[CF (d:=default) (f:=fun c=>Dg m c),CF (d:=default) (f:=fun p=>Bd m p)];exact⟨fun⟨⟨⟨⟨⟨⟨⟨⟨⟨h1,h2⟩,h3⟩,h4⟩,h5⟩,h6⟩,h7⟩,e⟩,i⟩,b⟩=>⟨h1,h2,h3,⟨h4,h5⟩,⟨h6,h7⟩,e,i,b⟩,
  fun h=>⟨⟨⟨⟨⟨⟨⟨⟨⟨h.g,h.cl⟩,h.pl⟩,h.l.1⟩,h.l.2⟩,h.a.1⟩,h.a.2⟩,h.c⟩,h.p⟩,h.k⟩⟩
structure GF (b:Int->Prop) (s t:D.State):Prop where
 last:t.Last=s.Last
 alone:t.Alone=s.Alone
 claim:t.Claim=s.Claim
 len:s.Procs.length<=t.Procs.length
 old:∀ i:Nat,i<s.Procs.length->(t.Procs.getD i default).Type_=(s.Procs.getD i default).Type_/\(t.Procs.getD i default).Loc=(s.Procs.getD i default).Loc/\(¬ b i->(t.Procs.getD i default).Frame=(s.Procs.getD i default).Frame)
theorem GF.refl {b:Int->Prop}{s:D.State}:GF b s s:=⟨rfl,rfl,rfl,ApC _,fun _ _=>⟨rfl,rfl,fun _=>rfl⟩⟩
theorem GF.trans {b:Int->Prop}{s t u:D.State}(h:GF b s t)(k:GF b t u):GF b s u :=
 ⟨k.last.trans h.last,k.alone.trans h.alone,k.claim.trans h.claim,Ap0 h.len k.len,fun i hi=>by
  obtain⟨a,c,d⟩:=h.old i hi;obtain⟨b1,b2,b3⟩:=k.old i (ApR hi h.len);grind⟩
theorem GF.less {b c:Int->Prop}{s t:D.State}(h:GF b s t)(d:∀ i,b i->c i):GF c s t :=
 ⟨h.last,h.alone,h.claim,h.len,fun i hi=>⟨(h.old i hi).1,(h.old i hi).2.1,fun e=>(h.old i hi).2.2 fun a=>e (d _ a)⟩⟩
theorem Sa {α:Type}{l:List α}{t j:Nat}{p d:α}:(l.set t p).getD j d=if t=j/\j<l.length then p else l.getD j d:=by grind
theorem N3 {t:D.Type}{v:Int}(h:Ft t=true):CO t (IG t v)=true:=by
 have h0:=h;unfold Ft at h;simp only[Apv,ApB]at h;obtain⟨h1,h2,h3⟩:=h;unfold CO IG DL;rw[h0,Aqc ⟨h1,h2⟩,Ap7];cases hs:t.Signed with
 | true =>
  rw[hs]at h3;simp at h3;rcases h3 with h3 | h3<;>rw[h3]<;>simp<;>omega
 | false =>
  have hp:(0:Int)<2 ^ t.Bits.toNat:=Int.pow_pos (by decide);simp_all [Aq5,Int.ne_of_gt,Int.emod_lt_of_pos]
theorem WJ {t:D.Type}{v:Int}(h:CO t v=true):Ft t=true:=by
 unfold CO at h;grind
theorem AeD {t:List D.Type}{l:List Int}{k:Nat}(h:Bw t l=true)(a:k<l.length):CO (t.getD k default) (l.getD k 0)=true:=by
 unfold Bw at h;simp only[Apv,ApB]at h;exact AO.1 h.2 k a
theorem M7 {t:List D.Type}{l:List Int}(a:t.length=l.length)(h:∀ k,k<l.length->CO (t.getD k default) (l.getD k 0)=true):Bw t l=true:=by
 unfold Bw;simp_all [AO]
theorem Tp {t:List D.Type}{l:List Int}(h:Bw t l=true)(k:Nat)(v:Int):Bw t (l.set k (IG (t.getD k default) v))=true:=by
 have a:=Fg h;refine M7 (by simp[a]) fun i hi=>?_
 rw[Aqs]at hi;have b:=AeD h hi;grind [Sa,N3,WJ]
section
variable {m : D.Model} {s:D.State}
theorem Fe.setP (h:Fe m s){l:List D.Process}(b:l.length=s.Procs.length)(hp:∀ p∈l,Bd m p=true):Fe m { s with Procs:=l } :=
 ⟨h.g,h.cl,by show l.length<=16;rw[b];exact h.pl,h.l,⟨h.a.1,by show s.Alone<(l.length:Int);rw[b];exact h.a.2⟩,h.c,hp,h.k⟩
theorem Fe.addP (h:Fe m s){p:D.Process}(d:s.Procs.length<16)(hp:Bd m p=true):Fe m { s with Procs:=s.Procs++[p] }:=by
 refine⟨h.g,h.cl,by grind,h.l,⟨h.a.1,?_⟩,h.c,fun q b=>?_,h.k⟩
 ·have:=h.a.2;grind
 ·rcases Ap1.1 b with b | b
  ·exact h.p _ b
  grind
theorem Fe.setC (h:Fe m s){k:Nat}{c:D.Chan}(b:Dg m c=true):Fe m { s with Chans:=s.Chans.set k c } :=
 ⟨h.g,by show(s.Chans.set k c).length<=32;rw[Aqs];exact h.cl,h.pl,h.l,h.a,fun x d=>(Gk d).elim (h.c x) fun e=>by rw[e];exact b,h.p,h.k⟩
theorem Abx {p:D.Process}{f:List Int}(h:Bd m p=true)(a:Bw (A3 m p.Type_).Frame f=true):Bd m { p with Frame:=f }=true:=by
 unfold Bd at h ⊢;grind
theorem Ajy {p:D.Process}{to:Int}(h:Bd m p=true)(a:inP (A3 m p.Type_).Locs.length to=true):Bd m { p with Loc:=to }=true:=by
 unfold Bd at h ⊢;grind
theorem AnU {l:List D.Process}{i:Nat}(h:i<l.length):l.getD i default∈l:=Av h
theorem Fe.put (h:Fe m s){who k v:Int}(hi:0<=who->who<s.Procs.length):Fe m (PV m s who k v):=by
 unfold PV;cases c:decide (who<0) with
 | true=>exact⟨Tp h.g _ _,h.cl,h.pl,h.l,h.a,h.c,h.p,h.k⟩
 | false =>
  have h0:0<=who:=by grind
  have d:=hi h0;refine h.setP (Aqs ..) fun p hp=>?_
  rcases Gk hp with hp | rfl
  ·exact h.p _ hp
  ·have b:=h.p _ (AnU (i:=who.toNat) (by omega));exact Abx b (Tp (Eb b).2.2.2.1 _ _)
theorem AgO {who k v:Int}{b:Int->Prop}(d:0<=who->b who):GF b s (PV m s who k v):=by
 unfold PV;cases c:decide (who<0) with
 | true=>exact⟨rfl,rfl,rfl,ApC _,fun _ _=>⟨rfl,rfl,fun _=>rfl⟩⟩
 | false =>
  have h0:0<=who:=by grind
  refine⟨rfl,rfl,rfl,by show s.Procs.length<=(s.Procs.set _ _).length;grind,fun i hi=>?_⟩;show((s.Procs.set who.toNat (AiP m (s.Procs.getD who.toNat default) k v)).getD i default).Type_=_/\((s.Procs.set who.toNat (AiP m (s.Procs.getD who.toNat default) k v)).getD i default).Loc=_/\(_->((s.Procs.set who.toNat (AiP m (s.Procs.getD who.toNat default) k v)).getD i default).Frame=_);rw[Sa];split
  ·rename_i a;obtain⟨rfl,_⟩:=a;exact⟨rfl,rfl,(by grind)⟩
  grind
end
theorem Aiy {e:D.Env}{ev:Evl}{x:D.Expr}(hs:x.V.Scope≠2)(h0:0<=x.V.Scope/\x.V.Scope<=2)(h:0<=(BP e ev x).1)(h2:(BP e ev x).2.2=0):(BP e ev x).1=e.Pid:=by
 unfold BP at h h2 ⊢;cases b:decide (x.Op≠2) with
 | true=>grind
 | false =>
 rw[b,Apw]at h h2;rw[Apw];cases a:decide ((C5 e ev x.V).2≠0) with
 | true=>grind
 | false =>
 rw[a,Apw]at h h2;rw[Apw];cases c:decide ((DM ev x.V.Slot x.V.Dims).2≠0) with
 | true=>grind
 | false =>
 rw[c,Apw]at h;rw[Apw];show(C5 e ev x.V).1=e.Pid;have h:0<=(C5 e ev x.V).1:=h;unfold C5 at h a ⊢;grind
theorem Ts {e:D.Env}{x v:Int}(j:AG e.M)(hs:(Ao e.M x).V.Scope≠2)(h:(Bg e x v).2=0):Fe e.M e.S/\Fe e.M (Bg e x v).1/\GF (fun i=>i=e.Pid) e.S (Bg e x v).1:=by
 unfold Bg at h ⊢;cases f:decide (CE e x≠0) with
 | true=>grind
 | false =>
 rw[f,Apw]at h;rw[Apw];obtain⟨a,h0,h1⟩:=JC (x:=x) j (by simpa using f);cases k:decide ((BP e (FP e) (Ao e.M x)).2.2≠0) with
 | true=>grind
 | false =>
 rw[Apw];have b:(BP e (FP e) (Ao e.M x)).2.2=0:=by simpa using k
 have c:=Lj a h0 h1 b;have g:=Dx.1 a.fits;have d:(Ao e.M x).Op=2:=by
  unfold BP at b;grind
 exact⟨g,g.put fun hp=>(c.own hp).1,AgO fun hp=>Aiy hs (Je ((Akn a h0 h1).var d)).scope hp b⟩
structure SP (b:Int->Prop) (e f:D.Env) (er:Int):Prop where
 M:f.M=e.M
 pid:f.Pid=e.Pid
 keep:GF b e.S f.S
 more:f.S.Procs.length<=e.S.Procs.length+1
 fits:er=0->Fe e.M f.S
section
variable {e : D.Env} {b:Int->Prop}
theorem SP.none {er:Int}(h:Fe e.M e.S):SP b e e er:=⟨rfl,rfl,GF.refl,Ara _,fun _=>h⟩
theorem SP.bad {er:Int}(h:er≠0):SP b e e er:=⟨rfl,rfl,GF.refl,Ara _,fun a=>absurd a h⟩
theorem Ji {x v:Int}(d:AG e.M)(hs:(Ao e.M x).V.Scope≠2) :
  GF (fun i=>i=e.Pid) e.S (C3 e x v).1.S/\(C3 e x v).1.S.Procs.length=e.S.Procs.length/\(C3 e x v).1.M=e.M/\(C3 e x v).1.Pid=e.Pid/\((C3 e x v).2=0->Fe e.M (C3 e x v).1.S):=by
 show GF _ e.S (stE e x v).S/\(stE e x v).S.Procs.length=e.S.Procs.length/\(stE e x v).M=e.M/\(stE e x v).Pid=e.Pid/\((Bg e x v).2=0->Fe e.M (stE e x v).S);have a:=Rk e x v;refine⟨?_,a.procs,a.M,a.pid,fun h=>?_⟩
 ·unfold stE;cases c:decide ((Bg e x v).2=0) with
  | true=>exact(Ts d hs (ApK c)).2.2
  | false=>exact GF.refl
 ·unfold stE;grind [Aqb,Ts]
theorem OQ (m mt:List Int):∀ (l:List Int) (k:Nat) (e:D.Env),AG e.M->(∀ j,j<l.length->mt.getD (k+j) 0=0->(Ao e.M (l.getD j 0)).V.Scope≠2) ->
  GF (fun i=>i=e.Pid) e.S (GO m mt k l e).1.S/\((GO m mt k l e).2=0->Fe e.M e.S->Fe e.M (GO m mt k l e).1.S)
 | [],k,e,c,_=>⟨GF.refl,fun _ h=>h⟩
 | x::r,k,e,c,f=>by
  have g:∀ j,j<r.length->mt.getD (k+1+j) 0=0->(Ao e.M (r.getD j 0)).V.Scope≠2:=fun j p h=>by
   have:=f (j+1) (Nat.succ_lt_succ p) (by rw[show k+(j+1)=k+1+j by omega];exact h);simpa[List.getD] using this
  unfold GO;cases q:decide (mt.getD k 0≠0) with
  | true=>exact OQ m mt r (k+1) e c g
  | false =>
   rw[Apw];have h0:=f 0 (Nat.succ_pos _) (by rw[AqJ];simpa using q);obtain⟨k1,k2,a,d,s⟩:=Ji (v:=m.getD k 0) c (show(Ao e.M x).V.Scope≠2 from h0);have a:(stE e x (m.getD k 0)).M=e.M:=a;have d:(stE e x (m.getD k 0)).Pid=e.Pid:=d;cases n:decide ((Bg e x (m.getD k 0)).2≠0) with
   | true=>exact⟨GF.refl,fun h=>absurd h (ApK n)⟩
   | false =>
    rw[Apw];obtain⟨g1,o⟩:=OQ m mt r (k+1) (stE e x (m.getD k 0)) (by rw[a];exact c) (by rw[a];exact g);rw[d]at g1;rw[a]at o;exact⟨GF.trans k1 g1,fun h _=>o h (s (show(Bg e x (m.getD k 0)).2=0 by simpa using n))⟩
def Zf (m:D.Model)(s:D.Stmt):Prop:=∀ j,j<s.Args.length->s.Match.getD j 0=0->(Ao m (s.Args.getD j 0)).V.Scope≠2
theorem Mz {s:D.Stmt}{m:List Int}(a:AG e.M)(c:Zf e.M s) :
  GF (fun i=>i=e.Pid) e.S (DZ e s m).1.S/\((DZ e s m).2=0->Fe e.M e.S->Fe e.M (DZ e s m).1.S)/\PZ e (DZ e s m).1:=by
 obtain⟨h1,h2⟩:=OQ m s.Match s.Args 0 e a (fun j d h=>c j d (by rwa [Ap5]at h));exact⟨h1,h2,KA m s.Match s.Args 0 e⟩
theorem Jg {m:D.Model}{a:Int}(h:Ca m a=true):(Ao m a).V.Scope≠2:=by
 unfold Ca at h;grind
theorem EM.t2 {m:D.Model}{s:D.Stmt}(h:EM m s)(a:s.Kind=2):(Ao m s.A).V.Scope≠2:=by
 have:=h.st;unfold AA at this;simp_all [Jg]
theorem EM.t9 {m:D.Model}{s:D.Stmt}(h:EM m s)(a:s.Kind=9):(Ao m s.A).V.Scope≠2:=by
 have:=h.st;unfold AA at this;simp_all [Jg]
theorem EM.t6 {m:D.Model}{s:D.Stmt}(h:EM m s)(a:s.Kind=6):Zf m s:=by
 have h6:=h.k6 a;have:=h.st;unfold AA at this;rw[ApT (by omega),ApT (by omega),ApT (by omega),ApT (by omega),Aqc a]at this;simp only[Apv]at this;have:=this.1.1.1.2;unfold GH at this;simp only[Apv]at this;intro j c d;grind [AO,Aqb,Jg]
theorem AkL {m:D.Model}{typ:Int}{args:List Int}(g:G3 m=true)(h0:0<=typ/\typ<m.Procs.length)(j:typ≠m.Claim):Bd m (MI m typ args)=true:=by
 obtain⟨_,h2,_⟩:=Dp g;obtain⟨a,c⟩:=Gb h2 typ.toNat (by omega);have a:Em (A3 m typ)=true:=a;have c:E7 (A3 m typ)=true:=c;unfold Em at a;unfold E7 at c;simp only[Apv,ApB]at a c;have hi:=a.1.1.1.1.1.1.2;have h:∀ i,i<(A3 m typ).Frame.length->CO ((A3 m typ).Frame.getD i default) ((A3 m typ).Init.getD i 0)=true:=FM (by have:=a.1.1.1.1.1.1.1.2;unfold EZ at *;omega);unfold Bd CR MI;simp only[Apv,ApB];have d:(MJ (A3 m typ).Frame args (A3 m typ).Init args.length).length=(A3 m typ).Init.length:=by simp[MJ]
 refine⟨(by grind),M7 (by rw[d];omega) fun k f=>?_⟩;rw[d]at f;have l:=h k (by omega);have:(MJ (A3 m typ).Frame args (A3 m typ).Init args.length).getD k 0=if k<args.length then IG ((A3 m typ).Frame.getD k default) (args.getD k 0) else(A3 m typ).Init.getD k 0:=by simp[MJ,List.getD,f]
 grind [N3,WJ]
theorem AlA {m:D.Model}{typ:Int}{args:List Int}(h:(Hp m typ args).2=0):Bd m (Hp m typ args).1=true:=by
 unfold Hp at h ⊢;cases a:G3 m with
 | false=>grind
 | true =>
  rw[a]at h;rw[AqW,Apw]at h ⊢;grind [ApN,ApW,AkL]
theorem Yo {p:D.Process}:GF b e.S (PR e p).S:=by
 refine⟨rfl,rfl,rfl,by show _<=(e.S.Procs++[p]).length;simp,fun i hi=>?_⟩;have:(e.S.Procs++[p]).getD i default=e.S.Procs.getD i default:=by grind
 show((e.S.Procs++[p]).getD i default).Type_=_/\((e.S.Procs++[p]).getD i default).Loc=_/\(_->((e.S.Procs++[p]).getD i default).Frame=_);grind
theorem KH {x:Int}:((Cj e x).1=e/\(Cj e x).2.2≠0)∨(∃ p,(Cj e x).1=PR e p/\(Cj e x).2.2=0/\Bd e.M p=true):=by
 unfold Cj;cases a:decide ((BQ e (Ao e.M x).Args).2≠0) with
 | true=>grind
 | false =>
  rw[Apw];cases c:decide ((Hp e.M (Ao e.M x).N (BQ e (Ao e.M x).Args).1).2≠0) with
  | true=>grind
  | false=>grind [AlA]
theorem Ahx {x:Int}(h:Fe e.M e.S)(a:e.S.Procs.length<16):SP b e (Cj e x).1 (Cj e x).2.2:=by
 rcases KH (e:=e) (x:=x) with⟨h1,h2⟩ | ⟨p,h1,h2,h3⟩
 ·rw[h1];exact .bad h2
 ·rw[h1];exact⟨rfl,rfl,Yo,by show(e.S.Procs++[p]).length<=_;simp,fun _=>h.addP a h3⟩
theorem AiM {s:D.Stmt}(f:AG e.M)(_:Fe e.M e.S)(hs:(Ao e.M s.A).V.Scope≠2):SP (fun i=>i=e.Pid) e (JS e s).1 (JS e s).2:=by
 unfold JS;cases k:Dz e s.B with
 | true =>
  rw[Apy];rcases KH (e:=e) (x:=s.B) with⟨h1,h2⟩ | ⟨p,h1,h2,h3⟩
  ·rw[Aqb h2,Apy,h1];exact .bad h2
  ·rw[Ap9 (fun g=>g h2),Apw,h1];obtain⟨k1,k2,a,c,d⟩:=Ji (e:=PR e p) (x:=s.A) (v:=(Cj e s.B).2.1) f hs;exact⟨a,c,Yo.trans k1,by rw[k2];show(e.S.Procs++[p]).length<=_;simp,d⟩
 | false =>
  rw[Apw];cases j:decide ((Be e s.B).2≠0) with
  | true=>exact .bad (ApK j)
  | false =>
   obtain⟨k1,k2,a,c,d⟩:=Ji (e:=e) (x:=s.A) (v:=(Be e s.B).1) f hs;exact⟨a,c,k1,by rw[Apw,k2];omega,d⟩
theorem R6 {c:Int}{k:D.Chan}:GF b e.S (JU e c k).S:=⟨rfl,rfl,rfl,ApC _,fun _ _=>⟨rfl,rfl,fun _=>rfl⟩⟩
theorem AcM {m:D.Model}{k:D.Chan}{n:Int}(h:Dg m k=true)(h0:(EO k n).2.2=0):Dg m (EO k n).1=true:=by
 unfold EO at h0 ⊢;cases c:(decide (n<0)||decide ((k.Queue.length:Int)<=n)) with
 | true=>grind
 | false =>
  rw[Apw];obtain⟨⟨j,l⟩,p,o⟩:=Fa h;have a:∀ x∈Ch.cutAt k.Queue n.toNat,x∈k.Queue:=fun x g=>(Ap1.1 g).elim List.mem_of_mem_take Aru
  have i:(Ch.cutAt k.Queue n.toNat).length<=k.Queue.length:=by unfold Ch.cutAt;simp;omega
  unfold Dg;simp only[Apv,ApB];exact⟨⟨CT.2 ⟨j,l⟩,by omega⟩,(CF (d:=[]) (f:=fun x=>Bw (BV m k.Shape).Fields x)).2 fun x g=>o x (a x g)⟩
theorem AnM {m:D.Model}{k:D.Chan}{l:List Int}{sorted:Bool}(h:Dg m k=true)(h0:(SX m k l sorted).2=0):Dg m (SX m k l sorted).1=true:=by
 have h0:Ch.putE (BV m k.Shape).Room (BV m k.Shape).Fields k.Queue l=0:=h0;unfold SX Ch.putSh Ch.putQ;rw[h0,Aqc rfl,Aqc rfl];obtain⟨⟨r,s⟩,z,A⟩:=Fa h;unfold Ch.putE at h0;split at h0
 ·cases h0
 split at h0
 ·cases h0
 split at h0
 ·cases h0
 rename_i g1 g B;have g1:l.length=(BV m k.Shape).Fields.length:=Classical.not_not.1 g1;have g:(BV m k.Shape).Fields.all Ch.typeP=true:=by simpa using g
 have n:∀ x∈Ch.putX (BV m k.Shape).Fields k.Queue l sorted,x∈k.Queue∨x=Ch.fitM (BV m k.Shape).Fields l:=fun x c=>by
  rcases Ap1.1 c with c | c
  ·grind
  grind
 have o:(Ch.putX (BV m k.Shape).Fields k.Queue l sorted).length<=k.Queue.length+1:=by unfold Ch.putX Ch.putAt;simp;omega
 have p:Bw (BV m k.Shape).Fields (Ch.fitM (BV m k.Shape).Fields l)=true:=by
  have t:(Ch.fitM (BV m k.Shape).Fields l).length=l.length:=Ch.fitM_len g1;refine M7 (by omega) fun j q=>?_
  rw[t]at q;have a:j<(BV m k.Shape).Fields.length:=by omega
  have u:(Ch.fitM (BV m k.Shape).Fields l).getD j 0=IG ((BV m k.Shape).Fields.getD j default) (l.getD j 0):=by
   have i:j<(Ch.fitM (BV m k.Shape).Fields l).length:=by omega
   have v:(Ch.fitM (BV m k.Shape).Fields l).getD j 0=(Ch.fitM (BV m k.Shape).Fields l)[j]:=by simp[List.getD,i]
   have w:(BV m k.Shape).Fields.getD j default=(BV m k.Shape).Fields[j]:=by simp[List.getD,a]
   have y:l.getD j 0=l[j]:=by simp[List.getD,q]
   rw[v,w,y];simp[Ch.fitM,IG]
  rw[u];refine N3 ?_;have:=Aqa.1 g _ (Av (d:=default) a);unfold Ch.typeP at this;unfold Ft;simp only[Apv,Aqv]at this ⊢;exact⟨this.1.1,this.1.2,this.2.elim (fun h=>h.elim .inl fun h=>.inr (.inl h)) fun h=>.inr (.inr h)⟩
 unfold Dg;simp only[Apv,ApB];refine⟨⟨CT.2 ⟨r,s⟩,by omega⟩,(CF (d:=[]) (f:=fun x=>Bw (BV m k.Shape).Fields x)).2 fun x c=>?_⟩;grind
theorem QC (a:Fe e.M e.S){n:Int}(h:AkZ e n):Dg e.M (B6 e n)=true:=a.c _ (Av (by have:=h.lo;have:=h.hi;omega))
theorem YA {s:D.Stmt}(d:AG e.M)(h:(Bj e s).2.2=0):AkZ e (Bj e s).1/\(Bb e (Bj e s).1).length=s.Args.length:=by
 unfold Bj at h ⊢;cases a:decide ((AB e s.A).2≠0) with
 | true=>grind
 | false =>
 rw[a,Apw]at h;rw[Apw];cases c:decide ((Bb e (AB e s.A).1).length≠s.Args.length) with
 | true=>grind
 | false =>
 rw[c,Apw]at h;rw[Apw];cases f:decide ((Cl e s).2≠0) with
 | true=>grind
 | false=>grind [FJ]
theorem AfM {s:D.Stmt}(c:AG e.M)(h:Fe e.M e.S)(g:Zf e.M s):SP (fun i=>i=e.Pid) e (GI e s).1 (GI e s).2:=by
 unfold GI;cases j:decide ((Bj e s).2.2≠0) with
 | true=>exact .bad (ApK j)
 | false =>
 rw[Apw];cases k:decide ((EO (B6 e (Bj e s).1) (Bj e s).2.1).2.2≠0) with
 | true=>exact .bad (ApK k)
 | false =>
 rw[Apw];have d:=(YA c (show(Bj e s).2.2=0 by simpa using j)).1;have l:=AcM (QC h d) (by simpa using k);generalize EO (B6 e (Bj e s).1) (Bj e s).2.1=t at l;cases decide (s.N<2) with
 | true =>
  rw[Apy];obtain⟨g1,f,a⟩:=Mz (e:=JU e (Bj e s).1 t.1) (s:=s) (m:=t.2.1) c g;exact⟨a.M,a.pid,R6.trans g1,by rw[a.procs];exact Ara _,fun h0=>f h0 (h.setC l)⟩
 | false =>
  rw[Apw];obtain⟨g1,f,a⟩:=Mz (e:=e) (s:=s) (m:=t.2.1) c g;exact⟨a.M,a.pid,g1,by rw[a.procs];exact Ara _,fun h0=>f h0 h⟩
theorem RX {s:D.Stmt}(j:AG e.M)(h:(AD e s).2.2=0):AkZ e (AD e s).1/\Bw (Bb e (AD e s).1) (AD e s).2.1=true:=by
 unfold AD at h ⊢;cases d:decide ((AB e s.A).2≠0) with
 | true=>grind
 | false =>
 rw[d,Apw]at h;rw[Apw];cases f:decide ((Bb e (AB e s.A).1).length≠s.Args.length) with
 | true=>grind
 | false =>
 rw[f,Apw]at h;rw[Apw];cases l:decide ((BQ e s.Args).2≠0) with
 | true=>grind
 | false =>
  have a:=FJ j (show(AB e s.A).2=0 by simpa using d);refine⟨a,?_⟩;show Bw (Bb e (AB e s.A).1) (G4 (Bb e (AB e s.A).1) (BQ e s.Args).1)=true;have m:=a.sh;have c:=a.ok.tab.shape (B6 e (AB e s.A).1).Shape.toNat (by omega);have o:=Oj (show(BQ e s.Args).2=0 by simpa using l);have p:(Bb e (AB e s.A).1).length=s.Args.length:=by simpa using f
  unfold Di at c;simp only[Apv,ApB]at c;have c:=AO.1 c.2;change ∀ i,i<(Bb e (AB e s.A).1).length->Ft ((Bb e (AB e s.A).1).getD i default)=true at c;have n:(G4 (Bb e (AB e s.A).1) (BQ e s.Args).1).length=(BQ e s.Args).1.length:=by simp[G4]
  refine M7 (by omega) fun k g=>?_
  rw[n]at g;have:(G4 (Bb e (AB e s.A).1) (BQ e s.Args).1).getD k 0=IG ((Bb e (AB e s.A).1).getD k default) ((BQ e s.Args).1.getD k 0):=by simp[G4,List.getD,g]
  grind [N3]
theorem AiR {s:D.Stmt}{w:Wy}(c:AG e.M)(h:Fe e.M e.S)(f:0<=w.With->Zf e.M (Iw e w).S):SP (fun i=>i=e.Pid∨i=w.With) e (JV e s w).1 (JV e s w).2:=by
 unfold JV;cases d:decide ((AD e s).2.2≠0) with
 | true=>exact .bad (ApK d)
 | false =>
 rw[Apw];cases g:decide (0<=w.With) with
 | true =>
  rw[Apy];obtain⟨g1,j,k⟩:=Mz (e:=BA e w.With) (s:=(Iw e w).S) (m:=(AD e s).2.1) c (f (ApK g));exact⟨rfl,rfl,g1.less fun i hi=>.inr hi,by show(DZ (BA e w.With) _ _).1.S.Procs.length<=_;rw[k.procs];exact Ara _,fun h0=>j h0 h⟩
 | false =>
  rw[Apw];have a:=(RX c (show(AD e s).2.2=0 by simpa using d)).1;exact⟨rfl,rfl,R6,Ara _,fun h0=>h.setC (AnM (QC h a) h0)⟩
theorem YQ {pr:ByteArray->List Int->ByteArray}{s:D.Stmt}{w:Wy}(d:AG e.M)(h:Fe e.M e.S)(hs:EM e.M s)(j:s.Kind=1->Dz e s.A=true->e.S.Procs.length<16)(k:0<=w.With->Zf e.M (Iw e w).S) :
  SP (fun i=>i=e.Pid∨i=w.With) e (DT pr e s w).1 (DT pr e s w).2.2:=by
 have up:∀ {f:D.Env} {er:Int},SP (fun i=>i=e.Pid) e f er->SP (fun i=>i=e.Pid∨i=w.With) e f er:=fun g=>⟨g.M,g.pid,g.keep.less fun i hi=>.inl hi,g.more,g.fits⟩
 unfold DT;split
 ·rename_i a;cases c:Dz e s.A with
  | true=>exact Ahx h (j a c)
  | false=>exact .none h
 split
 ·rename_i a;exact up (AiM d h (hs.t2 a))
 split
 ·exact .none h
 split
 ·exact .none h
 split
 ·rename_i a;obtain⟨k1,k2,l,m,n⟩:=Ji (e:=Ib e s.N) (x:=s.A) (v:=(e.S.Chans.length+1:Nat)) d (hs.t9 a);have o:GF (fun i=>i=e.Pid) e.S (Ib e s.N).S:=⟨rfl,rfl,rfl,ApC _,fun _ _=>⟨rfl,rfl,fun _=>rfl⟩⟩;exact up ⟨l,m,GF.trans o k1,by show(C3 (Ib e s.N) s.A _).1.S.Procs.length<=_;rw[k2];exact Ara _,n⟩
 split
 ·exact AiR d h k
 split
 ·rename_i a;exact up (AfM d h (hs.t6 a))
 exact .none h
end
def Alm : Shp:={ α:=List Int,enc:=fun y=>([.arr true 0 y.length 1 (AJ y)],.ow 0 0 y.length) }
def AoC : Shp:={ α:=D.Process,enc:=fun y=>([],.agg (AF y)) }
def Ank : Shp:={ α:=D.Process × Int,enc:=fun y=>([],.tup [.agg (AF y.1),Aa y.2]) }
def Alj : Shp:={ α:=D.Chan × List Int × Int,enc:=fun y=>([],.tup [.agg (AM y.1),Ad true y.2.1,Aa y.2.2]) }
def Afa (f:FuncId):Shp:=bif Nat.beq f 122 then Ank else bif Nat.beq f 157 then AoC else bif Nat.beq f 140 then Alj else Xe f
def Anw (f:FuncId):Shp:=bif Nat.beq f 87 then Alm else Xe f
def SD : Ann:={ keep:=fun
  | [0,1,0,1,1,1]=>[6,7,8,25,26,27]
  | _=>[] }
def UX (m:D.Model)(typ:Int)(args l:List Int)(k:Int):St:=Ay [(6,.bp 0 0),(7,.bp 1 0),(8,.bp 2 0),(25,Ad false args),(26,Aa args.length),(27,Aa k)] [.box [Aa 0,Aa 0,Aa 0,.nl],.box (A4 (A3 m typ)),.box [Aa typ,Aa (A3 m typ).Start,Aa (A3 m typ).Prio,.ow 3 0 l.length],.arr true 0 l.length 1 (AJ l)]
set_option maxRecDepth 100000
theorem AiT (p:D.Process)(m:D.Model)(typ:Int)(args:List Int){a}(b:a=m.Procs.getD typ.toNat default):(fc Anw SD Tryz.f157 [] (.agg (AF p))).goal (St.init [] [.agg (Af m),Aa typ,Ad false args]) =
  (inX typ m.Procs.length/\∃ (y:List Int),Aj Tryz.prog 87 [] [Ad true a.Init] [.arr true 0 y.length 1 (AJ y)] (.ow 0 0 y.length)/\Ax (fc Anw SD Tryz.f157 [] (.agg (AF p))) [1,1,1,0,1,0] (Ay [(6,.bp 0 0),(7,.bp 1 0),(8,.bp 2 0),(25,Ad false args),(26,Aa (↑args.length:Int)),(27,Aa 0)] [.box [Aa 0,Aa 0,Aa 0,.nl],.box (A4 a),.box [Aa typ,Aa a.Start,Aa a.Prio,.ow 3 0 y.length],.arr true 0 y.length 1 (AJ y)])):=by subst b;kernel_rfl
theorem Ai3 (p:D.Process)(r:Int)(m:D.Model)(typ:Int)(args:List Int){a}(b:a=VV.tup [VV.agg (AF p),Aa r]):(fc Afa AQ Tryz.f122 [] (.tup [.agg (AF p),Aa r])).goal (St.init [] [.agg (Af m),Aa typ,Ad false args]) =
  (∃ (y:Bool),VC 27 [.agg (Af m)] (Ac y)/\BB (!y) (LQ (.tup [.agg [Aa 0,Aa 0,Aa 0,.nl],Aa 40]) a) (((true&&(bif bif decide (typ<0) then true else decide (typ>=(↑m.Procs.length:Int)) then true else typ==m.Claim)==false)=true->inX typ m.Procs.length)/\BB (bif bif bif decide (typ<0) then true else decide (typ>=(↑m.Procs.length:Int)) then true else typ==m.Claim then true else(↑args.length:Int) != (m.Procs.getD typ.toNat default).Params) (LQ (.tup [.agg [Aa 0,Aa 0,Aa 0,.nl],Aa 42]) a) (∃ (y:D.Process),VC 157 [.agg (Af m),Aa typ,Ad false args] (.agg (AF y))/\LQ (.tup [.agg (AF y),Aa 0]) a))):=by subst b;kernel_rfl
theorem ZF (hs':List Ob)(v r:Int)(e:D.Env)(x:Int){b}(c:b=(e.S.Procs.length+1)):(B8 Tryz.prog tb Afa AhC false Tryz.f90 hs' (.tup [Aa v,Aa r])).goal (St.init (hsE e) [.bp 0 0,Aa x]) =
  (inX x e.M.Exprs.length/\∃ (y:List Int × Int),Aj Tryz.prog 93 [] [.agg (BJ e),Ad true (e.M.Exprs.getD x.toNat default).Args] [.arr true 0 y.fst.length 1 (AJ y.fst)] (.tup [.ow 0 0 y.fst.length,Aa y.snd])/\BB (y.snd != 0) (leO (hsE e) hs'/\(VV.tup [Aa 0,Aa y.snd]).le (.tup [Aa v,Aa r])) (∃ (a:D.Process × Int),VC 122 [.agg (Af e.M),Aa (e.M.Exprs.getD x.toNat default).N,Ad false y.fst] (.tup [.agg (AF a.fst),Aa a.snd])/\BB (a.snd != 0) (leO (hsE e) hs'/\(VV.tup [Aa 0,Aa a.snd]).le (.tup [Aa v,Aa r])) (b*48<=140737488355328/\leO [.box (FH e (.ow 1 0 e.S.Chans.length) (.ow 2 0 b)),obC e.S,.arr true 0 b 4 fun(i:Nat)=>bif i.blt e.S.Procs.length then AF (e.S.Procs.getD i default) else(fun(i:Nat)=>List.take 4 (List.drop (i*4) (AF a.fst))) (i - e.S.Procs.length)] hs'/\(VV.tup [Aa (IntKind.i64.wrap ((↑b:Int) - (1:Int))),Aa 0]).le (.tup [Aa v,Aa r])))):=by subst c;kernel_rfl
theorem Ad1 (hs':List Ob)(r:Int)(e:D.Env)(s:D.Stmt):(B8 Tryz.prog tb Afa AhC false Tryz.f91 hs' (Aa r)).goal (St.init (hsE e) [.bp 0 0,.agg (Au s)]) =
  (∃ (y:Bool),VC 89 [VV.agg (Af e.M),Aa s.B] (Ac y)/\BB y (∃ (y:D.Env × Int × Int),Aj Tryz.prog 90 (hsE e) [VV.bp 0 0,Aa s.B] (hsE y.fst) (vII y.snd)/\BB (y.snd.snd != 0) (leO (hsE y.fst) hs'/\(Aa y.snd.snd).le (Aa r)) (∃ (a:D.Env × Int),Aj Tryz.prog 95 (hsE y.fst) [VV.bp 0 0,Aa s.A,Aa y.snd.fst] (hsE a.fst) (Aa a.snd)/\leO (hsE a.fst) hs'/\(Aa a.snd).le (Aa r))) (∃ (y:Int × Int),VC 92 [VV.agg (BJ e),Aa s.B] (vII y)/\BB (y.snd != 0) (leO (hsE e) hs'/\(Aa y.snd).le (Aa r)) (∃ (a:D.Env × Int),Aj Tryz.prog 95 (hsE e) [VV.bp 0 0,Aa s.A,Aa y.fst] (hsE a.fst) (Aa a.snd)/\leO (hsE a.fst) hs'/\(Aa a.snd).le (Aa r)))):=by kernel_rfl
theorem Zn (hs':List Ob)(r:Int)(e:D.Env)(s:D.Stmt):(B8 Tryz.prog tb Afa AhC false Tryz.f97 hs' (Aa r)).goal (St.init (hsE e) [.bp 0 0,.agg (Au s)]) =
  (∃ (y:Int × Int × Int),VC 139 [VV.agg (BJ e),VV.agg (Au s)] (Kd y)/\BB (y.snd.snd != 0) (leO (hsE e) hs'/\(Aa y.snd.snd).le (Aa r)) (inX (IntKind.i64.wrap (y.fst - (1:Int))) e.S.Chans.length/\∃ (a:D.Chan × List Int × Int),VC 140 [VV.agg (AM (e.S.Chans.getD (IntKind.i64.wrap (y.fst - (1:Int))).toNat default)),Aa y.snd.fst] (VV.tup [VV.agg (AM a.fst),Ad true a.snd.fst,Aa a.snd.snd])/\BB (a.snd.snd != 0) (leO (hsE e) hs'/\(Aa a.snd.snd).le (Aa r)) (BB (decide (s.N<2)) (inX (IntKind.i64.wrap (y.fst - (1:Int))) e.S.Chans.length/\∃ (b:D.Env × Int),Aj Tryz.prog 137 [Ob.box (FH e (VV.ow 1 0 e.S.Chans.length) (VV.ow 2 0 e.S.Procs.length)),Ob.arr true 0 e.S.Chans.length 2 fun(j:Nat)=>bif j.beq (IntKind.i64.wrap (y.fst - (1:Int))).toNat then AM a.fst else AM (e.S.Chans.getD j default),obP e.S] [VV.bp 0 0,VV.agg (Au s),Ad true a.snd.fst] (hsE b.fst) (Aa b.snd)/\leO (hsE b.fst) hs'/\(Aa b.snd).le (Aa r)) (∃ (y:D.Env × Int),Aj Tryz.prog 137 (hsE e) [VV.bp 0 0,VV.agg (Au s),Ad true a.snd.fst] (hsE y.fst) (Aa y.snd)/\leO (hsE y.fst) hs'/\(Aa y.snd).le (Aa r))))):=by kernel_rfl
theorem Aei (s:D.State)(e:D.Env):(fc Afa AQ Tryz.f48 [] (.agg (Ah s))).goal (St.init [] [.agg (Ae e)]) =
  (∃ (y:D.State),Aj Tryz.prog 49 [] [VV.agg (Ah e.S)] [obC y,obP y] (VV.agg (BH y (VV.ow 0 0 y.Chans.length) (VV.ow 1 0 y.Procs.length)))/\((0:Int)<=e.Pid/\e.Pid<=(↑y.Procs.length:Int))/\BB (decide (y.Alone>=(↑e.Pid.toNat:Int))) (LQ (VV.agg [Ad true y.Globals,A0 true y.Chans,VV.sl true e.Pid.toNat 4 (Jq y.Procs),Aa e.Pid,Aa (-1),Aa y.Claim]) (VV.agg (Ah s))) (LQ (VV.agg [Ad true y.Globals,A0 true y.Chans,VV.sl true e.Pid.toNat 4 (Jq y.Procs),Aa e.Pid,Aa y.Alone,Aa y.Claim]) (VV.agg (Ah s)))):=by kernel_rfl
theorem Aff (p:D.Process)(m:D.Model)(typ:Int)(args l:List Int)(k:Int)(J:St->Prop){a}(b:a=A3 m typ):((fc Anw SD Tryz.f157 [] (.agg (AF p))).loop [1,1,1,0,1,0] J).goal (UX m typ args l k) =
  (BB (decide (k<(↑args.length:Int))) (inX k args.length/\inX k a.Frame.length/\∃ (y:Int),VC 169 [.agg (BM (a.Frame.getD k.toNat default)),Aa (args.getD k.toNat 0)] (Aa y)/\inX k l.length/\J (Ay [(6,.bp 0 0),(7,.bp 1 0),(8,.bp 2 0),(25,Ad false args),(26,Aa (↑args.length:Int)),(27,Aa (IntKind.i64.wrap (k+(1:Int))))] [.box [Aa 0,Aa 0,Aa 0,.nl],.box (A4 a),.box [Aa typ,Aa a.Start,Aa a.Prio,.ow 3 0 l.length],.arr true 0 l.length 1 fun(j:Nat)=>bif j.beq k.toNat then[Aa y] else[Aa (l.getD j 0)]])) (LQ (.agg [Aa typ,Aa a.Start,Aa a.Prio,Ad true l]) (.agg (AF p)))):=by subst b;kernel_rfl
end Go.Proofs.YtnhamlpcpngafaaGreatDoor
namespace Go.Proofs.YtnhamlpcpngafaaGreatDoor
open Go.RowKit
section
variable {e : D.Env} {w:Wy}
theorem QQ {i:Int}:∀ {l:List Ab} {k:Nat},w∈CP i k l->∃ (j:Nat) (x:Ab),l[j]?=some x/\w∈Fp i (k+j) x
 | [],_,h=>by cases h
 | x::r,k,h=>by
  rcases Ap1.1 (show w∈Fp i k x++CP i (k+1) r from h) with h | h
  ·exact⟨0,x,rfl,h⟩
  ·obtain⟨j,y,a,b⟩:=QQ h;exact⟨j+1,y,a,by rw[show k+(j+1)=k+1+j by omega];exact b⟩
theorem Tj {i:Int}{k:Nat}{x:Ab}(h:w∈Fp i k x):w.Way=k/\w.Esc=i/\(x.is=true∨∃ p∈x.wth,w.With=p.pid):=by
 rcases Ap1.1 h with h | h
 ·grind
 ·obtain⟨p,hp,rfl⟩:=Aqw.1 h;exact⟨rfl,rfl,.inr ⟨p,hp,rfl⟩⟩
theorem TQ : ∀ {l:List (Int × List D.Trans)},w∈ES e l->0<=w.Way
 | [],h=>by cases h
 | (i,ws)::r,h=>by
  have a:ES e ((i,ws)::r)=bif decide (0<(CP i 0 (Dc e (BY e) ws false)).length) then CP i 0 (Dc e (BY e) ws false) else ES e r:=rfl
  rw[a]at h;cases c:decide (0<(CP i 0 (Dc e (BY e) ws false)).length) with
  | true =>
   rw[c]at h;obtain⟨j,x,_,h2⟩:=QQ h;have:=(Tj h2).1;omega
  | false=>rw[c]at h;exact TQ h
theorem Akz (h:w∈Bt e)(f:w.Way<0)(c:w.Err=0):e.Pid=(e.S.Procs.length:Int) - 1:=by
 unfold Bt at h;cases d:decide ((De e e.Pid).Loc=(CC e).Final) with
 | true =>
  grind
 | false =>
  rw[d,Apw]at h;cases a:decide ((AX e).2≠0) with
  | true =>
   rw[a,Apy]at h;obtain rfl:=Ap4.1 h;exact absurd c (ApK a)
  | false =>
   rw[a,Apw]at h;cases b:(!(AX e).1) with
   | true=>rw[b]at h;cases h
   | false =>
    rw[b,Apw]at h;have:=TQ h;omega
theorem Xi (h:w∈Bt e)(h0:0<=w.Way)(g:(Dd e w).S.Kind=1)(k:Dz e (Dd e w).S.A=true):e.S.Procs.length<16:=by
 rcases Im (e:=e) with a | ⟨er,a⟩ | ⟨i,ws,hi,a⟩
 ·rw[a]at h;cases h
 ·rw[a]at h;obtain rfl:=Ap4.1 h;exact absurd (show(0:Int)<=-1 from h0) (by decide)
 ·rw[a]at h;obtain⟨l,_⟩:=IX hi;obtain⟨j,x,m,f⟩:=QQ h;rw[Ap5]at f;obtain⟨b1,rfl⟩:=VZ m;obtain⟨n,o,c⟩:=Tj f;have q:ws.getD j default=Dd e w:=by
   unfold Dd;rw[o,l,n]<;>rfl
  have b:Er e (BY e) ws false j=Ce e (BY e) (Dd e w).S false:=by
   unfold Er;grind
  have d:Ce e (BY e) (Dd e w).S false=JW e:=by
   unfold Ce;rw[Aqc g,k]<;>rfl
  rw[b,d]at c;rcases c with c | ⟨p,hp,_⟩
  ·exact ApK c
  ·cases hp
theorem Fh {l:List D.Process}{k to:Int}:(Fi l k to).length=l.length:=Aqs ..
theorem Q2 {l:List D.Process}{k to:Int}{j:Nat}(h:(j:Int)≠k)(a:0<=k):(Fi l k to).getD j default=l.getD j default:=by
 unfold Fi;grind
theorem Q3 {m:D.Model}{l:List D.Process}{k to:Int}(h:∀ p∈l,Bd m p=true)(h0:0<=k)(a:k<l.length)(b:inP (A3 m (l.getD k.toNat default).Type_).Locs.length to=true):∀ p∈Fi l k to,Bd m p=true:=fun p hp=>by
 rcases Gk hp with hp | rfl
 ·exact h p hp
 grind [Ajy,Av]
structure Whole (e:D.Env) (w:Wy) (s:D.State):Prop where
 fits:Fe e.M s
 last:s.Last=e.Pid
 claim:s.Claim=e.S.Claim
 n1:(e.S.Procs.length:Int) - 1<=s.Procs.length
 n2:s.Procs.length<=e.S.Procs.length+1
 old:∀ k:Nat,k<s.Procs.length->k<e.S.Procs.length->(k:Int)≠e.Pid->(k:Int)≠w.With->(s.Procs.getD k default).Frame=(e.S.Procs.getD k default).Frame/\(s.Procs.getD k default).Loc=(e.S.Procs.getD k default).Loc /\
  (s.Procs.getD k default).Type_=(e.S.Procs.getD k default).Type_
theorem AeL {l:List D.Process}{n k:Nat}(h:k<n):(l.take n).getD k default=l.getD k default:=by simp[List.getD,h]
theorem Ahj (h:CA e)(hp:e.Pid=(e.S.Procs.length:Int) - 1):Whole e w (Ahk e):=by
 have b:=Dx.1 h.ok.fits;have h0:=h.p0;have f:=b.pl;have i:(e.S.Procs.take e.Pid.toNat).length=e.Pid.toNat:=by simp;omega
 have j:=b.a;refine⟨⟨b.g,b.cl,by show(List.take _ _).length<=16;omega,⟨h0,by show e.Pid<16;omega⟩,?_,b.c,fun p hp=>b.p _ (List.mem_of_mem_take hp),b.k⟩,rfl,rfl,by show _<=((List.take _ _).length:Int);omega,by show(List.take _ _).length<=_;omega,fun k d _ _ _=>?_⟩
 ·show -1<=(bif decide (e.Pid<=e.S.Alone) then -1 else e.S.Alone)/\(bif decide (e.Pid<=e.S.Alone) then -1 else e.S.Alone)<((List.take e.Pid.toNat e.S.Procs).length:Int);grind
 ·have d:k<(e.S.Procs.take e.Pid.toNat).length:=d;show((e.S.Procs.take e.Pid.toNat).getD k default).Frame=_/\((e.S.Procs.take e.Pid.toNat).getD k default).Loc=_/\((e.S.Procs.take e.Pid.toNat).getD k default).Type_=_;grind
structure Aol (e:D.Env) (w:Wy):Prop where
 st:EM e.M (Dd e w).S
 to:inP (A3 e.M (De e e.Pid).Type_).Locs.length (Dd e w).To=true
 v:0<=w.With->w.With≠e.Pid/\w.With<e.S.Procs.length/\EM e.M (Iw e w).S/\(Iw e w).S.Kind=6/\inP (A3 e.M (De e w.With).Type_).Locs.length (Iw e w).To=true
theorem Ab4 {pr:ByteArray->List Int->ByteArray}(h:CA e)(n:w∈Bt e)(h0:0<=w.Way)(g:Aol e w)(q:(DT pr e (Dd e w).S w).2.2=0):Whole e w (L5 e w (DT pr e (Dd e w).S w).1.S):=by
 have r:=Dx.1 h.ok.fits;have b:=h.p0;have s:=h.ok.pid;have d:=YQ (pr:=pr) h.ok.wf r g.st (fun t x=>Xi n h0 t x) (fun hv=>(g.v hv).2.2.1.t6 (g.v hv).2.2.2.1);generalize DT pr e (Dd e w).S w=y at q d ⊢;have ff:=d.fits q;have u:=d.keep.len;have o:=d.more;have f:∀ i:Nat,i<e.S.Procs.length->(y.1.S.Procs.getD i default).Type_=(e.S.Procs.getD i default).Type_:=fun i hi=>(d.keep.old i hi).1
 unfold L5;have j:∀ l:List D.Process,l.length=y.1.S.Procs.length->(∀ p∈l,Bd e.M p=true)->(l.getD e.Pid.toNat default).Type_=(De e e.Pid).Type_ ->
   (∀ k:Nat,(k:Int)≠e.Pid->(k:Int)≠w.With->l.getD k default=y.1.S.Procs.getD k default)->Whole e w { y.1.S with Procs:=Fi l e.Pid (Dd e w).To,Last:=e.Pid }:=by
  intro l z hp A B;have m:(Fi l e.Pid (Dd e w).To).length=y.1.S.Procs.length:=by rw[Fh,z]
  refine⟨⟨ff.g,ff.cl,by show(Fi _ _ _).length<=16;rw[m];exact ff.pl,⟨b,by show e.Pid<16;have:=r.pl;omega⟩,⟨ff.a.1,by show y.1.S.Alone<((Fi _ _ _).length:Int);rw[m];exact ff.a.2⟩,ff.c,Q3 hp b (by omega) (by rw[A];exact g.to),ff.k⟩,
   rfl,d.keep.claim,by grind,by grind,fun k t C n1 n2=>?_⟩
  show((Fi l e.Pid (Dd e w).To).getD k default).Frame=_/\((Fi l e.Pid (Dd e w).To).getD k default).Loc=_/\((Fi l e.Pid (Dd e w).To).getD k default).Type_=_;rw[Q2 n1 b,B k n1 n2];obtain⟨F,G,H⟩:=d.keep.old k C;grind
 cases c:decide (0<=w.With) with
 | false=>exact j _ rfl ff.p (f e.Pid.toNat (by omega)) fun _ _ _=>rfl
 | true =>
  have hv:=ApK c;obtain⟨I,J,_,_,E⟩:=g.v hv;rw[Apy];refine j _ Fh (Q3 ff.p hv (by omega) ?_) ?_ fun k n1 n2=>Q2 n2 hv
  ·rw[f w.With.toNat (by omega)];exact E
  ·rw[Q2 (by omega) hv];exact f e.Pid.toNat (by omega)
theorem Aj7 {pr:ByteArray->List Int->ByteArray}(h:CA e)(a:w∈Bt e)(g:0<=w.Way->Aol e w)(b:(goE pr e w).2.2=0):Whole e w (goE pr e w).1:=by
 unfold goE at b ⊢;cases c:decide (w.Err≠0) with
 | true=>grind
 | false =>
 rw[c,Apw]at b;rw[Apw];cases d:decide (w.Way<0) with
 | true=>exact Ahj h (Akz a (ApK d) (by simpa using c))
 | false =>
 rw[d,Apw]at b;rw[Apw];have h0:0<=w.Way:=by grind
 cases f:decide ((DT pr e (Dd e w).S w).2.2≠0) with
 | true=>grind
 | false=>grind [Ab4]
end
end Go.Proofs.YtnhamlpcpngafaaGreatDoor
namespace Go.Proofs
open Go.Shelf
def Tryz.ren : Go.Shelf.Ren:=⟨fun | 129=>206 | 166=>126 | 167=>130 | 169=>134 | 173=>132 | 240=>166 | 246=>168 | 276=>193 | 283=>194 | 284=>195 | 285=>196 | 286=>197 | 317=>205 | 318=>207 | 319=>208 | 320=>209 | 337=>215 | 338=>216 | n=>n,fun | 0=>0 | 2=>2 | 3=>3 | 4=>4 | 5=>5 | 9=>9 | 20=>20 | 37=>210 | 46=>263 | 51=>221 | 53=>220 | 70=>209 | 72=>212 | 75=>215 | 80=>225 | 127=>253 | 164=>272 | 171=>275 | 173=>278 | 212=>285 | 213=>286 | 232=>293 | 233=>294 | n=>n,fun | 17=>0 | 18=>1 | 19=>2 | n=>n⟩
theorem Tryz.lays169 : Go.Proofs.Lays.n169 Tryz.prog Tryz.ren:=by constructor<;>(intros;kernel_rfl)
theorem Tryz.Builder_Extra_169 : Builder.Extra Tryz.prog Tryz.ren:=by constructor<;>first | (intros;kernel_rfl) | decide | (constructor<;>(intros;kernel_rfl))
open Go.RowKit in
theorem Tryz.Builder_String_any_k (B b:Nat)(l:List UInt8)(w:World)(h:Lib.IsBuilderF 212 5 B b (Lib.byteCells l) w)(a:B<=w.heap.size) :
  Calls Tryz.prog 134 #[.pointer (some ⟨b,0,none⟩)] w fun e w'=>e=.returned (.string ⟨l.toArray⟩)/\(Lib.IsBuilderF 212 5 B b (Lib.byteCells l) w'/\Below B w w'/\Lib.OthersKept 5 (some b) w w'):=Any.Builder_String_any_k Tryz.lays169 Tryz.Builder_Extra_169 B b l w h a
theorem Tryz.Builder_Extra_166 : Builder.Extra Tryz.prog Tryz.ren:=by constructor<;>first | (intros;kernel_rfl) | decide | (constructor<;>(intros;kernel_rfl))
theorem Tryz.lays166 : Go.Proofs.Lays.n166 Tryz.prog Tryz.ren:=by constructor<;>(intros;kernel_rfl)
theorem Tryz.Builder_Extra_167 : Builder.Extra Tryz.prog Tryz.ren:=by constructor<;>first | (intros;kernel_rfl) | decide | (constructor<;>(intros;kernel_rfl))
theorem Tryz.lays167 : Go.Proofs.Lays.n167 Tryz.prog Tryz.ren:=by constructor<;>(intros;kernel_rfl)
theorem Tryz.laysM173 : Go.Proofs.LaysM.n173 Tryz.prog Tryz.ren:=by constructor<;>first | (intros;kernel_rfl) | (constructor<;>(intros;kernel_rfl))
open Go.RowKit Go.Sort Go.Lib in
theorem Tryz.strconv_FormatInt_10 (n:Int)(h0:-9223372036854775808<=n)(h1:n<=9223372036854775807)(w:World)(a:Lib.TabIs Tryz.prog w "internal/strconv.uint64pow10" .u64 Lib.pow10Tab) :
  Calls Tryz.prog 132 #[.int .i64 n,.int .i64 10] w fun e w'=>e=.returned (.string ⟨(Lib.itoa n).toArray⟩)/\∃ k os,w'=grow (w.drewN k) os:=Any.strconv_FormatInt_10 Tryz.laysM173 n h0 h1 w a
theorem Tryz.lays283 : Go.Proofs.Lays.n283 Tryz.prog Tryz.ren:=by constructor<;>(intros;kernel_rfl)
open Go.Lib in
theorem Tryz.internal_strconv_small (i:Nat)(h:i<100)(w:World) :
  Calls Tryz.prog 194 #[.int .i64 i] w fun e w'=>e=.returned (.string ⟨(Lib.decDigits i).toArray⟩)/\w'=w:=Any.internal_strconv_small Tryz.lays283 i h w
theorem Tryz.laysM284 : Go.Proofs.LaysM.n284 Tryz.prog Tryz.ren:=by constructor<;>first | (intros;kernel_rfl) | (constructor<;>(intros;kernel_rfl))
open Go.Lib in
theorem Tryz.internal_strconv_numDigits (u:Nat)(h1:1<=u)(h2:u<18446744073709551616)(w:World)(a:Lib.TabIs Tryz.prog w "internal/strconv.uint64pow10" .u64 Lib.pow10Tab) :
  Calls Tryz.prog 195 #[.int .u64 u] w fun e w'=>e=.returned (.int .i64 (Lib.nDigits u))/\w'=w:=Any.internal_strconv_numDigits Tryz.laysM284 u h1 h2 w a
theorem Tryz.lays285 : Go.Proofs.Lays.n285 Tryz.prog Tryz.ren:=by constructor<;>(intros;kernel_rfl)
open Go.RowKit Go.Sort Go.Lib in
theorem Tryz.internal_strconv_formatBase10 (blk off cap:Nat)(u:Nat)(d:Array UInt8)(w:World)(f:Holds (fun(b:UInt8)=>Value.int .u8 (b.toNat:Int)) w blk off d)(g:u<10 ^ d.size)(a:u<18446744073709551616)(c:d.size<4611686018427387904) :
  Calls Tryz.prog 196 #[.slice (some ⟨blk,off,none⟩) d.size cap,.int .u64 u] w fun e w' =>
   e=.returned (.tuple #[])/\∃ (n h:Nat) (dk:Array UInt8),w'=(putRow (fun(b:UInt8)=>Value.int .u8 (b.toNat:Int)) w blk off dk).drewN n/\FmtInv d.size u 0 h dk:=Any.internal_strconv_formatBase10 Tryz.lays285 blk off cap u d w f g a c
end Go.Proofs
namespace Go.Proofs.YtnhamlpcpngafaaGreatDoor
open Go.RowKit
abbrev By:=List UInt8
def I64 (n:Int):Prop:=-9223372036854775808<=n/\n<=9223372036854775807
def bs (s:ByteArray):By:=s.data.toList
def mk (l:By):ByteArray:=⟨l.toArray⟩
theorem Y2 (l:By):bs (mk l)=l:=by simp[bs,mk]
theorem Yc (s:ByteArray):mk (bs s)=s:=by simp[bs,mk]
theorem Ll (s:ByteArray):s.size=(bs s).length:=rfl
theorem Lk (l:By):(mk l).size=l.length:=by simp[ByteArray.size,mk]
def Ao2 (n:Int):ByteArray:=mk (Lib.itoa n)
end Go.Proofs.YtnhamlpcpngafaaGreatDoor
namespace Go.Proofs.YtnhamlpcpngafaaGreatDoor
open Go.RowKit
def GQ (d:Nat):UInt8:=if d<10 then UInt8.ofNat (48+d) else UInt8.ofNat (87+d)
def L8 (b:Nat):Nat->Nat->By
 | 0,_=>[]
 | g+1,u=>if u<b then[GQ u] else L8 b g (u / b)++[GQ (u % b)]
def I3 (b u:Nat):By:=L8 b 64 u
def Yk (n:Int):Nat:=(n % 4294967296).toNat
def CI (c:UInt8)(n:Int):By :=
 if c=117 then I3 10 (Yk n) else if c=120 then I3 16 (Yk n) else if c=111 then I3 8 (Yk n) else if c=99 then[UInt8.ofNat (n % 256).toNat] else Lib.itoa n
def GN (c:UInt8):Bool:=c==100||(c==105||(c==101||(c==117||(c==120||(c==111||c==99)))))
def Cp : By->List Int->By
 | [],_=>[]
 | [c],_=>[c]
 | c::d::r,l =>
  bif !(c==37) then c::Cp (d::r) l
  else bif d==37 then 37::Cp r l
  else bif GN d then(match l with | []=>Cp r [] | n::l=>CI d n++Cp r l)
  else 37::d::Cp r l
def Dk (t:ByteArray)(l:List Int):ByteArray:=mk (Cp (bs t) l)
structure Mv where
 Pid:Int
 Esc:Int
 Way:Int
 With:Int
 WithEsc:Int
 WithWay:Int
 Claim:Int
deriving DecidableEq
instance : Inhabited Mv:=⟨⟨0,0,0,0,0,0,0⟩⟩
structure Nx where
 Move:Mv
 State:D.State
 Err:Int
 Text:ByteArray
instance : Inhabited Nx:=⟨⟨default,⟨[],[],[],0,0,0⟩,0,⟨#[]⟩⟩⟩
def noT : ByteArray:=⟨#[]⟩
def goP (e:D.Env)(w:Wy):D.State × ByteArray × Int:=goE Dk e w
abbrev Gn : Type:=D.Env × List Wy
def E8 (e:D.Env)(i:Nat):List Gn:=bif decide (0<(EN (BA e i)).1.length) then[(BA e i,(EN (BA e i)).1)] else[]
def C6 (e:D.Env):Nat->List Gn
 | 0=>[]
 | n+1=>C6 e n++E8 e n
def Eo (e:D.Env)(g:Gn):Int:=(De e g.1.Pid).Prio
def FR (e:D.Env):Int->List Gn->Option Gn × Int
 | most,[]=>(none,most)
 | most,g::r=>bif decide (g.1.Pid=e.S.Alone) then(some g,most) else FR e (max most (Eo e g)) r
def C0 (e:D.Env):List Gn :=
 match FR e 0 (C6 e e.S.Procs.length) with
 | (some g,_)=>[g]
 | (none,most)=>(C6 e e.S.Procs.length).filter fun g=>decide (Eo e g=most)
def FU (m:D.Model)(s:D.State):List Bool:=bif decide (Cb m s=0) then Cg m s s.Procs.length else[]
def En (m:D.Model)(s:D.State):List Gn :=
 bif decide (0<(C0 ⟨m,s,0,false,FU m s⟩).length) then C0 ⟨m,s,0,false,FU m s⟩ else C0 ⟨m,s,0,true,FU m s⟩
def Cq : List Gn->List (D.Env × Wy)
 | []=>[]
 | g::r=>g.2.map (fun w=>(g.1,w))++Cq r
def C1 (m:D.Model)(s:D.State):List (D.Env × Wy):=Cq (En m s)
def Cx (m:D.Model)(s:D.State)(pid:Int):D.Loc × Bool :=
 bif decide (pid<0)||decide ((s.Procs.length:Int)<=pid) then(default,false) else((FD m (s.Procs.getD pid.toNat default).Type_).getD (s.Procs.getD pid.toNat default).Loc.toNat default,true)
def onS (m:D.Model)(pid:Int):Nat->D.State->ByteArray->D.State × ByteArray × Int
 | k,s,t=>bif !(Cx m s pid).2||!(Cx m s pid).1.Dstep then(s,t,0) else
  match k with
  | 0=>(CU,noT,53)
  | k+1 =>
   match(EN ⟨m,s,pid,false,[]⟩).1.find? fun w=>decide (w.With<0) with
   | none=>(CU,noT,53)
   | some w=>bif decide ((goP ⟨m,s,pid,false,[]⟩ w).2.2≠0) then(CU,noT,(goP ⟨m,s,pid,false,[]⟩ w).2.2)
    else onS m pid k (goP ⟨m,s,pid,false,[]⟩ w).1 (t++(goP ⟨m,s,pid,false,[]⟩ w).2.1)
def DV (m:D.Model)(s:D.State)(pid:Int):D.State:=bif (Cx m s pid).2&&(Cx m s pid).1.Atomic then{ s with Alone:=pid } else s
def Ms (e:D.Env)(w:Wy):Mv:=⟨e.Pid,w.Esc,w.Way,w.With,w.WithEsc,w.WithWay,-1⟩
def DF (e:D.Env)(w:Wy):Nx :=
 bif decide ((goP e w).2.2≠0) then⟨Ms e w,CU,(goP e w).2.2,noT⟩
 else bif decide ((onS e.M e.Pid 200 (goP e w).1 noT).2.2≠0) then⟨Ms e w,CU,(onS e.M e.Pid 200 (goP e w).1 noT).2.2,noT⟩
 else⟨Ms e w,DV e.M (DV e.M { (onS e.M e.Pid 200 (goP e w).1 noT).1 with Alone:=-1 } e.Pid) w.With,0,(goP e w).2.1++(onS e.M e.Pid 200 (goP e w).1 noT).2.1⟩
def DW (m:D.Model)(s:D.State):List Nx × Int:=bif decide (Cb m s≠0) then([],Cb m s) else((C1 m s).map fun p=>DF p.1 p.2,0)
def DQ (x:Nx):List VV:=[Aa x.Move.Pid,Aa x.Move.Esc,Aa x.Move.Way,Aa x.Move.With,Aa x.Move.WithEsc,Aa x.Move.WithWay,Aa x.Move.Claim,
 Ad true x.State.Globals,A0 true x.State.Chans,AI true x.State.Procs,Aa x.State.Last,Aa x.State.Alone,Aa x.State.Claim,Aa x.Err,Bm x.Text]
def CM (fz:Bool)(l:List Nx):VV:=.sl fz l.length 15 fun i=>DQ (l.getD i default)
def Hs (l:List Nx):Nat->List VV:=fun i=>DQ (l.getD i default)
instance : Inhabited Gn:=⟨(default,[])⟩
def E9 (g:Gn):List VV:=[AC true g.1.M.Globals,Ad true g.1.M.Init,Bn true g.1.M.Shapes,Ad true g.1.M.Chans,BE true g.1.M.Procs,Aa g.1.M.Claim,BL true g.1.M.Exprs,
 Ad true g.1.S.Globals,A0 true g.1.S.Chans,AI true g.1.S.Procs,Aa g.1.S.Last,Aa g.1.S.Alone,Aa g.1.S.Claim,Aa g.1.Pid,Ac g.1.Timeout,A6 true g.1.Able,AW true g.2]
def BU (fz:Bool)(l:List Gn):VV:=.sl fz l.length 17 fun i=>E9 (l.getD i default)
def Jr (l:List Gn):Nat->List VV:=fun i=>E9 (l.getD i default)
abbrev Wc : Type:=Bool × Int
def Sj (w:Wc):List VV:=[Ac w.1,Aa w.2]
def rnd (ro:Option Nat):Fence:={ Fence.wide with round:=ro }
section
variable {P : Program} {T:TypeId->TE} {Sh:Shs} {N:Nat} {L:Ann} {Q:Exit->Act->World->Prop} {ops:Array Oper} {ro:Option Nat}
theorem AlB {row:String}{args:Array Value}{w:World}{R:Value->World->Prop}(h:Rows P row args w R):RowsIn (rnd ro) 0 P row args w R:=fun c cs _ =>
 let ⟨v,w',r,s⟩:=h c cs
 ⟨v,w',r,(stepsIn_wide (P:=P)).2 s⟩
theorem AoS {o:Oper}{a:Act}{w:World}{K:Act->World->Prop}(b:∀ c,o.op≠.defer c)(h:o.wp P a w K Q):o.wpIn (rnd ro) 0 P a w K Q:=by
 refine⟨fun _ _=>trivial,?_⟩;rw[Oper.semAt_eq _ _ _ b];unfold Oper.wp at h;generalize (execOp a.eval o).run P w=r at h ⊢;cases r with
 | ok n w' =>
  cases n with
  | enter f args=>exact⟨fun h=>by simp[rnd,Fence.wide]at h,CallsIn.mono (callsIn_wide.2 h) fun _ _ h=>h⟩
  | row r args=>exact⟨fun h=>by simp[rnd,Fence.wide]at h,AlB h⟩
  | round=>exact h.elim
  | _=>exact h
 | halt e w' =>
  cases e with
  | panic v=>exact h
  | _=>exact h.elim
theorem Adp {i:Nat}{a:Act}{w:World}{K:Act->World->Prop}(b:∀ (i:Nat) o c,ops[i]?=some o->o.op≠.defer c)(f:¬ LetsOut Q)(h:wpOp P ops Q i K a w):wpOpIn (rnd ro) 0 P ops Q i K a w:=by
 unfold wpOp at h;unfold wpOpIn;cases d:ops[i]? with
 | none=>rw[d]at h;exact h
 | some o =>
  rw[d]at h;simp only at h ⊢;split
  ·rename_i e;rw[Aqc e]at h;exact AoS (b i o · d) (h.resolve_right fun h=>f h.2)
  ·rename_i e;rw[ApT e]at h;exact⟨fun _ _=>trivial,h⟩
theorem Vm (b:∀ (i:Nat) o c,ops[i]?=some o->o.op≠.defer c)(d:¬ LetsOut Q):∀ (is:List Nat) (a:Act) (w:World),wpOps P ops Q is a w->wpOpsIn (rnd ro) 0 P ops Q is a w
 | [],a,w,h=>h
 | i::is,a,w,h=>by
  rw[wpOps_cons]at h;rw[wpOpsIn_cons];exact wpOpIn_mono (fun a w h=>Vm b d is a w h) (Adp b d h)
theorem AkS {md:Region.Mode}(b:∀ (i:Nat) o c,ops[i]?=some o->o.op≠.defer c)(d:¬ LetsOut Q):∀ (fuel:Nat) (listed:Array Bool) (a:Act) (w:World),wpAny P md ops Q fuel listed a w->wpAnyIn (rnd ro) 0 P md ops Q fuel listed a w
 | 0,_,_,_,h=>h
 | fuel+1,_,_,_,h=>⟨h.1,fun i hi=>wpOpIn_mono (fun a w h=>AkS b d fuel _ a w h) (Adp b d (h.2 i hi))⟩
def KG (ops:Array Oper):Bool:=ops.toList.all fun o=>match o.op with
 | .defer _=>false
 | _=>true
theorem V0 (h:KG ops=true)(i:Nat)(o:Oper)(c:Call)(a:ops[i]?=some o):o.op≠.defer c:=fun e=>by
 have:=Aqa.1 h o (by have:=Array.mem_of_getElem? a;simpa using this);rw[e]at this;cases this
theorem TD {st0:St}{E:AN}{w0:World}{φ0:Phi}{a:Act}(t:TOk P T)(q:P.follows .mixedOrders=true)(hB:NH ops N=true)(y:KG ops=true){K:St->Prop}{id:Nat}{draw:Bool}
  (h:JR P T Sh draw ops 0 ops.toList st0 [] [] fun b=>K (clr ops b)) (hrel:Rel N E st0 φ0 a w0) :
  (Code.region id ops draw).wpIn (rnd ro) 0 P (fun e r w'=>e=.normal/\∃ b φ',K b/\Rel N E b φ' r w'/\Ext w0 φ0 w' φ') a w0:=by
 obtain⟨O,u,z⟩:=Et ops.toList 0 st0 [] [] h;have m:=NG hB;obtain⟨s,v⟩:=II (T:=T) (O:=O) (st0:=st0) ops.toList 0 (by simp) (ApD _) z;have n:∀ (j:Nat) o,ops[j]?=some o->Ir draw T O ops st0 j o:=fun j o=>s j o (ApD _)
 have d:=V0 y;have x:¬ LetsOut (fun e r w'=>e=Exit.normal/\∃ b φ',K b/\Rel N E b φ' r w'/\Ext w0 φ0 w' φ'):=fun⟨_,_,h,_⟩=>by cases h
 cases draw with
 | false =>
  refine wpIn_region (Vm d x _ _ _ ?_);rw[List.range_eq_range'];refine RV t u m n (fun D φ a w f g=>⟨rfl,_,φ,v,g.finish m n f,g.ext⟩) ops.size 0 φ0 a w0 (by omega) ?_;have e:(fun i=>decide (i<0))=fun _=>false:=by funext i;simp
  rw[e];exact RI.start hrel
 | true =>
  obtain⟨c,k⟩:=hrel.drew;refine wpIn_region_any q (AkS d x _ _ _ _ ?_);refine AkR rfl t u m n (w0:={ w0 with drawn:=w0.drawn+1 }) (φ0:=φ0) (fun D φ a w f g=>⟨rfl,_,φ,v,g.finish m n f,k.trans g.ext⟩) ops.size _ φ0 a _ (by simp) ?_ ?_ ?_
  ·intro i o e hi f;have h0:(Array.replicate ops.size false).getD i false=false:=by simp[Array.getD]
   exact absurd (h0.symm.trans f) (by simp)
  ·have:=List.countP_le_length (p:=fun i=>!(Array.replicate ops.size false).getD i false) (l:=List.range ops.size);simpa using this
  ·have e:(fun i=>(Array.replicate ops.size false).getD i false)=fun _=>false:=by funext i;simp[Array.getD]
   rw[e];exact RI.start c
def Kq (N:Nat):Code->Bool
 | .skip | .ret | .exit _=>true
 | .region _ ops _=>NH ops N&&KG ops
 | .seq x y=>Kq N x&&Kq N y
 | .cond _ x y=>Kq N x&&Kq N y
 | .block _ c=>Kq N c
 | _=>false
theorem Po (m:TOk P T)(l:P.follows .mixedOrders=true)(i:∀ p,L.cut p=false):∀ (c:Code),Kq N c=true->∀ (p:List Nat) (K:Exit->St->Prop) (st:St),xc P T Sh N L p c K st->∀ (E:AN) (φ:Phi) (a:Act) (w:World),Rel N E st φ a w ->
  c.wpIn (rnd ro) 0 P (fun e n w'=>∃ d φ',K e d/\Rel N E d φ' n w'/\Ext w φ w' φ') a w
 | .skip,_,p,K,st,h,E,φ,a,w,k=>wpIn_skip ⟨st,φ,h,k,Ext.refl _ _⟩
 | .exit id,_,p,K,st,h,E,φ,a,w,k=>wpIn_exit ⟨st,φ,h,k,Ext.refl _ _⟩
 | .ret,_,p,K,st,h,E,φ,a,w,k=>wpIn_ret ⟨st,φ,h,k,Ext.refl _ _⟩
 | .region id ops draw,hB,p,K,st,h,E,φ,a,w,k=>by
  simp only[Kq,Apv]at hB;exact wpIn_mono (TD (id:=id) (draw:=draw) m l hB.1 hB.2 (K:=fun d=>K .normal d) h k) fun e n w' ⟨r,d,φ',h1,h2,h3⟩=>⟨d,φ',by rw[r];exact h1,h2,h3⟩
 | .seq x y,hB,p,K,st,h,E,φ,a,w,k=>by
  simp only[Kq,Apv]at hB;refine wpIn_seq (wpIn_mono (Po m l i x hB.1 _ _ st h E φ a w k) ?_);rintro e n w' ⟨d,φ',h1,h2,h3⟩;cases e with
  | normal =>
   simp only[AiQ]at h1;rw[i,Apw]at h1;exact wpIn_mono (Po m l i y hB.2 _ K d h1 E φ' n w' h2) fun e s u ⟨st'',φ'',g1,z,A⟩=>⟨st'',φ'',g1,z,h3.trans A⟩
  | _=>exact⟨d,φ',h1,h2,h3⟩
 | .cond c x y,hB,p,K,st,h,E,φ,a,w,k=>by
  simp only[Kq,Apv]at hB;have q:V w (E.up φ) (some φ) (st.val c) (a.eval c):=by
   cases c with
   | tmp t=>exact k.tm t
   | const v=>exact V.litC v
   | global g=>exact .dead
   | func f=>exact .fn rfl fun j x B=>by simp at B
  simp only[xc]at h;split at h
  ·rename_i b e;rw[e]at q;refine wpIn_cond (t:=b) q.sc_inv ?_;cases b with
   | true=>exact Po m l i x hB.1 _ K st (h.1 rfl) E φ a w k
   | false=>exact Po m l i y hB.2 _ K st (h.2 rfl) E φ a w k
  ·exact h.elim
 | .block id c,hB,p,K,st,h,E,φ,a,w,k=>by
  refine wpIn_block (wpIn_mono (Po m l i c hB _ _ st h E φ a w k) ?_);rintro e n w' ⟨d,φ',h1,h2,h3⟩;cases e with
  | exit j =>
   simp only[Exit.inBlock]
   by_cases o:j=id
   ·subst o;simp only[OY,AqX,Apy]at h1;rw[Aqc rfl];exact⟨d,φ',h1,h2,h3⟩
   ·have C:Nat.beq j id=false:=by
     cases F:Nat.beq j id with
     | true=>exact absurd (ApA F) o
     | false=>rfl
    simp only[OY,C,Apw]at h1;rw[ApT o];exact⟨d,φ',h1,h2,h3⟩
  | _=>exact⟨d,φ',h1,h2,h3⟩
def PK (N:Nat):Code->Bool
 | .skip=>true
 | .region _ ops _=>NH ops N&&KG ops
 | .seq x y=>PK N x&&PK N y
 | _=>false
theorem VN (i:TOk P T)(f:P.follows .mixedOrders=true)(d:∀ p,L.cut p=false):∀ (c:Code),PK N c=true->∀ (p:List Nat) (K:Exit->St->Prop) (st:St),xc P T Sh N L p c K st->∀ (E:AN) (φ:Phi) (a:Act) (w:World),Rel N E st φ a w ->
  c.wpIn (rnd ro) 0 P (fun e j w'=>e=.normal/\∃ b φ',K .normal b/\Rel N E b φ' j w'/\Ext w φ w' φ') a w
 | .skip,_,p,K,st,h,E,φ,a,w,g=>wpIn_skip ⟨rfl,st,φ,h,g,Ext.refl _ _⟩
 | .region id ops draw,hB,p,K,st,h,E,φ,a,w,g=>by
  simp only[PK,Apv]at hB;exact TD (id:=id) (draw:=draw) i f hB.1 hB.2 (K:=fun b=>K .normal b) h g
 | .seq x y,hB,p,K,st,h,E,φ,a,w,g=>by
  simp only[PK,Apv]at hB;refine wpIn_seq (wpIn_mono (VN i f d x hB.1 _ _ st h E φ a w g) ?_);rintro e j w' ⟨rfl,b,φ',h1,h2,h3⟩;simp only[AiQ]at h1;rw[d,Apw]at h1;exact wpIn_mono (VN i f d y hB.2 _ K b h1 E φ' j w' h2) fun e k l ⟨m,st'',φ'',g1,n,o⟩=>⟨m,st'',φ'',g1,n,h3.trans o⟩
end
def AN.add (E:AN)(S:Nat->Prop):AN:=⟨fun k=>E.fz k∨S k,fun k=>E.br k∨S k,0,[]⟩
def U (S T:Nat->Prop):Nat->Prop:=fun k=>S k∨T k
structure Chg (w:World) (S:Nat->Prop) (w':World) (S':Nat->Prop):Prop where
 os:w'.os=w.os
 tape:w'.tape=w.tape
 output:w'.output=w.output
 size:w.heap.size<=w'.heap.size
 block:∀ k,k<w.heap.size->¬ S k->w'.heap[k]?=w.heap[k]?
 new:∀ k,S' k->S k∨w.heap.size<=k
 lt:∀ k,S' k->k<w'.heap.size
structure Gd (E:AN) (S:Nat->Prop) (w:World):Prop where
 sub:∀ k,E.br k->E.fz k
 ez:∀ k,E.fz k->k<w.heap.size
 sz:∀ k,S k->k<w.heap.size
 lib:CG w
 lt:∀ k,k∈EB->k<w.heap.size
 out:∀ k,k∈EB->¬ S k
section
variable {w w' w'':World} {E:AN} {S S' S'':Nat->Prop} {x:VV} {v:Value}
theorem Chg.trans (h:Chg w S w' S')(k:Chg w' S' w'' S''):Chg w S w'' S'' where
 os:=k.os.trans h.os
 tape:=k.tape.trans h.tape
 output:=k.output.trans h.output
 size:=Ap0 h.size k.size
 block:=fun b a c=>(k.block b (ApR a h.size) fun e=>by
  rcases h.new b e with e | e
  ·exact c e
  ·omega).trans (h.block b a c)
 new:=fun b e=>by
  rcases k.new b e with e | e
  ·exact h.new b e
  ·exact .inr (Ap0 h.size e)
 lt:=k.lt
theorem Gd.chg (g:Gd E S w)(h:Chg w S w' S'):Gd E S' w' where
 sub:=g.sub
 ez:=fun k a=>ApR (g.ez k a) h.size
 sz:=h.lt
 lib:=g.lib.congr fun k a=>h.block k (g.lt k a) (g.out k a)
 lt:=fun k a=>ApR (g.lt k a) h.size
 out:=fun k a hs=>by
  rcases h.new k hs with e | e
  ·exact g.out k a e
  ·have:=g.lt k a;omega
end
def Ph (P:Program)(gf:FuncId)(hi:List Ob)(caps:List VV)(n:Nat)(xs:Nat->List VV):Prop :=
 ∀ (E:AN) (S:Nat->Prop) (φ:Phi) (w:World) (lb:Array Value) (l:Nat),Gd E (U S (Own φ)) w->(∀ k,S k->¬ Own φ k)->HRel (E.add S) (BS hi) φ w->(∀ id,φ id≠none ↔ id<hi.length)->Dh w ((E.add S).up φ) (some φ) caps lb ->
 ∀ (J:Nat->(Nat->Prop)->(Nat->Prop)->World->Prop) (R:(Nat->Prop)->(Nat->Prop)->World->Prop),J 0 S (Own φ) w ->
 (∀ k S T T' a w2,J k S T a->(∀ b,S b->¬ T b)->Chg a T w2 T'->J k S T' w2)->(∀ S T T' a w2,R S T a->(∀ b,S b->¬ T b)->Chg a T w2 T'->R S T' w2) ->
 (∀ k S T a vs,k<n->J k S T a->(∀ b,S b->¬ T b)->Gd E (U S T) a->Dh a (E.add (U S T)) none (xs k) vs->YieldAt Fence.wide 0 P l vs a fun e w2 =>
  (e=.returned (.bool true)/\∃ S',J (k+1) S' T w2/\Chg a S w2 S')∨(e=.returned (.bool false)/\∃ S',R S' T w2/\Chg a S w2 S')) ->
 CallsIn Fence.wide 0 P gf (#[.func (.yield l) #[] #[]]++lb) w fun e w'=>(∃ v,e=.returned v)/\((∃ S' T',J n S' T' w'/\(∀ b,S' b->¬ T' b)/\Gd E (U S' T') w')∨∃ S' T',R S' T' w')
def V7 (W:World)(S S':Nat->Prop):Prop:=∀ k (o:Obj),S k->W.heap[k]?=some o->o.isCells=false->S' k
def AnG (J:(Nat->Prop)->World->Prop)(Ix:Code->(Nat->Prop)->World->Prop)(S:Nat->Prop)(W:World):Exit->Act->World->Prop
 | .normal,_,W'=>KeepsOthers W W'/\∃ S',Chg W S W' S'/\V7 W S S'/\J S' W'
 | .ret,_,W'=>KeepsOthers W W'/\∃ S',Chg W S W' S'/\V7 W S S'/\Ix .ret S' W'
 | _,_,_=>False
theorem JG {S:Nat->Prop}{W:World}{l:Nat}(a:Obj)(hs:S l)(b:∀ k,S k->k<W.heap.size):Chg W S (W.putObj l a) S :=
 ⟨rfl,rfl,rfl,by simp,fun k _ c=>World.putObj_heap_other fun e=>c (by rw[e];exact hs),fun _ h=>.inl h,fun k d=>by simp;exact b k d⟩
theorem Chg.inU {w w':World}{S S' T:Nat->Prop}(h:Chg w S w' S')(c:∀ k,T k->k<w.heap.size):Chg w (U S T) w' (U S' T) :=
 ⟨h.os,h.tape,h.output,h.size,fun k a d=>h.block k a fun e=>d (.inl e),fun k a=>a.elim (fun b=>(h.new k b).imp .inl id) fun b=>.inl (.inr b),fun k a=>a.elim (h.lt k) fun b=>ApR (c k b) h.size⟩
theorem AhS {P:Program}{g:Operand}{ps:Array Tmp}{assign body:Code}{Q:Exit->Act->World->Prop}{a:Act}{w:World}{E:AN}{S:Nat->Prop}{φ:Phi}
  {gf:Nat} {lb:Array Value} (hg:a.eval g=.func (.func gf) #[] lb) (eg:∀ args w,(callFunc gf args).run P w=.ok (.enter gf args) w)
  {hi:List Ob} {caps:List VV} {n:Nat} {xs:Nat->List VV} (hit:Ph P gf hi caps n xs) (hps:∀ k,(xs k).length=ps.size) (gd:Gd E (U S (Own φ)) w) (hdis:∀ k,S k->¬ Own φ k)
  (hH:HRel (E.add S) (BS hi) φ w) (hφ:∀ id,φ id≠none ↔ id<hi.length) (F:Dh w ((E.add S).up φ) (some φ) caps lb)
  (I:Nat->(Nat->Prop)->(Nat->Prop)->World->Prop) (Ix:Code->(Nat->Prop)->(Nat->Prop)->World->Prop)
  (hI1:∀ k S T T' W W',I k S T W->(∀ b,S b->¬ T b)->Chg W T W' T'->I k S T' W')
  (hI2:∀ k S T W l o o',I k S T W->Gd E (U S T) W->W.heap[l]?=some o->o.isCells=false->S l->I k S T (W.putObj l o'))
  (hIx1:∀ c S T T' W W',Ix c S T W->(∀ b,S b->¬ T b)->Chg W T W' T'->Ix c S T' W')
  (hIx:∀ c S T W l o o',Ix c S T W->W.heap[l]?=some o->o.isCells=false->S l->Ix c S T (W.putObj l o'))
  (h0:∀ W,Below w.heap.size w W->(∀ b,b=w.heap.size∨b=w.heap.size+1->b<W.heap.size)->I 0 (fun k=>S k∨k=w.heap.size∨k=w.heap.size+1) (Own φ) W)
  (M:∀ (l k:Nat) (S1 T1:Nat->Prop) (W:World) (vs:Array Value),k<n->I k S1 T1 W->(∀ b,S1 b->¬ T1 b)->Gd E (U S1 T1) W->Dh W (E.add (U S1 T1)) none (xs k) vs ->
   assign.wpIn (Fence.wide.inRound l) 0 P (Exit.then (fun a₁ W1=>KeepsOthers W W1/\∃ S2,Chg W S1 W1 S2/\V7 W S1 S2/\∀ W2 r o,W2=W1.putObj r o->(∃ o1,W1.heap[r]?=some (.loop o1))->S2 r->Gd E (U S2 T1) W1->Gd E (U S2 T1) W2->Chg W1 S2 W2 S2 ->
    body.wpIn (Fence.wide.inRound l) 0 P (AnG (fun S W=>I (k+1) S T1 W) (fun c S W=>Ix c S T1 W) S2 W2) a₁ W2) (fun _ _ _=>False)) { tmps:=(ps.zip vs).foldl (fun t (p,v)=>t.setIfInBounds p v) a.tmps,defers:=[] } W)
  (hdone:∀ (D:Nat) (S1 T1:Nat->Prop) (W:World),I n S1 T1 W->(∀ b,S1 b->¬ T1 b)->Gd E (U S1 T1) W->W.heap[D]?=some (.deferred (some []))->S1 D->w.heap.size<=D->Q .normal { a with defers:={ target:=.collected D,args:=#[] }::a.defers } W)
  (hstop:∀ (D:Nat) (S1 T1:Nat->Prop) (c:Code) (W:World),Ix c S1 T1 W->W.heap[D]?=some (.deferred (some []))->S1 D->w.heap.size<=D->c.wpIn Fence.wide 0 P Q { a with defers:={ target:=.collected D,args:=#[] }::a.defers } W) :
  (Code.rangeFunc g ps assign body).wpIn Fence.wide 0 P Q a w:=by
 refine wpIn_rangeFunc ?_;intro fn hfn;obtain⟨rec,f⟩:∃ rec:LoopState->Option Code->Loop,rec=fun st pe=>{ state:=st,pending:=pe,fn,tmps:=a.tmps,params:=ps,assign,body,defers:=w.heap.size }:=⟨_,rfl⟩
 obtain⟨W1,G⟩:∃ W1,(w.alloc (.deferred (some []))).alloc (.loop (rec .ready none))=W1:=⟨_,rfl⟩;have hL1:W1.heap[w.heap.size+1]?=some (.loop (rec .ready none)):=by
  rw[← G];have:=World.alloc_heap_new (w.alloc (.deferred (some []))) (.loop (rec .ready none));rwa [World.size_alloc]at this
 have hK1:W1.heap[w.heap.size]?=some (.deferred (some [])):=by
  rw[← G];exact(Below.heap_alloc _ _ _ (by simp)).trans (World.alloc_heap_new w _)
 have m:Below w.heap.size w W1:=by rw[← G];exact((Below.refl _ w).alloc (ApC _) _).alloc (by simp) _
 have hsz1:W1.heap.size=w.heap.size+1+1:=by rw[← G];simp
 obtain⟨S0,s⟩:∃ S0:Nat->Prop,S0=fun k=>S k∨k=w.heap.size∨k=w.heap.size+1:=⟨_,rfl⟩
 have hdis0:∀ k,S0 k->¬ Own φ k:=fun k d ho=>by
  rw[s]at d;have:=hH.lt ho;rcases d with h | rfl | rfl
  ·exact hdis k h ho
  ·omega
  ·omega
 have hc1:Chg w (U S (Own φ)) W1 (U S0 (Own φ)):=⟨m.os,m.tape,m.output,m.size,fun k d _=>m.block k d,fun k d=>by
   rcases d with d | d
   ·rw[s]at d;rcases d with h | rfl | rfl
    ·exact .inl (.inl h)
    ·exact .inr (ApC _)
    ·exact .inr (Ara _)
   ·exact .inl (.inr d),fun k d=>by
  rcases d with d | d
  ·rw[s]at d;rcases d with h | rfl | rfl
   ·have:=gd.sz k (.inl h);omega
   ·omega
   ·omega
  ·have:=gd.sz k (.inr d);omega⟩
 have hg1:=gd.chg hc1;have N:∀ (A:Nat->Prop) k,k<w.heap.size->¬ (A k∨S k)->W1.heap[k]?=w.heap[k]?/\¬ (A k∨S0 k):=fun A k d hn=>⟨m.block k d,fun e=>by
  rcases e with e | e
  ·exact hn (.inl e)
  ·rw[s]at e;rcases e with h | rfl | rfl
   ·exact hn (.inr h)
   ·omega
   ·omega⟩
 have hH1:HRel (E.add S0) (BS hi) φ W1:=hH.over (fun k d=>d.imp (gd.sub k) id) m.size (N _) (N _);have O:Dh W1 ((E.add S0).up φ) (some φ) caps lb:=⟨F.1,fun j x hx=>(F.2 j x hx).over m.size (N _) (N _)⟩;have hI1':I 0 S0 (Own φ) W1:=by rw[s];exact h0 W1 m fun b X=>by omega
 refine⟨w.heap.size+1,[{ target:=.collected w.heap.size,args:=#[] }],W1,{ target:=.fn (.func gf) lb,args:=#[.func (.yield (w.heap.size+1)) #[] #[]] },W1,gf,
  #[.func (.yield (w.heap.size+1)) #[] #[]]++lb,W1,?_,?_,?_,?_,fun h=>by simp[Fence.wide]at h,?_⟩
 ·rw[← G,f];exact run_enterLoop_outer _ _ _ _ _
 ·simp only[resolve,hg];simp[go_sem]
 ·intro f' _;trivial
 ·simp[invoke,go_sem,eg]
 ·have fin:∀ (jump:Option Code) (W W3:World),w.heap.size+1<W.heap.size->W.heap[w.heap.size]?=some (.deferred (some []))->KeepsOthers (W.putObj (w.heap.size+1) (.loop { rec .ready none with state:=.busy })) W3 ->
    (Instr.endRound (w.heap.size+1) jump).run P W3=.ok (.bool jump.isNone) (W3.putObj (w.heap.size+1) (.loop (rec (if jump.isNone then .ready else .done) jump))) /\
    W3.heap[w.heap.size+1]?=some (.loop { rec .ready none with state:=.busy }) /\
    (W3.putObj (w.heap.size+1) (.loop (rec (if jump.isNone then .ready else .done) jump))).heap[w.heap.size+1]?=some (.loop (rec (if jump.isNone then .ready else .done) jump)) /\
    (W3.putObj (w.heap.size+1) (.loop (rec (if jump.isNone then .ready else .done) jump))).heap[w.heap.size]?=some (.deferred (some [])):=fun jump W W3 hlt d y=>by
   have hl2:(W.putObj (w.heap.size+1) (.loop { rec .ready none with state:=.busy })).heap[w.heap.size+1]?=some (.loop { rec .ready none with state:=.busy }):=World.putObj_heap_same hlt;have hk2:(W.putObj (w.heap.size+1) (.loop { rec .ready none with state:=.busy })).heap[w.heap.size]?=some (.deferred (some [])):=(World.putObj_heap_other (by omega)).trans d;have q:=y.same _ _ hl2 rfl;have:=run_endRound (P:=P) jump q;rw[f]at this ⊢;exact⟨this,by rw[f]at q;exact q,World.putObj_heap_same (ApE.1 q).1,(World.putObj_heap_other (by omega)).trans (y.same _ _ hk2 rfl)⟩
  refine(hit E S0 φ W1 lb (w.heap.size+1) hg1 hdis0 hH1 hφ O
   (fun k S1 T1 W=>I k S1 T1 W/\W.heap[w.heap.size+1]?=some (.loop (rec .ready none))/\W.heap[w.heap.size]?=some (.deferred (some []))/\S1 (w.heap.size+1)/\S1 w.heap.size)
   (fun S1 T1 W=>∃ c,Ix c S1 T1 W/\W.heap[w.heap.size+1]?=some (.loop (rec .done (some c)))/\W.heap[w.heap.size]?=some (.deferred (some []))/\S1 (w.heap.size+1)/\S1 w.heap.size)
   ⟨hI1',hL1,hK1,by rw[s];exact .inr (.inr rfl),by rw[s];exact .inr (.inl rfl)⟩
   (fun k S1 T1 T2 w1 w2 h hd X=>⟨hI1 k S1 T1 T2 w1 w2 h.1 hd X,(X.block _ (ApE.1 h.2.1).1 (hd _ h.2.2.2.1)).trans h.2.1,(X.block _ (ApE.1 h.2.2.1).1 (hd _ h.2.2.2.2)).trans h.2.2.1,h.2.2.2⟩)
   (fun S1 T1 T2 w1 w2 h hd X=>by
    obtain⟨c,h1,h2,h3,h4,h5⟩:=h;exact⟨c,hIx1 c S1 T1 T2 w1 w2 h1 hd X,(X.block _ (ApE.1 h2).1 (hd _ h4)).trans h2,(X.block _ (ApE.1 h3).1 (hd _ h5)).trans h3,h4,h5⟩) ?_).mono ?_
  ·
   rintro k S1 T1 W vs hlt ⟨hi,L,d,z,H⟩ hd hgW Y;have hlw:w.heap.size+1<W.heap.size:=(ApE.1 L).1;have hy:=run_yield (P:=P) (args:=vs) L (by rw[f];exact Y.1.trans (hps k));rw[f]at hy;refine⟨fn,_,assign,body,hy,roundIn_of_wpIn hfn (wpIn_mono (M (w.heap.size+1) k S1 T1 W vs hlt hi hd hgW Y) ?_)⟩;rintro e a1 Wa hp;cases e with
   | normal =>
    obtain⟨hba,S2,R,Z,hbody⟩:=hp;have hla:=hba.same _ _ L rfl;have hka:=hba.same _ _ d rfl;have J:w.heap.size+1<Wa.heap.size:=(ApE.1 hla).1;have u:=Z _ _ z L rfl;have hsd2:=Z _ _ H d rfl;have hTz:∀ k,T1 k->k<W.heap.size:=fun k d=>hgW.sz k (.inr d)
    have hgA:=hgW.chg (R.inU hTz);have B:=JG (S:=S2) (W:=Wa) (.loop { rec .ready none with state:=.busy }) u R.lt;have hTz2:∀ k,T1 k->k<Wa.heap.size:=fun k d=>hgA.sz k (.inr d)
    have hgP:=hgA.chg (B.inU hTz2);refine⟨_,run_beginRound hla (by rw[f]),?_⟩;refine wpIn_mono (hbody (Wa.putObj (w.heap.size+1) (.loop { rec .ready none with state:=.busy })) _ _ rfl ⟨_,hla⟩ u hgA hgP B) ?_;have hlP:(Wa.putObj (w.heap.size+1) (.loop { rec .ready none with state:=.busy })).heap[w.heap.size+1]?=some (.loop { rec .ready none with state:=.busy }):=World.putObj_heap_same J;have hkP:(Wa.putObj (w.heap.size+1) (.loop { rec .ready none with state:=.busy })).heap[w.heap.size]?=some (.deferred (some [])):=(World.putObj_heap_other (by omega)).trans hka;rintro e a3 W3 hp;cases e with
    | normal =>
     obtain⟨y,S3,C,K,hi3⟩:=hp;obtain⟨hr,q,hl4,hk4⟩:=fin none Wa W3 J hka y;have i:=K _ _ u hlP rfl;have hcq:=JG (S:=S3) (W:=W3) (.loop (rec .ready none)) i C.lt;have hg3:=hgP.chg (C.inU fun k d=>hgP.sz k (.inr d));exact⟨_,_,hr,.inl ⟨rfl,S3,⟨hI2 _ _ _ _ _ _ _ hi3 hg3 q rfl i,hl4,hk4,i,K _ _ hsd2 hkP rfl⟩,((R.trans B).trans C).trans hcq⟩⟩
    | ret =>
     obtain⟨y,S3,C,K,hi3⟩:=hp;obtain⟨hr,q,hl4,hk4⟩:=fin (some .ret) Wa W3 J hka y;have i:=K _ _ u hlP rfl;have hcq:=JG (S:=S3) (W:=W3) (.loop (rec .done (some .ret))) i C.lt;exact⟨_,_,hr,.inr ⟨rfl,S3,⟨.ret,hIx _ _ _ _ _ _ _ hi3 q rfl i,hl4,hk4,i,K _ _ hsd2 hkP rfl⟩,((R.trans B).trans C).trans hcq⟩⟩
    | _=>exact hp.elim
   | _=>exact hp.elim
  ·
   rintro e W2 ⟨⟨v,rfl⟩,(⟨S1,T1,⟨hi,L,d,z,H⟩,hd,V⟩ | ⟨S1,T1,c,hi,L,d,z,H⟩)⟩
   ·have B:=JG (S:=S1) (W:=W2) (.loop { rec .ready none with state:=.exhausted }) z fun k d=>V.sz k (.inl d)
    exact⟨none,_,by have:=run_endLoop (P:=P) L (by rw[f];simp);rw[f]at this;exact this,hdone _ S1 T1 _ (hI2 _ _ _ _ _ _ _ hi V L rfl z) hd (by have:=V.chg (B.inU fun k d=>V.sz k (.inr d));rw[f]at this;exact this) ((World.putObj_heap_other (by omega)).trans d) H (ApC _)⟩
   ·exact⟨some c,_,by have:=run_endLoop (P:=P) L (by rw[f];simp);rw[f]at this;exact this,hstop _ S1 T1 c _ (hIx _ _ _ _ _ _ _ hi L rfl z) ((World.putObj_heap_other (by omega)).trans d) H (ApC _)⟩
def rgL (nb:Nat):Ann:={ keep:=fun _=>[],base:=nb }
def RT (nb:Nat)(st:St):List Ob:=(Qw nb [] st).map (EC st (Qw nb [] st))
def rgK (nb:Nat)(l0:List (Nat × VV))(b:List Ob)(K:Exit->St->Prop):Exit->St->Prop
 | .normal,st=>bif okF nb [] st then(leO (RT nb st) b/\True) else False
 | .ret,st=>bif okF nb [] st then K .ret (Ay l0 (RT nb st)) else False
 | _,_=>False
def Aik (nb:Nat):VV->Bool
 | .bp id _=>Nat.blt id nb
 | x=>x.mem
def WW (nb:Nat)(l:List (Nat × VV)):Bool:=l.all fun p=>Aik nb p.2
section
variable {P : Program} {T:TypeId->TE} {Sh:Shs} {N:Nat} {E:AN} {w:World} {φ:Phi} {a:Act} {st:St}
theorem R0 {nb t:Nat}:∀ {l:List (Nat × VV)},WW nb l=true->Aik nb (B9 t l)=true
 | [],_=>rfl
 | (j,x)::l,h=>by
  unfold WW at h;rw[Ark,Apv]at h;simp only[B9];cases Nat.beq t j with
  | true=>exact h.1
  | false=>exact R0 (l:=l) h.2
theorem V.stab {E':AN}{w':World}{φ':Phi}{nb:Nat}{x:VV}{v:Value}(h:V w (E.up φ) (some φ) x v)(f:Aik nb x=true)(hs:w.heap.size<=w'.heap.size)
  (i:∀ k,k<w.heap.size->¬ (E.up φ).fz k->w'.heap[k]?=w.heap[k]?/\¬ (E'.up φ').fz k) (c:∀ id p,id<nb->φ id=some p->∃ p',φ' id=some p'/\PlK p p'):V w' (E'.up φ') (some φ') x v:=by
 have d:x.mem=true->V w' (E'.up φ') (some φ') x v:=fun g=>by
  have h1:V w (E.up φ).hold none x v:=h.mem g rfl;have h2:V w' (E'.up φ').hold none x v:=h1.mono hs (fun k c e=>i k c e) (fun _ _ e=>(e trivial).elim) trivial;exact h2.mem g rfl
 cases x with
 | bp id off =>
  obtain⟨b,h1,rfl⟩:=h.bp_inv;obtain⟨p',h2,h3⟩:=c id _ (ApO f) h1;simp only[PlK]at h3;subst h3;exact .bp h2
 | _=>exact d f
theorem Lv {H:Nat->Ob}(h:HRel E H φ w){k:Nat}(i:Own φ k){o:Obj}(e:w.heap[k]?=some o):o.isCells=true:=by
 obtain⟨id,d⟩:=i;obtain⟨p,hp,d⟩:=A1.1 d;have:=h.ob id p hp;generalize H id=ob at this;cases ob with
 | box cs =>
  cases p with
  | box b =>
   obtain⟨c,ty,h1,_⟩:=this;simp only[PlB]at d;subst d;rw[e]at h1;cases h1;rfl
  | arr=>exact this.elim
 | arr fr g n sz f =>
  cases p with
  | box b=>exact this.elim
  | arr g' n' hd =>
   obtain⟨cap,rfl⟩:=d;obtain⟨_,_,c,ty,h1,_⟩:=this;rw[e]at h1;cases h1;rfl
 | gone g =>
  cases p with
  | box b=>exact this.elim
  | arr g' n' hd =>
   obtain⟨cap,rfl⟩:=d;obtain⟨_,h1⟩:=this;cases h1
theorem Ext.keeps {H:Nat->Ob}{w':World}{φ':Phi}(h:HRel E H φ w)(e:Ext w φ w' φ'):KeepsOthers w w' :=
 ⟨e.size,fun k o b c=>(e.block k (ApE.1 b).1 fun d=>by rw[Lv h d b]at c;cases c).trans b⟩
theorem AiO {E:AN}{m:Option Phi}:∀ (ps:List Nat) (xs:List VV) (vs:List Value) (l:List (Nat × VV)) (A:Array Value),ps.Nodup->(∀ p,p∈ps->p<A.size)->xs.length=ps.length->vs.length=ps.length ->
  (∀ (j:Nat) x,xs[j]?=some x->V w E m x (vs.getD j undef))->(∀ t,V w E m (B9 t l) (A.getD t undef)) ->
  ∀ t,V w E m (B9 t (ps.zip xs++l)) (((ps.zip vs).foldl (fun t (p:Nat × Value)=>t.setIfInBounds p.1 p.2) A).getD t undef)
 | [],_,_,l,A,_,_,_,_,_,h,t=>by simpa using h t
 | p::ps,x::xs,v::vs,l,A,c,hp,h1,h2,hv,h,t=>by
  rw[Arx]at c;have ih:=AiO ps xs vs ((p,x)::l) (A.setIfInBounds p v) c.2 (fun q b=>by rw[Array.size_setIfInBounds];exact hp q (ApM _ b)) (by simpa using h1) (by simpa using h2) (fun j x k=>by
   have:=hv (j+1) x k;simpa using this) (fun t=>by
   simp only[B9];cases b:Nat.beq t p with
   | true =>
    have:=ApA b;subst this;have d:=hp t (ApF ..);have h0:=hv 0 x rfl;have e:(A.setIfInBounds t v).getD t undef=v:=by simp[Array.getD,d]
    rw[e];simpa using h0
   | false =>
    have f:p≠t:=fun e=>by subst e;simp at b
    rw[show(A.setIfInBounds p v).getD t undef=A.getD t undef by simp[Array.getElem?_setIfInBounds_ne f]];exact h t) t
  have e:B9 t ((p::ps).zip (x::xs)++l)=B9 t (ps.zip xs++(p,x)::l):=by
   have g:∀ (L:List (Nat × VV)),(∀ q,q∈L->q.1≠p)->B9 t ((p,x)::L++l)=B9 t (L++(p,x)::l):=by
    intro L
    induction L with
    | nil=>intro _;rfl
    | cons q L ih =>
     intro i;have b:=i q (ApF ..);have:=ih fun q b=>i q (ApM _ b)
     simp only[AqG,B9]at this ⊢;cases h1:Nat.beq t q.1 with
     | true =>
      have:=ApA h1;have h2:Nat.beq t p=false:=by
       cases h3:Nat.beq t p with
       | true=>exact absurd ((ApA h3).symm.trans this).symm b
       | false=>rfl
      rw[h2];rfl
     | false=>rw[Apw,← this,Apw]
   exact g _ fun q b e=>c.1 (by rw[← e];exact(List.of_mem_zip b).1)
  rw[e];exact ih
def PY (N:Nat)(E:AN)(φ:Phi)(a:Act)(w:World)(l0:List (Nat × VV))(K0:List Ob->Prop)(S T:Nat->Prop)(W:World):Prop :=
 ∃ hs φk,∃ X:Nat->Prop,K0 hs/\(∀ b,S b ↔ Own φk b∨X b)/\(∀ b,X b->Own φ b∨w.heap.size<=b)/\(∀ b,T b->Own φ b∨w.heap.size<=b) /\
  Rel N (E.add (U X T)) (Ay l0 hs) φk { a with defers:=[] } W/\Fr 0 w φ W φk
theorem fr0 {w w':World}{φ φ':Phi}(h1:w'.os=w.os)(h2:w'.tape=w.tape)(h3:w'.output=w.output)(h4:w.heap.size<=w'.heap.size)(h5:∀ k,k<w.heap.size->¬ Own φ k->w'.heap[k]?=w.heap[k]?)(h6:∀ k,Own φ' k->Own φ k∨w.heap.size<=k):Fr 0 w φ w' φ' :=
 ⟨h1,h2,h3,h4,h5,h6,fun _ _ h _=>absurd h (AqZ _)⟩
theorem Rel.turn {E:AN}{st:St}{φ:Phi}{a:Act}{W:World}{l:Nat}(f:Obj)(h:Rel N E st φ a W)(h1:E.fz l)(h2:E.br l)(h3:l ∉ EB)(g:E.ds=[]):Rel N E st φ a (W.putObj l f):=by
 have b:∀ k,k≠l->(W.putObj l f).heap[k]?=W.heap[k]?:=fun k c=>World.putObj_heap_other c
 have:=h.over (E:=E) (w':=W.putObj l f) h.hp.sub (by simp) (fun k _ d=>⟨b k fun e=>d (by rw[e];exact h1),d⟩) (fun k _ d=>⟨b k fun e=>d (by rw[e];exact h2),d⟩) (fun k c=>by simpa using h.old.lt k c) (by rw[g];exact .nil (by simpa using h.df.2.1)) fun k c=>b k fun e=>h3 (by rw[← e];exact c)
 rw[← h.df.1]at this;exact this
section
variable {N : Nat} {E:AN} {φ:Phi} {a:Act} {w:World} {l0:List (Nat × VV)} {K0:List Ob->Prop} {S T:Nat->Prop} {W:World}
theorem PY.iter (j:∀ k,E.br k->E.fz k)(l:∀ k,k∈EB->k<w.heap.size/\¬ Own φ k){T':Nat->Prop}{W':World}(h:PY N E φ a w l0 K0 S T W)(c:Chg W T W' T'):PY N E φ a w l0 K0 S T' W':=by
 obtain⟨hs,φk,X,h1,h2,h3,h4,h5,h6⟩:=h;have i:∀ b,T' b->Own φ b∨w.heap.size<=b:=fun b m=>(c.new b m).elim (h4 b) fun h=>.inr (Ap0 h6.size h)
 have g:∀ (A:Nat->Prop) k,k<W.heap.size->¬ (A k∨U X T k)->W'.heap[k]?=W.heap[k]?/\¬ (A k∨U X T' k):=fun A k d f =>
  ⟨c.block k d fun e=>f (.inr (.inr e)),fun e=>by
   rcases e with e | e | e
   ·exact f (.inl e)
   ·exact f (.inr (.inl e))
   ·rcases c.new k e with e | e
    ·exact f (.inr (.inr e))
    ·omega⟩
 have:=h5.over (E:=E.add (U X T')) (w':=W') (fun k d=>d.imp (j k) fun h=>h) c.size (g _) (g _) (fun k d=>?_) (.nil ?_) fun k d=>?_
 ·exact⟨hs,φk,X,h1,h2,h3,i,this,fr0 (c.os.trans h6.os) (c.tape.trans h6.tape) (c.output.trans h6.output) (Ap0 h6.size c.size) (fun k d f=>(c.block k (ApR d h6.size) fun e=>(h4 k e).elim f fun h=>by omega).trans (h6.block k d f)) h6.new⟩
 ·rcases d with d | d | d
  ·exact ApR (h5.old.lt k (.inl d)) c.size
  ·exact ApR (h5.old.lt k (.inr (.inl d))) c.size
  ·exact c.lt k d
 ·exact Ap0 h5.df.2.1 c.size
 ·obtain⟨l1,l2⟩:=l k d;exact c.block k (ApR l1 h6.size) fun e=>(h4 k e).elim l2 fun h=>by omega
theorem PY.own (h:PY N E φ a w l0 K0 S T W){l:Nat}(hs:S l):(Own φ l∨w.heap.size<=l):=by
 obtain⟨_,φk,X,_,h2,h3,_,h5,h6⟩:=h;rcases(h2 l).1 hs with h | h
 ·exact h6.new l h
 ·exact h3 l h
theorem PY.put (i:∀ k,k∈EB->k<w.heap.size/\¬ Own φ k){l:Nat}{o:Obj}(c:Obj)(h:PY N E φ a w l0 K0 S T W)(j:W.heap[l]?=some o)(m:o.isCells=false)(hs:S l):PY N E φ a w l0 K0 S T (W.putObj l c):=by
 have d:=h.own hs;obtain⟨hs',φk,X,h1,h2,h3,h4,h5,h6⟩:=h;have f:X l:=((h2 l).1 hs).resolve_left fun h=>by have:=Lv h5.hp h j;rw[m]at this;cases this
 refine⟨hs',φk,X,h1,h2,h3,h4,h5.turn c (.inr (.inl f)) (.inr (.inl f)) (fun b=>?_) rfl,fr0 h6.os h6.tape h6.output (by simpa using h6.size) (fun k b g=>(World.putObj_heap_other fun e=>?_).trans (h6.block k b g)) h6.new⟩
 ·obtain⟨l1,l2⟩:=i l b;exact d.elim l2 fun h=>by omega
 ·subst e;exact d.elim g fun h=>by omega
end
end
theorem TL {N:Nat}{E:AN}{st:St}{φ:Phi}{a:Act}{w:World}{l0:List (Nat × VV)}{K0:List Ob->Prop}{S T:Nat->Prop}{W:World}(g:Rel N E st φ a w)(h:PY N E φ a w l0 K0 S T W){D:Nat}(l:W.heap[D]?=some (.deferred (some [])))(t:S D)(u:w.heap.size<=D) :
  ∃ E' d φ',E.Le E'/\(∃ hs,K0 hs/\d=Ay l0 hs)/\Rel N E' d φ' { a with defers:={ target:=.collected D,args:=#[] }::a.defers } W/\Fr 0 w φ W φ':=by
 obtain⟨hs,φk,X,h1,h2,h3,h4,h5,h6⟩:=h;have m:X D:=((h2 D).1 t).resolve_left fun h=>by have:=Lv h5.hp h l;cases this
 obtain⟨i,n,Ds,o,v,p⟩:=g.df;rw[← i]at o;obtain⟨E',b⟩:∃ E':AN,E'={ E.add (U X T) with lo:=E.lo,ds:={ target:=.collected D,args:=#[] }::a.defers }:=⟨_,rfl⟩;have q:=h5.over (E:=E') (w':=W) (fun k f=>by subst b;exact h5.hp.sub k f) (ApC _) (fun k _ j=>⟨rfl,by subst b;exact j⟩) (fun k _ j=>⟨rfl,by subst b;exact j⟩) (fun k f=>by subst b;exact h5.old.lt k f) ?_ fun _ _=>rfl
 ·exact⟨E',_,φk,by subst b;exact⟨fun _ h=>.inl h,fun _ h=>.inl h,rfl⟩,⟨hs,h1,rfl⟩,by have e:E'.ds={ target:=.collected D,args:=#[] }::a.defers:=(by rw[b]);rw[e]at q;exact q,h6⟩
 subst b;refine⟨Ap0 n h6.size,D::Ds,by show _::a.defers=_;rw[o];rfl,Arx.2 ⟨fun x=>?_,v⟩,fun D' c=>?_⟩
 ·have:=(ApE.1 (p D x).1).1;omega
 ·rcases Aqk.1 c with rfl | c
  ·exact⟨l,.inr (.inl m),.inr (.inl m),fun f=>by have:=g.old.lib.lt _ f;omega,Ap0 n u⟩
  ·obtain⟨r,s,y,z,A⟩:=p D' c;exact⟨(h6.block D' (ApE.1 r).1 fun B=>g.hp.free D' B s).trans r,.inl s,.inl y,z,A⟩
theorem Afj {P:Program}{T:TypeId->TE}{N:Nat}{st:St}(hT:TOk P T)(hmx:P.follows .mixedOrders=true){lc:Code}{K:Exit->St->Prop}{p q:List Nat}(Sh:Shs){id tg:Nat}{ps:Array Tmp}{assign body:Code}(hlc:lc=.block id (.rangeFunc (.tmp tg) ps assign body))
  (hB:(PK N assign&&Kq N body)=true) (hps:ps.toList.Nodup/\∀ p,p∈ps.toList->p<N) {gf:Nat} (eg:∀ args w,(callFunc gf args).run P w=.ok (.enter gf args) w) {hi:List Ob} {caps:List VV} {n:Nat} {xs:Nat->List VV} (hit:Ph P gf hi caps n xs)
  (hxs:∀ k,(xs k).length=ps.size) (ic ii:List Nat) (h1:ET st.nx ic=true) (h2:ET st.nx ii=true) (h3:(ic.all fun i=>!(ii.any (Nat.beq i)))=true)
  (l0:List (Nat × VV)) (nb:Nat) (s:Nat->List Ob) (_:∀ k,(s k).length=nb) (hl0:WW nb l0=true) (ht:∀ t,VV.le (IY st ic (st.t t)) (B9 t l0)) (hh:leO (ic.map (EC st ic)) (s 0))
  (hg:VV.le (IY st ii (st.t tg)) (.fn (.func gf) caps)) (hhi:leO (ii.map (EC st ii)) hi)
  (round:∀ k,k<n->xc P T Sh N (rgL nb) q (.seq assign body) (rgK nb l0 (s (k+1)) K) (Ay (ps.toList.zip (xs k)++l0) (s k)))
  (done:K .normal (Ay l0 (s n))):Sat P N 0 p lc K st:=by
 subst hlc;refine⟨fun E φ a w g=>(wpIn_wide (n:=0)).1 (wpIn_block ?_)⟩;have hE:=g.hp.sub;have hL:∀ k,k∈EB->k<w.heap.size/\¬ Own φ k:=fun k d=>⟨g.old.lib.lt k d,g.old.lib.out k d⟩
 have hlen0:=(GK hh).1;have R:=(GK hhi).1;simp only[AqL]at hlen0 R;have u:∀ k,Own (C4 ii φ) k->Own φ k:=fun k h=>Eh.2 (.inr h)
 have Y:∀ k,Own (C4 ic φ) k->Own φ k:=fun k h=>Eh.2 (.inr h)
 have m:∀ k,G8 ii φ k->Own φ k:=fun k h=>Eh.2 (.inl h)
 have I:∀ k,Own (C4 ic φ) k->G8 ii φ k:=fun k h=>by
  obtain⟨j,i,M,f⟩:=Ga.1 h;have:=Aqa.1 h3 i (Aql M);exact⟨i,VI (by simpa using this),f⟩
 have hdis:∀ k,G8 ii φ k->¬ Own (C4 ii φ) k:=fun k ⟨i,hi,f⟩ J=>by
  obtain⟨j,i',M,hb'⟩:=Ga.1 J;have:=g.hp.inj i i' k f hb';subst this;exact R8 hi j M
 have hfn:∃ lb,a.eval (.tmp tg)=.func (.func gf) #[] lb/\Dh w ((E.add (G8 ii φ)).up (C4 ii φ)) (some (C4 ii φ)) caps lb:=by
  have hv:=hg _ _ _ _ (Fy (F9 (E':=E.add (G8 ii φ)) g.hp (fun _ h=>h) fun _ h=>h) 8 _ _ (g.tm tg));have e:a.eval (.tmp tg)=a.tmps.getD tg undef:=rfl;rw[e];generalize a.tmps.getD tg undef=v at hv ⊢;cases hv with
  | fn M Z=>exact⟨_,rfl,M,Z⟩
 obtain⟨lb,hlb,hcaps⟩:=hfn;have hHI:HRel (E.add (G8 ii φ)) (BS hi) (C4 ii φ) w:=(g.hp.lend (E':=E.add (G8 ii φ)) h2 (fun _ h=>h) (fun _ h=>h) (fun k h=>h.imp (hE k) fun h=>h) (H':=BS (ii.map (EC st ii))) (fun j id e=>by simp[BS,e])).le hhi;have hφI:∀ j,C4 ii φ j≠none ↔ j<hi.length:=fun j=>by rw[← R];exact F8 h2 g.lv j
 have hgd:Gd E (U (G8 ii φ) (Own (C4 ii φ))) w:=⟨hE,g.old.lt,fun k d=>g.hp.lt (d.elim (m k) (u k)),g.old.lib.at',g.old.lib.lt,fun k d h=>g.old.lib.out k d (h.elim (m k) (u k))⟩;refine AhS (E:=E) (S:=G8 ii φ) (φ:=C4 ii φ) hlb eg hit hxs hgd hdis hHI hφI hcaps (fun k=>PY N E φ a w l0 (fun hs=>hs=s k))
  (fun c S T W=>c=.ret/\PY N E φ a w l0 (fun hs=>K .ret (Ay l0 hs)) S T W) (fun k S T T' W W' h _ c=>h.iter hE hL c) (fun k S T W l o o' h _ hl J hs=>h.put hL o' hl J hs)
  (fun c S T T' W W' ⟨hc,h⟩ _ hch=>⟨hc,h.iter hE hL hch⟩) (fun c S T W l o o' ⟨hc,h⟩ hl J hs=>⟨hc,h.put hL o' hl J hs⟩) ?_ ?_ ?_ ?_
 ·
  intro W f O;obtain⟨φ0,hφ0⟩:∃ φ0,C4 ic φ=φ0:=⟨_,rfl⟩;obtain⟨X,hX⟩:∃ X:Nat->Prop,X=fun b=>(G8 ii φ b/\¬ Own φ0 b)∨b=w.heap.size∨b=w.heap.size+1:=⟨_,rfl⟩
  have Q:Rel N (E.add (G8 ic φ)) (Ay l0 (s 0)) φ0 { a with defers:=[] } w:=by
   subst hφ0;refine⟨g.sz,⟨rfl,.nil (ApD _)⟩,⟨fun k d=>d.elim (g.old.lt k) fun h=>g.hp.lt (Eh.2 (.inl h)),g.old.lib.at',g.old.lib.lt,fun k d h=>g.old.lib.out k d (Y k h)⟩,fun t=>?_,?_,fun id z=>?_,fun id z=>?_⟩
   ·exact ht t _ _ _ _ (Fy (F9 (E':=E.add (G8 ic φ)) g.hp (fun _ h=>h) fun _ h=>h) 8 _ _ (g.tm t))
   ·exact(g.hp.lend (E':=E.add (G8 ic φ)) h1 (fun _ h=>h) (fun _ h=>h) (fun k h=>h.imp (hE k) fun h=>h) (H':=BS (ic.map (EC st ic))) (fun j id e=>by simp[BS,e])).le hh
   ·have hid':(s 0).length<=id:=z;exact ApZ fun y=>by have:=(F8 h1 g.lv id).1 y;omega
   ·have hid':id<(s 0).length:=z;exact(F8 h1 g.lv id).2 (by omega)
  have key:∀ (A:Nat->Prop) k,k<w.heap.size->¬ (A k∨G8 ic φ k)->W.heap[k]?=w.heap[k]?/\¬ (A k∨U X (Own (C4 ii φ)) k):=fun A k d y=>⟨f.block k d,fun e=>by
   have hno:∀ h:Own φ k,¬ Own φ0 k->False:=fun h h'=>by
    rcases(Eh (ids:=ic)).1 h with h'' | h''
    ·exact y (.inr h'')
    ·exact h' (by rw[← hφ0];exact h'')
   rcases e with e | e | e
   ·exact y (.inl e)
   ·rw[hX]at e;rcases e with⟨M,Z⟩ | rfl | rfl
    ·exact hno (m k M) Z
    ·omega
    ·omega
   ·refine hno (u k e) fun h=>hdis k (I k (by rw[hφ0];exact h)) e⟩
  have hR2:=Q.over (E:=E.add (U X (Own (C4 ii φ)))) (w':=W) (fun k d=>d.imp (hE k) fun h=>h) f.size (key _) (key _) (fun k d=>?_) (.nil (ApD _)) fun k d=>f.block k (hL k d).1
  ·refine⟨s 0,φ0,X,rfl,fun b=>⟨fun h=>?_,fun h=>?_⟩,fun b h=>?_,fun b h=>.inl (u b h),hR2,fr0 f.os f.tape f.output f.size (fun k d _=>f.block k d) fun k h=>.inl (Y k (by rw[hφ0];exact h))⟩
   ·rw[hX];rcases h with h | h | h
    ·by_cases J:Own φ0 b
     ·exact .inl J
     ·exact .inr (.inl ⟨h,J⟩)
    ·exact .inr (.inr (.inl h))
    ·exact .inr (.inr (.inr h))
   ·rw[hX]at h;rcases h with h | ⟨h,_⟩ | h
    ·exact .inl (I b (by rw[hφ0];exact h))
    ·exact .inl h
    ·exact .inr h
   ·rw[hX]at h;rcases h with⟨h,_⟩ | h | h
    ·exact .inl (m b h)
    ·exact .inr (by omega)
    ·exact .inr (by omega)
  ·rcases d with d | d | d
   ·exact ApR (g.old.lt k d) f.size
   ·rw[hX]at d;rcases d with⟨h,_⟩ | h | h
    ·exact ApR (g.hp.lt (m k h)) f.size
    ·exact O k (.inl h)
    ·exact O k (.inr h)
   ·exact ApR (g.hp.lt (u k d)) f.size
 ·
  rintro l k S1 T1 W vs d ⟨hs,φk,X,rfl,b1,b2,b3,Q,hF⟩ hd hgd1 hsay;rw[Apv]at hB;have hr0:=round k d;simp only[xc]at hr0;have hup:∀ {x:VV} {v:Value},V W (E.add (U S1 T1)) none x v->V W ((E.add (U X T1)).up φk) (some φk) x v:=fun h=>h.held.less
   (fun k d=>by
    rcases d with(d | d | d) | d
    ·exact .inl d
    ·exact .inr (.inl ((b1 k).2 (.inr d)))
    ·exact .inr (.inr d)
    ·exact .inr (.inl ((b1 k).2 (.inl d)))) fun k d=>by
    rcases d with(d | d | d) | d
    ·exact .inl d
    ·exact .inr (.inl ((b1 k).2 (.inr d)))
    ·exact .inr (.inr d)
    ·exact .inr (.inl ((b1 k).2 (.inl d)))
  have hR1:Rel N (E.add (U X T1)) (Ay (ps.toList.zip (xs k)++l0) (s k)) φk { tmps:=(ps.zip vs).foldl (fun t (p,v)=>t.setIfInBounds p v) a.tmps,defers:=[] } W:=by
   have e:(ps.zip vs).foldl (fun(t:Array Value) (p,v)=>t.setIfInBounds p v) a.tmps=(ps.toList.zip vs.toList).foldl (fun t (p:Nat × Value)=>t.setIfInBounds p.1 p.2) a.tmps:=by
    rw[← Array.foldl_toList,Array.toList_zip]
   refine⟨?_,⟨rfl,Q.df.2⟩,Q.old,fun t=>?_,Q.hp,Q.fr,Q.lv⟩
   ·show((ps.zip vs).foldl (fun(t:Array Value) (p,v)=>t.setIfInBounds p v) a.tmps).size=N;rw[e];have:∀ (L:List (Nat × Value)) (A:Array Value),(L.foldl (fun t (p:Nat × Value)=>t.setIfInBounds p.1 p.2) A).size=A.size:=by
     intro L
     induction L with
     | nil=>intro A;rfl
     | cons p L ih=>intro A;rw[List.foldl_cons,ih,Array.size_setIfInBounds]
    rw[this];exact Q.sz
   ·show V W _ _ (B9 t _) (((ps.zip vs).foldl (fun(t:Array Value) (p,v)=>t.setIfInBounds p v) a.tmps).getD t undef);rw[e];refine AiO ps.toList (xs k) vs.toList l0 a.tmps hps.1 (fun p hp=>by rw[show a.tmps.size=N from Q.sz];exact hps.2 p hp) (by simpa using hxs k) (by rw[AqI,AqI,hsay.1,hxs k]) (fun j x hx=>?_) (fun t=>Q.tm t) t;have:=hup (hsay.2 j x hx);simpa[Aqh] using this
  have G:∀ {st:St} {φ':Phi} {a':Act} {W':World},Rel N (E.add (U X T1)) st φ' a' W'->∀ {r:Nat} {o:Obj},(Own φ' r∨X r)->W'.heap[r]?=some o->o.isCells=false->X r:=fun h r o g J hc=>g.resolve_left fun h'=>by
   have:=Lv h.hp h' J;rw[hc]at this;cases this
  refine wpIn_mono (VN (ro:=some l) (L:=rgL nb) hT hmx (fun _=>rfl) assign hB.1 _ _ _ hr0 _ _ _ _ hR1) ?_;rintro e a1 W1 ⟨rfl,st1,φ1,g1,g2,C⟩
  ·skip
   have g1:xc P T Sh N (rgL nb) (1::q) body (rgK nb l0 (s (k+1)) K) st1:=g1;refine⟨Ext.keeps hR1.hp C,fun b=>Own φ1 b∨X b,⟨C.os,C.tape,C.output,C.size,fun b f y=>C.block b f fun h=>y ((b1 b).2 (.inl h)),fun b f=>?_,fun b f=>?_⟩,fun b o f J hc=>.inr (G hR1 ((b1 b).1 f) J hc),?_⟩
   ·rcases f with h | h
    ·exact(C.new b h).imp (fun h=>(b1 b).2 (.inl h)) fun h=>h
    ·exact .inl ((b1 b).2 (.inr h))
   ·rcases f with h | h
    ·exact g2.hp.lt h
    ·exact g2.old.lt b (.inr (.inl h))
   rintro W2 r o2 rfl ⟨o1,hr1⟩ hr2 _ _ _;have hXr:X r:=G g2 hr2 hr1 rfl;have hwr:=b2 r hXr;have hrl:r ∉ EB:=fun h=>by
    obtain⟨l1,l2⟩:=hL r h;exact hwr.elim l2 fun h=>by omega
   have g2':=g2.turn o2 (.inr (.inl hXr)) (.inr (.inl hXr)) hrl rfl;refine wpIn_mono (Po (ro:=some l) (L:=rgL nb) hT hmx (fun _=>rfl) body hB.2 _ _ _ g1 _ _ _ _ g2') ?_;rintro e a3 W3 ⟨st3,φ3,f1,f2,H⟩;have hend:okF nb [] st3=true->∀ (F:List Ob) (K1:List Ob->Prop),leO (RT nb st3) F->K1 F->KeepsOthers (W1.putObj r o2) W3/\∃ S',Chg (W1.putObj r o2) (fun b=>Own φ1 b∨X b) W3 S'/\V7 (W1.putObj r o2) (fun b=>Own φ1 b∨X b) S'/\PY N E φ a w l0 K1 S' T1 W3:=by
    intro B F K1 hle hK1;obtain⟨φ4,r4,f4⟩:=f2.forget B;have hl1:=(GK hle).1;have hFt:∀ b,b<W.heap.size->¬ Own φk b->¬ X b->W3.heap[b]?=W.heap[b]?:=fun b f y hx=>by
     have h1:¬ Own φ1 b:=fun h=>(C.new b h).elim y fun h=>by omega
     have F:b<W1.heap.size:=ApR f C.size;have Z:(W1.putObj r o2).heap[b]?=W1.heap[b]?:=World.putObj_heap_other fun e=>hx (by rw[e];exact hXr)
     exact((H.block b (by simpa using F) h1).trans Z).trans (C.block b f y)
    have O:W.heap.size<=W3.heap.size:=Ap0 C.size (by simpa using H.size);have hnew:∀ b,Own φ4 b->Own φk b∨W.heap.size<=b:=fun b f=>by
     rcases f4.new b f with h | h
     ·rcases H.new b h with h | h
      ·exact C.new b h
      ·exact .inr (Ap0 C.size (by simpa using h))
     ·exact .inr (Ap0 O h)
    refine⟨Ext.keeps g2'.hp H,fun b=>Own φ4 b∨X b,⟨H.os,H.tape,H.output,H.size,fun b f y=>H.block b f fun h=>y (.inl h),fun b f=>?_,fun b f=>?_⟩,fun b o f J hc=>.inr (G g2' f J hc),?_⟩
    ·rcases f with h | h
     ·rcases f4.new b h with h | h
      ·exact(H.new b h).imp .inl fun h=>h
      ·exact .inr (Ap0 H.size h)
     ·exact .inl (.inr h)
    ·rcases f with h | h
     ·exact r4.hp.lt h
     ·exact r4.old.lt b (.inr (.inl h))
    refine⟨F,φ4,X,hK1,fun _=>Iff.rfl,b2,b3,⟨Q.sz,⟨rfl,.nil r4.df.2.1⟩,r4.old,fun t=>?_,r4.hp.le hle,fun id z=>r4.fr id ?_,fun id z=>r4.lv id ?_⟩,?_⟩
    ·refine(Q.tm t).stab (nb:=nb) (R0 hl0) O (fun b f y=>⟨hFt b f (fun h=>y (.inr h)) fun h=>y (.inl (.inr (.inl h))),fun h=>?_⟩) fun id p z hp=>?_
     ·rcases h with h | h
      ·exact y (.inl h)
      ·exact(hnew b h).elim (fun h=>y (.inr h)) fun h=>by omega
     ·obtain⟨p1,M,k1⟩:=C.up id p hp;obtain⟨p2,Z,k2⟩:=H.up id p1 M;obtain⟨p3,e3,k3⟩:=f4.kind id p2 z Z;exact⟨p3,e3,(k1.kind.trans k2.kind).trans k3⟩
    ·have:F.length<=id:=z;show(RT nb st3).length<=id;omega
    ·have:id<F.length:=z;show id<(RT nb st3).length;omega
    ·refine fr0 (H.os.trans (C.os.trans hF.os)) (H.tape.trans (C.tape.trans hF.tape)) (H.output.trans (C.output.trans hF.output)) (Ap0 hF.size O) (fun b f y=>(hFt b (ApR f hF.size) (fun h=>(hF.new b h).elim y fun h=>by omega) fun h=>(b2 b h).elim y fun h=>by omega).trans (hF.block b f y)) fun b f=>?_
     rcases hnew b f with h | h
     ·exact hF.new b h
     ·exact .inr (Ap0 hF.size h)
   cases e with
   | normal =>
    simp only[rgK]at f1;cases B:okF nb [] st3 with
    | false=>rw[B]at f1;exact f1.elim
    | true=>rw[B,Apy]at f1;exact hend B _ _ f1.1 rfl
   | ret =>
    simp only[rgK]at f1;cases B:okF nb [] st3 with
    | false=>rw[B]at f1;exact f1.elim
    | true =>
     rw[B,Apy]at f1;obtain⟨k1,S',k2,k3,k4⟩:=hend B _ (fun hs=>K .ret (Ay l0 hs)) (Hz _) f1;exact⟨k1,S',k2,k3,rfl,k4⟩
   | _=>exact f1.elim
 ·
  rintro D S1 T1 W h hd hgd1 hD hS hwD;obtain⟨E',st',φ',M,Z,e3,e4⟩:=TL g h hD hS hwD;exact⟨E',st',φ',M,by obtain⟨hs,rfl,rfl⟩:=Z;exact done,e3,e4⟩
 ·
  rintro D S1 T1 c W ⟨rfl,h⟩ hD hS hwD;obtain⟨E',st',φ',M,Z,e3,e4⟩:=TL g h hD hS hwD;exact wpIn_ret ⟨E',st',φ',M,by obtain⟨hs,h1,rfl⟩:=Z;exact h1,e3,e4⟩
def Ajb : Code->Code
 | .block _ (.rangeFunc _ _ assign body)=>.seq assign body
 | _=>.skip
def Ctx.rg (c:Ctx)(rel:List Nat)(nb:Nat)(l0:List (Nat × VV))(b:List Ob):Ctx :=
 { c with L:=rgL nb,code:=Ajb (E4 rel c.code),p0:=[],K0:=rgK nb l0 b (c.k rel) }
def Ctx.after (c:Ctx)(rel:List Nat):Ctx:={ c with code:=.skip,K0:=c.k rel }
theorem PW {P:Program}{g:FuncId}(h:Ic P g)(args:Array Value)(w:World):(callFunc g args).run P w=.ok (.enter g args) w:=by
 obtain⟨fn,b,d,c⟩:=h;simp only[callFunc,Sem.run_bind,Sem.run_pure,Result.andThen_ok,run_program,b,c,d,Arn,if_false]
theorem Aal {c:Ctx}(m:TOk c.P c.T)(d:c.P.follows .mixedOrders=true){rel:List Nat}{st:St}(id tg:Nat)(ps:List Tmp)(assign body:Code)(l:c.sub rel=.block id (.rangeFunc (.tmp tg) ps.toArray assign body))(o:c.L.base=0)
  (hB:(PK c.N assign&&Kq c.N body)=true) (e:ps.Nodup/\∀ p,p∈ps->p<c.N) {gf:Nat} (eg:Ic c.P gf) {hi:List Ob} {caps:List VV} {n:Nat} {xs:Nat->List VV} (f:Ph c.P gf hi caps n xs)
  (g:∀ k,(xs k).length=ps.length) (ic ii:List Nat) (h1:ET st.nx ic=true) (h2:ET st.nx ii=true) (h3:(ic.all fun i=>!(ii.any (Nat.beq i)))=true)
  (l0:List (Nat × VV)) (nb:Nat) (b:Nat->List Ob) (r:∀ k,(b k).length=nb) (h:WW nb l0=true) (s:∀ t,VV.le (IY st ic (st.t t)) (B9 t l0)) (u:leO (ic.map (EC st ic)) (b 0))
  (hg:VV.le (IY st ii (st.t tg)) (.fn (.func gf) caps)) (j:leO (ii.map (EC st ii)) hi)
  (round:∀ k,k<n->(c.rg rel nb l0 (b (k+1))).goal (Ay (ps.zip (xs k)++l0) (b k))) (done:(c.after rel).goal (Ay l0 (b n))):Ax c rel st:=by
 unfold Ax;rw[o];refine Afj (q:=[]) m d c.Sh l hB e (fun args w=>PW eg args w) f (fun k=>by simpa using g k) ic ii h1 h2 h3 l0 nb b r h s u hg j (fun k v=>?_) done;have x:Ajb (E4 rel c.code)=.seq assign body:=by
  have:E4 rel c.code=.block id (.rangeFunc (.tmp tg) ps.toArray assign body):=l;rw[this];rfl
 have:=round k v;unfold Ctx.goal Ctx.rg at this;simp only[x]at this;exact this
def Dl (ops:Array Oper)(k:Nat):Array Oper:=(ops.toList.take k).toArray
def Apc : Option Nat->Operand
 | some d=>.tmp d
 | none=>.const undef
def Ko (o:Oper):Oper:={ o with op:=.move (Apc o.dst),guard:=none }
def CX (ops:Array Oper)(k:Nat):Array Oper:=((ops.toList.take k).map Ko++ops.toList.drop k).toArray
def Qu (ops:Array Oper):Bool:=ops.toList.all fun o=>o.guard.isNone
section
variable {F : Fence} {n:Nat} {P:Program} {Q Q':Exit->Act->World->Prop} {ops:Array Oper}
theorem Apo {o:Oper}{a:Act}{w:World}{K:Act->World->Prop}(h:o.wpIn F n P a w K Q)(hp:∀ ch a w,Q (.panic ch) a w->Q' (.panic ch) a w)(d:LetsOut Q->LetsOut Q'):o.wpIn F n P a w K Q':=by
 refine⟨h.1,?_⟩;have h:=h.2;generalize (o.semAt F.round a.eval).run P w=r at h ⊢;cases r with
 | ok x w' =>
  cases x with
  | enter f args=>exact⟨h.1,CallsIn.mono h.2 fun e c b=>by cases e<;>first | exact b | exact hp _ _ _ b | exact d b⟩
  | round=>exact⟨h.1,RoundIn.mono h.2 fun e c b=>by cases e<;>first | exact b | exact hp _ _ _ b | exact d b⟩
  | _=>exact h
 | halt e w' =>
  cases e with
  | panic v=>exact hp _ _ _ h
  | _=>exact h
theorem AnP {i:Nat}{a:Act}{w:World}{K:Act->World->Prop}(h:wpOpIn F n P ops Q i K a w)(hp:∀ ch a w,Q (.panic ch) a w->Q' (.panic ch) a w)(d:LetsOut Q->LetsOut Q'):wpOpIn F n P ops Q' i K a w:=by
 unfold wpOpIn at h ⊢;cases c:ops[i]? with
 | none=>rw[c]at h;exact h
 | some o =>
  rw[c]at h;simp only at h ⊢;split
  ·rename_i b;rw[Aqc b]at h;exact Apo h hp d
  ·rename_i b;rw[ApT b]at h;exact h
theorem Ado (js:List Nat):∀ (is:List Nat) (a:Act) (w:World),wpOpsIn F n P ops (Exit.then (wpOpsIn F n P ops Q js) Q) is a w->wpOpsIn F n P ops Q (is++js) a w
 | [],a,w,h=>h
 | i::is,a,w,h=>by
  rw[wpOpsIn_cons]at h;rw[AqG,wpOpsIn_cons];exact wpOpIn_mono (fun a w h=>Ado js is a w h) (AnP h (fun _ _ _ h=>h) fun h=>h)
theorem Adn {A:Array Oper}(c:Qu A=true):∀ (is:List Nat),(∀ i,i∈is->i<A.size/\ops[i]?=A[i]?)->∀ (a:Act) (w:World),wpOpsIn F n P A Q is a w->wpOpsIn F n P ops Q is a w
 | [],_,a,w,h=>h
 | i::is,hi,a,w,h=>by
  rw[wpOpsIn_cons]at h ⊢;obtain⟨h1,h2⟩:=hi i (ApF ..);have d:A[i]?=some A[i]:=by simp[h1]
  have hg:A[i].guard=none:=by
   have:=Aqa.1 c A[i] (by simp);simpa using this
  have e:∀ y,Region.wanted A[i] y=true:=fun y=>by unfold Region.wanted;rw[hg]
  unfold wpOpIn at h ⊢;rw[d]at h;rw[h2,d];simp only[e,if_true]at h ⊢;exact Oper.wpIn_mono (fun a w h=>Adn c is (fun i b=>hi i (ApM _ b)) a w h) h
theorem Ajv (a:Act)(d:Nat)(hd:d<a.tmps.size):a.put (some d) (a.tmps.getD d undef)=a:=by
 obtain⟨t,ds⟩:=a;simp only[Act.put]
 congr 1
 have b:d<t.size:=hd;simp[Array.getD,b,Array.setIfInBounds_def]
theorem UP {k i:Nat}:(CX ops k)[i]?=if i<k then(ops[i]?).map Ko else ops[i]?:=by
 unfold CX;rw[List.getElem?_toArray]
 by_cases h:i<ops.size
 ·by_cases a:i<k
  ·rw[ApL (by simp;omega),Ap3,AqP,Aqc a,Aqc a,Array.getElem?_toList]
  ·rw[ApX (by simp;omega),ApT a,Aqg];simp only[AqL,Arr,AqI,Array.getElem?_toList]
   congr 1
   omega
 ·rw[AqK (by simp;omega),Array.getElem?_eq_none (by omega)];split<;>rfl
theorem Xg {k N:Nat}(hd:∀ (i:Nat) o d,ops[i]?=some o->o.dst=some d->d<N)(p:k<=ops.size):∀ (m j:Nat) (a:Act) (w:World),a.tmps.size=N->j+m=k->wpOpsIn F n P (CX ops k) Q (List.range' j m++List.range' k (ops.size - k)) a w->wpOpsIn F n P (CX ops k) Q (List.range' k (ops.size - k)) a w
 | 0,j,a,w,_,_,h=>h
 | m+1,j,a,w,hs,hj,h=>by
  rw[List.range'_succ,AqG,wpOpsIn_cons]at h;have b:j<ops.size:=by omega
  have f:(CX ops k)[j]?=some (Ko ops[j]):=by
   rw[UP,Aqc (by omega)];simp[b]
  unfold wpOpIn at h;rw[f]at h;have q:∀ (o:Oper) y,Region.wanted (Ko o) y=true:=fun _ _=>rfl
  simp only[q,if_true]at h;refine Xg hd p m (j+1) a w hs (by omega) ?_;have h:=h.2;rw[Oper.semAt_eq _ _ _ (by intro c r;cases r)]at h;have g:∀ o:Oper,ops[j]?=some o->(Ko o).uponIn F n P a (fun a w=>wpOpsIn F n P (CX ops k) Q (List.range' (j+1) m++List.range' k (ops.size - k)) a w) Q ((execOp a.eval (Ko o)).run P w)->wpOpsIn F n P (CX ops k) Q (List.range' (j+1) m++List.range' k (ops.size - k)) a w:=by
   intro o f h;have l:=hd j o;obtain⟨dst,op,ty,pos,af,gd⟩:=o;cases dst with
   | none =>
    have e:(execOp a.eval (Ko ⟨none,op,ty,pos,af,gd⟩)).run P w=.ok (.value undef) w:=rfl;rw[e]at h;exact h
   | some d =>
    have e:(execOp a.eval (Ko ⟨some d,op,ty,pos,af,gd⟩)).run P w=.ok (.value (a.tmps.getD d undef)) w:=rfl;rw[e]at h;have h:wpOpsIn F n P (CX ops k) Q (List.range' (j+1) m++List.range' k (ops.size - k)) (a.put (some d) (a.tmps.getD d undef)) w:=h;rw[Ajv a d (by rw[hs];exact l d f rfl)]at h;exact h
  exact g ops[j] (by simp[b]) h
theorem WQ {k:Nat}{t:Array Value}:yielded (CX ops k) t=yielded ops t:=by
 funext j
 unfold yielded;have:((CX ops k)[j]?).bind (·.dst)=(ops[j]?).bind (·.dst):=by
  rw[UP];split
  ·cases ops[j]?<;>rfl
  ·rfl
 rw[this]
theorem Adm {k:Nat}:∀ (js:List Nat),(∀ j,j∈js->k<=j)->∀ (a:Act) (w:World),wpOpsIn F n P (CX ops k) Q js a w->wpOpsIn F n P ops Q js a w
 | [],_,a,w,h=>h
 | j::js,c,a,w,h=>by
  rw[wpOpsIn_cons]at h ⊢;have e:(CX ops k)[j]?=ops[j]?:=by rw[UP,ApT (Nat.not_lt.2 (c j (ApF ..)))]
  unfold wpOpIn at h ⊢;rw[e,WQ]at h;have ih:=fun(a:Act) (w:World) h=>Adm js (fun j h=>c j (ApM _ h)) a w h
  cases d:ops[j]? with
  | none=>rw[d]at h;exact ih _ _ h
  | some o =>
   rw[d]at h;simp only at h ⊢;split
   ·rename_i b;rw[Aqc b]at h;exact Oper.wpIn_mono ih h
   ·rename_i b;rw[ApT b]at h;exact⟨h.1,ih _ _ h.2⟩
end
theorem AhJ {P:Program}{Q:Exit->Act->World->Prop}{oc:Oper}{tf d:Nat}{j k:Operand}{tys:Array TypeId}(f:oc.op=.call { callee:=.value (.tmp tf),args:=#[j,k],argTypes:=tys })(hd:oc.dst=some d){a:Act}{w:World}{l:Nat}(o:a.tmps.getD tf undef=.func (.yield l) #[] #[])
  {K:Act->World->Prop} {R:Ending->World->Prop} (p:YieldAt Fence.wide 0 P l #[a.eval j,a.eval k] w R) (q:∀ e w',R e w'->∃ b,e=.returned b/\K (a.put (some d) b) w'):oc.wpIn Fence.wide 0 P a w K Q:=by
 obtain⟨fn,tmps,assign,body,r,s⟩:=p;have i:a.eval (.tmp tf)=.func (.yield l) #[] #[]:=o;have g:(execOp a.eval oc).run P w=.ok (.round l fn tmps assign body) w:=by
  unfold execOp;rw[f];simp only[resolve,i,Deferred.ofValue,Sem.run_bind,Sem.run_pure,Result.andThen_ok,invoke,Array.empty_append,Are,Aqm,AqY];simpa using r
 refine⟨fun _ _=>trivial,?_⟩;rw[Oper.semAt_eq _ _ _ (by intro c m;rw[f]at m;cases m),g,Oper.uponIn_round];refine⟨fun h=>by simp[Fence.wide]at h,s.mono fun e w' t=>?_⟩;obtain⟨b,rfl,u⟩:=q e w' t;rw[hd];exact u
theorem AjI {P:Program}{T:TypeId->TE}{Sh:Shs}{N:Nat}{ops:Array Oper}{st0:St}{E:AN}{w0:World}{φ0:Phi}{a:Act}(m:TOk P T)(hB:(NH ops N&&KG ops)=true){Q:Exit->Act->World->Prop}(p:¬ LetsOut Q)
  {K:St->Prop} (h:JR P T Sh false ops 0 ops.toList st0 [] [] fun b=>K (clr ops b)) (hrel:Rel N E st0 φ0 a w0) (c:∀ st φ f w',K st->Rel N E st φ f w'->Ext w0 φ0 w' φ->Q .normal f w'):wpOpsIn Fence.wide 0 P ops Q (List.range' 0 ops.size) a w0:=by
 rw[Apv]at hB;obtain⟨O,q,r⟩:=Et ops.toList 0 st0 [] [] h;have g:=NG hB.1;obtain⟨d,s⟩:=II (T:=T) (O:=O) (st0:=st0) ops.toList 0 (by simp) (ApD _) r;have k:∀ (j:Nat) o,ops[j]?=some o->Ir false T O ops st0 j o:=fun j o=>d j o (ApD _)
 refine Vm (ro:=none) (V0 hB.2) p _ _ _ (RV m q g k (fun D φ a w t l=>c _ φ a w s (l.finish g k t) l.ext) ops.size 0 φ0 a w0 (by omega) ?_);have e:(fun i=>decide (i<0))=fun _=>false:=by funext i;simp
 rw[e];exact RI.start hrel
theorem Uz {P:Program}{T:TypeId->TE}{Sh:Shs}{N:Nat}(S:TOk P T){id k tf d:Nat}{ops:Array Oper}{oc:Oper}{U V:Operand}{tys:Array TypeId}{Q:Exit->Act->World->Prop}(W:¬ LetsOut Q)
  (c:(NH (Dl ops k) N&&KG (Dl ops k))=true) (u:Qu (Dl ops k)=true) (g:(NH (CX ops (k+1)) N&&KG (CX ops (k+1)))=true) (p:∀ (i:Nat) o d,ops[i]?=some o->o.dst=some d->d<N)
  (q:ops[k]?=some oc) (v:oc.op=.call { callee:=.value (.tmp tf),args:=#[U,V],argTypes:=tys }) (x:oc.guard=none) (hd:oc.dst=some d) {st:St} {E:AN} {φ:Phi} {a:Act} {w:World} {Y:St->Prop}
  (hx:JR P T Sh false (Dl ops k) 0 (Dl ops k).toList st [] [] fun st1=>Y (clr (Dl ops k) st1)) (hr:Rel N E st φ a w)
  (hY:∀ st1 φ1 f r,Y st1->Rel N E st1 φ1 f r->Ext w φ r φ1->∃ l R,f.tmps.getD tf undef=.func (.yield l) #[] #[]/\YieldAt Fence.wide 0 P l #[f.eval U,f.eval V] r R/\∀ e w2,R e w2->∃ b E2 st2 φ2,∃ K3:St->Prop,e=.returned b/\Rel N E2 st2 φ2 (f.put (some d) b) w2 /\
   (JR P T Sh false (CX ops (k+1)) 0 (CX ops (k+1)).toList st2 [] [] fun st3=>K3 (clr (CX ops (k+1)) st3))/\∀ st3 φ3 X y,K3 st3->Rel N E2 st3 φ3 X y->Ext w2 φ2 y φ3->Q .normal X y) :
  (Code.region id ops false).wpIn Fence.wide 0 P Q a w:=by
 have z:k<ops.size:=(ApE.1 q).1;have A:(Dl ops k).size=k:=by simp[Dl];omega
 have B:(CX ops (k+1)).size=ops.size:=by simp[CX];omega
 refine wpIn_region ?_;have e1:List.range ops.size=List.range' 0 k++(k::List.range' (k+1) (ops.size - (k+1))):=by
  rw[← List.range'_succ,List.range_eq_range',show ops.size - (k+1)+1=ops.size - k by omega];have:=List.range'_append_1 (s:=0) (m:=k) (n:=ops.size - k);rw[Ap5]at this;rw[this]
  congr 1
  omega
 rw[e1];refine Ado _ _ _ _ (Adn u _ (fun i hi=>?_) _ _ ?_)
 ·have C:i<k:=by simpa using hi
  refine⟨by omega,?_⟩;unfold Dl;simp[C]
 have h1:wpOpsIn Fence.wide 0 P (Dl ops k) (Exit.then (wpOpsIn Fence.wide 0 P ops Q (k::List.range' (k+1) (ops.size - (k+1)))) Q) (List.range' 0 (Dl ops k).size) a w:=by
  obtain⟨O,hO,G⟩:=Et (Dl ops k).toList 0 st [] [] hx;rw[Apv]at c;have Z:=NG c.1;obtain⟨H,hK⟩:=II (T:=T) (O:=O) (st0:=st) (Dl ops k).toList 0 (by simp) (ApD _) G;have hG:∀ (j:Nat) o,(Dl ops k)[j]?=some o->Ir false T O (Dl ops k) st j o:=fun j o=>H j o (ApD _)
  have I:¬ LetsOut (Exit.then (wpOpsIn Fence.wide 0 P ops Q (k::List.range' (k+1) (ops.size - (k+1)))) Q):=fun h=>W h
  refine Vm (ro:=none) (V0 c.2) I _ _ _ (RV (E:=E) (w0:=w) (φ0:=φ) S hO Z hG (fun D φ1 f r hD hI=>?_) (Dl ops k).size 0 φ a w (by omega) ?_)
  ·show wpOpsIn Fence.wide 0 P ops Q (k::List.range' (k+1) (ops.size - (k+1))) f r;have hrel:=hI.finish Z hG hD;obtain⟨l,R,hf,J,K⟩:=hY _ _ _ _ hK hrel hI.ext;rw[wpOpsIn_cons];unfold wpOpIn;rw[q];have hw:Region.wanted oc (yielded ops f.tmps)=true:=by unfold Region.wanted;rw[x]
   simp only[hw,if_true];refine AhJ v hd hf J fun e w2 he=>?_
   obtain⟨b,E2,st2,φ2,K3,rfl,t,L,M⟩:=K e w2 he;refine⟨b,rfl,Adm (k:=k+1) _ (fun j hj=>by simp at hj;omega) _ _ ?_⟩;refine Xg (k:=k+1) (N:=N) p z (k+1) 0 _ _ t.sz (by omega) ?_;have:=AjI S g W L t M;rw[B]at this;have e2:List.range' 0 ops.size=List.range' 0 (k+1)++List.range' (k+1) (ops.size - (k+1)):=by
    have:=List.range'_append_1 (s:=0) (m:=k+1) (n:=ops.size - (k+1));rw[Ap5]at this;rw[this]
    congr 1
    omega
   rw[← e2];exact this
  ·have e:(fun i=>decide (i<0))=fun _=>false:=by funext i;simp
   rw[e];exact RI.start hr
 rw[A]at h1;exact h1
def VV.memA : VV->Bool
 | .agg cs=>cs.all VV.mem
 | x=>x.mem
abbrev JT:=Option Nat->(Nat->Prop)->(Nat->Prop)->World->Prop
structure LV (N:Nat) (E:AN) (J:JT) (k:Option Nat) (S:Nat->Prop) (st:St) (φ:Phi) (a:Act) (w:World):Prop where
 rel:Rel N (E.add S) st φ a w
 j:J k S (Own φ) w
 ls:∀ b,b∈EB->¬ S b
 sub:∀ b,E.br b->E.fz b
def AdW (N:Nat)(E:AN)(J:JT)(K:Exit->Option Nat->St->Prop):Exit->Act->World->Prop:=fun e a w=>∃ k st S φ,K e k st/\LV N E J k S st φ a w
structure Ee (P:Program) (N:Nat) (E:AN) (J:JT) (c:Code) (K:Exit->Option Nat->St->Prop) (k:Option Nat) (st:St):Prop where
 h:∀ S φ a w,LV N E J k S st φ a w->c.wpIn Fence.wide 0 P (AdW N E J K) a w
def Iu (J:JT):Prop:=∀ k S T T' c w2,J k S T c->(∀ b,S b->¬ T b)->Chg c T w2 T'->J k S T' w2
def Afc (K:Exit->Option Nat->St->Prop)(next:Option Nat->St->Prop):Exit->Option Nat->St->Prop
 | .normal,k,st=>next k st
 | e,k,st=>K e k st
def AkK (id:Nat)(K:Exit->Option Nat->St->Prop):Exit->Option Nat->St->Prop
 | .exit j,k,st=>if j=id then K .normal k st else K (.exit j) k st
 | e,k,st=>K e k st
section
variable {P : Program} {T:TypeId->TE} {Sh:Shs} {N:Nat} {L:Ann} {E:AN} {J:JT} {K:Exit->Option Nat->St->Prop} {k:Option Nat} {st:St} {S:Nat->Prop} {φ:Phi} {a:Act} {w:World}
theorem V.memA {E':AN}{m m':Option Phi}{x:VV}{v:Value}(h:V w E m x v)(d:x.memA=true)(f:∀ b,E'.fz b->E.fz b):V w E' m' x v:=by
 have c:∀ {x:VV} {v:Value},V w E m x v->x.mem=true->V w E' m' x v:=fun h d=>(V.mem (E':={ E with br:=E'.br }) (m':=m') h d rfl).less f fun _ h=>h
 cases x with
 | agg cs =>
  obtain⟨vs,rfl,h1,h2⟩:=h.agg_inv;refine .agg h1 fun j y e=>c (h2 j y e) ?_
  exact Aqa.1 d y (Aql e)
 | _=>exact c h d
theorem LV.apart (h:LV N E J k S st φ a w):∀ b,S b->¬ Own φ b:=fun b hs c=>h.rel.hp.free b c (.inr hs)
theorem Ams {w':World}{φ':Phi}(e:Ext w φ w' φ')(c:∀ b,Own φ' b->b<w'.heap.size):Chg w (Own φ) w' (Own φ'):=⟨e.os,e.tape,e.output,e.size,e.block,e.new,c⟩
theorem Aod {φ':Phi}(e:Fr 0 w φ w φ')(c:∀ b,Own φ' b->b<w.heap.size):Chg w (Own φ) w (Own φ'):=⟨rfl,rfl,rfl,ApC _,fun _ _ _=>rfl,e.new,c⟩
theorem LV.ext (d:Iu J)(h:LV N E J k S st φ a w){b:St}{φ':Phi}{c:Act}{w':World}(r:Rel N (E.add S) b φ' c w')(e:Ext w φ w' φ'):LV N E J k S b φ' c w' :=
 ⟨r,d _ _ _ _ _ _ h.j h.apart (Ams e fun _ f=>r.hp.lt f),h.ls,h.sub⟩
theorem LV.forget (b:Iu J)(h:LV N E J k S st φ a w){keep:List Nat}(c:okF 0 keep st=true):∃ φ',LV N E J k S (forget 0 keep st) φ' a w :=
 let ⟨φ',r,f⟩:=h.rel.forget c
 ⟨φ',r,b _ _ _ _ _ _ h.j h.apart (Aod f fun _ d=>r.hp.lt d),h.ls,h.sub⟩
theorem LV.cv (c:Iu J)(h:LV N E J k S st φ a w){b:St}(d:Cv st b):∃ φ',LV N E J k S b φ' a w :=
 let ⟨φ',r,e⟩:=d _ _ _ _ _ h.rel
 ⟨φ',h.ext c r e⟩
theorem Ac8 (g:Iu J)(i:TOk P T)(d:P.follows .mixedOrders=true){c:Code}(hB:Kq N c=true)(keep:List Nat){p:List Nat}(h:xc P T Sh N (rgL 0) p c (fun e b=>bif okF 0 keep b then K e k (Go.Proofs.YtnhamlpcpngafaaGreatDoor.forget 0 keep b) else False) st):Ee P N E J c K k st :=
 ⟨fun S φ a w hi=>by
  refine wpIn_mono (Po (ro:=none) (L:=rgL 0) i d (fun _=>rfl) c hB _ _ _ h _ _ _ _ hi.rel) ?_;rintro e j w' ⟨b,φ',h1,h2,h3⟩;have h4:=hi.ext g h2 h3;cases f:okF 0 keep b with
  | false=>rw[f]at h1;exact h1.elim
  | true =>
   rw[f]at h1;obtain⟨φ'',h5⟩:=h4.forget g f;exact⟨k,_,S,φ'',h1,h5⟩⟩
theorem Ny {x y:Code}(h:Ee P N E J x (Afc K fun k st=>Ee P N E J y K k st) k st):Ee P N E J (.seq x y) K k st :=
 ⟨fun S φ a w hi=>by
  refine wpIn_seq (wpIn_mono (h.h S φ a w hi) ?_);rintro e c w' ⟨k',b,S',φ',h1,h2⟩;cases e with
  | normal=>exact h1.h _ _ _ _ h2
  | _=>exact⟨k',b,S',φ',h1,h2⟩⟩
theorem Jo {id:Nat}{c:Code}(h:Ee P N E J c (AkK id K) k st):Ee P N E J (.block id c) K k st :=
 ⟨fun S φ a w hi=>by
  refine wpIn_block (wpIn_mono (h.h S φ a w hi) ?_);rintro e f w' ⟨k',b,S',φ',h1,h2⟩;cases e with
  | exit j =>
   simp only[Exit.inBlock];simp only[AkK]at h1
   by_cases d:j=id
   ·rw[Aqc d]at h1 ⊢;exact⟨k',b,S',φ',h1,h2⟩
   ·rw[ApT d]at h1 ⊢;exact⟨k',b,S',φ',h1,h2⟩
  | _=>exact⟨k',b,S',φ',h1,h2⟩⟩
theorem Afh {t:Nat}{x y:Code}{b:Bool}(c:st.t t=.sc (.bool b))(h1:b=true->Ee P N E J x K k st)(h2:b=false->Ee P N E J y K k st):Ee P N E J (.cond (.tmp t) x y) K k st :=
 ⟨fun S φ a w hi=>by
  have hv:=hi.rel.tm t;rw[c]at hv;refine wpIn_cond (t:=b) hv.sc_inv ?_;cases b with
  | true=>exact(h1 rfl).h _ _ _ _ hi
  | false=>exact(h2 rfl).h _ _ _ _ hi⟩
theorem Afg (h:K .normal k st):Ee P N E J .skip K k st:=⟨fun S φ _ _ hi=>wpIn_skip ⟨k,st,S,φ,h,hi⟩⟩
theorem AiU (h:K .ret k st):Ee P N E J .ret K k st:=⟨fun S φ _ _ hi=>wpIn_ret ⟨k,st,S,φ,h,hi⟩⟩
theorem Ee.cv (e:Iu J){c:Code}{b:St}(f:Cv st b)(h:Ee P N E J c K k b):Ee P N E J c K k st :=
 ⟨fun S _ a w hi=>let ⟨φ',d⟩:=hi.cv e f;h.h S φ' a w d⟩
theorem Wp {c:Code}{Q:Exit->Act->World->Prop}(I:Nat->Act->World->Prop)(h0:∃ g,I g a w)
  (round:∀ g a w,I g a w->c.wpIn Fence.wide 0 P (Exit.then (fun d w'=>∃ b,b<g/\I b d w') Q) a w):(Code.loop c).wpIn Fence.wide 0 P Q a w :=
 wpIn_wide.2 (LW I h0 fun g a w h=>wpIn_wide.1 (round g a w h))
theorem Tx (m:Iu J){c:Code}(I:Nat->Option Nat->St->Prop)(h0:∃ g,Up (I g k) st)
  (round:∀ g k st,I g k st->Ee P N E J c (Afc K fun k' b=>∃ d,d<g/\Up (I d k') b) k st):Ee P N E J (.loop c) K k st :=
 ⟨fun S φ a w hi=>by
  obtain⟨n,st0,f,i⟩:=h0;obtain⟨φ0,j⟩:=hi.cv m f;refine Wp (fun g a w=>∃ k st S φ,I g k st/\LV N E J k S st φ a w) ⟨n,k,st0,S,φ0,i,j⟩ ?_;rintro g a w ⟨k,st,S,φ,h1,h2⟩;refine wpIn_mono ((round g k st h1).h S φ a w h2) ?_;rintro e p w' ⟨k',b,S',φ',h3,h4⟩;cases e with
  | normal =>
   obtain⟨d,l,st1,o,h5⟩:=h3;obtain⟨φ1,h6⟩:=h4.cv m o;exact⟨d,l,k',st1,S',φ1,h5,h6⟩
  | _=>exact⟨k',b,S',φ',h3,h4⟩⟩
def AoT (K:Act->World->Prop):Exit->Act->World->Prop:=fun e a w=>e=.normal/\K a w
theorem AjK {K:Act->World->Prop}:¬ LetsOut (AoT K):=fun⟨_,_,h,_⟩=>by cases h
theorem AgI {t d:Nat}{x:VV}{l:List (Nat × VV)}:B9 t ((d,x)::l)=bif Nat.beq t d then x else B9 t l:=rfl
theorem Aaj (hJ:Iu J)(hT:TOk P T){id kk tf d i n:Nat}{ops:Array Oper}{oc:Oper}{I M:Operand}{tys:Array TypeId}{l:Nat}{xs:Nat->List VV}
  (hY:∀ k S T z vs,k<n->J (some k) S T z->(∀ b,S b->¬ T b)->Gd E (U S T) z->Dh z (E.add (U S T)) none (xs k) vs->YieldAt Fence.wide 0 P l vs z fun e w2 =>
   (e=.returned (.bool true)/\∃ S',J (some (k+1)) S' T w2/\Chg z S w2 S')∨(e=.returned (.bool false)/\∃ S',J none S' T w2/\Chg z S w2 S'))
  (R:(NH (Dl ops kk) N&&KG (Dl ops kk))=true) (hng:Qu (Dl ops kk)=true) (W:(NH (CX ops (kk+1)) N&&KG (CX ops (kk+1)))=true) (H:∀ (i:Nat) o d,ops[i]?=some o->o.dst=some d->d<N)
  (X:ops[kk]?=some oc) (hop:oc.op=.call { callee:=.value (.tmp tf),args:=#[I,M],argTypes:=tys }) (hgd:oc.guard=none) (hd:oc.dst=some d) (hi:i<n) (keep keep2:List Nat)
  (h:xc P T Sh N (rgL 0) [] (.region id (Dl ops kk) false) (fun _ st1=>bif okF 0 keep st1 then(∃ l1 m,Go.Proofs.YtnhamlpcpngafaaGreatDoor.forget 0 keep st1=Ay l1 m/\B9 tf l1=.fn (.yield l) []/\xs i=[(Ay l1 m).val I,(Ay l1 m).val M]/\(xs i).all VV.memA=true /\
   ∀ b,xc P T Sh N (rgL 0) [] (.region id (CX ops (kk+1)) false) (fun _ st3=>bif okF 0 keep2 st3 then K .normal (bif b then some (i+1) else none) (Go.Proofs.YtnhamlpcpngafaaGreatDoor.forget 0 keep2 st3) else False) (Ay ((d,.sc (.bool b))::l1) m)) else False) st) :
  Ee P N E J (.region id ops false) K (some i) st :=
 ⟨fun S φ a w s=>by
  have Z:∀ {st3:St} {S':Nat->Prop} {φ2 φ3:Phi} {a2 a3:Act} {w2 w3:World} {st2:St} {k':Option Nat},LV N E J k' S' st2 φ2 a2 w2->(bif okF 0 keep2 st3 then K .normal k' (Go.Proofs.YtnhamlpcpngafaaGreatDoor.forget 0 keep2 st3) else False)->Rel N (E.add S') st3 φ3 a3 w3->Ext w2 φ2 w3 φ3->AdW N E J K .normal a3 w3:=by
   intro st3 S' φ2 φ3 a2 a3 w2 w3 st2 k' h0 h1 r e;have h2:=h0.ext hJ r e;cases O:okF 0 keep2 st3 with
   | false=>rw[O]at h1;exact h1.elim
   | true =>
    rw[O]at h1;obtain⟨φ',h5⟩:=h2.forget hJ O;exact⟨k',_,S',φ',h1,h5⟩
  refine wpIn_mono (Uz (Q:=AoT (AdW N E J K .normal)) (Y:=fun st1=>bif okF 0 keep st1 then(∃ l1 m,Go.Proofs.YtnhamlpcpngafaaGreatDoor.forget 0 keep st1=Ay l1 m/\B9 tf l1=.fn (.yield l) []/\xs i=[(Ay l1 m).val I,(Ay l1 m).val M]/\(xs i).all VV.memA=true /\
   ∀ b,xc P T Sh N (rgL 0) [] (.region id (CX ops (kk+1)) false) (fun _ st3=>bif okF 0 keep2 st3 then K .normal (bif b then some (i+1) else none) (Go.Proofs.YtnhamlpcpngafaaGreatDoor.forget 0 keep2 st3) else False) (Ay ((d,.sc (.bool b))::l1) m)) else False) hT AjK R hng W H X hop hgd hd h s.rel ?_) ?_
  ·intro st1 φ1 C z hy1 hr1 he1;have h1:=s.ext hJ hr1 he1;cases O:okF 0 keep st1 with
   | false=>grind
   | true =>
    rw[O,Apy]at hy1;obtain⟨l1,m,e1,e2,e3,e4,hx2⟩:=hy1;obtain⟨φf,F⟩:=h1.forget hJ O;rw[e1]at F;have p:=F.rel;have hop':∀ x:Operand,V z ((E.add S).up φf) (some φf) ((Ay l1 m).val x) (C.eval x):=fun x=>by
     cases x with
     | tmp t=>exact p.tm t
     | const v=>exact V.litC v
     | global g=>exact .dead
     | func f=>exact .fn rfl fun j x hx=>by simp at hx
    have hm:∀ x:Operand,((Ay l1 m).val x).memA=true->V z (E.add (U S (Own φf))) none ((Ay l1 m).val x) (C.eval x):=fun x hx=>V.memA (hop' x) hx fun b q=>by
     rcases q with q | q | q
     ·exact .inl (.inl q)
     ·exact .inl (.inr q)
     ·exact .inr q
    rw[e3]at e4;simp only[Ark,List.all_nil,Bool.and_true,Apv]at e4;have hfy:C.tmps.getD tf undef=.func (.yield l) #[] #[]:=by
     have hv:=p.tm tf;rw[show(Ay l1 m).t tf=.fn (.yield l) [] from e2]at hv;generalize C.tmps.getD tf undef=v at hv ⊢;cases hv with
     | fn q1 q2 =>
      grind
    have hgd1:Gd E (U S (Own φf)) z:=⟨s.sub,fun b q=>p.old.lt b (.inl q),fun b q=>q.elim (fun h=>p.old.lt b (.inr h)) fun h=>p.hp.lt h,p.old.lib.at',p.old.lib.lt,fun b q h=>h.elim (s.ls b q) (p.old.lib.out b q)⟩;have hsay:Dh z (E.add (U S (Own φf))) none (xs i) #[C.eval I,C.eval M]:=by
     rw[e3];refine⟨rfl,fun j y G=>?_⟩
     match j,G with
     | 0,G=>simp only[ApG,Apx]at G;subst G;exact hm I e4.1
     | 1,G=>simp only[Aqf,ApG,Apx]at G;subst G;exact hm M e4.2
     | j+2,G=>simp at G
    refine⟨l,_,hfy,hY i S (Own φf) z #[C.eval I,C.eval M] hi F.j F.apart hgd1 hsay,fun e w2 he=>?_⟩
    ·obtain⟨b,S',rfl,hj2,u⟩:∃ b S',e=.returned (.bool b)/\J (bif b then some (i+1) else none) S' (Own φf) w2/\Chg z S w2 S':=by grind
     have key:∀ (A:Nat->Prop) b,b<z.heap.size->¬ (A b∨S b)->w2.heap[b]?=z.heap[b]?/\¬ (A b∨S' b):=fun A b q hn=>⟨u.block b q fun h=>hn (.inr h),fun h=>by
      rcases h with h | h
      ·exact hn (.inl h)
      ·rcases u.new b h with h | h
       ·exact hn (.inr h)
       ·omega⟩
     have B:=p.over (E:=E.add S') (w':=w2) (fun b q=>q.imp (s.sub b) fun h=>h) u.size (key _) (key _) (fun b q=>q.elim (fun h=>ApR (p.old.lt b (.inl h)) u.size) fun h=>u.lt b h) (.nil (Ap0 p.df.2.1 u.size)) fun b q=>u.block b (p.old.lib.lt b q) (s.ls b q)
     have hdl:d<C.tmps.size:=by rw[p.sz];exact H kk oc d X hd
     have hr3:Rel N (E.add S') (Ay ((d,.sc (.bool b))::l1) m) φf (C.put (some d) (.bool b)) w2:=by
      refine⟨by simpa[Act.put] using p.sz,⟨p.df.1,B.df.2⟩,B.old,fun t=>?_,B.hp,B.fr,B.lv⟩;show V w2 _ _ (B9 t ((d,.sc (.bool b))::l1)) _;rw[NM C _ _ t (by grind),AgI]
      by_cases ht:t=d
      ·subst ht;rw[AqX,Apy,Aqc rfl];exact .sc
      ·have q:Nat.beq t d=false:=by grind [ApA]
       rw[q,Apw,ApT fun h=>ht (ApU h).symm];exact B.tm t
     have h3:LV N E J (bif b then some (i+1) else none) S' (Ay ((d,.sc (.bool b))::l1) m) φf (C.put (some d) (.bool b)) w2:=⟨hr3,hj2,fun c hc h=>(u.new c h).elim (s.ls c hc) fun h=>by have:=p.old.lib.lt c hc;omega,s.sub⟩;exact⟨.bool b,E.add S',_,φf,fun st3=>bif okF 0 keep2 st3 then K .normal (bif b then some (i+1) else none) (Go.Proofs.YtnhamlpcpngafaaGreatDoor.forget 0 keep2 st3) else False,rfl,hr3,hx2 b,fun st3 φ3 a3 w3 hst3 r e=>⟨rfl,Z h3 hst3 r e⟩⟩
  ·rintro e a' w' ⟨rfl,h⟩;exact h⟩
theorem Al0 {gf:FuncId}{fn:Func}{c:Code}(G:P.funcs[gf]?=some fn)(g:fn.body=some c)(q:fn.results=#[]){hi:List Ob}{caps:List VV}{n:Nat}{xs:Nat->List VV}(Y:caps.length+1<=fn.ntmps)
  (h:∀ (l:Nat) (E:AN) (J:JT),Iu J->(∀ k S T i vs,k<n->J (some k) S T i->(∀ b,S b->¬ T b)->Gd E (U S T) i->Dh i (E.add (U S T)) none (xs k) vs->YieldAt Fence.wide 0 P l vs i fun e w2 =>
    (e=.returned (.bool true)/\∃ S',J (some (k+1)) S' T w2/\Chg i S w2 S')∨(e=.returned (.bool false)/\∃ S',J none S' T w2/\Chg i S w2 S')) ->
   Ee P fn.ntmps E J c (fun e k _=>(e=.normal∨e=.ret)/\(k=some n∨k=none)) (some 0) (St.init hi (.fn (.yield l) []::caps))):Ph P gf hi caps n xs:=by
 intro E S φ w lb l gd A H hφ f J R h0 y r I;obtain⟨JJ,m⟩:∃ JJ:JT,JJ=fun k=>match k with
  | some k=>J k
  | none=>R:=⟨_,rfl⟩
 have hs:Iu JJ:=by
  subst m;intro k S T T' i w2;cases k with
  | none=>exact r S T T' i w2
  | some k=>exact y k S T T' i w2
 refine callsIn_of_wp G g trivial (wpIn_mono ((h l E JJ hs (by subst m;exact I)).h S φ _ w ⟨?_,by subst m;exact h0,fun b g M=>gd.out b g (.inl M),gd.sub⟩) ?_) rfl
 ·have O:(#[Value.func (Fn.yield l) #[] #[]]++lb).size=(VV.fn (.yield l) []::caps).length:=by simp[f.1];omega
  refine⟨?_,⟨rfl,.nil (ApD _)⟩,⟨fun k s=>s.elim (gd.ez k) fun h=>gd.sz k (.inl h),gd.lib,gd.lt,fun k s h=>gd.out k s (.inr h)⟩,fun t=>?_,H,fun id p=>?_,fun id p=>(hφ id).2 p⟩
  ·grind
  ·show V w _ _ ((VV.fn (.yield l) []::caps).getD t .dead) _;cases t with
   | zero =>
    have e:(#[Value.func (Fn.yield l) #[] #[]]++lb++Array.replicate (fn.ntmps - (#[Value.func (Fn.yield l) #[] #[]]++lb).size) undef).getD 0 undef=.func (.yield l) #[] #[]:=by simp[Array.getElem?_append]
    rw[e];exact .fn rfl fun j x Q=>by simp at Q
   | succ t =>
    rw[List.getD_cons_succ];cases z:caps[t]? with
    | none=>rw[ApQ,z];exact .dead
    | some x =>
     have Z:t<lb.size:=by grind
     rw[ApQ,z];have:=f.2 t x z;simp_all [Array.getElem?_append]
  ·have B:hi.length<=id:=p;grind
 ·rintro e W w' ⟨k,st,S',φ',⟨X,s⟩,d⟩;have u:Gd E (U S' (Own φ')) w':=⟨d.sub,fun b g=>d.rel.old.lt b (.inl g),fun b g=>g.elim (fun h=>d.rel.old.lt b (.inr h)) fun h=>d.rel.hp.lt h,d.rel.old.lib.at',d.rel.old.lib.lt,fun b g h=>h.elim (d.ls b g) (d.rel.old.lib.out b g)⟩;have o:(∃ v:Value,Ending.returned (.tuple #[])=.returned v)/\((∃ S' T',J n S' T' w'/\(∀ b,S' b->¬ T' b)/\Gd E (U S' T') w')∨∃ S' T',R S' T' w'):=by
   refine⟨⟨_,rfl⟩,?_⟩;have C:=d.j;subst m;rcases s with rfl | rfl
   ·exact .inl ⟨S',_,C,d.apart,u⟩
   ·exact .inr ⟨S',_,C⟩
  have F:(results fn W.tmps).run P w'=.ok (.tuple #[]) w':=by
   simp[results,q]
  rcases X with rfl | rfl
  ·exact⟨d.rel.df.1,_,F,o⟩
  ·exact⟨d.rel.df.1,_,F,o⟩
end
def hdC : Nat->Code->Code
 | 0,.seq x _=>x
 | n+1,.seq x y=>.seq x (hdC n y)
 | _,c=>c
def tlC : Nat->Code->Code
 | 0,.seq _ y=>y
 | n+1,.seq _ y=>tlC n y
 | _,_=>.skip
def AnX : Nat->Code->Bool
 | 0,.seq _ _=>true
 | n+1,.seq _ y=>AnX n y
 | _,_=>false
def AoQ (k:Nat):Code->Code
 | .region id ops _=>.region id (Dl ops k) false
 | _=>.skip
def Aov (k:Nat):Code->Code
 | .region id ops _=>.region id (CX ops (k+1)) false
 | _=>.skip
def kfI (keep:List Nat)(K:Exit->St->Prop):Exit->St->Prop:=fun e st=>bif okF 0 keep st then K e (forget 0 keep st) else False
def Ctx.piece (c:Ctx)(code:Code)(keep:List Nat)(K:Exit->St->Prop):Ctx:={ c with L:=rgL 0,code:=code,p0:=[],K0:=kfI keep K }
section
variable {c : Ctx} {E:AN} {J:JT} {K:Exit->Option Nat->St->Prop} {k:Option Nat} {st:St}
theorem Rr {P:Program}{T:TypeId->TE}{Sh:Shs}{N:Nat}(f:Iu J)(g:TOk P T)(d:P.follows .mixedOrders=true)(keep:List Nat):∀ (n:Nat) {code:Code} {p:List Nat} {st:St},AnX n code=true->Kq N (hdC n code)=true->xc P T Sh N (rgL 0) p (hdC n code) (kfI keep fun e b=>Afc K (fun k st=>Ee P N E J (tlC n code) K k st) e k b) st->Ee P N E J code K k st
 | 0,.seq x y,p,st,_,hB,h=>Ny (Ac8 (p:=p) f g d hB keep h)
 | n+1,.seq x y,p,st,hl,hB,h=>by
  simp only[hdC,Kq,Apv]at hB;simp only[hdC,xc]at h;refine⟨fun S φ a w hi=>wpIn_seq (wpIn_mono (Po (ro:=none) (L:=rgL 0) g d (fun _=>rfl) x hB.1 _ _ _ h _ _ _ _ hi.rel) ?_)⟩;rintro e l w' ⟨b,φ',h1,h2,h3⟩;have h4:=hi.ext f h2 h3;have m:∀ e,e≠.normal->kfI keep (fun e b=>Afc K (fun k st=>Ee P N E J (tlC n y) K k st) e k b) e b->AdW N E J K e l w':=by
   intro e o h5;unfold kfI at h5;cases i:okF 0 keep b with
   | false=>rw[i]at h5;exact h5.elim
   | true =>
    rw[i]at h5;obtain⟨φ'',h6⟩:=h4.forget f i;refine⟨k,_,S,φ'',?_,h6⟩;cases e with
    | normal=>exact(o rfl).elim
    | _=>exact h5
  cases e with
  | normal =>
   have j:xc P T Sh N (rgL 0) (1::p) (hdC n y) (kfI keep fun e b=>Afc K (fun k st=>Ee P N E J (tlC n y) K k st) e k b) b:=h1;exact(Rr f g d keep n hl hB.2 j).h S φ' l w' h4
  | _=>exact m _ (by simp) h1
theorem IQ (d:Iu J)(f:TOk c.P c.T)(a:c.P.follows .mixedOrders=true)(keep:List Nat)(n:Nat){code:Code}(g:AnX n code=true)(hB:Kq c.N (hdC n code)=true)(h:(c.piece (hdC n code) keep fun e b=>Afc K (fun k st=>Ee c.P c.N E J (tlC n code) K k st) e k b).goal st):Ee c.P c.N E J code K k st :=
 Rr d f a keep n g hB h
theorem Rq (d:Iu J)(f:TOk c.P c.T)(a:c.P.follows .mixedOrders=true){code:Code}(hB:Kq c.N code=true)(keep:List Nat)(h:(c.piece code keep fun e b=>K e k b).goal st):Ee c.P c.N E J code K k st:=Ac8 d f a hB keep h
end
def AoE : Shp:={ α:=D.Loc × Bool,enc:=fun y=>([],.tup [.agg (A8 y.1),Ac y.2]) }
def AoD : Shp:={ α:=Nx,enc:=fun y=>([],.agg (DQ y)) }
def Anl : Shp:={ α:=List Nx × Int,enc:=fun y=>([],.tup [CM true y.1,Aa y.2]) }
def Ano : Shp:={ α:=List Gn,enc:=fun y=>([],BU true y) }
def AoF : Shp:={ α:=D.Model × D.State,enc:=fun y=>([.box (Af y.1),.box (Ah y.2)],.fn (.func 29) [.bp 0 0,.bp 1 0]) }
def Da (f:FuncId):Shp :=
 bif Nat.beq f 25 then AoE else bif Nat.beq f 14 then AoF else  bif Nat.beq f 33||Nat.beq f 32 then AmM else bif Nat.beq f 15 then AoD else bif Nat.beq f 45||Nat.beq f 31 then Ano else bif Nat.beq f 6 then Anl else    bif Nat.beq f 49 then AmJ else    Afa f
def Oh : Ann:={ keep:=fun
  | [0,1,1,1]=>[2,3,4,6,9,10]
  | [0,1,0,1,1,1,1,1,1,0,0,0,0,1,1,1]=>[2,3,4,6,9,10,13,16,52,53,54]
  | _=>[] }
def KM : Ann:={ keep:=fun
  | [0,1,0,1,1,1,1,1,1]=>[2,4,5,6,7,60,61,62]
  | _=>[] }
def SE : Ann:={ keep:=fun
  | [0,1,0,1,1]=>[1,3,11,12]
  | _=>[] }
def KP : Ann:={ keep:=fun
  | [0,1,0,1,1,1]=>[1,3,4,12,13,14]
  | [0,1,0,1,1,1,1,1]=>[1,4,7,39,40,41]
  | _=>[] }
def yV (l:Nat):VV:=.fn (.yield l) []
def Rj (l:Nat)(L:List Gn)(i:Int):St:=Ay [(0,yV l),(30,BU true L),(31,Aa L.length),(32,Aa i)] []
def W7 (l:Nat)(L:List Gn)(i:Int)(g:Gn)(j:Int):St:=Ay [(0,yV l),(30,BU true L),(31,Aa L.length),(32,Aa i),(8,.bp 0 0),(37,AW true g.2),(38,Aa g.2.length),(39,Aa j)] [.box (E9 g)]
def Aox (l:Nat)(L:List Gn)(i:Int)(g:Gn)(j:Int)(w:Wy):St:=Ay [(0,yV l),(30,BU true L),(31,Aa L.length),(32,Aa i),(8,.bp 0 0),(37,AW true g.2),(38,Aa g.2.length),(39,Aa j),(10,.bp 1 0)] [.box (E9 g),.box (AY w)]
def lEy (l:Nat)(L:List Gn)(i:Int)(g:Gn)(j:Int)(w:Wy):List (Nat × VV):=[(0,yV l),(30,BU true L),(31,Aa L.length),(32,Aa i),(8,.bp 0 0),(37,AW true g.2),(38,Aa g.2.length),(39,Aa j),(43,yV l),(45,.agg (Ae g.1)),(46,.agg (AY w))]
def AkI : Ob:=.box [.nl,.nl,.nl,Aa 0,Aa 0,Aa 0]
def AeX (m:D.Model)(s:D.State)(pid:Int)(t:ByteArray)(n:Int):St:=Ay [(2,Aa pid),(3,.bp 0 0),(4,.bp 1 0),(6,.bp 2 0),(9,Bm t),(10,Aa n)] [.box (Af m),.box (Ah s),AkI]
def AcX (m:D.Model)(s:D.State)(pid:Int)(t:ByteArray)(n:Int)(e:D.Env)(ws:List Wy)(i:Int):St:=Ay [(2,Aa pid),(3,.bp 0 0),(4,.bp 1 0),(6,.bp 2 0),(9,Bm t),(10,Aa n),(13,.bp 3 0),(16,Ac false),(52,AW true ws),(53,Aa ws.length),(54,Aa i)] [.box (Af m),.box (Ah s),AkI,.box (Ae e)]
def Ao0 (e:D.Env)(w:Wy):List VV:=[Aa e.Pid,Aa w.Esc,Aa w.Way,Aa w.With,Aa w.WithEsc,Aa w.WithWay,Aa (-1),.nl,.nl,.nl,Aa 0,Aa 0,Aa 0,Aa 0,Bm ByteArray.empty]
def AoZ : List VV:=[Aa 0,Aa 0,Aa 0,Aa 0,Aa 0,Aa 0,Aa 0,.nl,.nl,.nl,Aa 0,Aa 0,Aa 0,Aa 0,Bm ByteArray.empty]
def Ox (e:D.Env)(w:Wy)(s:D.State)(t:ByteArray)(i:Int):St:=Ay [(2,.bp 0 0),(4,.bp 1 0),(5,.bp 2 0),(6,.bp 3 0),(7,Bm t),(60,.ow 4 0 2),(61,Aa 2),(62,Aa i)] [.box (Ae e),.box AoZ,.box (Ao0 e w),.box (Ah s),.arr true 0 2 1 (AJ [e.Pid,w.With])]
def W8 (e:D.Env)(l:List Gn)(i:Int):St:=Ay [(1,.bp 0 0),(3,.ow 1 0 l.length),(11,Aa e.S.Procs.length),(12,Aa i)] [.box (Ae e),.arr true 0 l.length 17 (Jr l)]
def AcZ (e:D.Env)(L:List Gn)(most i:Int):St:=Ay [(1,.bp 0 0),(3,BU true L),(4,Aa most),(12,BU true L),(13,Aa L.length),(14,Aa i)] [.box (Ae e)]
def W6 (e:D.Env)(L out:List Gn)(most i:Int):St:=Ay [(1,.bp 0 0),(4,Aa most),(7,.ow 1 0 out.length),(39,BU true L),(40,Aa L.length),(41,Aa i)] [.box (Ae e),.arr true 0 out.length 17 (Jr out)]
def FN : Ann:={ cut:=(fun | [1,0,1,1,1]=>true | _=>false),keep:=fun
  | [1,0,1,1,1]=>[7,18]
  | _=>[] }
def Anp : Shp:={ α:=D.Env,enc:=fun y=>([],.agg (Ae y)) }
def AoH : Shp:={ α:=List Bool,enc:=fun y=>([],A6 true y) }
def Apm : Shp:={ α:=D.Model,enc:=fun y=>([],.agg (Af y)) }
def Apl : Shp:={ α:=D.Expr,enc:=fun y=>([],.agg (Az y)) }
def A5 (f:FuncId):Shp :=
 bif Nat.beq f 179||Nat.beq f 105||Nat.beq f 61||Nat.beq f 180||Nat.beq f 181||Nat.beq f 4||Nat.beq f 9 then Alo
 else bif Nat.beq f 141||Nat.beq f 99||Nat.beq f 100||Nat.beq f 102||Nat.beq f 65||Nat.beq f 58||Nat.beq f 98||Nat.beq f 5 then Aae
 else bif Nat.beq f 60||Nat.beq f 55||Nat.beq f 101||Nat.beq f 57||Nat.beq f 59||Nat.beq f 56||Nat.beq f 34||Nat.beq f 63 then Ac6
 else bif Nat.beq f 54 then Ro
 else bif Nat.beq f 64||Nat.beq f 142||Nat.beq f 103 then AmL
 else bif Nat.beq f 19 then AiF
 else bif Nat.beq f 18||Nat.beq f 11 then AmN
 else bif Nat.beq f 143||Nat.beq f 104 then AmK
 else bif Nat.beq f 62||Nat.beq f 35 then AmO
 else bif Nat.beq f 20 then AiH
 else bif Nat.beq f 17 then AmI
 else bif Nat.beq f 144 then Anp
 else bif Nat.beq f 8 then AiB
 else bif Nat.beq f 7 then AoH
 else bif Nat.beq f 21 then AiC
 else bif Nat.beq f 16 then Xc
 else bif Nat.beq f 10 then Apm
 else bif Nat.beq f 23||Nat.beq f 24 then Apl
 else Da f
def H8 : Ann:={ keep:=fun
  | [0,0,1]=>[0,1]
  | [0,0,1,1]=>[0,1]
  | _=>[] }
def MT : Ann:={ keep:=fun
  | [0,1,0,1,1]=>[0,1,2,7]
  | _=>[] }
def Pc : Ann:={ keep:=fun
  | [0,1,0,1]=>[1,2,3,4,9]
  | _=>[] }
def Hj : Ann:={ keep:=fun
  | [0,1,0,1,1,1,1,1,1,1]=>[2,7,9,12,13]
  | _=>[] }
def MQ : Ann:={ keep:=fun
  | [0,1,0,1,1]=>[1,2,3,8,9]
  | _=>[] }
def Pb : Ann:={ keep:=fun
  | [0,1,0,1,1,1,1,1,1,1,1]=>[3,8,9,10]
  | _=>[] }
def Bi : Ann:={ cut:=(fun | [1,1,1,1,1,0,1,0,1,1]=>true | [1,1,1,1,1,1,1,0,1,0,1,1]=>true | [1,1,1,1,1,1,1,1,1,0,1,0,1,1]=>true | [1,1,1,1,1,1,1,1,1,1,1,1,1,1,1,1,1,1,1,1,1,0,1,0,1,1]=>true | [1,1,1]=>true | _=>false),keep:=fun
  | [0,1,0,0,1,1,1,1,1,1,1,1,1,1,1,1,1,1,1,1,1,0,1,0,1,1]=>[2,14]
  | [1,1,1,1,1,0,1,0,1,1]=>[2,6,28,63]
  | [1,1,1,1,1,1,1,0,1,0,1,1]=>[2,6,28,86]
  | [1,1,1,1,1,1,1,1,1,0,1,0,1,1]=>[2,6,28,95]
  | [1,1,1,1,1,1,1,1,1,1,1,1,1,1,1,1,1,1,1,1,1,0,1,0,1,1]=>[2,6,28,156]
  | [1,1,1]=>[2,6]
  | _=>[] }
def MR : Ann:={ keep:=fun
  | [0,1,0,1,1,1]=>[3,4,5]
  | _=>[] }
def SG : Ann:={ keep:=fun
  | [0,1,0,1,1]=>[1,2,6,7]
  | _=>[] }
def SF : Ann:={ keep:=fun
  | [0,1,0,1,1,1,1,1]=>[8,10,11,12]
  | _=>[] }
def I6 : Ann:={ keep:=fun
  | [0,1,0,1,1,1,1]=>[1,2,3,9,10]
  | [0,1,0,1,1,0,0,1,0,0,1,0,1,1,1,1]=>[1,2,3,9,10,11,12,13]
  | _=>[] }
def MS : Ann:={ keep:=fun
  | [0,1,0,1,1]=>[1,2,3,7,8]
  | _=>[] }
def Pa : Ann:={ keep:=fun
  | [0,1,0,1]=>[1,2,3,7]
  | _=>[] }
def I7 : Ann:={ keep:=fun
  | [0,1,0,1,1,1]=>[1,2,5,6,7]
  | [0,1,0,1,1,1,1]=>[1,5,6,9]
  | _=>[] }
def El : Ann:={ keep:=fun
  | [0,1,0,1,1,1,1,1,1]=>[1,3,5,6,7]
  | [0,1,1,0,0,1,0,0,1,0,1,1,1,1,1,1]=>[1,3,5,6,7,8,9]
  | [0,1,1,1,0,0,1,0,0,1,1,0,0,1,0,0,1,0,1,1,1,1,1,1]=>[1,3,5,6,7,8,9,10,11]
  | _=>[] }
def Pd : Ann:={ keep:=fun
  | [0,1,0,1,1]=>[2,3,5,6]
  | _=>[] }
def EF : Ann:={ keep:=fun
  | [0,1,0,1,1,1,1,1,1,1]=>[2,3,5,7,9,10,11]
  | [0,1,0,1,1,1,0,0,1,0,0,1,0,1,1,1,1,1,1,1]=>[2,3,5,7,9,10,11,13]
  | [0,1,0,1,1,1,1,1,1,1,1,1]=>[2,3,5,7,14]
  | _=>[] }
def Nm (a n:Int):St:=Ay [(0,Aa a),(1,Aa n)] []
def AcU (x l mt:List Int)(k:Int):St:=Ay [(0,Ad true x),(1,Ad true l),(2,Ad true mt),(7,Aa k)] []
def AcV (c:D.Chan)(l mt:List Int)(any:Bool)(k:Int):St:=Ay [(1,Ad true l),(2,Ad true mt),(3,Ac any),(4,.bp 0 0),(9,Aa k)] [.box (AM c)]
def LY (e:D.Env)(v:D.Var)(who at' k:Int):St:=Ay [(2,.bp 0 0),(7,.bp 1 0),(9,Aa who),(12,Aa at'),(13,Aa k)] [.box (Ae e),.box (Bz v)]
def Ail (e:D.Env)(args mt out:List Int)(k:Int):St:=Ay [(1,Ad true args),(2,Ad true mt),(3,.bp 0 0),(8,.ow 1 0 out.length),(9,Aa k)] [.box (Ae e),.arr true 0 out.length 1 (AJ out)]
def W0 (x:D.Expr)(at':Int)(some:Bool)(k:Int):St:=Ay [(3,.bp 0 0),(8,Aa at'),(9,Ac some),(10,Aa k)] [.box (Az x)]
def W5 (e:D.Env)(k:Int):St:=Ay [(2,.bp 0 0),(14,Aa k)] [.box (Ae e)]
def Aim (l:D.Loc)(out:List Int)(k:Int):St:=Ay [(3,.bp 0 0),(4,.ow 1 0 out.length),(5,Aa k)] [.box (A8 l),.arr true 0 out.length 1 (AJ out)]
def AcW (e:D.Env)(l out:List Int)(k:Int):St:=Ay [(1,Ad true l),(2,.bp 0 0),(6,.ow 1 0 out.length),(7,Aa k)] [.box (Ae e),.arr true 0 out.length 1 (AJ out)]
def Ain (f:List D.Type)(l out:List Int)(k:Int):St:=Ay [(8,Ad true l),(10,.ow 0 0 out.length),(11,AC true f),(12,Aa k)] [.arr true 0 out.length 1 (AJ out)]
def AcS (e:D.Env)(c:Int)(m l:List Int)(k:Int):St:=Ay [(1,Aa c),(2,Ad true m),(3,.bp 0 0),(9,Ad true l),(10,Aa k)] [.box (Ae e)]
def WZ (e:D.Env)(c:Int)(m l:List Int)(k:Int)(t:List D.Trans)(out:List Pn)(j:Int):St:=Ay [(1,Aa c),(2,Ad true m),(3,.bp 0 0),(9,Ad true l),(10,Aa k),(11,Ap true t),(12,.ow 1 0 out.length),(13,Aa j)] [.box (Ae e),.arr true 0 out.length 3 (Dj out)]
def AcT (e:D.Env)(c:Int)(m:List Int)(out:List Pn)(k:Int):St:=Ay [(1,Aa c),(2,Ad true m),(3,.bp 0 0),(7,.ow 1 0 out.length),(8,Aa k)] [.box (Ae e),.arr true 0 out.length 3 (Dj out)]
def WY (e:D.Env)(ws:List D.Trans)(self:Bool)(k:Int):St:=Ay [(1,Ap true ws),(2,Ac self),(3,.bp 0 0),(7,Aa k)] [.box (Ae e)]
def Aio (e:D.Env)(ws:List D.Trans)(out:List Ab)(any:Bool)(k:Int):St:=Ay [(1,Ap true ws),(2,.bp 0 0),(5,.ow 1 0 out.length),(6,Ac any),(7,Aa k)] [.box (Ae e),.arr true 0 out.length 3 (D9 out)]
def Tv (ws:List D.Trans)(out:List Ab)(any:Bool)(k:Int):St:=Ay [(1,Ap true ws),(5,.ow 0 0 out.length),(6,Ac any),(9,Aa k)] [.arr true 0 out.length 3 (D9 out)]
def Tu (e:D.Env)(op:Bool)(l:List Int)(out:List Wy)(k:Int):St:=Ay [(1,.bp 0 0),(3,Ac op),(5,Ad true l),(6,.ow 1 0 out.length),(7,Aa k)] [.box (Ae e),.arr true 0 out.length 6 (ER out)]
def Pt (e:D.Env)(op:Bool)(l:List Int)(out:List Wy)(k:Int)(c:List Ab)(j:Int):St:=Ay [(1,.bp 0 0),(3,Ac op),(5,Ad true l),(6,.ow 1 0 out.length),(7,Aa k),(8,Bo true c),(9,Aa j)] [.box (Ae e),.arr true 0 out.length 6 (ER out)]
def WX (e:D.Env)(op:Bool)(l:List Int)(out:List Wy)(k:Int)(c:List Ab)(j:Int)(w:Wy)(h:Int):St:=Ay [(1,.bp 0 0),(3,Ac op),(5,Ad true l),(6,.ow 1 0 out.length),(7,Aa k),(8,Bo true c),(9,Aa j),(10,.bp 2 0),(11,Aa h)] [.box (Ae e),.arr true 0 out.length 6 (ER out),.box (AY w)]
def Aip (m:D.Model)(s:D.State)(out:List Bool)(k:Int):St:=Ay [(2,.bp 0 0),(3,.bp 1 0),(5,.ow 2 0 out.length),(6,Aa k)] [.box (Af m),.box (Ah s),.arr true 0 out.length 1 (Ex out)]
def Ri (m:D.Model)(s:D.State)(up:Bool)(l:List Nx)(able:List Bool)(some:Bool)(k:Int):St:=Ay [(2,.bp 0 0),(3,.bp 1 0),(5,Ac up),(7,CM true l),(9,A6 true able),(10,Ac some),(11,Aa k)] [.box (Af m),.box (Ah s)]
def W4 (m:D.Model)(s:D.State)(up:Bool)(l:List Nx)(able:List Bool)(some:Bool)(k j:Int):St:=Ay [(2,.bp 0 0),(3,.bp 1 0),(5,Ac up),(7,CM true l),(9,A6 true able),(10,Ac some),(11,Aa k),(13,Aa j)] [.box (Af m),.box (Ah s)]
def Pu (m:D.Model)(s:D.State)(up:Bool)(l:List Nx)(k:Int):St:=Ay [(2,.bp 0 0),(3,.bp 1 0),(5,Ac up),(7,CM true l),(14,Aa k)] [.box (Af m),.box (Ah s)]
def Jl (e:D.Env)(x:D.Expr)(i:Nat)(b:Bool):St:=Ay [(2,.bp 0 0),(6,.bp 1 0),(28,Aa x.Op),(i,Ac b)] [.box (Ae e),.box (Az x)]
def Aow (e:D.Env)(x:D.Expr):St:=Ay [(2,.bp 0 0),(6,.bp 1 0)] [.box (Ae e),.box (Az x)]
set_option maxRecDepth 100000
theorem Aa6 (b:Bool)(t:D.Type):(fc A5 AQ Tryz.f179 [] (Ac b)).goal (St.init [] [.agg (BM t)]) =
  (LQ (Ac (bif decide (t.Bits>=1) then decide (t.Bits<=32) else false)) (Ac b)):=by kernel_rfl
theorem Ajm (r:Int)(t:D.Type)(v:Int){b}(d:b=((1:Int)*(2:Int) ^ min (IntKind.u64.wrap t.Bits).toNat IntKind.i64.bits)){a}(e:a=IntKind.i64.wrap b){c}(f:c=(v.tmod a+IntKind.i64.wrap b)){g}(h:g=((true&&t.Signed==true)=true->(2:Int)≠(0:Int))):(fc A5 AQ Tryz.f141 [] (Aa r)).goal (St.init [] [.agg (BM t),Aa v]) =
  (∃ (y:Bool),VC 179 [.agg (BM t)] (Ac y)/\BB (!y) (LQ (Aa 0) (Aa r)) ((0:Int)<=IntKind.u64.wrap t.Bits/\IntKind.i64.wrap b≠(0:Int)/\BB (decide (v.tmod a<0)) (g/\BB (bif t.Signed then decide (IntKind.i64.wrap c>=IntKind.i64.wrap (a.tdiv (2:Int))) else false) (LQ (Aa (IntKind.i64.wrap (IntKind.i64.wrap c - IntKind.i64.wrap b))) (Aa r)) (LQ (Aa (IntKind.i64.wrap c)) (Aa r))) (g/\BB (bif t.Signed then decide (v.tmod a>=IntKind.i64.wrap (a.tdiv (2:Int))) else false) (LQ (Aa (IntKind.i64.wrap (v.tmod a - IntKind.i64.wrap b))) (Aa r)) (LQ (Aa (v.tmod a)) (Aa r))))):=by subst d e f h;kernel_rfl
theorem Ajl (r:Int)(v:Int):(fc A5 AQ Tryz.f99 [] (Aa r)).goal (St.init [] [Aa v]) =
  (∃ (y:Int),VC 141 [VV.agg [Aa 32,Ac true],Aa v] (Aa y)/\LQ (Aa y) (Aa r)):=by kernel_rfl
theorem Af3 (r:Int)(c:Bool):(fc A5 AQ Tryz.f100 [] (Aa r)).goal (St.init [] [Ac c]) =
  (BB c (LQ (Aa 1) (Aa r)) (LQ (Aa 0) (Aa r))):=by kernel_rfl
theorem Aa4 (r:Int)(a n:Int):(fc A5 H8 Tryz.f102 [] (Aa r)).goal (St.init [] [Aa a,Aa n]) =
  (Ax (fc A5 H8 Tryz.f102 [] (Aa r)) [1,0,0] (Nm a n)):=by kernel_rfl
theorem XL (v r:Int)(op a b':Int){z1}(f:z1=[Aa v,Aa r]){d}(g:d=VV.tup z1){j}(h:j=fun(b:Int)=>[Aa b,Aa 0]){e}(i:e=fun(b:Int)=>VV.tup (j b)):(fc A5 AQ Tryz.f60 [] (.tup [Aa v,Aa r])).goal (St.init [] [Aa op,Aa a,Aa b']) =
  (∃ (y:Int),VC 99 [Aa a] (Aa y)/\∃ (c:Int),VC 99 [Aa b'] (Aa c)/\BB (bif bif op==7 then true else op==8 then c==0 else false) (LQ (.tup [Aa 0,Aa 48]) d) (BB (op==6) (∃ (b:Int),VC 99 [Aa (IntKind.i64.wrap (y*c))] (Aa b)/\LQ (e b) d) (BB (op==7) (c≠(0:Int)/\∃ (b:Int),VC 99 [Aa (IntKind.i64.wrap (y.tdiv c))] (Aa b)/\LQ (e b) d) (BB (op==8) (c≠(0:Int)/\LQ (.tup [Aa (y.tmod c),Aa 0]) d) (BB (op==9) (∃ (b:Int),VC 99 [Aa (IntKind.i64.wrap (y+c))] (Aa b)/\LQ (e b) d) (BB (op==10) (∃ (b:Int),VC 99 [Aa (IntKind.i64.wrap (y - c))] (Aa b)/\LQ (e b) d) (BB (op==11) (∃ (b:Int),VC 102 [Aa y,Aa c] (Aa b)/\LQ (e b) d) (BB (op==12) (∃ (b:Int),VC 102 [Aa y,Aa (IntKind.i64.wrap ((0:Int) - c))] (Aa b)/\LQ (e b) d) (BB (op==13) (∃ (b:Int),VC 100 [Ac (decide (y<c))] (Aa b)/\LQ (e b) d) (BB (op==14) (∃ (b:Int),VC 100 [Ac (decide (y<=c))] (Aa b)/\LQ (e b) d) (BB (op==15) (∃ (b:Int),VC 100 [Ac (decide (y > c))] (Aa b)/\LQ (e b) d) (BB (op==16) (∃ (b:Int),VC 100 [Ac (decide (y>=c))] (Aa b)/\LQ (e b) d) (BB (op==17) (∃ (b:Int),VC 100 [Ac (y==c)] (Aa b)/\LQ (e b) d) (BB (op==18) (∃ (b:Int),VC 100 [Ac (y != c)] (Aa b)/\LQ (e b) d) (BB (op==19) (LQ (.tup [Aa (IntKind.i64.wrap (↑(BitVec.ofInt IntKind.i64.bits y &&& BitVec.ofInt IntKind.i64.bits c).toNat:Int)),Aa 0]) d) (BB (op==20) (LQ (.tup [Aa (IntKind.i64.wrap (↑(BitVec.ofInt IntKind.i64.bits y ^^^ BitVec.ofInt IntKind.i64.bits c).toNat:Int)),Aa 0]) d) (BB (op==21) (LQ (.tup [Aa (IntKind.i64.wrap (↑(BitVec.ofInt IntKind.i64.bits y ||| BitVec.ofInt IntKind.i64.bits c).toNat:Int)),Aa 0]) d) (LQ (.tup [Aa 0,Aa 42]) d)))))))))))))))))):=by subst f g h i;kernel_rfl
theorem Aji (v r:Int)(op a:Int):(fc A5 AQ Tryz.f55 [] (.tup [Aa v,Aa r])).goal (St.init [] [Aa op,Aa a]) =
  (∃ (y:Int),VC 99 [Aa a] (Aa y)/\BB (op==3) (∃ (b:Int),VC 99 [Aa (IntKind.i64.wrap ((0:Int) - y))] (Aa b)/\LQ (VV.tup [Aa b,Aa 0]) (VV.tup [Aa v,Aa r])) (BB (op==4) (∃ (b:Int),VC 100 [Ac (y==0)] (Aa b)/\LQ (VV.tup [Aa b,Aa 0]) (VV.tup [Aa v,Aa r])) (BB (op==5) (LQ (VV.tup [Aa (IntKind.i64.wrap (IntKind.i64.wrap ((0:Int) - y) - (1:Int))),Aa 0]) (VV.tup [Aa v,Aa r])) (LQ (VV.tup [Aa 0,Aa 42]) (VV.tup [Aa v,Aa r]))))):=by kernel_rfl
theorem Abg (b:Bool)(x l mt:List Int):(fc A5 MT Tryz.f105 [] (Ac b)).goal (St.init [] [Ad true x,Ad true l,Ad true mt]) =
  (BB (bif decide ((↑x.length:Int)<(↑mt.length:Int)) then true else decide ((↑l.length:Int)<(↑mt.length:Int))) (LQ (Ac false) (Ac b)) (Ax (fc A5 MT Tryz.f105 [] (Ac b)) [1,1,0,1,0] (AcU x l mt (0:Int)))):=by kernel_rfl
theorem Af8 (r:Int)(c:D.Chan)(l mt:List Int)(any:Bool):(fc A5 Pc Tryz.f65 [] (Aa r)).goal (St.init [] [.agg (AM c),Ad true l,Ad true mt,Ac any]) =
  (Ax (fc A5 Pc Tryz.f65 [] (Aa r)) [1,0,1,0] (AcV c l mt any (0:Int))):=by kernel_rfl
theorem Af2 (r:Int)(c:Bool):(fc A5 AQ Tryz.f58 [] (Aa r)).goal (St.init [] [Ac c]) =
  (BB c (LQ (Aa 1) (Aa r)) (LQ (Aa 0) (Aa r))):=by kernel_rfl
theorem AfW (p k r:Int)(e:D.Env)(x:Int){b}(g:b=e.M.Exprs.getD x.toNat default){c}(h:c=LQ (VV.tup [Aa 0,Aa 0,Aa 42]) (VV.tup [Aa p,Aa k,Aa r])){d}(i:d=fc A5 Hj Tryz.f54 [] (VV.tup [Aa p,Aa k,Aa r])){f}(j:f=[1,1,1,1,1,1,1,0,1,0]):(fc A5 Hj Tryz.f54 [] (.tup [Aa p,Aa k,Aa r])).goal (St.init [] [.agg (Ae e),Aa x]) =
  (inX x e.M.Exprs.length/\BB (b.Op != 2) c (inX x e.M.Exprs.length/\∃ (y:Int),VC 98 [.agg (Bz b.V)] (Aa y)/\BB (b.V.Scope==0) (BB (decide (y > (↑e.S.Globals.length:Int))) c (Ax d f (LY e b.V (-1:Int) b.V.Slot (0:Int)))) (BB (b.V.Scope==1) (((true&&decide (e.Pid<0)==false)=true->inX e.Pid e.S.Procs.length)/\BB (bif decide (e.Pid<0) then true else decide (y > (↑(e.S.Procs.getD e.Pid.toNat default).Frame.length:Int))) c (Ax d f (LY e b.V e.Pid b.V.Slot (0:Int)))) (∃ (a:Int × Int),VC 34 [.agg (Ae e),Aa b.V.Who] (vII a)/\BB (a.snd != 0) (LQ (.tup [Aa 0,Aa 0,Aa a.snd]) (.tup [Aa p,Aa k,Aa r])) (((true&&(bif decide (a.fst<0) then true else decide (a.fst>=(↑e.S.Procs.length:Int)))==false)=true->inX a.fst e.S.Procs.length)/\BB (bif bif decide (a.fst<0) then true else decide (a.fst>=(↑e.S.Procs.length:Int)) then true else(e.S.Procs.getD a.fst.toNat default).Type_ != b.V.Type_) (LQ (.tup [Aa 0,Aa 0,Aa 52]) (.tup [Aa p,Aa k,Aa r])) (inX a.fst e.S.Procs.length/\BB (decide (y > (↑(e.S.Procs.getD a.fst.toNat default).Frame.length:Int))) c (Ax d f (LY e b.V a.fst b.V.Slot (0:Int))))))))):=by subst g h i j;kernel_rfl
theorem Aga (v r:Int)(e:D.Env)(x:Int):(fc A5 AQ Tryz.f101 [] (.tup [Aa v,Aa r])).goal (St.init [] [.agg (Ae e),Aa x]) =
  (∃ (y:Int × Int),VC 34 [VV.agg (Ae e),Aa x] (vII y)/\BB (y.snd != 0) (LQ (VV.tup [Aa 0,Aa y.snd]) (VV.tup [Aa v,Aa r])) (BB (bif decide (y.fst<1) then true else decide (y.fst > (↑e.S.Chans.length:Int))) (LQ (VV.tup [Aa 0,Aa 49]) (VV.tup [Aa v,Aa r])) (LQ (VV.tup [Aa y.fst,Aa 0]) (VV.tup [Aa v,Aa r])))):=by kernel_rfl
theorem AaX (r:List Int × Int)(e:D.Env)(args mt:List Int):(fc A5 MQ Tryz.f64 [] (.tup [Ad true r.1,Aa r.2])).goal (St.init [] [.agg (Ae e),Ad true args,Ad true mt]) =
  (Ax (fc A5 MQ Tryz.f64 [] (VV.tup [Ad true r.fst,Aa r.snd])) [1,1,0,1,0] (Ay [(1,Ad true args),(2,Ad true mt),(3,VV.bp 0 0),(8,VV.nl),(9,Aa 0)] [Ob.box (Ae e)])):=by kernel_rfl
theorem Agc (v r:Int)(e:D.Env)(x:D.Expr){z1}(d:z1=[Aa v,Aa r]){b}(f:b=VV.tup z1):(fc A5 AQ Tryz.f57 [] (.tup [Aa v,Aa r])).goal (St.init [] [.agg (Ae e),.agg (Az x)]) =
  (∃ (y:Int × Int),VC 101 [.agg (Ae e),Aa x.A] (vII y)/\BB (y.snd != 0) (LQ (.tup [Aa 0,Aa y.snd]) b) (inX (IntKind.i64.wrap (y.fst - (1:Int))) e.S.Chans.length/\inX (e.S.Chans.getD (IntKind.i64.wrap (y.fst - (1:Int))).toNat default).Shape e.M.Shapes.length/\BB (x.Op==25) (LQ (.tup [Aa (↑(e.S.Chans.getD (IntKind.i64.wrap (y.fst - (1:Int))).toNat default).Queue.length:Int),Aa 0]) b) (BB (x.Op==26) (∃ (a:Int),VC 58 [Ac (decide ((↑(e.S.Chans.getD (IntKind.i64.wrap (y.fst - (1:Int))).toNat default).Queue.length:Int)>=(e.M.Shapes.getD (e.S.Chans.getD (IntKind.i64.wrap (y.fst - (1:Int))).toNat default).Shape.toNat default).Room))] (Aa a)/\LQ (.tup [Aa a,Aa 0]) b) (BB (x.Op==27) (∃ (a:Int),VC 58 [Ac ((↑(e.S.Chans.getD (IntKind.i64.wrap (y.fst - (1:Int))).toNat default).Queue.length:Int)==0)] (Aa a)/\LQ (.tup [Aa a,Aa 0]) b) (BB (x.Op==28) (∃ (a:Int),VC 58 [Ac (decide ((↑(e.S.Chans.getD (IntKind.i64.wrap (y.fst - (1:Int))).toNat default).Queue.length:Int)<(e.M.Shapes.getD (e.S.Chans.getD (IntKind.i64.wrap (y.fst - (1:Int))).toNat default).Shape.toNat default).Room))] (Aa a)/\LQ (.tup [Aa a,Aa 0]) b) (BB (x.Op==29) (∃ (a:Int),VC 58 [Ac (decide ((↑(e.S.Chans.getD (IntKind.i64.wrap (y.fst - (1:Int))).toNat default).Queue.length:Int) > 0))] (Aa a)/\LQ (.tup [Aa a,Aa 0]) b) (BB ((↑(e.M.Shapes.getD (e.S.Chans.getD (IntKind.i64.wrap (y.fst - (1:Int))).toNat default).Shape.toNat default).Fields.length:Int) != (↑x.Args.length:Int)) (LQ (.tup [Aa 0,Aa 49]) b) (∃ (a:List Int × Int),VC 64 [.agg (Ae e),Ad true x.Args,Ad true x.Match] (.tup [Ad true a.fst,Aa a.snd])/\BB (a.snd != 0) (LQ (.tup [Aa 0,Aa a.snd]) b) (∃ (c:Int),VC 65 [.agg (AM (e.S.Chans.getD (IntKind.i64.wrap (y.fst - (1:Int))).toNat default)),Ad true a.fst,Ad true x.Match,Ac (x.N==1)] (Aa c)/\∃ (y:Int),VC 58 [Ac (decide (c>=0))] (Aa y)/\LQ (.tup [Aa y,Aa 0]) b))))))))):=by subst d f;kernel_rfl
theorem Af0 (v r:Int)(e:D.Env)(x:D.Expr){a}(c:a=[Aa v,Aa r]):(fc A5 Pb Tryz.f59 [] (.tup [Aa v,Aa r])).goal (St.init [] [.agg (Ae e),.agg (Az x)]) =
  (∃ (y:Int × Int),VC 34 [.agg (Ae e),Aa x.A] (vII y)/\BB (y.snd != 0) (LQ (.tup [Aa 0,Aa y.snd]) (.tup a)) (BB (x.Op==36) (((true&&(bif decide (y.fst>=0) then decide (y.fst<(↑e.Able.length:Int)) else false)==true)=true->inX y.fst e.Able.length)/\∃ (b:Int),VC 58 [Ac (bif bif decide (y.fst>=0) then decide (y.fst<(↑e.Able.length:Int)) else false then e.Able.getD y.fst.toNat false else false)] (Aa b)/\LQ (.tup [Aa b,Aa 0]) (.tup a)) (((true&&(bif decide (y.fst<0) then true else decide (y.fst>=(↑e.S.Procs.length:Int)))==false&&(x.Op==38)==true)=true->inX y.fst e.S.Procs.length)/\BB (bif bif decide (y.fst<0) then true else decide (y.fst>=(↑e.S.Procs.length:Int)) then true else bif x.Op==38 then(e.S.Procs.getD y.fst.toNat default).Type_ != x.N else false) (LQ (.tup [Aa 0,Aa 52]) (.tup a)) (inX y.fst e.S.Procs.length/\BB (x.Op==37) (LQ (.tup [Aa (e.S.Procs.getD y.fst.toNat default).Loc,Aa 0]) (.tup a)) (Ax (fc A5 Pb Tryz.f59 [] (.tup a)) [1,1,1,1,1,1,1,1,0,1,0] (W0 x (e.S.Procs.getD y.fst.toNat default).Loc false (0:Int))))))):=by subst c;kernel_rfl
theorem Abh (v r:Int)(e:D.Env)(x:D.Expr){z1}(c:z1=[Aa v,Aa r]){a}(d:a=VV.tup z1):(fc A5 AQ Tryz.f56 [] (.tup [Aa v,Aa r])).goal (St.init [] [.agg (Ae e),.agg (Az x)]) =
  (∃ (y:Int × Int),VC 34 [.agg (Ae e),Aa x.A] (vII y)/\BB (y.snd != 0) (LQ (.tup [Aa 0,Aa y.snd]) a) (BB (bif x.Op==24 then y.fst != 0 else false) (∃ (y:Int × Int),VC 34 [.agg (Ae e),Aa x.B] (vII y)/\LQ (vII y) a) (BB (x.Op==24) (∃ (y:Int × Int),VC 34 [.agg (Ae e),Aa x.C] (vII y)/\LQ (vII y) a) (BB (bif x.Op==22 then y.fst==0 else false) (LQ (.tup [Aa 0,Aa 0]) a) (BB (bif x.Op==23 then y.fst != 0 else false) (LQ (.tup [Aa 1,Aa 0]) a) (∃ (y:Int × Int),VC 34 [.agg (Ae e),Aa x.B] (vII y)/\BB (y.snd != 0) (LQ (.tup [Aa 0,Aa y.snd]) a) (∃ (b:Int),VC 58 [Ac (y.fst != 0)] (Aa b)/\LQ (.tup [Aa b,Aa 0]) a))))))):=by subst c d;kernel_rfl
theorem Af9 (v r:Int)(e:D.Env)(x:Int){a}(d:a=e.M.Exprs.getD x.toNat default){b}(f:b=fc A5 Bi Tryz.f34 [] (VV.tup [Aa v,Aa r])){c}(g:c=[1,1,0,1,0,1,1,1,1,1]):(fc A5 Bi Tryz.f34 [] (.tup [Aa v,Aa r])).goal (St.init [] [.agg (Ae e),Aa x]) =
  (inX x e.M.Exprs.length/\BB (a.Op==1) (LQ (.tup [Aa a.N,Aa 0]) (.tup [Aa v,Aa r])) (BB (a.Op==2) (∃ (y:Int × Int × Int),VC 54 [.agg (Ae e),Aa x] (Kd y)/\BB (y.snd.snd != 0) (LQ (.tup [Aa 0,Aa y.snd.snd]) (.tup [Aa v,Aa r])) (BB (decide (y.fst<0)) (inX y.snd.fst e.S.Globals.length/\LQ (.tup [Aa (e.S.Globals.getD y.snd.fst.toNat 0),Aa 0]) (.tup [Aa v,Aa r])) (inX y.fst e.S.Procs.length/\inX y.snd.fst (e.S.Procs.getD y.fst.toNat default).Frame.length/\LQ (.tup [Aa ((e.S.Procs.getD y.fst.toNat default).Frame.getD y.snd.fst.toNat 0),Aa 0]) (.tup [Aa v,Aa r])))) (BB (a.Op==3) (Ax b c (Jl e a 63 (a.Op==3))) (BB (a.Op==4) (Ax b c (Jl e a 63 (a.Op==4))) (Ax b c (Jl e a 63 (a.Op==5))))))):=by subst d f g;kernel_rfl
theorem Abd (r:List Int)(e:D.Env):(fc A5 MR Tryz.f19 [] (Ad true r)).goal (St.init [] [.agg (Ae e)]) =
  (∃ (y:D.Proc),VC 16 [VV.agg (Ae e)] (VV.agg (A4 y))/\inX e.Pid e.S.Procs.length/\inX (e.S.Procs.getD e.Pid.toNat default).Loc y.Locs.length/\Ax (fc A5 MR Tryz.f19 [] (Ad true r)) [1,1,1,0,1,0] (Ay [(3,VV.bp 0 0),(4,VV.nl),(5,Aa 0)] [Ob.box (A8 (y.Locs.getD (e.S.Procs.getD e.Pid.toNat default).Loc.toNat default))])):=by kernel_rfl
theorem Ajh (b:Bool)(e:D.Env)(x:Int):(fc A5 AQ Tryz.f61 [] (Ac b)).goal (St.init [] [.agg (Ae e),Aa x]) =
  (((true&&decide (x>=0)==true)=true->inX x e.M.Exprs.length)/\LQ (Ac (bif decide (x>=0) then(e.M.Exprs.getD x.toNat default).Op==39 else false)) (Ac b)):=by kernel_rfl
theorem Ajs (r:List Int × Int)(e:D.Env)(l:List Int):(fc A5 SG Tryz.f142 [] (.tup [Ad true r.1,Aa r.2])).goal (St.init [] [.agg (Ae e),Ad true l]) =
  (Ax (fc A5 SG Tryz.f142 [] (VV.tup [Ad true r.fst,Aa r.snd])) [1,1,0,1,0] (Ay [(1,Ad true l),(2,VV.bp 0 0),(6,VV.nl),(7,Aa 0)] [Ob.box (Ae e)])):=by kernel_rfl
theorem XM (v r:Int)(e:D.Env)(s:D.Stmt):(fc A5 AQ Tryz.f63 [] (.tup [Aa v,Aa r])).goal (St.init [] [.agg (Ae e),.agg (Au s)]) =
  (∃ (y:Int × Int),VC 101 [VV.agg (Ae e),Aa s.A] (vII y)/\BB (y.snd != 0) (LQ (VV.tup [Aa 0,Aa y.snd]) (VV.tup [Aa v,Aa r])) (inX (IntKind.i64.wrap (y.fst - (1:Int))) e.S.Chans.length/\inX (e.S.Chans.getD (IntKind.i64.wrap (y.fst - (1:Int))).toNat default).Shape e.M.Shapes.length/\BB ((↑(e.M.Shapes.getD (e.S.Chans.getD (IntKind.i64.wrap (y.fst - (1:Int))).toNat default).Shape.toNat default).Fields.length:Int) != (↑s.Args.length:Int)) (LQ (VV.tup [Aa 0,Aa 49]) (VV.tup [Aa v,Aa r])) (LQ (VV.tup [Aa y.fst,Aa 0]) (VV.tup [Aa v,Aa r])))):=by kernel_rfl
theorem Ajk (r:List Int × Int)(e:D.Env)(s:D.Stmt)(c:Int){a}(b:a=IntKind.i64.wrap (c - (1:Int))):(fc A5 SF Tryz.f103 [] (.tup [Ad true r.1,Aa r.2])).goal (St.init [] [.agg (Ae e),.agg (Au s),Aa c]) =
  (∃ (y:List Int × Int),VC 142 [.agg (Ae e),Ad true s.Args] (.tup [Ad true y.fst,Aa y.snd])/\BB (y.snd != 0) (LQ (.tup [.nl,Aa y.snd]) (.tup [Ad true r.fst,Aa r.snd])) (inX a e.S.Chans.length/\inX (e.S.Chans.getD a.toNat default).Shape e.M.Shapes.length/\Ax (fc A5 SF Tryz.f103 [] (.tup [Ad true r.fst,Aa r.snd])) [1,1,1,1,1,0,1,0] (Ay [(8,Ad true y.fst),(10,.nl),(11,AC true (e.M.Shapes.getD (e.S.Chans.getD a.toNat default).Shape.toNat default).Fields),(12,Aa 0)] []))):=by subst b;kernel_rfl
theorem AfZ (r:Bool × Int)(e:D.Env):(fc A5 AQ Tryz.f18 [] (.tup [Ac r.1,Aa r.2])).goal (St.init [] [.agg (Ae e)]) =
  (∃ (y:D.Proc),VC 16 [VV.agg (Ae e)] (VV.agg (A4 y))/\BB (decide (y.Provided<0)) (LQ (VV.tup [Ac true,Aa 0]) (VV.tup (Sj r))) (∃ (a:Int × Int),VC 34 [VV.agg (Ae e),Aa y.Provided] (vII a)/\LQ (VV.tup [Ac (a.fst != 0),Aa a.snd]) (VV.tup (Sj r)))):=by kernel_rfl
theorem AaZ (b:Bool)(e:D.Env)(s:D.Stmt)(c:Int)(m:List Int){d}(f:d=LQ (Ac false) (Ac b)):(fc A5 AQ Tryz.f180 [] (Ac b)).goal (St.init [] [.agg (Ae e),.agg (Au s),Aa c,Ad true m]) =
  (BB (bif bif s.Kind != 6 then true else decide (s.N > 1) then true else(↑s.Args.length:Int) != (↑m.length:Int)) d (∃ (y:Int × Int),VC 101 [.agg (Ae e),Aa s.A] (vII y)/\BB (bif y.snd != 0 then true else y.fst != c) d (∃ (y:List Int × Int),VC 64 [.agg (Ae e),Ad true s.Args,Ad true s.Match] (.tup [Ad true y.fst,Aa y.snd])/\BB (y.snd != 0) d (∃ (a:Bool),VC 105 [Ad true m,Ad true y.fst,Ad true s.Match] (Ac a)/\LQ (Ac a) (Ac b))))):=by subst f;kernel_rfl
theorem AfY (r:List Pn)(e:D.Env)(c:Int)(m:List Int):(fc A5 I6 Tryz.f143 [] (Bl true r)).goal (St.init [] [.agg (Ae e),Aa c,Ad true m]) =
  (∃ (y:Bool × Int),VC 18 [VV.agg (Ae e)] (VV.tup (Sj y))/\BB (bif !y.fst then true else y.snd != 0) (LQ VV.nl (Bl true r)) (∃ (y:List Int),VC 19 [VV.agg (Ae e)] (Ad true y)/\Ax (fc A5 I6 Tryz.f143 [] (Bl true r)) [1,1,1,1,0,1,0] (AcS e c m y (0:Int)))):=by kernel_rfl
theorem Abf (r:List Pn)(e:D.Env)(c:Int)(m:List Int):(fc A5 MS Tryz.f104 [] (Bl true r)).goal (St.init [] [.agg (Ae e),Aa c,Ad true m]) =
  (Ax (fc A5 MS Tryz.f104 [] (Bl true r)) [1,1,0,1,0] (Ay [(1,Aa c),(2,Ad true m),(3,VV.bp 0 0),(7,VV.nl),(8,Aa 0)] [Ob.box (Ae e)])):=by kernel_rfl
theorem AfX (r:Ab)(e:D.Env)(s:D.Stmt)(self:Bool){d}(f:d=fun(y:Int × Int)=>e.S.Chans.getD (IntKind.i64.wrap (y.fst - (1:Int))).toNat default){c}(g:c=VV.agg (AR r)):(fc A5 AQ Tryz.f62 [] (.agg (AR r))).goal (St.init [] [.agg (Ae e),.agg (Au s),Ac self]) =
  (∃ (y:Int × Int),VC 63 [.agg (Ae e),.agg (Au s)] (vII y)/\BB (y.snd != 0) (LQ (.agg [Ac true,Aa y.snd,.nl]) c) (inX (IntKind.i64.wrap (y.fst - (1:Int))) e.S.Chans.length/\inX (d y).Shape e.M.Shapes.length/\BB (decide ((e.M.Shapes.getD (d y).Shape.toNat default).Room > 0)) (LQ (.agg [Ac (decide ((↑(d y).Queue.length:Int)<(e.M.Shapes.getD (d y).Shape.toNat default).Room)),Aa 0,.nl]) c) (BB self (LQ (.agg [Ac false,Aa 0,.nl]) c) (∃ (a:List Int × Int),VC 103 [.agg (Ae e),.agg (Au s),Aa y.fst] (.tup [Ad true a.fst,Aa a.snd])/\BB (a.snd != 0) (LQ (.agg [Ac true,Aa a.snd,.nl]) c) (∃ (b:List Pn),VC 104 [.agg (Ae e),Aa y.fst,Ad true a.fst] (Bl true b)/\LQ (.agg [Ac (decide ((↑b.length:Int) > 0)),Aa 0,Bl true b]) c))))):=by subst f g;kernel_rfl
theorem AfU (r:Ab)(e:D.Env)(s:D.Stmt)(self:Bool){b}(g:b=VV.agg (AR r)){h}(i:h=LQ (VV.agg [Ac (decide ((↑e.S.Procs.length:Int)<16)),Aa 0,VV.nl]) b){c}(j:c=Ae e){k}(l:k=LQ (VV.agg [Ac true,Aa 0,VV.nl]) b):(fc A5 AQ Tryz.f35 [] (.agg (AR r))).goal (St.init [] [.agg (Ae e),.agg (Au s),Ac self]) =
  (∃ (y:Bool),VC 61 [.agg c,Aa s.A] (Ac y)/\∃ (d:Bool),VC 61 [.agg c,Aa s.B] (Ac d)/\BB (s.Kind==1) (BB y h (∃ (y:Int × Int),VC 34 [.agg c,Aa s.A] (vII y)/\LQ (.agg [Ac (bif y.snd != 0 then true else y.fst != 0),Aa y.snd,.nl]) b)) (BB (s.Kind==2) (BB d h k) (BB (s.Kind==5) (∃ (y:Ab),VC 62 [.agg c,.agg (Au s),Ac self] (.agg (AR y))/\LQ (.agg (AR y)) b) (BB (s.Kind==6) (∃ (y:Int × Int),VC 63 [.agg c,.agg (Au s)] (vII y)/\BB (y.snd != 0) (LQ (.agg [Ac true,Aa y.snd,.nl]) b) (∃ (a:List Int × Int),VC 64 [.agg c,Ad true s.Args,Ad true s.Match] (.tup [Ad true a.fst,Aa a.snd])/\BB (a.snd != 0) (LQ (.agg [Ac true,Aa a.snd,.nl]) b) (inX (IntKind.i64.wrap (y.fst - (1:Int))) e.S.Chans.length/\∃ (f:Int),VC 65 [.agg (AM (e.S.Chans.getD (IntKind.i64.wrap (y.fst - (1:Int))).toNat default)),Ad true a.fst,Ad true s.Match,Ac (bif s.N==1 then true else s.N==3)] (Aa f)/\LQ (.agg [Ac (decide (f>=0)),Aa 0,.nl]) b))) (BB (s.Kind==7) (LQ (.agg [Ac false,Aa 0,.nl]) b) (BB (s.Kind==9) (LQ (.agg [Ac (decide ((↑e.S.Chans.length:Int)<32)),Aa 0,.nl]) b) k)))))):=by subst g i j l;kernel_rfl
theorem AfV (b:Bool)(e:D.Env)(ws:List D.Trans)(self:Bool):(fc A5 Pa Tryz.f181 [] (Ac b)).goal (St.init [] [.agg (Ae e),Ap true ws,Ac self]) =
  (Ax (fc A5 Pa Tryz.f181 [] (Ac b)) [1,0,1,0] (WY e ws self (0:Int))):=by kernel_rfl
theorem Agb (r:List Ab)(e:D.Env)(ws:List D.Trans):(fc A5 I7 Tryz.f20 [] (Bo true r)).goal (St.init [] [.agg (Ae e),Ap true ws]) =
  (Ax (fc A5 I7 Tryz.f20 [] (Bo true r)) [1,1,1,0,1,0] (Ay [(1,Ap true ws),(2,VV.bp 0 0),(5,VV.nl),(6,Ac false),(7,Aa 0)] [Ob.box (Ae e)])):=by kernel_rfl
theorem XS (r:Wy)(err:Int):(fc A5 AQ Tryz.f17 [] (.agg (AY r))).goal (St.init [] [Aa err]) =
  (LQ (VV.agg [Aa (-1),Aa (-1),Aa (-1),Aa (-1),Aa (-1),Aa err]) (VV.agg (AY r))):=by kernel_rfl
theorem AfR (r:D.Env)(e:D.Env)(p:Int):(fc A5 AQ Tryz.f144 [] (.agg (Ae r))).goal (St.init [] [.agg (Ae e),Aa p]) =
  (LQ (VV.agg [AC true e.M.Globals,Ad true e.M.Init,Bn true e.M.Shapes,Ad true e.M.Chans,BE true e.M.Procs,Aa e.M.Claim,BL true e.M.Exprs,Ad true e.S.Globals,A0 true e.S.Chans,AI true e.S.Procs,Aa e.S.Last,Aa e.S.Alone,Aa e.S.Claim,Aa p,Ac e.Timeout,A6 true e.Able]) (VV.agg (Ae r))):=by kernel_rfl
theorem AfS (r:List Wy)(e:D.Env){b}(c:b=AW true r):(fc A5 El Tryz.f8 [] (AW true r)).goal (St.init [] [.agg (Ae e)]) =
  (inX e.Pid e.S.Procs.length/\∃ (y:D.Proc),VC 16 [.agg (Ae e)] (.agg (A4 y))/\BB ((e.S.Procs.getD e.Pid.toNat default).Loc==y.Final) (BB (e.Pid==IntKind.i64.wrap ((↑e.S.Procs.length:Int) - (1:Int))) (∃ (y:Wy),VC 17 [Aa 0] (.agg (AY y))/\LQ (.sl true 1 6 fun(i:Nat)=>List.take 6 (List.drop (i*6) (AY y))) b) (LQ .nl b)) (∃ (y:Bool × Int),VC 18 [.agg (Ae e)] (.tup (Sj y))/\BB (y.snd != 0) (∃ (a:Wy),VC 17 [Aa y.snd] (.agg (AY a))/\LQ (.sl true 1 6 fun(i:Nat)=>List.take 6 (List.drop (i*6) (AY a))) b) (∃ (a:List Int),VC 19 [.agg (Ae e)] (Ad true a)/\Ax (fc A5 El Tryz.f8 [] b) [1,1,1,1,1,1,0,1,0] (Ay [(1,.bp 0 0),(3,Ac y.fst),(5,Ad true a),(6,.nl),(7,Aa 0)] [.box (Ae e)])))):=by subst c;kernel_rfl
theorem Agf (r:List Bool)(m:D.Model)(s:D.State):(fc A5 Pd Tryz.f7 [] (A6 true r)).goal (St.init [] [.agg (Af m),.agg (Ah s)]) =
  (Ax (fc A5 Pd Tryz.f7 [] (A6 true r)) [1,1,0,1,0] (Ay [(2,VV.bp 0 0),(3,VV.bp 1 0),(5,VV.nl),(6,Aa 0)] [Ob.box (Af m),Ob.box (Ah s)])):=by kernel_rfl
theorem Abe (r:D.Model){c}(d:c=[[(VV.sl true 1 9 fun(i:Nat)=>List.take 9 (List.drop (i*9) [Aa 2,Aa 3,Aa 2,Aa 0,VV.nl,VV.nl,Bm ByteArray.empty,Aa 1,Aa 0]),[5]),(VV.nl,[]),(zf,[]),(zf,[]),(zf,[]),(zf,[]),(zf,[])],[(VV.nl,[]),(VV.nl,[]),(zf,[]),(zf,[]),(zf,[]),(zf,[]),(zf,[])]]):(fc A5 AQ Tryz.f10 [] (.agg (Af r))).goal (St.init [] []) =
  (∃ (y:D.Expr),VC 23 [Aa 1] (.agg (Az y))/\∃ (a:D.Expr),VC 24 [] (.agg (Az a))/\∃ (b:D.Expr),VC 24 [] (.agg (Az b))/\LQ (.agg [.sl true 1 2 fun(i:Nat)=>List.take 2 (List.drop (i*2) [Aa 8,Ac false]),.sl true 1 1 fun(i:Nat)=>List.take 1 (List.drop (i*1) [Aa 0]),.nl,.nl,.sl true 1 10 fun(i:Nat)=>List.map (fun(x:VV × List Nat)=>x.fst) ([[(zs,[]),(z8,[]),(.nl,[]),(.nl,[]),(.sl true 2 7 fun(i:Nat)=>List.map (fun(x:VV × List Nat)=>x.fst) (c.getD i []),6::List.flatMap (fun(r:List (VV × List Nat))=>List.flatMap (fun(x:VV × List Nat)=>x.snd) r) c),(z8,[]),(Aa 1,[]),(Aa 2,[]),(Aa 1,[]),(Aa (-1),[])]].getD i []),Aa (-1),.sl true 4 12 fun(i:Nat)=>List.take 12 (List.drop (i*12) (Aa y.Op::Aa y.N::Aa y.A::Aa y.B::Aa y.C::Aa y.V.Scope::Aa y.V.Slot::Aa y.V.Who::Aa y.V.Type_::Df true y.V.Dims::Ad true y.Args::Ad true y.Match::Aa a.Op::Aa a.N::Aa a.A::Aa a.B::Aa a.C::Aa a.V.Scope::Aa a.V.Slot::Aa a.V.Who::Aa a.V.Type_::Df true a.V.Dims::Ad true a.Args::Ad true a.Match::Aa 9::Aa 0::Aa 1::Aa 0::Aa (-1)::Aa 0::Aa 0::Aa 0::Aa 0::.nl::.nl::.nl::Az b))]) (.agg (Af r))):=by subst d;kernel_rfl
theorem Ajj (r:D.Expr)(n:Int):(fc A5 AQ Tryz.f23 [] (.agg (Az r))).goal (St.init [] [Aa n]) =
  (LQ (VV.agg [Aa 1,Aa n,Aa (-1),Aa (-1),Aa (-1),Aa 0,Aa 0,Aa 0,Aa 0,VV.nl,VV.nl,VV.nl]) (VV.agg (Az r))):=by kernel_rfl
theorem Af7 (r:D.Expr) :(fc A5 AQ Tryz.f24 [] (.agg (Az r))).goal (St.init [] []) =
  (LQ (VV.agg [Aa 2,Aa 0,Aa (-1),Aa (-1),Aa (-1),Aa 0,Aa 0,Aa (-1),Aa (-1),VV.nl,VV.nl,VV.nl]) (VV.agg (Az r))):=by kernel_rfl
theorem AaU (b:Bool)(m:D.Model)(s:D.State){e}(f:e=[VV.agg (Af m),VV.agg (Ah s)]):(fc A5 EF Tryz.f3 [] (Ac b)).goal (St.init [] [.agg (Af m),.agg (Ah s)]) =
  (∃ (y:Bool),VC 4 [] (Ac y)/\∃ (c:Int),VC 5 e (Aa c)/\BB (c != 0) (LQ (Ac y) (Ac b)) (∃ (a:List Nx × Int),VC 6 e (.tup [CM true a.fst,Aa a.snd])/\∃ (d:List Bool),VC 7 e (A6 true d)/\Ax (fc A5 EF Tryz.f3 [] (Ac b)) [1,1,1,1,1,1,1,0,1,0] (Ri m s y a.fst d false (0:Int)))):=by subst f;kernel_rfl
theorem Ajr (v r:Int)(e:D.Env)(x:D.Expr)(b:Bool){c}(d:c=(fc A5 Bi Tryz.f34 [] (VV.tup [Aa v,Aa r])).cut [1,1,0,1,0,1,1,1,1,1]):((fc A5 Bi Tryz.f34 [] (.tup [Aa v,Aa r])).cut [1,1,0,1,0,1,1,1,1,1]).goal (Jl e x 63 b) =
  (BB b (∃ (y:Int × Int),VC 34 [.agg (Ae e),Aa x.A] (vII y)/\BB (y.snd != 0) (LQ (.tup [Aa 0,Aa y.snd]) (.tup [Aa v,Aa r])) (∃ (a:Int × Int),VC 55 [Aa x.Op,Aa y.fst] (vII a)/\LQ (vII a) (.tup [Aa v,Aa r]))) (BB (x.Op==22) (Ax c [1,1] (Jl e x 86 (x.Op==22))) (BB (x.Op==23) (Ax c [1,1] (Jl e x 86 (x.Op==23))) (Ax c [1,1] (Jl e x 86 (x.Op==24)))))):=by subst d;kernel_rfl
theorem Ajq (v r:Int)(e:D.Env)(x:D.Expr)(b:Bool){a}(c:a=(fc A5 Bi Tryz.f34 [] (VV.tup [Aa v,Aa r])).cut [1,1,0,1,0,1,1,1,1,1,1,1]):((fc A5 Bi Tryz.f34 [] (.tup [Aa v,Aa r])).cut [1,1,0,1,0,1,1,1,1,1,1,1]).goal (Jl e x 86 b) =
  (BB b (∃ (y:Int × Int),VC 56 [.agg (Ae e),.agg (Az x)] (vII y)/\LQ (vII y) (.tup [Aa v,Aa r])) (BB (x.Op==25) (Ax a [1,1] (Jl e x 95 (x.Op==25))) (BB (x.Op==26) (Ax a [1,1] (Jl e x 95 (x.Op==26))) (BB (x.Op==27) (Ax a [1,1] (Jl e x 95 (x.Op==27))) (BB (x.Op==28) (Ax a [1,1] (Jl e x 95 (x.Op==28))) (BB (x.Op==29) (Ax a [1,1] (Jl e x 95 (x.Op==29))) (Ax a [1,1] (Jl e x 95 (x.Op==30))))))))):=by subst c;kernel_rfl
theorem Ajp (v r:Int)(e:D.Env)(x:D.Expr)(b:Bool){c}(f:c=(fc A5 Bi Tryz.f34 [] (VV.tup [Aa v,Aa r])).cut [1,1,0,1,0,1,1,1,1,1,1,1,1,1]){d}(g:d=[1,1,1,1,1,1,1,1,1,1,1,1]){a}(h:a=[Aa v,Aa r]):((fc A5 Bi Tryz.f34 [] (.tup [Aa v,Aa r])).cut [1,1,0,1,0,1,1,1,1,1,1,1,1,1]).goal (Jl e x 95 b) =
  (BB b (∃ (y:Int × Int),VC 57 [.agg (Ae e),.agg (Az x)] (vII y)/\LQ (vII y) (.tup a)) (BB (x.Op==31) (LQ (.tup [Aa e.Pid,Aa 0]) (.tup a)) (BB (x.Op==32) (LQ (.tup [Aa e.S.Last,Aa 0]) (.tup a)) (BB (x.Op==33) (LQ (.tup [Aa (↑e.S.Procs.length:Int),Aa 0]) (.tup a)) (BB (x.Op==34) (Ax c [1,1,1,1,1,1,1,1,0,0,1,0] (W5 e (0:Int))) (BB (x.Op==35) (∃ (y:Int),VC 58 [Ac e.Timeout] (Aa y)/\LQ (.tup [Aa y,Aa 0]) (.tup a)) (BB (x.Op==36) (Ax c d (Jl e x 156 (x.Op==36))) (BB (x.Op==37) (Ax c d (Jl e x 156 (x.Op==37))) (Ax c d (Jl e x 156 (x.Op==38))))))))))):=by subst f g h;kernel_rfl
theorem Ajo (v r:Int)(e:D.Env)(x:D.Expr)(b:Bool):((fc A5 Bi Tryz.f34 [] (.tup [Aa v,Aa r])).cut [1,1,0,1,0,1,1,1,1,1,1,1,1,1,1,1,1,1,1,1,1,1,1,1,1,1]).goal (Jl e x 156 b) =
  (BB b (∃ (y:Int × Int),VC 59 [VV.agg (Ae e),VV.agg (Az x)] (vII y)/\LQ (vII y) (VV.tup [Aa v,Aa r])) (BB (x.Op==39) (LQ (VV.tup [Aa 0,Aa 42]) (VV.tup [Aa v,Aa r])) (Ax (fc A5 Bi Tryz.f34 [] (VV.tup [Aa v,Aa r])) [1,1,1] (Aow e x)))):=by kernel_rfl
theorem Ajn (v r:Int)(e:D.Env)(x:D.Expr):((fc A5 Bi Tryz.f34 [] (.tup [Aa v,Aa r])).cut [1,1,1]).goal (Aow e x) =
  (∃ (y:Int × Int),VC 34 [VV.agg (Ae e),Aa x.A] (vII y)/\BB (y.snd != 0) (LQ (VV.tup [Aa 0,Aa y.snd]) (VV.tup [Aa v,Aa r])) (∃ (a:Int × Int),VC 34 [VV.agg (Ae e),Aa x.B] (vII a)/\BB (a.snd != 0) (LQ (VV.tup [Aa 0,Aa a.snd]) (VV.tup [Aa v,Aa r])) (∃ (b:Int × Int),VC 60 [Aa x.Op,Aa y.fst,Aa a.fst] (vII b)/\LQ (vII b) (VV.tup [Aa v,Aa r])))):=by kernel_rfl
theorem XP (r a n:Int)(J:St->Prop):((fc A5 H8 Tryz.f102 [] (Aa r)).loop [1,0,0] J).goal (Nm a n) =
  (BB (bif decide (n > 0) then a != 0 else false) (∃ (y:Int),VC 99 [Aa (IntKind.i64.wrap ((2:Int)*a))] (Aa y)/\J (Nm y (IntKind.i64.wrap (n - (1:Int))))) (Ax (fc A5 H8 Tryz.f102 [] (Aa r)) [1,1,0,0] (Nm a n))):=by kernel_rfl
theorem XO (r a n:Int)(J:St->Prop):((fc A5 H8 Tryz.f102 [] (Aa r)).loop [1,1,0,0] J).goal (Nm a n) =
  (BB (bif bif decide (n<0) then a != 0 else false then a != (-1:Int) else false) (BB (decide (a<0)) ((2:Int)≠(0:Int)/\J (Nm (IntKind.i64.wrap ((IntKind.i64.wrap (a - (1:Int))).tdiv (2:Int))) (IntKind.i64.wrap (n+(1:Int))))) ((2:Int)≠(0:Int)/\J (Nm (IntKind.i64.wrap (a.tdiv (2:Int))) (IntKind.i64.wrap (n+(1:Int)))))) (LQ (Aa a) (Aa r))):=by kernel_rfl
theorem XW (b:Bool)(x l mt:List Int)(k:Int)(J:St->Prop):((fc A5 MT Tryz.f105 [] (Ac b)).loop [1,1,0,1,0] J).goal (AcU x l mt k) =
  (BB (decide (k<(↑mt.length:Int))) (inX k mt.length/\((true&&(mt.getD k.toNat 0==1)==true)=true->inX k x.length)/\((true&&(mt.getD k.toNat 0==1)==true)=true->inX k l.length)/\BB (bif mt.getD k.toNat 0==1 then x.getD k.toNat 0 != l.getD k.toNat 0 else false) (LQ (Ac false) (Ac b)) (J (AcU x l mt (IntKind.i64.wrap (k+(1:Int)))))) (LQ (Ac true) (Ac b))):=by kernel_rfl
theorem Abj (r:Int)(c:D.Chan)(l mt:List Int)(any:Bool)(k:Int)(J:St->Prop):((fc A5 Pc Tryz.f65 [] (Aa r)).loop [1,0,1,0] J).goal (AcV c l mt any k) =
  (BB (decide (k<(↑c.Queue.length:Int))) (inX k c.Queue.length/\∃ (y:Bool),VC 105 [Ad true (c.Queue.getD k.toNat []),Ad true l,Ad true mt] (Ac y)/\BB (bif y then bif k==0 then true else any else false) (LQ (Aa k) (Aa r)) (J (AcV c l mt any (IntKind.i64.wrap (k+(1:Int)))))) (LQ (Aa (-1)) (Aa r))):=by kernel_rfl
theorem Aa3 (p k r:Int)(e:D.Env)(v:D.Var)(who at' i:Int)(J:St->Prop){a}(c:a=v.Dims.getD i.toNat default){b}(d:b=[Aa p,Aa k,Aa r]):((fc A5 Hj Tryz.f54 [] (.tup [Aa p,Aa k,Aa r])).loop [1,1,1,1,1,1,1,0,1,0] J).goal (LY e v who at' i) =
  (BB (decide (i<(↑v.Dims.length:Int))) (inX i v.Dims.length/\∃ (y:Int × Int),VC 34 [.agg (Ae e),Aa a.I] (vII y)/\BB (y.snd != 0) (LQ (.tup [Aa 0,Aa 0,Aa y.snd]) (.tup b)) (((true&&decide (y.fst<0)==false)=true->inX i v.Dims.length)/\BB (bif decide (y.fst<0) then true else decide (y.fst>=a.Len)) (LQ (.tup [Aa 0,Aa 0,Aa 47]) (.tup b)) (inX i v.Dims.length/\J (LY e v who (IntKind.i64.wrap (at'+IntKind.i64.wrap (y.fst*a.Stride))) (IntKind.i64.wrap (i+(1:Int))))))) (LQ (.tup [Aa who,Aa at',Aa 0]) (.tup b))):=by subst c d;kernel_rfl
theorem XK (r:List Int × Int)(e:D.Env)(args mt out:List Int)(k:Int)(J:St->Prop){a}(b:a=[(1,Ad true args),(2,Ad true mt),(3,VV.bp 0 0),(8,VV.ow 1 0 (out.length+1)),(9,Aa (IntKind.i64.wrap (k+(1:Int))))]):((fc A5 MQ Tryz.f64 [] (.tup [Ad true r.1,Aa r.2])).loop [1,1,0,1,0] J).goal (Ail e args mt out k) =
  (BB (decide (k<(↑args.length:Int))) (inX k mt.length/\BB (mt.getD k.toNat 0==1) (inX k args.length/\∃ (y:Int × Int),VC 34 [.agg (Ae e),Aa (args.getD k.toNat 0)] (vII y)/\BB (y.snd != 0) (LQ (.tup [.nl,Aa y.snd]) (.tup [Ad true r.fst,Aa r.snd])) ((out.length+1)*8<=140737488355328/\J (Ay a [.box (Ae e),.arr true 0 (out.length+1) 1 fun(i:Nat)=>bif i.blt out.length then[Aa (out.getD i 0)] else(fun(i:Nat)=>List.take 1 (List.drop (i*1) [Aa y.fst])) (i - out.length)]))) ((out.length+1)*8<=140737488355328/\J (Ay a [.box (Ae e),.arr true 0 (out.length+1) 1 fun(i:Nat)=>bif i.blt out.length then[Aa (out.getD i 0)] else(fun(i:Nat)=>List.take 1 (List.drop (i*1) [Aa 0])) (i - out.length)]))) (LQ (.tup [Ad true out,Aa 0]) (.tup [Ad true r.fst,Aa r.snd]))):=by subst b;kernel_rfl
theorem Abc (v r:Int)(x:D.Expr)(at':Int)(some:Bool)(k:Int)(J:St->Prop):((fc A5 Pb Tryz.f59 [] (.tup [Aa v,Aa r])).loop [1,1,1,1,1,1,1,1,0,1,0] J).goal (W0 x at' some k) =
  (BB (decide (k<(↑x.Args.length:Int))) (((true&&some==false)=true->inX k x.Args.length)/\J (W0 x at' (bif some then true else x.Args.getD k.toNat 0==at') (IntKind.i64.wrap (k+(1:Int))))) (∃ (y:Int),VC 58 [Ac some] (Aa y)/\LQ (VV.tup [Aa y,Aa 0]) (VV.tup [Aa v,Aa r]))):=by kernel_rfl
theorem Abk (v r:Int)(e:D.Env)(k:Int)(J:St->Prop){z1}(a:z1=e.S.Procs.getD k.toNat default):((fc A5 Bi Tryz.f34 [] (.tup [Aa v,Aa r])).loop [1,1,0,1,0,1,1,1,1,1,1,1,1,1,1,1,1,1,1,1,1,1,0,0,1,0] J).goal (W5 e k) =
  (BB (decide (k<(↑e.S.Procs.length:Int))) (inX k e.S.Procs.length/\inX z1.Type_ e.M.Procs.length/\inX z1.Loc (e.M.Procs.getD z1.Type_.toNat default).Locs.length/\BB ((e.M.Procs.getD z1.Type_.toNat default).Locs.getD z1.Loc.toNat default).Progress (LQ (.tup [Aa 0,Aa 0]) (.tup [Aa v,Aa r])) (J (W5 e (IntKind.i64.wrap (k+(1:Int)))))) (LQ (.tup [Aa 1,Aa 0]) (.tup [Aa v,Aa r]))):=by subst a;kernel_rfl
theorem XR (r:List Int)(l:D.Loc)(out:List Int)(k:Int)(J:St->Prop){a}(b:a=(out.length+1)):((fc A5 MR Tryz.f19 [] (Ad true r)).loop [1,1,1,0,1,0] J).goal (Aim l out k) =
  (BB (decide (k<(↑l.Esc.length:Int))) (a*8<=140737488355328/\J (Ay [(3,.bp 0 0),(4,.ow 1 0 a),(5,Aa (IntKind.i64.wrap (k+(1:Int))))] [.box (A8 l),.arr true 0 a 1 fun(i:Nat)=>bif i.blt out.length then[Aa (out.getD i 0)] else(fun(i:Nat)=>List.take 1 (List.drop (i*1) [Aa k])) (i - out.length)])) (a*8<=140737488355328/\LQ (.sl true a 1 fun(i:Nat)=>bif i.blt out.length then[Aa (out.getD i 0)] else(fun(i:Nat)=>List.take 1 (List.drop (i*1) [Aa (-1)])) (i - out.length)) (Ad true r))):=by subst b;kernel_rfl
theorem Age (r:List Int × Int)(e:D.Env)(l out:List Int)(k:Int)(J:St->Prop):((fc A5 SG Tryz.f142 [] (.tup [Ad true r.1,Aa r.2])).loop [1,1,0,1,0] J).goal (AcW e l out k) =
  (BB (decide (k<(↑l.length:Int))) (inX k l.length/\∃ (y:Int × Int),VC 34 [VV.agg (Ae e),Aa (l.getD k.toNat 0)] (vII y)/\BB (y.snd != 0) (LQ (VV.tup [VV.nl,Aa y.snd]) (VV.tup [Ad true r.fst,Aa r.snd])) ((out.length+1)*8<=140737488355328/\J (Ay [(1,Ad true l),(2,VV.bp 0 0),(6,VV.ow 1 0 (out.length+1)),(7,Aa (IntKind.i64.wrap (k+(1:Int))))] [Ob.box (Ae e),Ob.arr true 0 (out.length+1) 1 fun(i:Nat)=>bif i.blt out.length then[Aa (out.getD i 0)] else(fun(i:Nat)=>List.take 1 (List.drop (i*1) [Aa y.fst])) (i - out.length)]))) (LQ (VV.tup [Ad true out,Aa 0]) (VV.tup [Ad true r.fst,Aa r.snd]))):=by kernel_rfl
theorem Af6 (r:List Int × Int)(f:List D.Type)(l out:List Int)(k:Int)(J:St->Prop):((fc A5 SF Tryz.f103 [] (.tup [Ad true r.1,Aa r.2])).loop [1,1,1,1,1,0,1,0] J).goal (Ain f l out k) =
  (BB (decide (k<(↑l.length:Int))) (inX k f.length/\inX k l.length/\∃ (y:Int),VC 141 [VV.agg (BM (f.getD k.toNat default)),Aa (l.getD k.toNat 0)] (Aa y)/\(out.length+1)*8<=140737488355328/\J (Ay [(8,Ad true l),(10,VV.ow 0 0 (out.length+1)),(11,AC true f),(12,Aa (IntKind.i64.wrap (k+(1:Int))))] [Ob.arr true 0 (out.length+1) 1 fun(i:Nat)=>bif i.blt out.length then[Aa (out.getD i 0)] else(fun(i:Nat)=>List.take 1 (List.drop (i*1) [Aa y])) (i - out.length)])) (LQ (VV.tup [Ad true out,Aa 0]) (VV.tup [Ad true r.fst,Aa r.snd]))):=by kernel_rfl
theorem Aa9 (r:List Pn)(e:D.Env)(c:Int)(m l:List Int)(k:Int)(J:St->Prop):((fc A5 I6 Tryz.f143 [] (Bl true r)).loop [1,1,1,1,0,1,0] J).goal (AcS e c m l k) =
  (BB (decide (k<(↑l.length:Int))) (inX k l.length/\∃ (y:List D.Trans),VC 21 [VV.agg (Ae e),Aa (l.getD k.toNat 0)] (Ap true y)/\Ax ((fc A5 I6 Tryz.f143 [] (Bl true r)).loop [1,1,1,1,0,1,0] J) [1,0,0,1,1,0,1,0] (Ay [(1,Aa c),(2,Ad true m),(3,VV.bp 0 0),(9,Ad true l),(10,Aa k),(11,Ap true y),(12,VV.nl),(13,Aa 0)] [Ob.box (Ae e)])) (LQ VV.nl (Bl true r))):=by kernel_rfl
theorem Aa8 (r:List Pn)(e:D.Env)(c:Int)(m l:List Int)(k:Int)(t:List D.Trans)(out:List Pn)(j:Int)(J J2:St->Prop):(((fc A5 I6 Tryz.f143 [] (Bl true r)).loop [1,1,1,1,0,1,0] J).loop [1,0,0,1,1,0,1,0] J2).goal (WZ e c m l k t out j) =
  (BB (decide (j<(↑t.length:Int))) (inX j t.length/\∃ (y:Bool),VC 180 [VV.agg (Ae e),VV.agg (Au (t.getD j.toNat default).S),Aa c,Ad true m] (Ac y)/\BB y (inX k l.length/\(out.length+1)*24<=140737488355328/\J2 (Ay [(1,Aa c),(2,Ad true m),(3,VV.bp 0 0),(9,Ad true l),(10,Aa k),(11,Ap true t),(12,VV.ow 1 0 (out.length+1)),(13,Aa (IntKind.i64.wrap (j+(1:Int))))] [Ob.box (Ae e),Ob.arr true 0 (out.length+1) 3 fun(i:Nat)=>bif i.blt out.length then GP (out.getD i default) else(fun(i:Nat)=>List.take 3 (List.drop (i*3) [Aa e.Pid,Aa (l.getD k.toNat 0),Aa j])) (i - out.length)])) (J2 (WZ e c m l k t out (IntKind.i64.wrap (j+(1:Int)))))) (∃ (y:Bool),VC 181 [VV.agg (Ae e),Ap true t,Ac true] (Ac y)/\BB (bif decide ((↑out.length:Int) > 0) then true else y) (LQ (Bl true out) (Bl true r)) (J (AcS e c m l (IntKind.i64.wrap (k+(1:Int))))))):=by kernel_rfl
theorem XV (r:List Pn)(e:D.Env)(c:Int)(m:List Int)(out:List Pn)(k:Int)(J:St->Prop):((fc A5 MS Tryz.f104 [] (Bl true r)).loop [1,1,0,1,0] J).goal (AcT e c m out k) =
  (BB (decide (k<(↑e.S.Procs.length:Int))) (BB (k != e.Pid) (∃ (y:D.Env),VC 144 [VV.agg (Ae e),Aa k] (VV.agg (Ae y))/\∃ (a:List Pn),VC 143 [VV.agg (Ae y),Aa c,Ad true m] (Bl true a)/\(out.length+a.length)*24<=140737488355328/\(∀ (i:Nat),i<a.length->(Dj a i).all VV.mem1=true)/\J (Ay [(1,Aa c),(2,Ad true m),(3,VV.bp 0 0),(7,VV.ow 1 0 (out.length+a.length)),(8,Aa (IntKind.i64.wrap (k+(1:Int))))] [Ob.box (Ae e),Ob.arr true 0 (out.length+a.length) 3 fun(i:Nat)=>bif i.blt out.length then Dj out i else Dj a (i - out.length)])) (J (AcT e c m out (IntKind.i64.wrap (k+(1:Int)))))) (LQ (Bl true out) (Bl true r))):=by kernel_rfl
theorem Aa1 (b:Bool)(e:D.Env)(ws:List D.Trans)(self:Bool)(k:Int)(J:St->Prop):((fc A5 Pa Tryz.f181 [] (Ac b)).loop [1,0,1,0] J).goal (WY e ws self k) =
  (BB (decide (k<(↑ws.length:Int))) (inX k ws.length/\∃ (y:Ab),VC 35 [VV.agg (Ae e),VV.agg (Au (ws.getD k.toNat default).S),Ac self] (VV.agg (AR y))/\((true&&y.is==false)=true->inX k ws.length)/\BB (bif y.is then true else(ws.getD k.toNat default).S.Kind==7) (LQ (Ac true) (Ac b)) (J (WY e ws self (IntKind.i64.wrap (k+(1:Int)))))) (LQ (Ac false) (Ac b))):=by kernel_rfl
theorem Abo (r:List Ab)(e:D.Env)(ws:List D.Trans)(out:List Ab)(any:Bool)(k:Int)(J:St->Prop):((fc A5 I7 Tryz.f20 [] (Bo true r)).loop [1,1,1,0,1,0] J).goal (Aio e ws out any k) =
  (BB (decide (k<(↑ws.length:Int))) (inX k ws.length/\∃ (y:Ab),VC 35 [VV.agg (Ae e),VV.agg (Au (ws.getD k.toNat default).S),Ac false] (VV.agg (AR y))/\(out.length+1)*40<=140737488355328/\J (Ay [(1,Ap true ws),(2,VV.bp 0 0),(5,VV.ow 1 0 (out.length+1)),(6,Ac (bif any then true else y.is)),(7,Aa (IntKind.i64.wrap (k+(1:Int))))] [Ob.box (Ae e),Ob.arr true 0 (out.length+1) 3 fun(i:Nat)=>bif i.blt out.length then AR (out.getD i default) else(fun(i:Nat)=>List.take 3 (List.drop (i*3) (AR y))) (i - out.length)])) (Ax (fc A5 I7 Tryz.f20 [] (Bo true r)) [1,1,1,1,0,1,0] (Tv ws out any (0:Int)))):=by kernel_rfl
theorem Abn (r:List Ab)(ws:List D.Trans)(out:List Ab)(any:Bool)(k:Int)(J:St->Prop):((fc A5 I7 Tryz.f20 [] (Bo true r)).loop [1,1,1,1,0,1,0] J).goal (Tv ws out any k) =
  (BB (decide (k<(↑ws.length:Int))) (inX k ws.length/\BB ((ws.getD k.toNat default).S.Kind==7) (inX k out.length/\J (Ay [(1,Ap true ws),(5,VV.ow 0 0 out.length),(6,Ac any),(9,Aa (IntKind.i64.wrap (k+(1:Int))))] [Ob.arr true 0 out.length 3 fun(j:Nat)=>bif j.beq k.toNat then[Ac !any,Aa (out.getD k.toNat default).err,Bl true (out.getD k.toNat default).wth] else AR (out.getD j default)])) (J (Tv ws out any (IntKind.i64.wrap (k+(1:Int)))))) (LQ (Bo true out) (Bo true r))):=by kernel_rfl
theorem RB (r:List Wy)(e:D.Env)(op:Bool)(l:List Int)(out:List Wy)(k:Int)(J:St->Prop):((fc A5 El Tryz.f8 [] (AW true r)).loop [1,1,1,1,1,1,0,1,0] J).goal (Tu e op l out k) =
  (BB (bif bif decide (k<(↑l.length:Int)) then op else false then(↑out.length:Int)==0 else false) (inX k l.length/\∃ (y:List D.Trans),VC 21 [VV.agg (Ae e),Aa (l.getD k.toNat 0)] (Ap true y)/\∃ (a:List Ab),VC 20 [VV.agg (Ae e),Ap true y] (Bo true a)/\Ax ((fc A5 El Tryz.f8 [] (AW true r)).loop [1,1,1,1,1,1,0,1,0] J) [1,0,0,1,1,0] (Pt e op l out k a (0:Int))) (LQ (AW true out) (AW true r))):=by kernel_rfl
theorem AaW (r:List Wy)(e:D.Env)(op:Bool)(l:List Int)(out:List Wy)(k:Int)(c:List Ab)(j:Int)(J J2:St->Prop){a}(d:a=[Aa (l.getD k.toNat 0),Aa j,Aa (-1),Aa (-1),Aa (-1),Aa (c.getD j.toNat default).err]){f}(g:f=((fc A5 El Tryz.f8 [] (AW true r)).loop [1,1,1,1,1,1,0,1,0] J).loop [1,0,0,1,1,0] J2){b}(h:b=c.getD j.toNat default):(((fc A5 El Tryz.f8 [] (AW true r)).loop [1,1,1,1,1,1,0,1,0] J).loop [1,0,0,1,1,0] J2).goal (Pt e op l out k c j) =
  (BB (decide (j<(↑c.length:Int))) (inX k l.length/\inX j c.length/\inX j c.length/\((true&&b.is==true)=true->inX j c.length)/\BB (bif b.is then(↑b.wth.length:Int)==0 else false) ((out.length+1)*48<=140737488355328/\Ax f [1,0,0,1,1,1,0] (Ay [(1,.bp 0 0),(3,Ac op),(5,Ad true l),(6,.ow 1 0 (out.length+1)),(7,Aa k),(8,Bo true c),(9,Aa j),(10,.bp 2 0),(11,Aa 0)] [.box (Ae e),.arr true 0 (out.length+1) 6 fun(i:Nat)=>bif i.blt out.length then AY (out.getD i default) else(fun(i:Nat)=>List.take 6 (List.drop (i*6) a)) (i - out.length),.box a])) (Ax f [1,0,0,1,1,1,0] (Ay [(1,.bp 0 0),(3,Ac op),(5,Ad true l),(6,.ow 1 0 out.length),(7,Aa k),(8,Bo true c),(9,Aa j),(10,.bp 2 0),(11,Aa 0)] [.box (Ae e),.arr true 0 out.length 6 (ER out),.box a]))) (J (Tu e op l out (IntKind.i64.wrap (k+(1:Int)))))):=by subst d g h;kernel_rfl
theorem AaV (r:List Wy)(e:D.Env)(op:Bool)(l:List Int)(out:List Wy)(k:Int)(c:List Ab)(j:Int)(w:Wy)(h:Int)(J J2 J3:St->Prop){z1}(b:z1=(c.getD j.toNat default).wth.getD h.toNat default){d}(f:d=[Aa w.Esc,Aa w.Way,Aa z1.pid,Aa z1.esc,Aa z1.way,Aa w.Err]){a}(g:a=c.getD j.toNat default):((((fc A5 El Tryz.f8 [] (AW true r)).loop [1,1,1,1,1,1,0,1,0] J).loop [1,0,0,1,1,0] J2).loop [1,0,0,1,1,1,0] J3).goal (WX e op l out k c j w h) =
  (inX j c.length/\BB (decide (h<(↑a.wth.length:Int))) (inX j c.length/\inX h a.wth.length/\inX j c.length/\inX h a.wth.length/\inX j c.length/\inX h a.wth.length/\(out.length+1)*48<=140737488355328/\J3 (Ay [(1,.bp 0 0),(3,Ac op),(5,Ad true l),(6,.ow 1 0 (out.length+1)),(7,Aa k),(8,Bo true c),(9,Aa j),(10,.bp 2 0),(11,Aa (IntKind.i64.wrap (h+(1:Int))))] [.box (Ae e),.arr true 0 (out.length+1) 6 fun(i:Nat)=>bif i.blt out.length then AY (out.getD i default) else(fun(i:Nat)=>List.take 6 (List.drop (i*6) d)) (i - out.length),.box d])) (J2 (Pt e op l out k c (IntKind.i64.wrap (j+(1:Int)))))):=by subst b f g;kernel_rfl
theorem Abr (r:List Bool)(m:D.Model)(s:D.State)(out:List Bool)(k:Int)(J:St->Prop):((fc A5 Pd Tryz.f7 [] (A6 true r)).loop [1,1,0,1,0] J).goal (Aip m s out k) =
  (BB (decide (k<(↑s.Procs.length:Int))) (∃ (y:List Wy),VC 8 [VV.agg [AC true m.Globals,Ad true m.Init,Bn true m.Shapes,Ad true m.Chans,BE true m.Procs,Aa m.Claim,BL true m.Exprs,Ad true s.Globals,A0 true s.Chans,AI true s.Procs,Aa s.Last,Aa s.Alone,Aa s.Claim,Aa k,Ac false,VV.nl]] (AW true y)/\(out.length+1)*1<=140737488355328/\J (Ay [(2,VV.bp 0 0),(3,VV.bp 1 0),(5,VV.ow 2 0 (out.length+1)),(6,Aa (IntKind.i64.wrap (k+(1:Int))))] [Ob.box (Af m),Ob.box (Ah s),Ob.arr true 0 (out.length+1) 1 fun(i:Nat)=>bif i.blt out.length then[Ac (out.getD i false)] else(fun(i:Nat)=>List.take 1 (List.drop (i*1) [Ac (decide ((↑y.length:Int) > 0))])) (i - out.length)])) (LQ (A6 true out) (A6 true r))):=by kernel_rfl
theorem XJ (b:Bool)(m:D.Model)(s:D.State)(up:Bool)(l:List Nx)(able:List Bool)(some:Bool)(k:Int)(J:St->Prop):((fc A5 EF Tryz.f3 [] (Ac b)).loop [1,1,1,1,1,1,1,0,1,0] J).goal (Ri m s up l able some k) =
  (BB (decide (k<(↑s.Procs.length:Int))) (∃ (y:List Wy),VC 8 [VV.agg [AC true m.Globals,Ad true m.Init,Bn true m.Shapes,Ad true m.Chans,BE true m.Procs,Aa m.Claim,BL true m.Exprs,Ad true s.Globals,A0 true s.Chans,AI true s.Procs,Aa s.Last,Aa s.Alone,Aa s.Claim,Aa k,Ac false,A6 true able]] (AW true y)/\BB (bif decide ((↑y.length:Int) > 0) then k==s.Alone else false) (Ax ((fc A5 EF Tryz.f3 [] (Ac b)).loop [1,1,1,1,1,1,1,0,1,0] J) [1,0,0,1,1,1,0,1,0] (W4 m s up l able (bif some then true else decide ((↑y.length:Int) > 0)) k (0:Int))) (J (Ri m s up l able (bif some then true else decide ((↑y.length:Int) > 0)) (IntKind.i64.wrap (k+(1:Int)))))) (BB (bif some then(↑l.length:Int)==0 else false) (LQ (Ac false) (Ac b)) (Ax (fc A5 EF Tryz.f3 [] (Ac b)) [1,1,1,1,1,1,1,1,1,0,1,0] (Pu m s up l (0:Int))))):=by kernel_rfl
theorem XI (b:Bool)(m:D.Model)(s:D.State)(up:Bool)(l:List Nx)(able:List Bool)(some:Bool)(k j:Int)(J J2:St->Prop):(((fc A5 EF Tryz.f3 [] (Ac b)).loop [1,1,1,1,1,1,1,0,1,0] J).loop [1,0,0,1,1,1,0,1,0] J2).goal (W4 m s up l able some k j) =
  (BB (decide (j<(↑l.length:Int))) (inX j l.length/\BB ((l.getD j.toNat default).Move.Pid != k) (LQ (Ac false) (Ac b)) (J2 (W4 m s up l able some k (IntKind.i64.wrap (j+(1:Int)))))) (J (Ri m s up l able some (IntKind.i64.wrap (k+(1:Int)))))):=by kernel_rfl
theorem XH (b:Bool)(m:D.Model)(s:D.State)(up:Bool)(l:List Nx)(k:Int)(J:St->Prop){z1}(d:z1=(true&&(bif bif bif decide ((l.getD k.toNat default).Move.Pid<0) then true else decide ((l.getD k.toNat default).Move.Pid>=(↑s.Procs.length:Int)) then true else(l.getD k.toNat default).Move.Claim != (-1:Int) then true else bif decide (k > 0) then decide ((l.getD k.toNat default).Move.Pid<(l.getD (IntKind.i64.wrap (k - (1:Int))).toNat default).Move.Pid) else false)==false)){a}(e:a=l.getD k.toNat default){f}(g:f=J (Pu m s up l (IntKind.i64.wrap (k+(1:Int))))){c}(h:c=LQ (Ac false) (Ac b)):((fc A5 EF Tryz.f3 [] (Ac b)).loop [1,1,1,1,1,1,1,1,1,0,1,0] J).goal (Pu m s up l k) =
  (BB (decide (k<(↑l.length:Int))) (inX k l.length/\((true&&(bif bif decide (a.Move.Pid<0) then true else decide (a.Move.Pid>=(↑s.Procs.length:Int)) then true else a.Move.Claim != (-1:Int))==false&&decide (k > 0)==true)=true->inX (IntKind.i64.wrap (k - (1:Int))) l.length)/\(z1=true->inX a.Move.Pid s.Procs.length)/\(z1=true->inX (0:Int) l.length)/\(z1=true->inX (l.getD (Int.toNat (0:Int)) default).Move.Pid s.Procs.length)/\BB (bif bif bif bif decide (a.Move.Pid<0) then true else decide (a.Move.Pid>=(↑s.Procs.length:Int)) then true else a.Move.Claim != (-1:Int) then true else bif decide (k > 0) then decide (a.Move.Pid<(l.getD (IntKind.i64.wrap (k - (1:Int))).toNat default).Move.Pid) else false then true else(s.Procs.getD a.Move.Pid.toNat default).Prio != (s.Procs.getD (l.getD (Int.toNat (0:Int)) default).Move.Pid.toNat default).Prio) c (inX k l.length/\BB (a.Err==0) (inX k l.length/\∃ (y:Bool),VC 9 [.agg (Af m),.agg (Ah a.State)] (Ac y)/\((true&&(!y)==false)=true->inX k l.length)/\BB (bif !y then true else a.State.Claim != s.Claim) c f) (inX k l.length/\((true&&((↑a.State.Procs.length:Int) != 0)==false)=true->inX k l.length)/\BB (bif (↑a.State.Procs.length:Int) != 0 then true else !a.Text.toList==(⟨#[]⟩:ByteArray).toList) c f))) (LQ (Ac up) (Ac b))):=by subst d e g h;kernel_rfl
end Go.Proofs.YtnhamlpcpngafaaGreatDoor
namespace Go.Proofs.YtnhamlpcpngafaaGreatDoor
open Go.RowKit
theorem Hy {a b c d:Int}(h1:a=c)(h2:b=d):leO [] []/\VV.le (.tup [.sc (.int .i64 a),.sc (.int .i64 b)]) (.tup [.sc (.int .i64 c),.sc (.int .i64 d)]):=⟨trivial,AqV (by rw[h1,h2])⟩
theorem AcC (n:Int):wrap32 (IntKind.i64.wrap n)=wrap32 n:=by rw[IntKind.wrap_i64];unfold wrap32;omega
theorem XQ (t:D.Type):Aj Tryz.prog 179 [] [.agg (BM t)] [] (Ac (decide (1<=t.Bits)&&decide (t.Bits<=32))) :=
 Aq Tryz.func179 (Aa6 _ t) (Aw (Bh _ _))
theorem TO (t:D.Type)(v:Int):Aj Tryz.prog 141 [] [.agg (BM t),Aa v] [] (Aa (DL t.Bits t.Signed v)):=by
 refine Aq Tryz.func141 (Ajm _ t v rfl rfl rfl rfl) ⟨_,XQ t,fun h=>BK ?_,fun h=>?_⟩
 ·exact(AdI _ _ _ (by simp at h;omega)).symm
 have a:1<=t.Bits/\t.Bits<=32:=by simpa using h
 have hp:=AbA _ a.1 a.2;have i:IntKind.u64.wrap t.Bits=t.Bits:=by unfold IntKind.wrap;simp[IntKind.bits];omega
 have j:IntKind.i64.wrap ((1:Int)*2 ^ min (IntKind.u64.wrap t.Bits).toNat IntKind.i64.bits)=2 ^ t.Bits.toNat:=by
  rw[i,Nat.min_eq_left (by show t.Bits.toNat<=64;omega),Int.one_mul,AK (by omega) (by omega)]
 have e:=Ag2 t.Bits v;have f:=Ag3 t.Bits v;have g:=Ag1 t.Bits v;rw[j];generalize (2:Int) ^ t.Bits.toNat=q at hp e f g ⊢;have k:=Aot v q (by omega);have t2:=Aou v q (by omega);have l:=Aq5 v (b:=q) (by omega);have m:=Int.emod_lt_of_pos v (b:=q) (by omega);have hd:IntKind.i64.wrap (q.tdiv 2)=q / 2:=by rw[Int.tdiv_eq_ediv_of_nonneg (by omega),AK (by omega) (by omega)]
 rw[hd];have d:∀ x,x=v % q->((bif t.Signed then decide (x>=q / 2) else false)=true->x - q=DL t.Bits t.Signed v)/\((bif t.Signed then decide (x>=q / 2) else false)=false->x=DL t.Bits t.Signed v):=by
  intro x c;cases hs:t.Signed with
  | true=>exact⟨fun h=>e x a.1 a.2 c (ApK h),fun h=>f x a.1 a.2 c (by have:=ApY h;omega)⟩
  | false=>exact⟨fun h=>(by cases h),fun _=>g x a.1 a.2 c⟩
 refine⟨by omega,by omega,fun h1=>⟨fun _=>by decide,?_⟩,fun h1=>⟨fun _=>by decide,?_⟩⟩
 ·have c:=k (ApK h1);rw[AK (by omega) (by omega)];obtain⟨k1,k2⟩:=d _ c;exact⟨fun h=>BK (by rw[AK (by omega) (by omega)];exact k1 h),fun h=>BK (k2 h)⟩
 ·have c:=t2 (by have:=ApY h1;omega);obtain⟨k1,k2⟩:=d _ c;exact⟨fun h=>BK (by rw[AK (by omega) (by omega)];exact k1 h),fun h=>BK (k2 h)⟩
theorem EJ (v:Int):Aj Tryz.prog 99 [] [Aa v] [] (Aa (wrap32 v)) :=
 Aq Tryz.func99 (Ajl _ v) ⟨_,TO ⟨32,true⟩ v,BK (Aki v)⟩
theorem RE (c:Bool):Aj Tryz.prog 100 [] [Ac c] [] (Aa (Io c)) :=
 Aq Tryz.func100 (Af3 _ c) ⟨fun h=>BK (by rw[h]<;>rfl),fun h=>BK (by rw[h]<;>rfl)⟩
theorem Alr {a n:Int}(h:0<n):C9 (wrap32 (2*a)) (n - 1)=C9 a n:=by
 unfold C9;rw[Aqc (by omega),Aqc (by omega),← Ac7,← Ac7,AcA,show n.toNat=(n - 1).toNat+1 by omega,Int.pow_succ]
 congr 1
 grind
theorem AiL {a n:Int}(b:-2147483648<=a/\a<=2147483647)(h:n<0):C9 (a / 2) (n+1)=C9 a n:=by
 have e:C9 a n=a / 2 ^ (-n).toNat:=by unfold C9;rw[ApT (by omega),← Ac5 _ _ b.1 b.2]
 rw[e]
 by_cases h0:n+1=0
 ·rw[h0,show(-n).toNat=1 by omega];unfold C9;rw[Aqc (by omega)];exact(congrArg wrap32 (Int.mul_one _)).trans (KV (by omega) (by omega))
 ·have:=Xb a (-(n+1)).toNat;unfold C9;rw[ApT (by omega),← Ac5 _ _ (by omega) (by omega),show(-n).toNat=(-(n+1)).toNat+1 by omega,← this,Int.ediv_ediv_of_nonneg (by omega),Int.ediv_ediv_of_nonneg (Int.le_of_lt (Int.pow_pos (by decide))),Int.mul_comm]
theorem Alq {a n:Int}(b:-2147483648<=a/\a<=2147483647)(h:n=0∨a=0∨a=-1/\n<0):C9 a n=a:=by
 unfold C9;rcases h with rfl | rfl | ⟨rfl,h⟩
 ·exact(congrArg wrap32 (Int.mul_one _)).trans (KV b.1 b.2)
 ·split
  ·rw[Int.zero_mul];exact KV (by decide) (by decide)
  ·exact Int.zero_ediv _
 ·rw[ApT (by omega)];exact Int.ediv_eq_neg_one_of_neg_of_le (by decide) (by have:=Int.pow_pos (n:=2) (m:=min (-n).toNat 32) (by decide);omega)
theorem PB {a n:Int}(d:-2147483648<=a/\a<=2147483647)(e:-2147483648<=n/\n<=2147483648):Aj Tryz.prog 102 [] [Aa a,Aa n] [] (Aa (C9 a n)):=by
 generalize b:C9 a n=r;refine Aq Tryz.func102 (Aa4 r a n) ?_;refine Ar (fun g st=>∃ a n:Int,g=n.toNat/\(-2147483648<=a/\a<=2147483647)/\(-2147483648<=n/\n<=2147483648)/\C9 a n=r/\st=Nm a n) ⟨_,Up.of ⟨a,n,rfl,d,e,b,rfl⟩⟩ ?_;rintro g st ⟨a,n,rfl,d,e,b,rfl⟩;refine ApI (XP r a n _) ⟨fun h=>?_,fun h=>?_⟩
 ·have c:0<n/\a≠0:=by simpa using h
  refine⟨_,EJ _,(n - 1).toNat,by omega,Up.of ⟨_,n - 1,rfl,Bu _,by omega,?_,by rw[AK (n:=n - 1) (by omega) (by omega)]⟩⟩;rw[AK (by omega) (by omega),Alr c.1,b]
 have c:n<=0∨a=0:=by
  rcases Int.lt_or_le 0 n with h0 | h0
  ·simp[h0]at h;exact .inr h
  ·exact .inl h0
 refine Ar (fun g st=>∃ a n:Int,g=(-n).toNat/\(-2147483648<=a/\a<=2147483647)/\(-2147483648<=n/\n<=2147483648)/\(n<=0∨a=0)/\C9 a n=r/\st=Nm a n) ⟨_,Up.of ⟨a,n,rfl,d,e,c,b,rfl⟩⟩ ?_;clear e d b c h;rintro g st ⟨a,n,rfl,d,e,c,b,rfl⟩;refine ApI (XO r a n _) ⟨fun h=>?_,fun h=>BK ?_⟩
 ·have k:n<0/\a≠0/\a≠-1:=by simpa[Bh,and_assoc] using h
  have hs:=AiL d k.1;have f:IntKind.i64.wrap (n+1)=n+1:=AK (by omega) (by omega);refine⟨fun h1=>⟨by decide,(-(n+1)).toNat,by omega,Up.of ⟨a / 2,n+1,rfl,by omega,by omega,.inl (by omega),hs.trans b,?_⟩⟩,fun h1=>⟨by decide,(-(n+1)).toNat,by omega,Up.of ⟨a / 2,n+1,rfl,by omega,by omega,.inl (by omega),hs.trans b,?_⟩⟩⟩
  ·rw[f,AK (n:=a - 1) (by omega) (by omega),Aj5 a (ApK h1),AK (by omega) (by omega)]
  ·have:=ApY h1;rw[f,Int.tdiv_eq_ediv_of_nonneg (by omega),AK (by omega) (by omega)]
 ·rw[← b,Alq d]
  by_cases h0:n<0
  ·simp[h0]at h
   by_cases h1:a=0
   ·exact .inr (.inl h1)
   ·exact .inr (.inr ⟨h h1,h0⟩)
  ·rcases c with c | c
   ·exact .inl (by omega)
   ·exact .inr (.inl c)
theorem AfT (op a b:Int):Aj Tryz.prog 60 [] [Aa op,Aa a,Aa b] [] (vII (D6 op a b,FX op b)):=by
  have c:=Bu a;have d:=Bu b
  by_cases e:6<=op/\op<=21
  · rcases(by omega:op=6∨op=7∨op=8∨op=9∨op=10∨op=11∨op=12∨op=13∨op=14∨op=15∨op=16∨op=17∨op=18∨op=19∨op=20∨op=21) with rfl | rfl | rfl | rfl | rfl | rfl | rfl | rfl | rfl | rfl | rfl | rfl | rfl | rfl | rfl | rfl
    all_goals
      refine Aq Tryz.func60 (XL _ _ _ a b rfl rfl rfl rfl) ⟨_,EJ a,_,EJ b,fun h=>?_,fun h=>?_⟩
      · first
          | (exfalso;simp at h;done)
          | (have h0:wrap32 b=0:=by simpa using h
             exact Hy (by simp[D6,h0]) (by simp[FX,h0]))
      repeat (first
        | refine⟨fun h=>absurd h (by decide),fun _=>?_⟩
        | refine⟨fun _=>?_,fun h=>absurd h (by decide)⟩)
      first
        | exact⟨_,EJ _,Hy (AcC _) rfl⟩
        | exact⟨_,RE _,Hy rfl rfl⟩
        | exact⟨_,PB c (by omega),Hy rfl rfl⟩
        | exact⟨_,PB c (by rw[AK (by omega) (by omega)];omega),Hy (by rw[AK (by omega) (by omega),Int.zero_sub]<;>rfl) rfl⟩
        | (have h0:wrap32 b≠0:=by simpa using h
           first
             | exact⟨h0,_,EJ _,Hy (by simp only[D6,ApT h0];exact AcC _) (by simp[FX,h0])⟩
             | exact⟨h0,Hy (by simp[D6,h0]) (by simp[FX,h0])⟩)
        | exact Hy (OZ .and (by simp) _ _ c d) rfl
        | exact Hy (OZ .or (by simp) _ _ c d) rfl
        | exact Hy (OZ .xor (by simp) _ _ c d) rfl
  · have h1:D6 op a b=0:=by unfold D6;repeat (rw[ApT (by omega)])
    have h2:FX op b=42:=by unfold FX;rw[ApT (by omega),ApT (by omega)]
    have ne:∀ {k:Int},6<=k->k<=21->(op==k)=true->False:=fun h1 h2 h=>by simp at h;omega
    refine Aq Tryz.func60 (XL _ _ op a b rfl rfl rfl rfl) ⟨_,EJ a,_,EJ b,fun h=>?_,fun _=>?_⟩
    · simp at h;omega
    repeat refine⟨fun h=>(ne (by decide) (by decide) h).elim,fun _=>?_⟩
    exact Hy h1.symm h2.symm
theorem Af1 (op a:Int):Aj Tryz.prog 55 [] [Aa op,Aa a] [] (vII (Mr op a,Vo op)):=by
 have b:=Bu a;refine Aq Tryz.func55 (Aji _ _ op a) ⟨_,EJ a,fun h=>⟨_,EJ _,?_⟩,fun h3=>⟨fun h=>⟨_,RE _,?_⟩,fun h4=>⟨fun h=>?_,fun h5=>?_⟩⟩⟩
 ·obtain rfl:op=3:=by simpa using h
  exact Hy (by rw[AK (by omega) (by omega),Int.zero_sub]<;>rfl) rfl
 ·obtain rfl:op=4:=by simpa using h
  exact Hy rfl rfl
 ·obtain rfl:op=5:=by simpa using h
  exact Hy (by rw[AK (n:=0 - _) (by omega) (by omega),AK (by omega) (by omega),Int.zero_sub]<;>rfl) rfl
 ·simp at h3 h4 h5;exact Hy (by unfold Mr;rw[ApT h3,ApT h4,ApT h5]) (by unfold Vo;rw[ApT (by omega)])
theorem PD {x l mt:List Int}(g:Len mt.length):Aj Tryz.prog 105 [] [Ad true x,Ad true l,Ad true mt] [] (Ac (Dv x l mt)):=by
 unfold Len at g;refine Aq Tryz.func105 (Abg _ x l mt) ⟨fun h=>Aw ?_,fun h=>?_⟩
 ·symm;unfold Dv;grind
 ·have o:mt.length<=x.length/\mt.length<=l.length:=by simp at h;omega
  have j:Dv x l mt=Cu mt.length fun i=>!(decide (mt.getD i 0=1)&&decide (x.getD i 0≠l.getD i 0)):=by
   unfold Dv;grind
  rw[j];refine As mt.length (fun k=>AcU x l mt k) (fun k=>∀ i,i<k->(!(decide (mt.getD i 0=1)&&decide (x.getD i 0≠l.getD i 0)))=true) (fun i hi=>by omega) ?_;intro k p m J next
  refine ApI (XW _ x l mt k J) ⟨fun c=>?_,fun n=>Aw ?_⟩
  ·have b:k<mt.length:=by have:=AL c;omega
   have d:(k:Int).toNat=k:=by omega
   rw[d];refine⟨⟨by omega,by omega⟩,fun _=>⟨by omega,by omega⟩,fun _=>⟨by omega,by omega⟩,fun f=>Aw ?_,fun f=>next _ b (BO m ?_) (Up.of ?_)⟩
   ·simp only[Bh,ieq,AT]at f;grind [BG]
   ·grind
   grind [Al]
  grind [AP,AO]
theorem RH {c:D.Chan}{l mt:List Int}{any:Bool}(n:Len c.Queue.length)(o:Len mt.length):Aj Tryz.prog 65 [] [.agg (AM c),Ad true l,Ad true mt,Ac any] [] (Aa (Gy c l mt any)):=by
 unfold Len at n;refine Aq Tryz.func65 (Af8 _ c l mt any) ?_;unfold Gy;refine As c.Queue.length (fun k=>AcV c l mt any k) (fun k=>(any=true∨k=0)/\N4 l mt any 0 c.Queue=N4 l mt any k (c.Queue.drop k)∨any=false/\0<k/\N4 l mt any 0 c.Queue=-1) (.inl ⟨.inr rfl,rfl⟩) ?_;intro k q f J next
 refine ApI (Abj _ c l mt any k J) ⟨fun h=>?_,fun i=>BK ?_⟩
 ·have b:k<c.Queue.length:=by have:=AL h;omega
  have j:(k:Int).toNat=k:=by omega
  rw[j];rw[Bs (d:=[]) b,Sd]at f;have m:((k:Int)==0)=decide (k=0):=by grind
  rw[m];refine⟨⟨by omega,by omega⟩,_,PD o,fun p=>BK ?_,fun p=>next _ b ?_ (Up.of ?_)⟩
  ·grind
  ·grind
  grind [Al]
 ·have g:c.Queue.length<=k:=by have:=AP i;omega
  rw[Ap2 g]at f;rcases f with⟨_,f⟩ | ⟨_,_,f⟩<;>exact f.symm
abbrev EvR (e:D.Env)(a:Int)(p:Int × Int):Prop:=Aj Tryz.prog 34 [] [.agg (Ae e),Aa a] [] (vII p)
theorem Ea (c:Bool):Aj Tryz.prog 58 [] [Ac c] [] (Aa (CW c).1) :=
 Aq Tryz.func58 (Af2 _ c) ⟨fun h=>BK (by rw[h]<;>rfl),fun h=>BK (by rw[h]<;>rfl)⟩
section
variable {e : D.Env} {ev:Evl} {a:Int} {x:D.Expr}
theorem RK (h:EvR e a (ev a)):Aj Tryz.prog 101 [] [.agg (Ae e),Aa a] [] (vII (CL e ev a)):=by
 refine Aq Tryz.func101 (Aga _ _ e a) ⟨ev a,h,fun h=>AU (ct (by simpa using h) rfl),fun h=>⟨fun h2=>AU (cf (by simpa using h) (ct ?_ rfl)),fun h2=>AU (cf (by simpa using h) (cf ?_ rfl))⟩⟩
 ·rw[Br]at h2;exact h2
 grind
def Me (ev:Evl)(args mt:List Int):List Int × Int:=bif decide (C7 ev args mt args.length≠0) then([],C7 ev args mt args.length) else(CV ev args mt,0)
theorem Ww {args mt:List Int}{k:Nat}(b:k<args.length):(CV ev args mt).take (k+1)=(CV ev args mt).take k++[(C2 ev (args.getD k 0) (mt.getD k 0)).1]:=by
 rw[Arc];simp[CV,b]
theorem Ht {l:List Int}{n:Int}{i:Nat}(hi:i<l.length+1):(bif i.blt l.length then[Aa (l.getD i 0)] else List.take 1 (List.drop ((i - l.length)*1) [Aa n]))=AJ (l++[n]) i :=
 BR (f:=fun n=>[Aa n]) (d:=0) (l:=l) (r:=[n]) (F:=fun i=>[Aa (l.getD i 0)]) (fun _ _=>rfl) EX (by simp;omega)
theorem Pz {args mt:List Int}(w:args.length<=1048576)(y:mt.length=args.length)(s:∀ a∈args,EvR e a (ev a)) :
  Aj Tryz.prog 64 [] [.agg (Ae e),Ad true args,Ad true mt] [] (.tup [Ad true (Me ev args mt).1,Aa (Me ev args mt).2]):=by
 have g:Me ev args mt=bif decide (C7 ev args mt args.length≠0) then([],C7 ev args mt args.length) else(CV ev args mt,0):=rfl
 generalize Me ev args mt=r at g;refine Aq Tryz.func64 (AaX r e args mt) ?_;refine Ax.own 3 8 1 (AJ []) rfl ?_;have c:∀ k,k<=args.length->((CV ev args mt).take k).length=k:=fun k o=>by simp[CV];omega
 refine Ar (fun gg st=>∃ k:Nat,k<=args.length/\gg=args.length - k/\(∀ i,i<k->(C2 ev (args.getD i 0) (mt.getD i 0)).2=0)/\st=Ail e args mt ((CV ev args mt).take k) k) ⟨args.length,Up.of ⟨0,ApD _,rfl,fun i hi=>by omega,rfl⟩⟩ ?_;rintro gg st ⟨k,o,rfl,p,rfl⟩;have t:=c k o;refine ApI (XK r e args mt _ k _ rfl) ⟨fun h=>?_,fun j=>?_⟩
 ·have b:k<args.length:=by have:=AL h;omega
  have l:(k:Int).toNat=k:=by omega
  rw[l];have go:∀ n,n=(C2 ev (args.getD k 0) (mt.getD k 0)).1->(C2 ev (args.getD k 0) (mt.getD k 0)).2=0->(((CV ev args mt).take k).length+1)*8<=140737488355328/\∃ q,q<args.length - k/\Up (fun st=>∃ k:Nat,k<=args.length/\q=args.length - k/\(∀ i,i<k->(C2 ev (args.getD i 0) (mt.getD i 0)).2=0)/\st=Ail e args mt ((CV ev args mt).take k) k) (Ay [(1,Ad true args),(2,Ad true mt),(3,VV.bp 0 0),(8,VV.ow 1 0 (((CV ev args mt).take k).length+1)),(9,Aa (IntKind.i64.wrap ((k:Int)+1)))]
    [Ob.box (Ae e),Ob.arr true 0 (((CV ev args mt).take k).length+1) 1 fun i=>bif i.blt ((CV ev args mt).take k).length then[Aa (((CV ev args mt).take k).getD i 0)] else(fun i=>List.take 1 (List.drop (i*1) [Aa n])) (i - ((CV ev args mt).take k).length)]):=by
   intro n u d;refine⟨by omega,args.length - (k+1),by omega,Up.mk (l':=[(1,Ad true args),(2,Ad true mt),(3,VV.bp 0 0),(8,VV.ow 1 0 ((CV ev args mt).take (k+1)).length),(9,Aa ((k+1:Nat):Int))]) (hs':=[.box (Ae e),.arr true 0 ((CV ev args mt).take (k+1)).length 1 (AJ ((CV ev args mt).take (k+1)))]) ?_ ?_ ⟨k+1,b,rfl,BO p d,rfl⟩⟩
   ·grind [Al,AS]
   ·rw[Ww b,← u,ApP];exact⟨Ob.le_refl _,Ap6 fun i hi=>AV (Ht hi),trivial⟩
  refine⟨⟨by omega,by omega⟩,fun f=>⟨⟨by omega,by omega⟩,ev (args.getD k 0),s _ (Av b),fun d=>?_,fun d=>?_⟩,fun f=>?_⟩
  ·have hv:C2 ev (args.getD k 0) (mt.getD k 0)=ev (args.getD k 0):=by unfold C2;rw[← ieq,f]<;>rfl
   have v:(C2 ev (args.getD k 0) (mt.getD k 0)).2≠0:=by rw[hv];simpa using d
   have m:C7 ev args mt args.length=(ev (args.getD k 0)).2:=by
    unfold C7;grind [N6]
   rw[g,m,Aqb (by simpa using d)];exact⟨trivial,Aq4 ⟨Aqd,VV.le_refl _,trivial⟩⟩
  ·have hv:C2 ev (args.getD k 0) (mt.getD k 0)=ev (args.getD k 0):=by unfold C2;rw[← ieq,f]<;>rfl
   simp_all
  ·have hv:C2 ev (args.getD k 0) (mt.getD k 0)=(0,0):=by unfold C2;rw[← ieq,f]<;>rfl
   simp_all
 ·obtain rfl:k=args.length:=by have:=AP j;omega
  have m:C7 ev args mt args.length=0:=I1 p;rw[g,m,Aqq (by simp[CV])];exact⟨trivial,VV.le_refl _⟩
end
section
variable {e : D.Env} {ev:Evl} {x:D.Expr}
theorem Abp (i:BF e)(v:25<=x.Op/\x.Op<=30)(h:EvR e x.A (ev x.A))(hp:x.Op=30->x.Args.length<=8/\x.Match.length=x.Args.length/\∀ a∈x.Args,EvR e a (ev a)) :
  Aj Tryz.prog 57 [] [.agg (Ae e),.agg (Az x)] [] (vII (if x.Op=30 then L3 e ev x else L9 e ev x)):=by
 have b:(if x.Op=30 then L3 e ev x else L9 e ev x)=bif decide ((CL e ev x.A).2≠0) then(0,(CL e ev x.A).2)
   else if x.Op=30 then(bif decide ((BV e.M (B6 e (CL e ev x.A).1).Shape).Fields.length≠x.Args.length) then(0,49)
    else bif decide (C7 ev x.Args x.Match x.Args.length≠0) then(0,C7 ev x.Args x.Match x.Args.length)
    else CW (decide (0<=Gy (B6 e (CL e ev x.A).1) (CV ev x.Args x.Match) x.Match (decide (x.N=1)))))
   else AmA x.Op (BV e.M (B6 e (CL e ev x.A).1).Shape).Room (B6 e (CL e ev x.A).1).Queue.length:=by
  unfold L3 L9;cases decide ((CL e ev x.A).2≠0)<;>split<;>rfl
 generalize (if x.Op=30 then L3 e ev x else L9 e ev x)=R at b;refine Aq Tryz.func57 (Agc _ _ e x rfl rfl) ⟨CL e ev x.A,RK h,fun h=>AU (by rw[b];exact ct (by simpa using h) rfl),fun h=>?_⟩;have h0:decide ((CL e ev x.A).2≠0)=false:=by simpa using h
 rw[h0,Apw]at b;have j:=QB i (ApY h0);generalize (CL e ev x.A).1=n at j b;rw[AK (by omega) (by omega)];have f:=Av (d:=default) (show(n - 1).toNat<e.S.Chans.length by omega);have hs:=(Fa (i.chan f)).1;have l:=(i.fit.q _ f).1;refine⟨⟨by omega,by omega⟩,hs,fun k=>AU ?_,fun k1=>⟨fun k=>⟨_,Ea _,AU ?_⟩,fun k2=>⟨fun k=>⟨_,Ea _,AU ?_⟩,fun m=>⟨fun k=>⟨_,Ea _,AU ?_⟩,fun o=>⟨fun k=>⟨_,Ea _,AU ?_⟩,fun p=>?_⟩⟩⟩⟩⟩
 ·rw[b,show x.Op=25 by simpa using k]<;>rfl
 ·rw[b,show x.Op=26 by simpa using k]<;>rfl
 ·rw[b,show x.Op=27 by simpa using k,ieq]<;>rfl
 ·rw[b,show x.Op=28 by simpa using k]<;>rfl
 ·rw[b,show x.Op=29 by simpa using k]<;>rfl
 simp only[beq_eq_false_iff_ne]at k1 k2 m o p;have g:x.Op=30:=by omega
 obtain⟨w,r,s⟩:=hp g;rw[Aqc g]at b;have t:(((e.M.Shapes.getD (e.S.Chans.getD (n - 1).toNat default).Shape.toNat default).Fields.length:Int) != (x.Args.length:Int))=decide ((BV e.M (B6 e n).Shape).Fields.length≠x.Args.length):=by
  rw[Aqe,bne_iff_ne,ApB];unfold BV B6;omega
 rw[t];have u:B6 e n=e.S.Chans.getD (n - 1).toNat default:=rfl;refine⟨fun h1=>AU (by rw[b,h1]<;>rfl),fun h1=>⟨Me ev x.Args x.Match,Pz (by omega) r s,fun h2=>AU ?_,fun h2=>⟨_,RH (by unfold Len;omega) (by unfold Len;omega),_,Ea _,AU ?_⟩⟩⟩
 ·rw[b,h1,Apw];unfold Me at h2 ⊢;cases c:decide (C7 ev x.Args x.Match x.Args.length≠0) with
  | true=>rfl
  | false=>rw[c]at h2;cases h2
 ·rw[b,h1,Apw,u];unfold Me at h2 ⊢;cases c:decide (C7 ev x.Args x.Match x.Args.length≠0) with
  | true=>rw[c]at h2;exact absurd (ApK c) (by simpa using h2)
  | false=>rw[ieq]<;>rfl
theorem Abb (_:x.Op=36∨x.Op=37∨x.Op=38)(h:EvR e x.A (ev x.A))(g:Len x.Args.length) :
  Aj Tryz.prog 59 [] [.agg (Ae e),.agg (Az x)] [] (vII (if x.Op=36 then PS e ev x else Gj e ev x)):=by
 unfold Len at g;have a:(if x.Op=36 then PS e ev x else Gj e ev x)=bif decide ((ev x.A).2≠0) then(0,(ev x.A).2)
   else if x.Op=36 then CW (decide (0<=(ev x.A).1)&&(decide ((ev x.A).1<e.Able.length)&&e.Able.getD (ev x.A).1.toNat false))
   else bif decide ((ev x.A).1<0)||(decide ((e.S.Procs.length:Int)<=(ev x.A).1)||(decide (x.Op=38)&&decide ((De e (ev x.A).1).Type_≠x.N))) then(0,52)
    else bif decide (x.Op=37) then((De e (ev x.A).1).Loc,0) else CW (decide ((De e (ev x.A).1).Loc∈x.Args)):=by
  unfold PS Gj;cases decide ((ev x.A).2≠0)<;>split<;>rfl
 generalize (if x.Op=36 then PS e ev x else Gj e ev x)=R at a;refine Aq Tryz.func59 (Af0 _ _ e x rfl) ⟨ev x.A,h,fun h=>AU (by rw[a];exact ct (by simpa using h) rfl),fun h=>?_⟩;have h0:decide ((ev x.A).2≠0)=false:=by simpa using h
 rw[h0,Apw]at a;generalize (ev x.A).1=n at a;refine⟨fun h1=>⟨fun h2=>?_,_,Ea _,AU ?_⟩,fun h1=>⟨fun h2=>?_,fun h2=>AU ?_,fun h2=>?_⟩⟩
 ·simp at h2;exact⟨by omega,by omega⟩
 ·rw[a,Aqc (by simpa using h1)];simp only[Bh,AqM,Bool.and_assoc];rfl
 ·simp at h2;exact⟨by omega,by omega⟩
 ·rw[a,ApT (by simpa using h1)];simp only[Br,Bh,ieq,AT,AqM,AqN]at h2;exact ct h2 rfl
 have h3:=h2;simp only[Br,Bh,ieq,AT,AqM,AqN]at h3;rw[ApT (by simpa using h1)]at a;have a:R=bif decide (x.Op=37) then((De e n).Loc,0) else CW (decide ((De e n).Loc∈x.Args)):=a.trans (cf h3 rfl).symm
 simp only[ApN,ApW]at h3;refine⟨⟨by omega,by omega⟩,fun h4=>AU ?_,fun h4=>?_⟩
 ·rw[a,← ieq,h4]<;>rfl
 rw[← ieq,h4,Apw]at a;change Ax _ _ (W0 x (De e n).Loc false 0);generalize (De e n).Loc=at' at a;refine As x.Args.length (fun k=>W0 x at' (decide (at'∈x.Args.take k)) k) (fun _=>True) trivial ?_;intro k l _ J next
 refine ApI (Abc _ _ x at' _ k J) ⟨fun c=>?_,fun d=>⟨_,Ea _,AU ?_⟩⟩
 ·have b:k<x.Args.length:=by have:=AL c;omega
  have f:(k:Int).toNat=k:=by omega
  rw[f];refine⟨fun _=>⟨by omega,by omega⟩,next _ b trivial (Up.of ?_)⟩;have i:decide (at'∈x.Args.take (k+1))=bif decide (at'∈x.Args.take k) then true else x.Args.getD k 0==at':=by
   rw[Br,ieq,Aqe,Arc,Aqv,ApB,ApB,ApB,Ap1];simp[List.getD,b,eq_comm]
  rw[Al (by omega),← i]
 ·rw[a,Aqq (by have:=AP d;omega)]<;>rfl
theorem XX (_:x.Op=22∨x.Op=23∨x.Op=24)(h:EvR e x.A (ev x.A))(hB:EvR e x.B (ev x.B))(a:x.Op=24->EvR e x.C (ev x.C)) :
  Aj Tryz.prog 56 [] [.agg (Ae e),.agg (Az x)] [] (vII (Jw ev x)):=by
 refine Aq Tryz.func56 (Abh _ _ e x rfl rfl) ⟨ev x.A,h,fun h=>AU (ct (by simpa using h) rfl),fun h=>?_⟩;have h0:decide ((ev x.A).2≠0)=false:=by simpa using h
 have b:Jw ev x=bif decide (x.Op=24) then(bif decide ((ev x.A).1≠0) then ev x.B else ev x.C)
   else bif (decide (x.Op=22)&&decide ((ev x.A).1=0))||(decide (x.Op=23)&&decide ((ev x.A).1≠0)) then CW (decide ((ev x.A).1≠0))
   else bif decide ((ev x.B).2≠0) then(0,(ev x.B).2) else CW (decide ((ev x.B).1≠0)):=by unfold Jw;rw[h0]<;>rfl
 rw[b];generalize (ev x.A).1=n;simp only[Bh,ieq,AT];refine⟨fun h1=>⟨_,hB,AU ?_⟩,fun h1=>⟨fun h2=>⟨_,a (by simpa using h2),AU ?_⟩,fun h2=>⟨fun h3=>AU ?_,fun h3=>⟨fun h4=>AU ?_,fun h4=>⟨_,hB,fun h5=>AU ?_,fun h5=>⟨_,Ea _,AU ?_⟩⟩⟩⟩⟩⟩
 ·rw[Apv]at h1;exact ct h1.1 (ct h1.2 rfl)
 ·rw[h2,Ap7]at h1;exact ct h2 (cf h1 rfl)
 ·refine cf h2 (ct (by rw[h3,Bool.true_or]) ?_);rw[Apv,ApB,ApB]at h3;rw[h3.2]<;>rfl
 ·refine cf h2 (ct (by rw[h4,Bool.or_true]) ?_);rw[Apv]at h4;rw[h4.2]<;>rfl
 ·exact cf h2 (cf (by rw[h3,h4,Aq3]) (ct (by simpa using h5) rfl))
 ·exact cf h2 (cf (by rw[h3,h4,Aq3]) (cf (by simpa using h5) rfl))
end
section
variable {e : D.Env} {ev:Evl} {x:Int}
theorem Abl {R:Int × Int × Int}{v:D.Var}{who:Int}(hs:0<=v.Slot/\v.Slot<=128/\v.Dims.length<=4)(hd:∀ d∈v.Dims,AdX d/\EvR e d.I (ev d.I))
  (h:R=bif decide ((DM ev v.Slot v.Dims).2≠0) then(0,0,(DM ev v.Slot v.Dims).2) else(who,(DM ev v.Slot v.Dims).1,0)) :
  Ax (fc A5 Hj Tryz.f54 [] (Kd R)) [1,1,1,1,1,1,1,0,1,0] (LY e v who v.Slot 0):=by
 obtain⟨h0,h1,h2⟩:=hs;refine Ar (fun gg st=>∃ (k:Nat) (n:Int),k<=v.Dims.length/\gg=v.Dims.length - k/\0<=n/\n<=128+16384*k/\DM ev n (v.Dims.drop k)=DM ev v.Slot v.Dims/\st=LY e v who n k)
  ⟨v.Dims.length,Up.of ⟨0,v.Slot,ApD _,rfl,h0,by omega,rfl,rfl⟩⟩ ?_
 generalize DM ev v.Slot v.Dims=q at h;rintro gg st ⟨k,n,t,rfl,p,r,b,rfl⟩;refine ApI (Aa3 _ _ _ e v who n k _ rfl rfl) ⟨fun l=>?_,fun m=>?_⟩
 ·have c:k<v.Dims.length:=by have:=AL l;omega
  have o:(k:Int).toNat=k:=by omega
  rw[o];obtain⟨j,f⟩:=hd _ (Av (d:=default) c);rw[Bs (d:=default) c,ME]at b;generalize v.Dims.getD k default=d at j f b ⊢;refine⟨⟨by omega,by omega⟩,_,f,fun h2=>FS ?_,fun h2=>⟨fun _=>⟨by omega,by omega⟩,fun h3=>FS ?_,fun h3=>⟨⟨by omega,by omega⟩,?_⟩⟩⟩
  ·have a:decide ((ev d.I).2≠0)=true:=by simpa using h2
   rw[a,Apy]at b;subst b;rw[h,a]<;>rfl
  ·have a:decide ((ev d.I).2≠0)=false:=by simpa using h2
   rw[Br]at h3;rw[a,Apw,show(decide ((ev d.I).1<0)||decide (d.Len<=(ev d.I).1))=true from h3,Apy]at b;subst b;rw[h]<;>rfl
  ·have a:decide ((ev d.I).2≠0)=false:=by simpa using h2
   rw[Br]at h3;have g:(decide ((ev d.I).1<0)||decide (d.Len<=(ev d.I).1))=false:=h3;rw[a,Apw,g,Apw]at b;simp only[ApN,ApW]at g;have u:=AbL (i:=(ev d.I).1) (s:=d.Stride) (n:=d.Len) (by omega) (by omega) j.l2 j.s1 j.s2;rw[AK (n:=(ev d.I).1*d.Stride) (by omega) (by omega),AK (by omega) (by omega),Al (by omega)];exact⟨v.Dims.length - (k+1),by omega,Up.of ⟨k+1,n+(ev d.I).1*d.Stride,by omega,rfl,by omega,by omega,b,rfl⟩⟩
 ·obtain rfl:k=v.Dims.length:=by have:=AP m;omega
  rw[Aq9]at b;subst b;exact FS h.symm
theorem Aa2 (o:BF e)(j:0<=x/\x<e.M.Exprs.length)(l:Ta e.M x (Ao e.M x))(g:∀ a,0<=a->a<x->EvR e a (ev a)) :
  Aj Tryz.prog 54 [] [.agg (Ae e),Aa x] [] (Kd (BP e ev (Ao e.M x))):=by
 have hp:=o.pid;have hv:=(o.wf.Exprs.2 _ (VR j)).V;have f:BP e ev (Ao e.M x)=bif decide ((Ao e.M x).Op≠2) then(0,0,42) else bif decide ((C5 e ev (Ao e.M x).V).2≠0) then(0,0,(C5 e ev (Ao e.M x).V).2)
   else bif decide ((DM ev (Ao e.M x).V.Slot (Ao e.M x).V.Dims).2≠0) then(0,0,(DM ev (Ao e.M x).V.Slot (Ao e.M x).V.Dims).2) else((C5 e ev (Ao e.M x).V).1,(DM ev (Ao e.M x).V.Slot (Ao e.M x).V.Dims).1,0):=rfl
 generalize BP e ev (Ao e.M x)=R at f;refine Aq Tryz.func54 (AfW _ _ _ e x rfl rfl rfl rfl) ⟨j,fun h=>FS ?_,fun h=>⟨j,?_⟩⟩
 ·rw[f,show decide ((Ao e.M x).Op≠2)=true by simpa[Ao] using h]<;>rfl
 have h2:(Ao e.M x).Op=2:=by simpa[Ao] using h
 rw[Ap9 (by simpa using h2),Apw]at f;have vo:=Je (l.var h2);have m:=vo.scope;have i:=fun who=>Abl (e:=e) (ev:=ev) (R:=R) (v:=(Ao e.M x).V) (who:=who) ⟨vo.slot.1,vo.slot.2,vo.dims⟩ fun d hd=>⟨(vo.dim d hd).1,g _ (vo.dim d hd).2.1 (vo.dim d hd).2.2⟩
 change ∃ y,Aj _ _ _ [.agg (Bz (Ao e.M x).V)] _ _/\_;refine⟨_,Px hv,?_⟩;change BB ((Ao e.M x).V.Scope==0) (BB _ _ (Ax _ _ (LY e (Ao e.M x).V _ (Ao e.M x).V.Slot 0))) (BB ((Ao e.M x).V.Scope==1) (_/\BB _ _ (Ax _ _ (LY e (Ao e.M x).V _ (Ao e.M x).V.Slot 0))) (∃ q,Aj _ _ _ [_,Aa (Ao e.M x).V.Who] _ _/\BB _ _ (_/\BB (bif _ then true else _ != (Ao e.M x).V.Type_) _ (_/\BB _ _ (Ax _ _ (LY e (Ao e.M x).V _ (Ao e.M x).V.Slot 0))))));have c:(Ao e.M x).V.Scope=2->EvR e (Ao e.M x).V.Who (ev (Ao e.M x).V.Who):=fun h=>g _ (vo.who h).1 (vo.who h).2
 generalize (Ao e.M x).V=v at f m i c ⊢;have fin:∀ {p:Int × Int},p=C5 e ev v->(p.2≠0->(0,0,p.2)=R)/\(p.2=0->R=bif decide ((DM ev v.Slot v.Dims).2≠0) then(0,0,(DM ev v.Slot v.Dims).2) else(p.1,(DM ev v.Slot v.Dims).1,0)):=fun hp=>by
  rw[← hp]at f;exact⟨fun h=>by rw[f,Aqb h]<;>rfl,fun h=>by rw[f,Ap9 (by simpa using h)]<;>rfl⟩
 refine⟨fun k=>⟨fun k1=>FS ?_,fun k1=>i _ ?_⟩,fun k=>⟨fun k1=>⟨fun k2=>?_,fun k2=>FS ?_,fun k2=>i _ ?_⟩,fun k1=>⟨_,c ?_,fun k2=>FS ?_,fun k2=>⟨fun b=>?_,fun b=>FS ?_,fun b=>⟨?_,fun n=>FS ?_,fun n=>i _ ?_⟩⟩⟩⟩⟩
 ·exact(fin (p:=(0,42)) (ct (by simpa using k) (ct k1 rfl))).1 (by decide)
 ·exact(fin (p:=(-1,0)) (ct (by simpa using k) (cf k1 rfl))).2 rfl
 ·simp at k2;exact⟨by omega,by omega⟩
 ·exact(fin (p:=(0,42)) (cf (by simpa using k) (ct (by simpa using k1) (ct (by rw[Br]at k2;exact k2) rfl)))).1 (by decide)
 ·exact(fin (p:=(e.Pid,0)) (cf (by simpa using k) (ct (by simpa using k1) (cf (by rw[Br]at k2;exact k2) rfl)))).2 rfl
 ·simp at k k1;omega
 ·exact(fin (p:=(0,(ev v.Who).2)) (cf (by simpa using k) (cf (by simpa using k1) (ct (by simpa using k2) rfl)))).1 (by simpa using k2)
 ·simp at b;exact⟨by omega,by omega⟩
 ·simp only[Br,AT,AqM,AqN]at b;exact(fin (p:=(0,52)) (cf (by simpa using k) (cf (by simpa using k1) (cf (by simpa using k2) (ct b rfl))))).1 (by decide)
 ·simp at b;exact⟨by omega,by omega⟩
 ·simp only[Br,AT,AqM,AqN]at b;exact(fin (p:=(0,42)) (cf (by simpa using k) (cf (by simpa using k1) (cf (by simpa using k2) (cf b (ct n rfl)))))).1 (by decide)
 ·simp only[Br,AT,AqM,AqN]at b;exact(fin (p:=((ev v.Who).1,0)) (cf (by simpa using k) (cf (by simpa using k1) (cf (by simpa using k2) (cf b (cf n rfl)))))).2 rfl
end
section
variable {e : D.Env} {ev:Evl} {x:Int}
theorem Aba {R:Int × Int}(j:BF e)(l:R=CW (!F4 e)):Ax (fc A5 Bi Tryz.f34 [] (vII R)) [1,1,0,1,0,1,1,1,1,1,1,1,1,1,1,1,1,1,1,1,1,1,0,0,1,0] (W5 e 0):=by
 have q:=j.fit.p;refine As e.S.Procs.length (fun k=>W5 e k) (fun k=>∀ i,i<k->(!((FD e.M (e.S.Procs.getD i default).Type_).getD (e.S.Procs.getD i default).Loc.toNat default).Progress)=true) (fun i hi=>by omega) ?_;intro k r m J next
 refine ApI (Abk _ _ e k J rfl) ⟨fun b=>?_,fun c=>AU ?_⟩
 ·have a:k<e.S.Procs.length:=by have:=AL b;omega
  have g:(k:Int).toNat=k:=by omega
  rw[g];have n:=Eb (j.proc (Av (d:=default) a));refine⟨⟨by omega,by omega⟩,n.1,n.2.1,fun h=>AU ?_,fun h=>next _ a (BO m ?_) (Up.of ?_)⟩
  ·rw[l];unfold F4;rw[BG (f:=fun i=>!((FD e.M (e.S.Procs.getD i default).Type_).getD (e.S.Procs.getD i default).Loc.toNat default).Progress) a (by show(!_)=false;unfold FD;rw[h]<;>rfl)]<;>rfl
  ·show(!_)=true;unfold FD;rw[h]<;>rfl
  ·rw[Al (by omega)]<;>rfl
 ·have o:e.S.Procs.length<=k:=by have:=AP c;omega
  rw[l];unfold F4;rw[AO.2 fun i hi=>m i (by omega)]<;>rfl
set_option maxHeartbeats 4000000 in
theorem RJ (j:BF e)(m:0<=x/\x<e.M.Exprs.length)(g:∀ a,0<=a->a<x->EvR e a (ev a)):EvR e x (Ck e ev (Ao e.M x)):=by
  have n:((x.toNat:Nat):Int)=x:=by omega
  have f:Ta e.M x (Ao e.M x):=YM (by have:=j.expr x.toNat (by omega);rwa [n]at this);have p:=Aa2 j m f g;have q:=Ql (e:=e) (ev:=ev) j (fun d=>Je (f.var d));have k:1<=AZ (Ao e.M x).Op->EvR e (Ao e.M x).A (ev (Ao e.M x).A):=fun h=>g _ (f.a h).1 (f.a h).2
  have hB:2<=AZ (Ao e.M x).Op->EvR e (Ao e.M x).B (ev (Ao e.M x).B):=fun h=>g _ (f.b h).1 (f.b h).2
  have u:3<=AZ (Ao e.M x).Op->EvR e (Ao e.M x).C (ev (Ao e.M x).C):=fun h=>g _ (f.c h).1 (f.c h).2
  have hp:(Ao e.M x).Op=30->(Ao e.M x).Args.length<=8/\(Ao e.M x).Match.length=(Ao e.M x).Args.length/\∀ a∈(Ao e.M x).Args,EvR e a (ev a):=fun d =>
    ⟨(Il (f.poll d)).1,(Il (f.poll d)).2.1,fun a s=>g _ ((Il (f.poll d)).2.2 a s).1 ((Il (f.poll d)).2.2 a s).2⟩
  have i:(if (Ao e.M x).Op=1∨(Ao e.M x).Op=2∨22<=(Ao e.M x).Op then True else Ck e ev (Ao e.M x)=Q8 ev (Ao e.M x)):=by
    split
    · trivial
    · have:=f.op;unfold Ck
      repeat (rw[ApT (by omega)])
  have v:=fun b=>DU (c:=fc A5 Bi Tryz.f34 [] (vII (Ck e ev (Ao e.M x)))) Ai Ak (by kernel_rfl) (Ajr _ _ e (Ao e.M x) b rfl)
  have w:=fun b=>DU (c:=fc A5 Bi Tryz.f34 [] (vII (Ck e ev (Ao e.M x)))) Ai Ak (by kernel_rfl) (Ajq _ _ e (Ao e.M x) b rfl)
  have y:=fun b=>DU (c:=fc A5 Bi Tryz.f34 [] (vII (Ck e ev (Ao e.M x)))) Ai Ak (by kernel_rfl) (Ajp _ _ e (Ao e.M x) b rfl rfl rfl)
  have z:=fun b=>DU (c:=fc A5 Bi Tryz.f34 [] (vII (Ck e ev (Ao e.M x)))) Ai Ak (by kernel_rfl) (Ajo _ _ e (Ao e.M x) b)
  have E:=DU (c:=fc A5 Bi Tryz.f34 [] (vII (Ck e ev (Ao e.M x)))) Ai Ak (by kernel_rfl) (Ajn _ _ e (Ao e.M x));refine Aq Tryz.func34 (Af9 _ _ e x rfl rfl rfl) ⟨m,?_⟩;rcases Yb (o:=(Ao e.M x).Op) (by have:=f.op;omega) with d | d | d | d | d | d | d | d | d | d | d | d | d | d | d | d | d | d | d | d | d | d | d | d | d | d | d | d | d | d | d | d | d | d | d | d | d | d | d
  all_goals
    have l:(e.M.Exprs.getD x.toNat default).Op=_:=d
    repeat (first
      | refine⟨fun h=>absurd h (by (first | rw[l] | rw[d]);decide),fun _=>?_⟩
      | refine⟨fun _=>?_,fun h=>absurd h (by (first | rw[l] | rw[d]);decide)⟩
      | refine v _ ?_
      | refine w _ ?_
      | refine y _ ?_
      | refine z _ ?_
      | refine E ?_)
    first
      | exact AU (by unfold Ck;rw[d]<;>rfl)
      | exact⟨_,Ea _,AU (by unfold Ck;rw[d]<;>rfl)⟩
      | exact⟨_,XX (by omega) (k (by rw[d];decide)) (hB (by rw[d];decide)) (fun h=>u (by rw[h];decide)),AU (by unfold Ck;rw[d]<;>rfl)⟩
      | exact⟨_,Abp j (by omega) (k (by rw[d];decide)) hp,AU (by unfold Ck;rw[d]<;>rfl)⟩
      | exact⟨_,Abb (by omega) (k (by rw[d];decide)) (Y9 j m),AU (by unfold Ck;rw[d]<;>rfl)⟩
      | exact Aba j (by unfold Ck;rw[d]<;>rfl)
      | (rw[ApT (by omega)]at i
         refine⟨_,k (by rw[d];decide),fun h=>AU ?_,fun h=>⟨_,Af1 _ _,AU ?_⟩⟩
         · rw[i];exact ct (by simpa using h) rfl
         · rw[i];exact cf (by simpa using h) (ct (by rw[d]<;>rfl) rfl))
      | (rw[ApT (by omega)]at i
         refine⟨_,k (by rw[d];decide),fun h=>AU ?_,fun h=>⟨_,hB (by rw[d];decide),fun h2=>AU ?_,fun h2=>⟨_,AfT _ _ _,AU ?_⟩⟩⟩
         · rw[i];exact ct (by simpa using h) rfl
         · rw[i];exact cf (by simpa using h) (cf (by rw[d]<;>rfl) (ct (by simpa using h2) rfl))
         · rw[i];exact cf (by simpa using h) (cf (by rw[d]<;>rfl) (cf (by simpa using h2) rfl)))
      | (have r:Ck e ev (Ao e.M x)=XC e ev (Ao e.M x):=by unfold Ck;rw[d]<;>rfl
         refine⟨_,p,fun h=>AU ?_,fun h=>?_⟩
         · rw[r];exact ct (by simpa using h) rfl
         · have h0:decide ((BP e ev (Ao e.M x)).2.2≠0)=false:=by simpa using h
           have hi:=q (by simpa using h0);refine⟨fun h1=>⟨hi.glob (ApK h1),AU ?_⟩,fun h1=>?_⟩
           · rw[r];exact cf h0 (ct h1 rfl)
           · have t:=hi.own (by have:=ApY h1;omega);refine⟨⟨by have:=ApY h1;omega,t.1⟩,t.2,AU ?_⟩;rw[r];exact cf h0 (cf h1 rfl))
theorem Kr (b:BF e):∀ (n:Nat) (x:Int),0<=x->x<e.M.Exprs.length->x<n->EvR e x (PN e n x)
 | 0,x,h0,_,h2=>by omega
 | n+1,x,h0,h1,h2=>RJ b ⟨h0,h1⟩ fun a c d=>Kr b n a c (by omega) (by omega)
theorem AdJ (a:BF e)(b:0<=x/\x<e.M.Exprs.length):CE e x=0:=by
 have hp:=a.pid;unfold CE Cb;rw[a.may,a.fits,Ap9 (show ¬ e.Pid < -1 by omega),Ap9 (show ¬ (e.S.Procs.length:Int)<=e.Pid by omega),Ap9 (show ¬ x<0 by omega),Ap9 (show ¬ (e.M.Exprs.length:Int)<=x by omega)]<;>rfl
theorem Akp (a:BF e)(b:0<=x/\x<e.M.Exprs.length):Be e x=Ck e (FP e) (Ao e.M x):=by
 unfold Be;rw[AdJ a b]<;>rfl
theorem NL (b:BF e)(c:0<=x/\x<e.M.Exprs.length):EvR e x (Be e x):=by
 rw[Akp b c];exact RJ b c fun a h0 h1=>Kr b _ a h0 (by omega) (by omega)
theorem TP (b:BF e)(a:0<=x/\x<e.M.Exprs.length):Aj Tryz.prog 101 [] [.agg (Ae e),Aa x] [] (vII (AB e x)):=by
 have:AB e x=CL e (PN e e.M.Exprs.length) x:=by
  unfold AB;rw[AdJ b a]<;>rfl
 rw[this];exact RK (Kr b _ x a.1 a.2 a.2)
end
section
variable {e : D.Env} {s:D.Stmt}
theorem EM.kA {m:D.Model}{s:D.Stmt}(h:EM m s)(b:s.Kind=1∨s.Kind=5∨s.Kind=6):0<=s.A/\s.A<m.Exprs.length:=by
 have h1:=h.st;have h2:=Hd (m:=m) (a:=s.A);unfold AA at h1;grind
theorem EM.n6 {m:D.Model}{s:D.Stmt}(h:EM m s)(a:s.Kind=6):0<=s.N/\s.N<=3:=by
 have h1:=h.st;unfold AA at h1;grind
theorem OD (h:CA e):Aj Tryz.prog 16 [] [.agg (Ae e)] [] (.agg (A4 (CC e))):=Pw ⟨h.p0,h.ok.pid.2⟩ h.facts.1
def JZ (l:D.Loc)(i:Int):List D.Trans:=bif decide (i<0) then l.Out else l.Esc.getD i.toNat []
theorem RF (h:CA e){i:Int}(hi:0<=i->i<(Cy e).Esc.length):Aj Tryz.prog 21 [] [.agg (Ae e),Aa i] [] (Ap true (JZ (Cy e) i)) :=
 AaF ⟨h.p0,h.ok.pid.2⟩ h.facts.1 h.facts.2 hi
def IV (n:Nat):List Int:=(List.range n).map fun i=>((i:Nat):Int)
theorem Agu {n:Nat}:IV (n+1)=IV n++[(n:Int)]:=by simp[IV,List.range_succ]
theorem NT {n:Nat}:(IV n).length=n:=by simp[IV]
theorem PC (h:CA e):Aj Tryz.prog 19 [] [.agg (Ae e)] [] (Ad true (IV (Cy e).Esc.length++[-1])):=by
 have d:=h.wloc.Esc.1;refine Aq Tryz.func19 (Abd _ e) ⟨CC e,OD h,⟨h.p0,h.ok.pid.2⟩,h.facts.2,?_⟩;refine Ax.own 1 4 1 (AJ []) rfl ?_;change Ax _ _ (Aim (Cy e) (IV 0) ((0:Nat):Int));generalize Cy e=l at d;refine As l.Esc.length (fun k=>Aim l (IV k) k) (fun _=>True) trivial ?_;intro k g _ J next
 have f:(IV k).length=k:=NT;refine ApI (XR _ l (IV k) k J rfl) ⟨fun b=>⟨by omega,?_⟩,fun c=>⟨by omega,trivial,?_⟩⟩
 ·have a:k<l.Esc.length:=by have:=AL b;omega
  refine next _ a trivial (Up.mk (l':=[(3,.bp 0 0),(4,.ow 1 0 (IV (k+1)).length),(5,Aa ((k+1:Nat):Int))]) (hs':=[.box (A8 l),.arr true 0 (IV (k+1)).length 1 (AJ (IV (k+1)))]) ?_ ?_ rfl)
  ·grind [NT,Al,AS]
  ·rw[Agu,ApP];exact⟨Ob.le_refl _,Ap6 fun i hi=>AV (Ht hi),trivial⟩
 ·obtain rfl:k=l.Esc.length:=by have:=AP c;omega
  unfold Ad;rw[ApP];exact AqD (.inl rfl) fun i hi=>AV (Ht hi)
theorem TN {x:Int}(h:0<=x->x<e.M.Exprs.length):Aj Tryz.prog 61 [] [.agg (Ae e),Aa x] [] (Ac (Dz e x)):=by
 refine Aq Tryz.func61 (Ajh _ e x) ⟨fun a=>?_,Aw ?_⟩
 ·grind
 ·unfold Dz Ao;rw[Bh,ieq]
theorem NK {err:Int}:Aj Tryz.prog 17 [] [Aa err] [] (.agg (AY (IW err))) :=
 Aq Tryz.func17 (XS _ err) ⟨trivial,VV.le_refl _⟩
theorem AaT {p:Int}:Aj Tryz.prog 144 [] [.agg (Ae e),Aa p] [] (.agg (Ae (BA e p))) :=
 Aq Tryz.func144 (AfR _ e p) ⟨trivial,VV.le_refl _⟩
theorem Agd (n:BF e){l:List Int}(o:l.length<=1048576)(c:InE e.M l):Aj Tryz.prog 142 [] [.agg (Ae e),Ad true l] [] (.tup [Ad true (BQ e l).1,Aa (BQ e l).2]):=by
 refine Aq Tryz.func142 (Ajs (BQ e l) e l) ?_;refine Ax.own 2 6 1 (AJ []) rfl ?_;change Ax _ _ (AcW e l [] 0);refine Ar (fun g st=>∃ (k:Nat) (out:List Int),k<=l.length/\g=l.length - k/\out.length<=k/\JP (Be e) out (l.drop k)=BQ e l/\st=AcW e l out k) ⟨_,Up.of ⟨0,[],ApD _,rfl,ApD _,rfl,rfl⟩⟩ ?_;rintro g st ⟨k,out,p,rfl,q,b,rfl⟩;refine ApI (Age _ e l out k _) ⟨fun f=>?_,fun h=>?_⟩
 ·have a:k<l.length:=by have:=AL f;omega
  have j:(k:Int).toNat=k:=by omega
  rw[j];rw[Bs (d:=0) a,LR]at b;refine⟨⟨by omega,by omega⟩,Be e (l.getD k 0),NL n (c _ (Av a)),fun m=>?_,fun m=>⟨by omega,l.length - (k+1),by omega,Up.mk (hs':=[.box (Ae e),.arr true 0 (out.length+1) 1 (AJ (out++[(Be e (l.getD k 0)).1]))]) (AS _) ⟨Ob.le_refl _,Ap6 fun i hi=>AV (Ht hi),trivial⟩ ⟨k+1,out++[(Be e (l.getD k 0)).1],by omega,rfl,by simp;omega,?_,?_⟩⟩⟩
  ·rw[show decide ((Be e (l.getD k 0)).2≠0)=true by simpa using m,Apy]at b;rw[← b];exact⟨trivial,Aq4 ⟨Aqd,VV.le_refl _,trivial⟩⟩
  ·grind
  ·rw[Al (by omega)];unfold AcW;grind
 ·rw[Ap2 (by have:=AP h;omega)]at b;rw[← b];exact⟨trivial,VV.le_refl _⟩
def IA (e:D.Env)(s:D.Stmt):Int × Int:=bif decide ((AB e s.A).2≠0) then(0,(AB e s.A).2) else bif decide ((Bb e (AB e s.A).1).length≠s.Args.length) then(0,49) else((AB e s.A).1,0)
theorem NJ (d:BF e)(f:0<=s.A/\s.A<e.M.Exprs.length):Aj Tryz.prog 63 [] [.agg (Ae e),.agg (Au s)] [] (vII (IA e s)):=by
 have a:IA e s=bif decide ((AB e s.A).2≠0) then(0,(AB e s.A).2) else bif decide ((Bb e (AB e s.A).1).length≠s.Args.length) then(0,49) else((AB e s.A).1,0):=rfl
 generalize IA e s=R at a;refine Aq Tryz.func63 (XM _ _ e s) ⟨AB e s.A,TP d f,fun h=>AU ?_,fun h=>?_⟩
 ·grind
 have h0:(AB e s.A).2=0:=by simpa using h
 have b:=FJ d.wf h0;rw[h0]at a;generalize (AB e s.A).1=n at b a ⊢;have h1:=b.lo;have h2:=b.hi;have h3:=b.le;rw[AK (by omega) (by omega)];refine⟨⟨by omega,by omega⟩,b.sh,fun c=>AU ?_,fun c=>AU ?_⟩
 ·rw[F7]at c;rw[a,show decide ((Bb e n).length≠s.Args.length)=true from c]<;>rfl
 ·rw[F7]at c;rw[a,show decide ((Bb e n).length≠s.Args.length)=false from c]<;>rfl
theorem Ag6 {f:List D.Type}{l:List Int}{k:Nat}(a:k<l.length):(G4 f l).take (k+1)=(G4 f l).take k++[IG (f.getD k default) (l.getD k 0)]:=by
 rw[Arc];simp[G4,a]
theorem Af5 (t:BF e)(hs:EM e.M s)(h0:(AB e s.A).2=0)(u:(Bb e (AB e s.A).1).length=s.Args.length) :
  Aj Tryz.prog 103 [] [.agg (Ae e),.agg (Au s),Aa (AB e s.A).1] [] (.tup [Ad true (AD e s).2.1,Aa (AD e s).2.2]):=by
 have b:(AD e s).2=bif decide ((BQ e s.Args).2≠0) then([],(BQ e s.Args).2) else(G4 (Bb e (AB e s.A).1) (BQ e s.Args).1,0):=by
  unfold AD;grind
 generalize (AD e s).2=r at b;have c:=FJ t.wf h0;generalize (AB e s.A).1=n at c b u ⊢;have h1:=c.lo;have h2:=c.hi;have h3:=c.le;have m:=hs.args;refine Aq Tryz.func103 (Ajk r e s n rfl) ⟨BQ e s.Args,Agd t m (K6 hs.st).1,fun h=>?_,fun h=>?_⟩
 ·rw[b,show decide ((BQ e s.Args).2≠0)=true by simpa using h];exact⟨trivial,Aq4 ⟨Aqd,VV.le_refl _,trivial⟩⟩
 have d:(BQ e s.Args).2=0:=by simpa using h
 have g:=Oj d;rw[d]at b;rw[AK (by omega) (by omega)];refine⟨⟨by omega,by omega⟩,c.sh,?_⟩;refine Ax.own 1 10 1 (AJ []) rfl ?_;change Ax _ _ (Ain (Bb e n) (BQ e s.Args).1 ((G4 (Bb e n) (BQ e s.Args).1).take 0) ((0:Nat):Int));generalize Bb e n=f at b u ⊢;generalize (BQ e s.Args).1=l at b g ⊢;have o:∀ k,k<=l.length->((G4 f l).take k).length=k:=fun k v=>by simp[G4];omega
 refine As l.length (fun k=>Ain f l ((G4 f l).take k) k) (fun _=>True) trivial ?_;intro k v _ J next
 have w:=o k v;refine ApI (Af6 r f l _ k J) ⟨fun j=>?_,fun p=>?_⟩
 ·have a:k<l.length:=by have:=AL j;omega
  have q:(k:Int).toNat=k:=by omega
  rw[q];refine⟨⟨by omega,by omega⟩,⟨by omega,by omega⟩,IG (f.getD k default) (l.getD k 0),TO _ _,by omega,next _ a trivial (Up.mk (l':=[(8,Ad true l),(10,.ow 0 0 ((G4 f l).take (k+1)).length),(11,AC true f),(12,Aa ((k+1:Nat):Int))]) (hs':=[.arr true 0 ((G4 f l).take (k+1)).length 1 (AJ ((G4 f l).take (k+1)))]) ?_ ?_ rfl)⟩
  ·grind [Al,AS]
  ·rw[Ag6 a,ApP];exact⟨Ap6 fun i hi=>AV (Ht hi),trivial⟩
 ·rw[b,Aqq (by simp[G4];have:=AP p;omega)];exact⟨trivial,VV.le_refl _⟩
theorem RD (h:CA e):Aj Tryz.prog 18 [] [.agg (Ae e)] [] (.tup [Ac (AX e).1,Aa (AX e).2]):=by
 have a:AX e=bif decide ((CC e).Provided<0) then(true,0) else(decide ((Be e (CC e).Provided).1≠0),(Be e (CC e).Provided).2):=rfl
 generalize AX e=r at a;have d:I4 e.M.Procs.length (fun i=>!DK e.M i)=-1:=(Dp h.ok.may).2.1;have b:=FM (n:=e.M.Procs.length) (f:=fun i=>!DK e.M i) (by omega) (De e e.Pid).Type_.toNat (by have:=h.facts.1;omega);have c:(CC e).Provided<e.M.Exprs.length:=by
  unfold DK at b;simp only[Aqt,ApN,ApW]at b;have:=b.2.2.2.1;unfold CC A3;omega
 refine Aq Tryz.func18 (AfZ r e) ⟨CC e,OD h,fun h1=>⟨trivial,?_⟩,fun h1=>⟨Be e (CC e).Provided,NL h.ok (by grind),trivial,?_⟩⟩
 ·rw[a,h1];exact VV.le_refl _
 ·rw[a,h1,AT];exact VV.le_refl _
theorem Adc (b:BF e)(hs:EM e.M s)(c:s.Kind=6):Aj Tryz.prog 64 [] [.agg (Ae e),Ad true s.Args,Ad true s.Match] [] (.tup [Ad true (Cl e s).1,Aa (Cl e s).2]) :=
 Pz (ev:=Be e) hs.args (hs.k6 c) fun a d=>NL b ((K6 hs.st).1 a d)
theorem Akl {m l mt:List Int}:decide (Gy ⟨0,[m]⟩ l mt false=0)=Dv m l mt:=by
 show decide ((bif Dv m l mt then((0:Nat):Int) else -1)=0)=_;cases Dv m l mt<;>rfl
theorem XN {c:Int}{m:List Int}(d:BF e)(hs:EM e.M s):Aj Tryz.prog 180 [] [.agg (Ae e),.agg (Au s),Aa c,Ad true m] [] (Ac (E0 e s c m)):=by
 have f:E0 e s c m=bif decide (s.Kind≠6)||(decide (1<s.N)||decide (s.Args.length≠m.length)) then false
  else bif decide ((AB e s.A).2≠0)||decide ((AB e s.A).1≠c) then false
  else bif decide ((Cl e s).2≠0) then false else decide (Gy ⟨0,[m]⟩ (Cl e s).1 s.Match false=0):=rfl
 generalize E0 e s c m=b at f;have g:=hs.args;have i:(bif bif s.Kind != (6:Int) then true else decide (s.N > (1:Int)) then true else(s.Args.length:Int) != (m.length:Int))=(decide (s.Kind≠6)||(decide (1<s.N)||decide (s.Args.length≠m.length))):=by grind
 refine Aq Tryz.func180 (AaZ b e s c m rfl) ⟨fun h=>Aw ?_,fun h=>?_⟩
 ·grind
 rw[i]at h;have a:s.Kind=6:=by grind
 have j:=hs.k6 a;rw[h,Apw]at f;refine⟨AB e s.A,TP d (hs.kA (.inr (.inr a))),fun h2=>Aw ?_,fun h2=>⟨Cl e s,Adc d hs a,fun h3=>Aw ?_,fun h3=>⟨_,PD (by unfold Len;omega),Aw ?_⟩⟩⟩
 ·grind
 ·grind
 simp_all [AT,Akl]
end
section
variable {e : D.Env} {s:D.Stmt} {ws:List D.Trans} {mt:Int->List Int->List Pn} {self:Bool}
abbrev MtR (e:D.Env)(mt:Int->List Int->List Pn):Prop:=∀ c m,Aj Tryz.prog 104 [] [.agg (Ae e),Aa c,Ad true m] [] (Bl true (mt c m))
theorem Aa5 (g:BF e)(hs:EM e.M s)(k:s.Kind=5)(h:self=false->MtR e mt) :
  Aj Tryz.prog 62 [] [.agg (Ae e),.agg (Au s),Ac self] [] (.agg (AR (E5 e mt s self))):=by
 have c:E5 e mt s self=bif decide ((IA e s).2≠0) then⟨true,(IA e s).2,[]⟩
  else bif decide (0<(BV e.M (B6 e (AB e s.A).1).Shape).Room) then⟨decide (((B6 e (AB e s.A).1).Queue.length:Int)<(BV e.M (B6 e (AB e s.A).1).Shape).Room),0,[]⟩
  else bif self then⟨false,0,[]⟩
  else bif decide ((AD e s).2.2≠0) then⟨true,(AD e s).2.2,[]⟩
  else⟨decide (0<(mt (AB e s.A).1 (AD e s).2.1).length),0,mt (AB e s.A).1 (AD e s).2.1⟩:=by
  unfold E5 IA;grind
 generalize E5 e mt s self=r at c;refine Aq Tryz.func62 (AfX r e s self rfl rfl) ⟨IA e s,NJ g (hs.kA (.inr (.inl k))),fun h1=>Db ?_,fun h1=>?_⟩
 ·grind
 have h0:decide ((IA e s).2≠0)=false:=by simpa using h1
 rw[h0,Apw]at c;have l:(AB e s.A).2=0/\(Bb e (AB e s.A).1).length=s.Args.length/\(IA e s).1=(AB e s.A).1:=by
  unfold IA at h0 ⊢;grind
 obtain⟨j,t2,m⟩:=l;have b:=Af5 g hs j t2;have d:=FJ g.wf j;rw[m];generalize (AB e s.A).1=n at d c b ⊢;have h2:=d.lo;have h3:=d.hi;have h4:=d.le;rw[AK (by omega) (by omega)];refine⟨⟨by omega,by omega⟩,d.sh,fun f=>Db ?_,fun f=>⟨fun a=>Db ?_,fun a=>⟨(AD e s).2,b,fun i=>Db ?_,fun i=>⟨mt n (AD e s).2.1,h a _ _,AmR ?_⟩⟩⟩⟩
 ·rw[c,show decide (0<(BV e.M (B6 e n).Shape).Room)=true from f]<;>rfl
 ·rw[c,show decide (0<(BV e.M (B6 e n).Shape).Room)=false from f,a]<;>rfl
 ·rw[c,show decide (0<(BV e.M (B6 e n).Shape).Room)=false from f,a,show decide ((AD e s).2.2≠0)=true by simpa using i]<;>rfl
 ·rw[c,show decide (0<(BV e.M (B6 e n).Shape).Room)=false from f,a,show decide ((AD e s).2.2≠0)=false by simpa using i];simp_all
theorem RC (b:BF e)(hs:EM e.M s)(i:self=false->MtR e mt) :
  Aj Tryz.prog 35 [] [.agg (Ae e),.agg (Au s),Ac self] [] (.agg (AR (Ce e mt s self))):=by
 have d:Ce e mt s self=if s.Kind=1 then(bif Dz e s.A then JW e else⟨decide ((Be e s.A).1≠0)||decide ((Be e s.A).2≠0),(Be e s.A).2,[]⟩)
  else if s.Kind=2 then(bif Dz e s.B then JW e else⟨true,0,[]⟩)
  else if s.Kind=9 then⟨decide (e.S.Chans.length<32),0,[]⟩
  else if s.Kind=5 then E5 e mt s self
  else if s.Kind=6 then⟨decide (0<=(Bj e s).2.1)||decide ((Bj e s).2.2≠0),(Bj e s).2.2,[]⟩
  else if s.Kind=7 then⟨false,0,[]⟩ else⟨true,0,[]⟩:=rfl
 generalize Ce e mt s self=r at d;have lf:∀ {a:Ab},a=r->leO [] []/\VV.le (.agg (AR a)) (.agg (AR r)):=fun h=>by subst h;exact⟨trivial,VV.le_refl _⟩
 have j:(⟨decide ((e.S.Procs.length:Int)<16),0,[]⟩:Ab)=JW e:=by
  unfold JW;have:decide ((e.S.Procs.length:Int)<16)=decide (e.S.Procs.length<16):=by grind
  rw[this]
 obtain⟨_,t,u⟩:=K6 hs.st;refine Aq Tryz.func35 (AfU r e s self rfl rfl rfl rfl) ⟨Dz e s.A,TN t,Dz e s.B,TN u,fun k1=>⟨fun l=>Db ?_,fun l=>⟨Be e s.A,NL b (hs.kA (.inl (by simpa using k1))),Db ?_⟩⟩,
  fun k1=>⟨fun k2=>⟨fun l=>Db ?_,fun l=>Db ?_⟩,fun k2=>⟨fun o=>⟨E5 e mt s self,Aa5 b hs (by simpa using o) i,lf ?_⟩,fun o=>⟨fun k6=>?_,fun k6=>⟨fun v=>Db ?_,fun v=>⟨fun p=>Db ?_,fun p=>Db ?_⟩⟩⟩⟩⟩⟩
 ·grind
 ·grind
 ·grind
 ·grind
 ·grind
 ·have k:s.Kind=6:=by simpa using k6
  have E:=hs.n6 k;have w:=hs.args;have x:=hs.k6 k;rw[ApT (by omega),ApT (by omega),ApT (by omega),ApT (by omega),Aqc k]at d;have f:Bj e s=bif decide ((IA e s).2≠0) then(0,-1,(IA e s).2) else bif decide ((Cl e s).2≠0) then(0,-1,(Cl e s).2)
    else((IA e s).1,Gy (B6 e (IA e s).1) (Cl e s).1 s.Match (decide (s.N.tmod 2=1)),0):=by
   unfold Bj IA;grind
  have m:(IA e s).2=0->AkZ e (IA e s).1:=by
   intro h;unfold IA at h ⊢;cases y:decide ((AB e s.A).2≠0) with
   | true=>grind
   | false =>
    rw[y,Apw]at h;rw[Apw];cases z:decide ((Bb e (AB e s.A).1).length≠s.Args.length) with
    | true=>rw[z]at h;cases h
    | false=>exact FJ b.wf (by grind)
  refine⟨IA e s,NJ b (hs.kA (.inr (.inr k))),fun h1=>Db ?_,fun h1=>⟨Cl e s,Adc b hs k,fun h2=>Db ?_,fun h2=>?_⟩⟩
  ·grind
  ·grind
  ·have g:=m (by simpa using h1);rw[show decide ((IA e s).2≠0)=false by simpa using h1,Apw,show decide ((Cl e s).2≠0)=false by simpa using h2,Apw]at f;rw[f]at d;generalize (IA e s).1=n at g d ⊢;have h2:=g.lo;have h3:=g.hi;have h4:=g.le;have h5:=g.q;rw[AK (by omega) (by omega)];have C:(bif s.N==(1:Int) then true else s.N==3)=decide (s.N.tmod 2=1):=by grind
   rw[C];refine⟨⟨by omega,by omega⟩,_,RH (c:=B6 e n) (by unfold Len;omega) (by unfold Len;omega),Db ?_⟩;grind
 ·grind
 ·have k:s.Kind=9:=by simpa using p
  rw[d,ApT (by omega),ApT (by omega),Aqc k];have:decide ((e.S.Chans.length:Int)<32)=decide (e.S.Chans.length<32):=by grind
  rw[this]
 grind
theorem Aiw : isSome (Dc e GZ ws true)=ws.any fun t=>(Ce e GZ t.S true).is||decide (t.S.Kind=7):=by
 have a:∀ n,n<=ws.length->Eg e GZ ws true n=(ws.take n).any fun t=>(Ce e GZ t.S true).is:=by
  intro n
  induction n with
  | zero=>intro _;rfl
  | succ n ih =>
   intro c;unfold Eg;rw[ih (by omega),show ws.take (n+1)=ws.take n++[ws.getD n default] by grind [Arc],List.any_append,Arw,List.any_nil,Bool.or_false]
 have k:=a _ (ApC _);rw[AqS]at k;rw[Aqe];unfold isSome Dc;rw[List.any_map,List.any_eq_true,List.any_eq_true];constructor
 ·rintro⟨i,hi,h⟩;have hi:=Aqo.1 hi;refine⟨_,Av (d:=default) hi,?_⟩;have h:(Er e GZ ws true i).is=true:=h;unfold Er at h;grind
 ·rintro⟨t,b,h⟩
  by_cases hs:Eg e GZ ws true ws.length=true
  ·rw[k,List.any_eq_true]at hs;obtain⟨t,b,h⟩:=hs;obtain⟨i,hi,rfl⟩:=Aqr b;refine⟨i,Aqo.2 hi,?_⟩;show(Er e GZ ws true i).is=true;unfold Er;grind
  ·have hs:Eg e GZ ws true ws.length=false:=by simpa using hs
   obtain⟨i,hi,rfl⟩:=Aqr b;refine⟨i,Aqo.2 hi,?_⟩;show(Er e GZ ws true i).is=true;unfold Er;grind
theorem Aa0 {n:Nat}(g:BF e)(f:Ze e.M n ws):Aj Tryz.prog 181 [] [.agg (Ae e),Ap true ws,Ac true] [] (Ac (isSome (Dc e GZ ws true))):=by
 have i:=f.len;rw[Aiw];refine Aq Tryz.func181 (AfV _ e ws true) ?_;change Ax _ _ (WY e ws true ((0:Nat):Int));refine As ws.length (fun k=>WY e ws true k) (fun k=>(ws.any fun t=>(Ce e GZ t.S true).is||decide (t.S.Kind=7))=(ws.drop k).any fun t=>(Ce e GZ t.S true).is||decide (t.S.Kind=7)) rfl ?_;intro k o j J next
 refine ApI (Aa1 _ e ws true k J) ⟨fun b=>?_,fun l=>Aw ?_⟩
 ·have a:k<ws.length:=by have:=AL b;omega
  have c:(k:Int).toNat=k:=by omega
  rw[c];rw[Bs (d:=default) a,Arw]at j;refine⟨⟨by omega,by omega⟩,Ce e GZ (ws.getD k default).S true,RC g (f.st _ (Av a)) (fun h=>by cases h),fun _=>⟨by omega,by omega⟩,fun m=>Aw ?_,fun m=>next _ a ?_ (Up.of ?_)⟩
  ·grind
  ·grind
  grind [Al]
 grind
def OX (e:D.Env)(mt:Int->List Int->List Pn)(ws:List D.Trans)(k:Nat):List Ab:=(List.range k).map fun i=>Ce e mt (ws.getD i default).S false
theorem YZ {k:Nat}:(OX e mt ws k).length=k:=by simp[OX]
theorem Aht {k:Nat}:OX e mt ws (k+1)=OX e mt ws k++[Ce e mt (ws.getD k default).S false]:=by simp[OX,List.range_succ]
theorem AkH : OX e mt ws ws.length=HY e mt ws false 0:=by
 unfold OX HY;grind
theorem AnF {out:List Ab}{x:Ab}{i:Nat}(hi:i<out.length+1):(bif i.blt out.length then AR (out.getD i default) else List.take 3 (List.drop ((i - out.length)*3) (AR x)))=D9 (out++[x]) i :=
 BR (f:=AR) (d:=default) (l:=out) (r:=[x]) (F:=fun i=>AR (out.getD i default)) (G:=fun i=>List.take 3 (List.drop (i*3) (AR x))) (fun _ _=>rfl) (fun j a=>by
  obtain rfl:j=0:=by simpa using a
  rfl) (by simp;omega)
theorem Abm {n:Nat}(o:BF e)(m:Ze e.M n ws)(h:MtR e mt):Aj Tryz.prog 20 [] [.agg (Ae e),Ap true ws] [] (Bo true (Dc e mt ws false)):=by
 have p:=m.len;refine Aq Tryz.func20 (Agb _ e ws) ?_;refine Ax.own 2 5 3 (D9 []) rfl ?_;change Ax _ _ (Aio e ws (OX e mt ws 0) false ((0:Nat):Int));refine As ws.length (fun k=>Aio e ws (OX e mt ws k) (Eg e mt ws false k) k) (fun _=>True) trivial ?_;intro k q _ J next
 have r:(OX e mt ws k).length=k:=YZ;refine ApI (Abo _ e ws _ _ k J) ⟨fun b=>?_,fun f=>?_⟩
 ·have a:k<ws.length:=by have:=AL b;omega
  have c:(k:Int).toNat=k:=by omega
  rw[c];refine⟨⟨by omega,by omega⟩,Ce e mt (ws.getD k default).S false,RC o (m.st _ (Av a)) (fun _=>h),by omega,next _ a trivial (Up.mk (l':=[(1,Ap true ws),(2,.bp 0 0),(5,.ow 1 0 (OX e mt ws (k+1)).length),(6,Ac (Eg e mt ws false (k+1))),(7,Aa ((k+1:Nat):Int))]) (hs':=[.box (Ae e),.arr true 0 (OX e mt ws (k+1)).length 3 (D9 (OX e mt ws (k+1)))]) ?_ ?_ rfl)⟩
  ·have:Eg e mt ws false (k+1)=bif Eg e mt ws false k then true else(Ce e mt (ws.getD k default).S false).is:=by rw[Br]<;>rfl
   grind [YZ,Al,AS]
  ·rw[Aht,ApP];exact⟨Ob.le_refl _,Ap6 fun i hi=>AV (AnF hi),trivial⟩
 ·obtain rfl:k=ws.length:=by have:=AP f;omega
  clear next
  generalize d:Eg e mt ws false ws.length=some;rw[AkH];change Ax _ _ (Tv ws (HY e mt ws false 0) some ((0:Nat):Int));refine As ws.length (fun k=>Tv ws (HY e mt ws false k) some k) (fun _=>True) trivial ?_;intro k q _ J next
  refine ApI (Abn _ ws _ some k J) ⟨fun b=>?_,fun f=>⟨trivial,?_⟩⟩
  ·have a:k<ws.length:=by have:=AL b;omega
   have c:(k:Int).toNat=k:=by omega
   rw[c];have ea:Er e mt ws false k=bif decide ((ws.getD k default).S.Kind=7)&&!(Eg e mt ws false ws.length) then{ Ce e mt (ws.getD k default).S false with is:=true } else Ce e mt (ws.getD k default).S false:=rfl
   refine⟨⟨by omega,by omega⟩,fun j=>⟨⟨by omega,by rw[HU];omega⟩,next _ a trivial (Up.mk (hs':=[.arr true 0 (HY e mt ws false k).length 3 (D9 (HY e mt ws false (k+1)))]) (AS _) ⟨Ap6 fun i hi=>AV ?_,trivial⟩ ?_)⟩,fun j=>next _ a trivial (Up.of ?_)⟩
   ·rw[HU]at hi;rw[I2 a,ApT (Arz _)];unfold D9;rw[I2 hi,I2 hi]
    by_cases g:i=k
    ·subst g;have h7:(ws.getD i default).S.Kind=7:=by simpa using j
     have l:Ce e mt (ws.getD i default).S false=⟨false,0,[]⟩:=by
      unfold Ce;grind
     rw[Aqc (Aqx _),AqX,Apy,ea,l,d,Aqb h7];cases some<;>rfl
    ·rw[Acm g,Apw];grind
   ·rw[Al (by omega)];unfold Tv;grind [HU]
   ·have h7:decide ((ws.getD k default).S.Kind=7)=false:=by rw[← ieq];exact j
    have em:HY e mt ws false k=HY e mt ws false (k+1):=by
     unfold HY;grind
    grind [Al]
  grind [AP,YY,VV.le_refl]
end
theorem YP : ∀ {r:List (List D.Trans)} {k:Nat},Si k r=(List.range r.length).map fun j=>(((k+j:Nat):Int),r.getD j [])
 | [],_=>rfl
 | w::r,k=>by
  rw[show Si k (w::r)=((k:Int),w)::Si (k+1) r from rfl,YP,Aqi,List.range_succ_eq_map,Aqm,List.map_map];refine congrArg (List.cons _) (Arf fun j _=>?_);grind
theorem T3 {l:D.Loc}:EA l=(IV l.Esc.length++[-1]).map fun i=>(i,JZ l i):=by
 unfold EA IV;rw[YP,Arb,List.map_map];refine congrArg (·++_) (Arf fun j _=>?_);rw[Ap5];show((j:Int),_)=((j:Int),JZ l j);unfold JZ;grind
theorem AjH {n:Nat}{i:Int}(h:i∈IV n++[-1]):0<=i->i<n:=fun h0=>by
 rcases Ap1.1 h with h | h
 ·obtain⟨j,a,rfl⟩:=Aqw.1 h;grind
 grind
theorem T4 {l:D.Loc}{i:Int}(h:0<=i->i<l.Esc.length):JZ l i∈BN l:=by
 unfold JZ
 by_cases h0:i<0
 ·rw[Aqb h0];exact ApF ..
 ·rw[Ap9 h0];exact ApM _ (Av (by have:=h (by omega);omega))
section
variable {e : D.Env} {c:Int} {m:List Int}
theorem AfD {out:List Pn}{x:Pn}{i:Nat}(hi:i<out.length+1):(bif i.blt out.length then GP (out.getD i default) else List.take 3 (List.drop ((i - out.length)*3) (GP x)))=Dj (out++[x]) i :=
 Ai9 (x:=x) (G:=fun i=>List.take 3 (List.drop (i*3) (GP x))) rfl hi
set_option maxRecDepth 10000 in
theorem Aa7 (h:CA e):Aj Tryz.prog 143 [] [.agg (Ae e),Aa c,Ad true m] [] (Bl true (Ey e c m)):=by
 have b:Ey e c m=bif !(AX e).1||decide ((AX e).2≠0) then[] else Hu e c m (EA (Cy e)):=rfl
 rw[T3]at b;generalize Ey e c m=r at b;have q:=h.wloc.Esc.1;have o:=fun i=>AjH (n:=(Cy e).Esc.length) (i:=i)
 refine Aq Tryz.func143 (AfY r e c m) ⟨AX e,RD h,fun h1=>?_,fun h1=>⟨_,PC h,?_⟩⟩
 ·rw[Br,AT]at h1;rw[b,h1];exact⟨trivial,Aqd⟩
 rw[Br,AT]at h1;rw[h1,Apw]at b;have y:(IV (Cy e).Esc.length++[-1]).length<=1048577:=by rw[ApP,NT];exact AqE q
 generalize IV (Cy e).Esc.length++[-1]=L at b o y ⊢;refine Ar (fun g st=>∃ k:Nat,k<=L.length/\g=L.length - k/\r=Hu e c m ((L.drop k).map fun i=>(i,JZ (Cy e) i))/\st=AcS e c m L k) ⟨_,Up.of ⟨0,ApD _,rfl,b,rfl⟩⟩ ?_;rintro g st ⟨k,F,rfl,b,rfl⟩;refine ApI (Aa9 r e c m L k _) ⟨fun z=>?_,fun A=>?_⟩
 ·have f:k<L.length:=by have:=AL z;omega
  have p:(k:Int).toNat=k:=by omega
  rw[p];rw[Bs (d:=0) f,Aqm,Js]at b;have hi:=o _ (Av (d:=0) f);have w:=h.ws (T4 hi);have B:L.getD k 0=L.getD (k:Int).toNat 0:=by rw[p]
  refine⟨⟨by omega,by omega⟩,_,RF h hi,?_⟩;generalize JZ (Cy e) (L.getD k 0)=ws at b w;have C:=w.len;refine Ax.own 6 12 3 (Dj []) rfl ?_;change Ax _ _ (WZ e c m L k ws [] 0);generalize E:DA e c m (L.getD k 0) 0 ws=G at b;refine Ar (fun g st=>∃ (j:Nat) (out:List Pn),j<=ws.length/\g=ws.length - j/\out.length<=j/\out++DA e c m (L.getD k 0) j (ws.drop j)=G/\st=WZ e c m L k ws out j) ⟨_,Up.of ⟨0,[],ApD _,rfl,ApD _,E,rfl⟩⟩ ?_;rintro g st ⟨j,out,H,rfl,I,l,rfl⟩;refine ApI (Aa8 r e c m L k ws out j _ _) ⟨fun s=>?_,fun t=>?_⟩
  ·have a:j<ws.length:=by have:=AL s;omega
   have u:(j:Int).toNat=j:=by omega
   rw[u,p];rw[Bs (d:=default) a,Ry]at l;refine⟨⟨by omega,by omega⟩,E0 e (ws.getD j default).S c m,XN h.ok (w.st _ (Av a)),fun v=>⟨⟨by omega,by omega⟩,by omega,ws.length - (j+1),by omega,
    Up.mk (hs':=[.box (Ae e),.arr true 0 (out.length+1) 3 (Dj (out++[Pn.mk e.Pid (L.getD k 0) j]))]) (AS _) ⟨Ob.le_refl _,Ap6 fun i hi=>AV (AfD (x:=Pn.mk e.Pid (L.getD k 0) j) hi),trivial⟩ ⟨j+1,out++[Pn.mk e.Pid (L.getD k 0) j],a,rfl,by simp;omega,?_,?_⟩⟩,fun v=>⟨ws.length - (j+1),by omega,Up.of ⟨j+1,out,a,rfl,by omega,?_,?_⟩⟩⟩
   ·grind
   ·rw[Al (by omega)];unfold WZ;grind
   ·grind
   grind [Al]
  ·rw[Ap2 (by have:=AP t;omega)]at l;have l:out=G:=by simpa[DA] using l
   subst l;have hp:decide ((out.length:Int) > 0)=decide (0<out.length):=by grind
   rw[hp];refine⟨_,Aa0 h.ok w,fun v=>?_,fun v=>⟨L.length - (k+1),by omega,Up.of ⟨k+1,f,rfl,?_,?_⟩⟩⟩
   ·rw[Br]at v;rw[b,v];exact⟨trivial,VV.le_refl _⟩
   ·grind
   grind [Al]
 ·rw[b,Ap2 (by have:=AP A;omega)];exact⟨trivial,Aqd⟩
set_option maxRecDepth 10000 in
theorem XU (h:CA e):MtR e (BY e):=by
 intro c m;have hp:=h.ok.fit.p;refine Aq Tryz.func104 (Abf _ e c m) ?_;refine Ax.own 3 7 3 (Dj []) rfl ?_;refine Ar (fun g st=>∃ k:Nat,k<=e.S.Procs.length/\g=e.S.Procs.length - k/\st=AcT e c m (CD e c m k) k) ⟨e.S.Procs.length,Up.of ⟨0,ApD _,rfl,rfl⟩⟩ ?_;rintro g st ⟨k,s,rfl,rfl⟩;have o:=Ju (c:=c) (m:=m) h s;refine ApI (XV _ e c m _ k _) ⟨fun j=>?_,fun n=>⟨trivial,?_⟩⟩
 ·have a:k<e.S.Procs.length:=by have:=AL j;omega
  have t:=OC (c:=c) (m:=m) (h.at a);refine⟨fun b=>⟨_,AaT,Ey (BA e k) c m,Aa7 (h.at a),by omega,fun i _=>rfl,e.S.Procs.length - (k+1),by omega,
   Up.mk (hs':=[.box (Ae e),.arr true 0 ((CD e c m k).length+(Ey (BA e k) c m).length) 3 (Dj (CD e c m k++Ey (BA e k) c m))]) (AS _) ⟨Ob.le_refl _,Ap6 fun i hi=>AV ?_,trivial⟩ ⟨k+1,a,rfl,?_⟩⟩,fun b=>⟨e.S.Procs.length - (k+1),by omega,Up.of ⟨k+1,a,rfl,?_⟩⟩⟩
  ·exact BR (f:=GP) (d:=default) (l:=CD e c m k) (r:=Ey (BA e k) c m) (F:=Dj (CD e c m k)) (fun _ _=>rfl) (fun _ _=>rfl) (by simpa using hi)
  ·rw[AT]at b;have q:CD e c m (k+1)=CD e c m k++Ey (BA e k) c m:=by
    show CD e c m k++(bif decide ((k:Int)≠e.Pid) then _ else _)=_;rw[b,Apy]
   rw[Al (by omega),q];unfold AcT;grind
  ·rw[AT]at b;have q:CD e c m (k+1)=CD e c m k:=by
    show CD e c m k++(bif decide ((k:Int)≠e.Pid) then _ else _)=_;grind
   grind [Al]
 ·obtain rfl:k=e.S.Procs.length:=by have:=AP n;omega
  exact VV.le_refl _
end
section
variable {e : D.Env}
theorem TA {out:List Wy}{x:Wy}{i:Nat}(hi:i<out.length+1):(bif i.blt out.length then AY (out.getD i default) else List.take 6 (List.drop ((i - out.length)*6) (AY x)))=ER (out++[x]) i :=
 AaD (x:=x) (G:=fun i=>List.take 6 (List.drop (i*6) (AY x))) rfl hi
theorem Abi {r:List Wy}{L:List Int}{i:Int}{C:List Ab}{k:Nat}(Z:k<L.length)(hi:i=L.getD k 0)(hC:C.length<=1024)(s:∀ x∈C,x.wth.length<=16384){J:St->Prop}
  (hJ:∀ b,Up (fun st=>st=Tu e true L (CP i 0 C) (IntKind.i64.wrap ((k:Int)+1))) b->J b) :
  Ax ((fc A5 El Tryz.f8 [] (AW true r)).loop [1,1,1,1,1,1,0,1,0] J) [1,0,0,1,1,0] (Pt e true L [] k C 0):=by
 refine Ar (fun g st=>∃ (j:Nat) (out:List Wy),j<=C.length/\g=C.length - j/\out.length<=j*16385/\out++CP i j (C.drop j)=CP i 0 C/\st=Pt e true L out k C j) ⟨C.length,Up.of ⟨0,[],ApD _,rfl,ApD _,rfl,rfl⟩⟩ ?_;rintro g st ⟨j,out,hj,rfl,P,m,rfl⟩;refine ApI (AaW r e true L out k C j _ _ rfl rfl rfl) ⟨fun F=>?_,fun G=>?_⟩
 ·have c:j<C.length:=by have:=AL F;omega
  have u:(j:Int).toNat=j:=by omega
  have H:(k:Int).toNat=k:=by omega
  have a:inX (j:Int) C.length:=⟨by omega,by omega⟩;have Q:=s _ (Av (d:=default) c);rw[u,H,← hi];rw[Bs (d:=default) c,On]at m;generalize R:C.getD j default=x at m Q ⊢;have S:j*16385<=1024*16385:=ApS _ (by omega);have v:∀ (J2:St->Prop) (out1:List Wy),out1.length<=j*16385+1->out1++(x.wth.map (Ff i j x.err)++CP i (j+1) (C.drop (j+1)))=CP i 0 C ->
    (∀ b,Up (fun st=>∃ out2:List Wy,out2.length<=(j+1)*16385/\out2++CP i (j+1) (C.drop (j+1))=CP i 0 C/\st=Pt e true L out2 k C ((j+1:Nat):Int)) b->J2 b) ->
    Ax (((fc A5 El Tryz.f8 [] (AW true r)).loop [1,1,1,1,1,1,0,1,0] J).loop [1,0,0,1,1,0] J2) [1,0,0,1,1,1,0] (WX e true L out1 k C j ⟨i,j,-1,-1,-1,x.err⟩ 0):=by
   intro J2 out1 I K T;refine Ar (fun g st=>∃ (h:Nat) (w:Wy) (o:List Wy),h<=x.wth.length/\g=x.wth.length - h/\o.length<=j*16385+1+h/\o++((x.wth.drop h).map (Ff i j x.err)++CP i (j+1) (C.drop (j+1)))=CP i 0 C/\(w.Esc=i/\w.Way=j/\w.Err=x.err)/\st=WX e true L o k C j w h)
    ⟨x.wth.length,Up.of ⟨0,_,out1,ApD _,rfl,I,K,⟨rfl,rfl,rfl⟩,rfl⟩⟩ ?_
   rintro g st ⟨h,w,o,hh,rfl,U,y,⟨V,w2,W⟩,rfl⟩;refine ApI (AaV r e true L o k C j w h _ _ _ rfl rfl rfl) ?_;rw[u,R];refine⟨a,fun z=>?_,fun A=>?_⟩
   ·have f:h<x.wth.length:=by have:=AL z;omega
    have B:(h:Int).toNat=h:=by omega
    have l:inX (h:Int) x.wth.length:=⟨by omega,by omega⟩;rw[B];rw[Bs (d:=default) f,Aqm,AqG]at y;generalize x.wth.getD h default=p at y ⊢;rw[V,w2,W];refine⟨a,l,a,l,a,l,by omega,x.wth.length - (h+1),by omega,Up.mk (hs':=[.box (Ae e),.arr true 0 (o.length+1) 6 (ER (o++[Ff i j x.err p])),.box (AY (Ff i j x.err p))]) (AS _)
     ⟨Ob.le_refl _,Ap6 fun t M=>AV (TA (x:=Ff i j x.err p) M),Ob.le_refl _,trivial⟩ ⟨h+1,Ff i j x.err p,o++[Ff i j x.err p],f,rfl,by simp;omega,by grind,⟨rfl,rfl,rfl⟩,?_⟩⟩
    rw[Al (by omega)];unfold WX;grind
   ·have N:x.wth.length<=h:=by have:=AP A;omega
    grind [Ap2,AqY,Aq0,Up.of,Ajc,Al]
  have next:∀ b,Up (fun st=>∃ out2:List Wy,out2.length<=(j+1)*16385/\out2++CP i (j+1) (C.drop (j+1))=CP i 0 C/\st=Pt e true L out2 k C ((j+1:Nat):Int)) b ->
    ∃ O,O<C.length - j/\Up (fun st=>∃ (j:Nat) (out:List Wy),j<=C.length/\O=C.length - j/\out.length<=j*16385/\out++CP i j (C.drop j)=CP i 0 C/\st=Pt e true L out k C j) b:=by
   rintro b ⟨X,Y,out2,h1,h2,h3⟩;exact⟨C.length - (j+1),by omega,X,Y,j+1,out2,c,rfl,h1,h2,h3⟩
  have ez:((x.wth.length:Int)==0)=decide (x.wth.length=0):=by grind
  refine⟨⟨by omega,by omega⟩,a,a,fun _=>a,fun E=>⟨by omega,?_⟩,fun E=>?_⟩
  ·rw[Bh,ez]at E;have n:Fp i j x=Wy.mk i j (-1) (-1) (-1) x.err::x.wth.map (Ff i j x.err):=by unfold Fp;rw[E]<;>rfl
   rw[n]at m;refine Ax.le (hs':=[.box (Ae e),.arr true 0 (out.length+1) 6 (ER (out++[Wy.mk i j (-1) (-1) (-1) x.err])),.box (AY (Wy.mk i j (-1) (-1) (-1) x.err))]) (AS _)
     ⟨Ob.le_refl _,Ap6 fun t M=>AV (TA (x:=Wy.mk i j (-1) (-1) (-1) x.err) M),Ob.le_refl _,trivial⟩ ?_
   have q:=v _ (out++[Wy.mk i j (-1) (-1) (-1) x.err]) (by simp;omega) (by rw[Aqp];exact m) next
   unfold WX at q;rw[ApP]at q;exact q
  ·rw[Bh,ez]at E;have n:Fp i j x=x.wth.map (Ff i j x.err):=by unfold Fp;rw[E]<;>rfl
   rw[n]at m;exact v _ out (Nat.le_succ_of_le P) m next
 ·rw[Ap2 (by have:=AP G;omega)]at m;have m:out=CP i 0 C:=by simpa[CP] using m
  grind [Up.of]
theorem RA (h:CA e):Aj Tryz.prog 8 [] [.agg (Ae e)] [] (AW true (Bt e)):=by
 have hp:=h.ok.fit.p;have a:Bt e=bif decide ((De e e.Pid).Loc=(CC e).Final) then(bif decide (e.Pid=(e.S.Procs.length:Int) - 1) then[IW 0] else[])
  else bif decide ((AX e).2≠0) then[IW (AX e).2] else bif !(AX e).1 then[] else ES e (EA (Cy e)):=rfl
 rw[T3]at a;generalize Bt e=r at a;have l:=h.wloc.Esc.1;have f:=fun i=>AjH (n:=(Cy e).Esc.length) (i:=i)
 refine Aq Tryz.func8 (AfS r e rfl) ⟨⟨h.p0,h.ok.pid.2⟩,CC e,OD h,fun h1=>⟨fun h2=>⟨_,NK,Vz ?_⟩,fun h2=>?_⟩,fun h1=>⟨AX e,RD h,fun h2=>⟨_,NK,Vz ?_⟩,fun h2=>⟨_,PC h,?_⟩⟩⟩
 ·rw[AK (by omega) (by omega),ieq]at h2;rw[a,show decide ((De e e.Pid).Loc=(CC e).Final)=true by rw[← ieq];exact h1,h2]<;>rfl
 ·rw[AK (by omega) (by omega),ieq]at h2;rw[a,show decide ((De e e.Pid).Loc=(CC e).Final)=true by rw[← ieq];exact h1,h2];exact⟨trivial,Aqd⟩
 ·rw[a,show decide ((De e e.Pid).Loc=(CC e).Final)=false by rw[← ieq];exact h1,show decide ((AX e).2≠0)=true by simpa using h2]<;>rfl
 rw[show decide ((De e e.Pid).Loc=(CC e).Final)=false by rw[← ieq];exact h1,show decide ((AX e).2≠0)=false by simpa using h2,Apw,Apw]at a;have m:(IV (Cy e).Esc.length++[-1]).length<=1048577:=by rw[ApP,NT];exact AqE l
 generalize IV (Cy e).Esc.length++[-1]=L at a f m ⊢;refine Ax.own 3 6 6 (ER []) rfl ?_;change Ax _ _ (Tu e (AX e).1 L [] ((0:Nat):Int));generalize (AX e).1=op at a ⊢;cases op with
 | false =>
  refine Ar (fun _ st=>st=Tu e false L [] ((0:Nat):Int)) ⟨0,Up.of rfl⟩ ?_;rintro g st rfl;refine ApI (RB r e false L [] ((0:Nat):Int) _) ⟨fun j=>?_,fun _=>?_⟩
  ·grind
  ·rw[a];exact⟨trivial,VV.le_refl _⟩
 | true =>
  change r=ES e (L.map fun i=>(i,JZ (Cy e) i)) at a;refine Ar (fun g st=>∃ (k:Nat) (out:List Wy),k<=L.length/\g=L.length - k/\r=(bif decide (out.length=0) then ES e ((L.drop k).map fun i=>(i,JZ (Cy e) i)) else out)/\st=Tu e true L out k) ⟨_,Up.of ⟨0,[],ApD _,rfl,a,rfl⟩⟩ ?_;rintro g st ⟨k,out,v,rfl,a,rfl⟩;have ez:((out.length:Int)==0)=decide (out.length=0):=by grind
  refine ApI (RB r e true L out k _) ⟨fun j=>?_,fun j=>?_⟩
  ·rw[Bh,Bh,Bool.and_true,ez,Apv]at j;have b:k<L.length:=by have:=AL j.1;omega
   have h0:out=[]:=(by grind);subst h0;have o:(k:Int).toNat=k:=by omega
   rw[o];have a:r=ES e ((L.drop k).map fun i=>(i,JZ (Cy e) i)):=a;rw[Bs (d:=0) b,Aqm,Mp]at a;have hi:=f _ (Av (d:=0) b);have q:=h.ws (T4 hi);refine⟨⟨by omega,by omega⟩,_,RF h hi,_,Abm h.ok q (XU h),?_⟩;generalize JZ (Cy e) (L.getD k 0)=ws at a q;refine Abi b rfl (by rw[Sv];exact q.len) (Su h) fun t s=>⟨L.length - (k+1),by omega,?_⟩
   obtain⟨w,u,rfl⟩:=s;refine⟨_,u,k+1,_,b,rfl,?_,by rw[Al (by omega)]⟩;grind
  ·rw[Bh,Bh,Bool.and_true,ez]at j;rw[a];refine⟨trivial,AqV ?_⟩;cases c:decide (out.length=0) with
   | false=>rfl
   | true =>
    rw[c,Bool.and_true]at j;have h0:out=[]:=(by grind);rw[h0,Ap2 (by grind)]<;>rfl
end
def G7 : Ann:={ cut:=(fun | [1,0,1,1]=>true | _=>false),keep:=fun
  | [1,0,1,1]=>[2,3,4,5,19]
  | [0,1,0,1,1,1]=>[2,3,4,5,23,24,25]
  | _=>[] }
def QD : Ann:={ cut:=(fun | [1,1,1]=>true | _=>false),keep:=fun
  | [1,1,1]=>[1,2]
  | _=>[] }
def Adz : List (Nat × VV):=[(2,.bp 0 0),(3,.bp 1 0),(4,.bp 2 0),(5,.bp 3 0)]
def Yv (m:D.Model)(s:D.State):List Ob:=[.box (Af m),.box (Ah s),.box [Ac false],.box [Aa 0]]
def AcR (m:D.Model)(s:D.State)(i:Int):St:=Ay [(2,.bp 0 0),(3,.bp 1 0),(4,.bp 2 0),(5,.bp 3 0),(23,AI true s.Procs),(24,Aa s.Procs.length),(25,Aa i)] [.box (Af m),.box (Ah s),.box [Ac false],.box [Aa 0]]
set_option maxRecDepth 100000
theorem Alf (b:Bool)(r:Int)(m:D.Model)(s:D.State):(fc A5 G7 Tryz.f11 [] (.tup [Ac b,Aa r])).goal (St.init [] [.agg (Af m),.agg (Ah s)]) =
  (∃ (y:Int),VC 13 [VV.agg (Af m),VV.agg (Ah s)] (Aa y)/\BB (y != 0) (LQ (VV.tup [Ac false,Aa y]) (VV.tup [Ac b,Aa r])) (∃ (y:D.Model × D.State),Aj Tryz.prog 14 [] [VV.agg (Af m),VV.agg (Ah s)] [Ob.box (Af y.fst),Ob.box (Ah y.snd)] (VV.fn (Fn.func (nat_lit 29)) [VV.bp 0 0,VV.bp 1 0])/\Ax (fc A5 G7 Tryz.f11 [] (VV.tup [Ac b,Aa r])) [1,1,0,1] (Ay [(2,VV.bp 0 0),(3,VV.bp 1 0),(4,VV.bp 2 0),(5,VV.bp 3 0),(19,VV.fn (Fn.func (nat_lit 29)) [VV.bp 4 0,VV.bp 5 0])] [Ob.box (Af m),Ob.box (Ah s),Ob.box [Ac false],Ob.box [Aa 0],Ob.box (Af y.fst),Ob.box (Ah y.snd)]))):=by kernel_rfl
theorem Alp (b:Bool) :(fc A5 QD Tryz.f4 [] (Ac b)).goal (St.init [] []) =
  (∃ (y:D.Model),VC 10 [] (VV.agg (Af y))/\Ax (fc A5 QD Tryz.f4 [] (Ac b)) [1,1,1] (Ay [(1,VV.bp 0 0),(2,VV.bp 1 0)] [Ob.box (Af y),Ob.box [VV.ow 2 0 1,VV.nl,VV.ow 3 0 2,Aa 0,Aa (-1),Aa (-1)],Ob.arr true 0 1 1 fun(i:Nat)=>List.take 1 (List.drop (i*1) [Aa 0]),Ob.arr true 0 2 4 fun(i:Nat)=>List.take 4 (List.drop (i*4) [Aa 0,Aa 0,Aa 1,VV.nl,Aa 0,Aa 0,Aa 1,VV.nl])])):=by kernel_rfl
theorem AiK (b:Bool)(m:D.Model)(s:D.State){c}(e:c=fun(y:List Nx × Int)=>y.fst.getD (Int.toNat (0:Int)) default){f}(g:f=fun(y:List Nx × Int)=>true&&(bif bif y.snd==0 then(c y).Move.Pid==0 else false then(y.fst.getD (Int.toNat (1:Int)) default).Move.Pid==1 else false)==true):((fc A5 QD Tryz.f4 [] (Ac b)).cut [1,1,1]).goal (Ay [(1,.bp 0 0),(2,.bp 1 0)] [.box (Af m),.box (Ah s)]) =
  (∃ (y:List Nx × Int),VC 6 [.agg (Af m),.agg (Ah s)] (.tup [CM true y.fst,Aa y.snd])/\((true&&((↑y.fst.length:Int) != 2)==false)=true->inX (0:Int) y.fst.length)/\BB (bif (↑y.fst.length:Int) != 2 then true else(↑(c y).State.Globals.length:Int) != 1) (LQ (Ac false) (Ac b)) (inX (0:Int) y.fst.length/\∃ (a:List Nx × Int),VC 6 [.agg (Af m),.agg (Ah (c y).State)] (.tup [CM true a.fst,Aa a.snd])/\∃ (d:Bool × Int),VC 11 [.agg (Af m),.agg (Ah s)] (.tup (Sj d))/\BB ((↑a.fst.length:Int) != 1) (LQ (Ac false) (Ac b)) (((true&&(y.snd==0)==true)=true->inX (0:Int) y.fst.length)/\((true&&(bif y.snd==0 then(c y).Move.Pid==0 else false)==true)=true->inX (1:Int) y.fst.length)/\((f y)=true->inX (0:Int) y.fst.length)/\((f y)=true->inX (0:Int) (c y).State.Globals.length)/\((true&&(bif bif bif bif y.snd==0 then(c y).Move.Pid==0 else false then(y.fst.getD (Int.toNat (1:Int)) default).Move.Pid==1 else false then(c y).State.Globals.getD (Int.toNat (0:Int)) (0:Int)==1 else false then a.snd==0 else false)==true)=true->inX (0:Int) a.fst.length)/\LQ (Ac (bif bif bif bif bif bif bif y.snd==0 then(c y).Move.Pid==0 else false then(y.fst.getD (Int.toNat (1:Int)) default).Move.Pid==1 else false then(c y).State.Globals.getD (Int.toNat (0:Int)) (0:Int)==1 else false then a.snd==0 else false then(a.fst.getD (Int.toNat (0:Int)) default).Move.Pid==1 else false then d.snd==0 else false then !d.fst else false)) (Ac b)))):=by subst e g;kernel_rfl
theorem WR (b:Bool)(r:Int)(m:D.Model)(s:D.State)(e:D.Env)(w:Wy)(a:List Ob):((fc A5 G7 Tryz.f11 [] (.tup [Ac b,Aa r])).rg [1,1,0,1] 4 Adz a).goal (Ay ([(20,.agg (Ae e)),(21,.agg (AY w))]++Adz) (Yv m s)) =
  (LQ (VV.tup [Ac false,Aa 0]) (VV.tup [Ac b,Aa r])):=by kernel_rfl
theorem Aih (b:Bool)(r:Int)(m:D.Model)(s:D.State):((fc A5 G7 Tryz.f11 [] (.tup [Ac b,Aa r])).after [1,1,0,1]).goal (Ay Adz (Yv m s)) =
  (Ax (fc A5 G7 Tryz.f11 [] (VV.tup [Ac b,Aa r])) [1,1,1,0,1,0] (AcR m s (0:Int))):=by kernel_rfl
theorem Aig (b:Bool)(r:Int)(m:D.Model)(s:D.State)(i:Int)(J:St->Prop){a}(c:a=s.Procs.getD i.toNat default):((fc A5 G7 Tryz.f11 [] (.tup [Ac b,Aa r])).loop [1,1,1,0,1,0] J).goal (AcR m s i) =
  (BB (decide (i<(↑s.Procs.length:Int))) (inX i s.Procs.length/\∃ (y:D.Loc × Bool),VC 25 [.agg (Af m),.agg (Ah s),Aa i] (.tup [.agg (A8 y.fst),Ac y.snd])/\inX a.Type_ m.Procs.length/\BB (bif a.Loc != (m.Procs.getD a.Type_.toNat default).Final then !y.fst.End else false) (LQ (.tup [Ac true,Aa 0]) (.tup [Ac b,Aa r])) (J (AcR m s (IntKind.i64.wrap (i+(1:Int)))))) (LQ (.tup [Ac false,Aa 0]) (.tup [Ac b,Aa r]))):=by subst c;kernel_rfl
end Go.Proofs.YtnhamlpcpngafaaGreatDoor
namespace Go.Proofs.YtnhamlpcpngafaaGreatDoor
open Go.RowKit
theorem Ads {s:D.State}{cs:List VV}(h:obC s=.box cs):False:=by unfold obC at h;cases h
theorem Adr {s:D.State}{cs:List VV}(h:obP s=.box cs):False:=by unfold obP at h;cases h
section
variable {e : D.Env}
theorem Pk (d:AG e.M)(hs:Bq e.S)(x v:Int):Aj Tryz.prog 95 (hsE e) [.bp 0 0,Aa x,Aa v] (hsE (stE e x v)) (Aa (Bg e x v).2):=by
 have a:=Q9 d hs x v;unfold stE;cases c:decide ((Bg e x v).2=0) with
 | true =>
  have h0:((Bg e x v).2==0)=true:=by rw[ieq];exact c
  have h:=Ag (Q:=_) Ai Ak Tryz.func95 (by kernel_rfl) rfl (QE [.box (FH { e with S:=(Bg e x v).1 } (.ow 3 0 (Bg e x v).1.Chans.length) (.ow 4 0 (Bg e x v).1.Procs.length)),obC e.S,obP e.S,obC (Bg e x v).1,obP (Bg e x v).1] (Bg e x v).2 e x v)
   ⟨Bg e x v,a,fun _=>⟨⟨Ob.le_refl _,Ob.le_refl _,Ob.le_refl _,Ob.le_refl _,Ob.le_refl _,trivial⟩,VV.le_refl _⟩,fun h=>by rw[h0]at h;cases h⟩
  exact h.pick [0,3,4] rfl fun j b=>by
   match j,b with
   | 0,_=>exact .inl rfl
   | 1,_=>exact .inr ⟨fun cs h=>Ads h,3,rfl,fun cs h=>Ads h⟩
   | 2,_=>exact .inr ⟨fun cs h=>Adr h,4,rfl,fun cs h=>Adr h⟩
   | j+3,b=>exact absurd b (by simp[hsE])
 | false =>
  have h0:((Bg e x v).2==0)=false:=by rw[ieq];exact c
  exact Aq Tryz.func95 (QE (hsE e) (Bg e x v).2 e x v)
   ⟨Bg e x v,a,(fun h=>by rw[h0]at h;cases h),fun _=>⟨⟨Ob.le_refl _,Ob.le_refl _,Ob.le_refl _,trivial⟩,VV.le_refl _⟩⟩
theorem AeY (a:AG e.M)(hs:Bq e.S)(x v:Int):AG (stE e x v).M/\Bq (stE e x v).S:=by
 refine⟨by rw[(Rk e x v).M];exact a,?_⟩;unfold stE;cases decide ((Bg e x v).2=0) with
 | true=>exact(Z6 a v).small
 | false=>exact hs
theorem J7 {s:D.Stmt}{m:List Int}(u:AG e.M)(hs:Bq e.S)(v:s.Args.length<=1048576)(h1:s.Args.length<=s.Match.length)(h2:s.Args.length<=m.length) :
  Aj Tryz.prog 137 (hsE e) [.bp 0 0,.agg (Au s),Ad true m] (hsE (DZ e s m).1) (Aa (DZ e s m).2):=by
 refine Aq Tryz.func137 (Zx (DZ e s m).1 (DZ e s m).2 e s m) ?_;change Ax _ _ (Lg e s m 0);refine Ar (fun g st=>∃ (k:Nat) (f:D.Env),k<=s.Args.length/\g=s.Args.length - k/\AG f.M/\Bq f.S/\GO m s.Match k (s.Args.drop k) f=DZ e s m/\st=Lg f s m k) ⟨_,Up.of ⟨0,e,ApD _,rfl,u,hs,rfl,rfl⟩⟩ ?_;rintro g st ⟨k,f,w,rfl,h,i,c,rfl⟩;generalize DZ e s m=R at c ⊢;refine ApI (Wj R.1 R.2 f s m k _) ⟨fun p=>?_,fun q=>?_⟩
 ·have n:k<s.Args.length:=by have:=AL p;omega
  have r:(k:Int).toNat=k:=by omega
  rw[r];rw[Bs (d:=0) n]at c;unfold GO at c;refine⟨⟨by omega,by omega⟩,⟨by omega,by omega⟩,fun j=>?_,fun j=>⟨⟨by omega,by omega⟩,(stE f (s.Args.getD k 0) (m.getD k 0),(Bg f (s.Args.getD k 0) (m.getD k 0)).2),Pk h i _ _,fun l=>?_,fun l=>?_⟩⟩
  ·rw[AT]at j;rw[j,Apy]at c;rw[Al (by omega)];exact⟨s.Args.length - (k+1),by omega,Up.of ⟨k+1,f,by omega,rfl,h,i,c,rfl⟩⟩
  ·rw[AT]at j l;rw[j,Apw,l,Apy]at c;subst c;have t:stE f (s.Args.getD k 0) (m.getD k 0)=f:=by
    unfold stE;rw[Ap9 (ApK l)]<;>rfl
   rw[t];exact⟨⟨Ob.le_refl _,Ob.le_refl _,Ob.le_refl _,trivial⟩,VV.le_refl _⟩
  ·rw[AT]at j l;rw[j,Apw,l,Apw]at c;rw[Al (by omega)];obtain⟨a,b⟩:=AeY h i (s.Args.getD k 0) (m.getD k 0);exact⟨s.Args.length - (k+1),by omega,Up.of ⟨k+1,_,by omega,rfl,a,b,c,rfl⟩⟩
 ·have o:s.Args.length<=k:=by have:=AP q;omega
  rw[Ap2 o]at c;unfold GO at c;subst c;exact⟨⟨Ob.le_refl _,Ob.le_refl _,Ob.le_refl _,trivial⟩,VV.le_refl _⟩
end
theorem YV {xs:List Int}(h:xs.length*8<=140737488355328):Aj Tryz.prog 87 [] [Ad true xs] [.arr true 0 xs.length 1 (AJ xs)] (.ow 0 0 xs.length):=by
 refine Aj.handN ⟨_,Tryz.func87,rfl,by kernel_rfl⟩ fun w E vs t v _ l hs=>?_
 obtain⟨y,us1,rfl,m,hs⟩:=hs.cons_inv;obtain rfl:=hs.nil_inv;obtain⟨ao,cap,rfl,h1,h2,h3⟩:=V.sl_inv m;refine(Gz h1 h2 h fun hp=>?_).mono ?_
 ·obtain⟨b,off,rfl,_,_,_,u,n,hv⟩:=h3 hp;refine⟨_,rfl,fun i hi=>?_⟩;have c:=n i 0 _ hi rfl;have d:=(hv i 0 _ hi rfl).sc_inv;rw[Addr.add_lit];rw[d]at c;simpa using c
 ·rintro e w' ⟨o,rfl,p,q⟩;obtain⟨hd,c,d,r⟩:=U9 p (fun u s=>by
   obtain⟨x,_,rfl⟩:=Aqw.1 s;rfl)
  have f:addP FQ 0 [Pl.arr 0 xs.length hd] 0=some (.arr 0 xs.length hd):=Ed (nx:=0) (i:=0) rfl;refine⟨o,[Pl.arr 0 xs.length hd],rfl,EG.one (Room.one q fun k g=>?_) ⟨rfl,rfl,r E _ _ (fun _ _=>rfl) fun i j x hi a=>?_⟩,.ow f (ApC _) c fun _=>⟨rfl,ApC _⟩⟩
  ·obtain⟨cap',g⟩:=g;exact(d k cap' g).2.1
  ·match j,a with
   | 0,a =>
    obtain rfl:=ApU a;have:(xs.map (Value.int .i64)).getD (i*1+0) undef=.int .i64 (xs.getD i 0):=by simp[List.getD,hi]
    rw[this];exact .sc
   | j+1,a=>simp[AJ]at a
theorem Y7 {f:List D.Type}{args l:List Int}{k:Nat}:(MJ f args l k).length=l.length:=by simp[MJ]
theorem V3 {f:List D.Type}{args l:List Int}{k i:Nat}(hi:i<l.length):(MJ f args l k).getD i 0=if i<k then IG (f.getD i default) (args.getD i 0) else l.getD i 0:=by simp[MJ,List.getD,hi]
theorem Ahy {f:List D.Type}{args l:List Int}:MJ f args l 0=l:=by
 apply List.ext_getElem (by simp[MJ]);intro i h1 h2;simp[MJ,List.getD,h2]
theorem Afe {m:D.Model}{typ:Int}{args:List Int}(q:AG m)(h0:0<=typ/\typ<m.Procs.length)(_:args.length<=1048576)(h1:args.length<=(A3 m typ).Frame.length)(h2:args.length<=(A3 m typ).Init.length) :
  Aj Tryz.prog 157 [] [.agg (Af m),Aa typ,Ad false args] [] (.agg (AF (MI m typ args))):=by
 have hp:=q.Procs.2 _ (Av (d:=default) (show typ.toNat<m.Procs.length by omega));have hi:(A3 m typ).Init.length<=1048576:=hp.Init.1;generalize c:MI m typ args=r;refine Aq Tryz.func157 (AiT r m typ args rfl) ⟨h0,(A3 m typ).Init,YV (by show(A3 m typ).Init.length*8<=_;omega),?_⟩;change Ax _ _ (UX m typ args (A3 m typ).Init 0);refine Ar (fun g st=>∃ k:Nat,k<=args.length/\g=args.length - k/\st=UX m typ args (MJ (A3 m typ).Frame args (A3 m typ).Init k) k) ⟨_,Up.of ⟨0,ApD _,rfl,by rw[Ahy]<;>rfl⟩⟩ ?_;rintro g st ⟨k,v,rfl,rfl⟩;generalize s:(A3 m typ).Init=l at *;generalize o:(A3 m typ).Frame=f at *;refine ApI (Aff r m typ args (MJ f args l k) k _ rfl) ⟨fun e=>?_,fun j=>?_⟩
 ·have p:k<args.length:=by have:=AL e;omega
  have n:(k:Int).toNat=k:=by omega
  rw[n,o,Y7];refine⟨by omega,by omega,IG (f.getD k default) (args.getD k 0),YC _ _,by omega,args.length - (k+1),by omega,Up.mk (hs':=[.box [Aa 0,Aa 0,Aa 0,.nl],.box (A4 (A3 m typ)),.box [Aa typ,Aa (A3 m typ).Start,Aa (A3 m typ).Prio,.ow 3 0 l.length],.arr true 0 l.length 1 (AJ (MJ f args l (k+1)))]) (AS _) ⟨Ob.le_refl _,Ob.le_refl _,Ob.le_refl _,Ap6 fun i hi=>AV ?_,trivial⟩ ⟨k+1,by omega,rfl,?_⟩⟩
  ·by_cases a:i=k
   ·subst a;simp only[AqX,Apy];unfold AJ;rw[V3 hi,Aqc (Aqx _)]<;>rfl
   ·have t:Nat.beq i k=false:=by
     cases c:Nat.beq i k with
     | true=>exact absurd (ApA c) a
     | false=>rfl
    simp only[t,Apw];unfold AJ;rw[V3 hi,V3 hi]
    by_cases h:i<k
    ·rw[Aqc h,Aqc (by omega)]<;>rfl
    ·rw[ApT h,ApT (by omega)]<;>rfl
  ·rw[Al (by omega)];unfold UX;rw[Y7]<;>rfl
 ·have b:k=args.length:=by have:=AP j;omega
  subst b;subst c;refine⟨trivial,AqV ?_⟩;unfold MI;rw[s,o]<;>rfl
theorem Afr {m:D.Model}{typ:Int}{args:List Int}(d:AG m)(g:args.length<=1048576):Aj Tryz.prog 122 [] [.agg (Af m),Aa typ,Ad false args] [] (.tup [.agg (AF (Hp m typ args).1),Aa (Hp m typ args).2]):=by
 have a:Hp m typ args=bif !G3 m then(AjL,40)
   else bif decide (typ<0)||(decide ((m.Procs.length:Int)<=typ)||(decide (typ=m.Claim)||decide ((args.length:Int)≠(A3 m typ).Params))) then(AjL,42) else(MI m typ args,0):=rfl
 have e:∀ c:Int,VV.le (.tup [.agg [Aa 0,Aa 0,Aa 0,.nl],Aa c]) (.tup [.agg (AF AjL),Aa c]):=fun c=>Aq4 ⟨AqH ⟨VV.le_refl _,VV.le_refl _,VV.le_refl _,Aqd,trivial⟩,VV.le_refl _,trivial⟩
 generalize Hp m typ args=r at a;have f:(bif bif bif decide (typ<(0:Int)) then true else decide (typ>=(m.Procs.length:Int)) then true else typ==m.Claim then true else(args.length:Int) != (m.Procs.getD typ.toNat default).Params)=(decide (typ<0)||(decide ((m.Procs.length:Int)<=typ)||(decide (typ=m.Claim)||decide ((args.length:Int)≠(A3 m typ).Params)))):=by
  rw[Aqe];simp[A3,or_assoc]
 refine Aq Tryz.func122 (Ai3 r.1 r.2 m typ args rfl) ⟨G3 m,Yf d,fun h=>?_,fun h=>⟨fun h2=>?_,fun h2=>?_,fun h2=>?_⟩⟩
 ·rw[h,Apy]at a;subst a;exact⟨trivial,e 40⟩
 ·simp at h2;omega
 ·rw[f]at h2;rw[h,Apw,h2,Apy]at a;subst a;exact⟨trivial,e 42⟩
 ·rw[f]at h2;rw[h,Apw,h2,Apw]at a;subst a;simp only[ApN,ApW]at h2;have i:G3 m=true:=by simpa using h
  have h0:0<=typ/\typ<m.Procs.length:=⟨by omega,by omega⟩;obtain⟨b,_⟩:=Gb (Dp i).2.1 typ.toNat (by omega);have b:Em (A3 m typ)=true:=b;unfold Em at b;simp only[Apv,ApB]at b;have j:=b.1.1.1.1.1.1.1.2;have k:=b.1.1.1.1.2;exact⟨_,Afe d h0 g (by omega) (by omega),trivial,VV.le_refl _⟩
end Go.Proofs.YtnhamlpcpngafaaGreatDoor
