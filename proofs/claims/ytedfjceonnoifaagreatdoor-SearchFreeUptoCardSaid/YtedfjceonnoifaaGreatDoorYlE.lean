/-
  Texts, joined: SeP, SoS, SoA, SpE, VjRnd, VjRng, VjRgs, VjIt, VjIt2, VjIt3, SpA, VjLay, PqS, SeS, SeA, VjSco, SlH, SeL, SlP, SeH, SpH, SpQ, SpV1, SpV2, VjCut, SpV3, SpV4, SpV5, SpV6, SpV7, PqA, PqH, PqX, PqV, PqW.
-/
import Derived.Test.YtedfjceonnoifaaGreatDoorYlD
import Derived.RangeFuncNested
import Derived.OrdersIn
import Derived.OwnWalkIn
import Derived.KernelRfl
set_option linter.defProp false
set_option maxRecDepth 100000
namespace Go.Proofs.YtedfjceonnoifaaGreatDoor
open Go.RowKit Go.Proofs.Tryz
open IntKind(i64)
structure Op where
 Mode:Int
 Bfs:Bool
 Reduce:Bool
 Fair:Bool
 Free:Bool
 States:Int
 Depth:Int
structure Fnd where
 Kind:Int
 What:Int
 Err:Int
 Trail:List Mv
 Cycle:Int
 States:Int
 Steps:Int
 N:Nat
def WC:Fnd:=⟨0,0,0,[],0,0,0,0⟩
def Fx (m:D.Model)(s:D.State):Bool:=decide (0<=m.Claim)&&decide (s.Claim=(Bd m m.Claim).Final)
def Nv (m:D.Model)(p:D.Process):Bool:=decide (p.Loc≠(Bd m p.Type_).Final)&&!((Bd m p.Type_).Locs.getD p.Loc.toNat default).End
def GY (m:D.Model)(s:D.State):Bool:=decide ((Df m s).length=0)&&s.Procs.any (Nv m)
def BV (m:D.Model)(o:Op)(s:D.State):Int:=bif Fx m s then 3 else bif GY m s&&!o.Free then 2 else 0
def orU (x y:Int):Int:=IntKind.u64.wrap ((BitVec.ofInt IntKind.u64.bits x ||| BitVec.ofInt IntKind.u64.bits y).toNat:Int)
def Ajs (x y:Int):Int:=IntKind.u64.wrap ((BitVec.ofInt IntKind.u64.bits x &&& BitVec.ofInt IntKind.u64.bits y).toNat:Int)
def ApP (x y:Int):Int:=IntKind.u64.wrap ((BitVec.ofInt IntKind.u64.bits x &&& ~~~BitVec.ofInt IntKind.u64.bits y).toNat:Int)
structure Sn where
 ks:List ByteArray
 bs:List Int
def Sn.mark (c:Sn)(n:Nat):Sn:=⟨c.ks,c.bs.set n (orU (c.bs.getD n 0) 1)⟩
def Sn.clear (c:Sn)(n:Nat):Sn:=⟨c.ks,c.bs.set n (ApP (c.bs.getD n 0) 1)⟩
def Sn.put (c:Sn)(t:ByteArray):Sn:=⟨c.ks++[t],c.bs++[0]⟩
def WR (o:Op)(c:Sn)(pid:Int)(n:Nx):Bool :=
 decide (n.Move.Pid=pid)&&(decide (n.Err≠0)||(!FN c.ks (AV n.State)||(!o.Bfs&&decide (Ajs (c.bs.getD (DV c.ks (AV n.State)) 0) 1=0))))
def Kf (o:Op)(c:Sn)(l:List Nx)(pid:Int):Bool:=l.any (WR o c pid)
def Gv (o:Op)(c:Sn)(l:List Nx):List Int->List Nx
 | []=>l
 | p::r=>bif Kf o c l p then l.filter λn=>decide (n.Move.Pid=p)else Gv o c l r
def Eh (m:D.Model)(o:Op)(c:Sn)(s:D.State):List Nx :=
 bif !o.Reduce then(Cq m s).1 else Gv o c (Cq m s).1 (Jk m s (Cq m s).1)
structure Pf where
 n:Nat
 list:List Nx
 at_:Nat
 by_:Mv
instance : Inhabited Pf:=⟨⟨0,[],0,default⟩⟩
def H1 (p:List Pf)(more:List Mv):List Mv:=p.tail.map Pf.by_++more
structure Wk where
 sn:Sn
 steps:Int
 path:List Pf
def CL (c:Sn)(steps:Int)(kind what err:Int)(trail:List Mv):Fnd:=⟨kind,what,err,trail,-1,c.ks.length,steps,c.ks.length⟩
def H6 (m:D.Model)(o:Op):Nat->Wk->Option (D.State×Mv)->Fnd
 | 0,_,_=>WC
 | f+1,c,none =>
  match c.path.getLast? with
  | none=>CL c.sn c.steps 1 0 0 []
  | some fr =>
   bif decide (fr.at_=fr.list.length)then H6 m o f ⟨c.sn.clear fr.n,c.steps,c.path.dropLast⟩ none
   else bif decide ((fr.list.getD fr.at_ default).Err≠0)then CL c.sn (i64.wrap (c.steps+1)) 2 1 (fr.list.getD fr.at_ default).Err (H1 c.path [(fr.list.getD fr.at_ default).Move])
   else H6 m o f ⟨c.sn,i64.wrap (c.steps+1),c.path.dropLast++[{fr with at_:=fr.at_+1}]⟩ (some ((fr.list.getD fr.at_ default).State,(fr.list.getD fr.at_ default).Move))
 | f+1,c,some (s,v) =>
  bif FN c.sn.ks (AV s)then H6 m o f c none
  else bif decide ((c.sn.ks.length:Int)=o.States)then CL c.sn c.steps 3 0 0 []
  else bif decide ((c.path.length:Int)=o.Depth)then⟨3,0,0,[],-1,c.sn.ks.length,c.steps,c.sn.ks.length+1⟩
  else bif decide (0<BV m o s)then CL (c.sn.put (AV s)) c.steps 2 (BV m o s) 0 (H1 (c.path++[⟨c.sn.ks.length,[],0,v⟩]) [])
  else H6 m o f ⟨(c.sn.put (AV s)).mark c.sn.ks.length,c.steps,c.path++[⟨c.sn.ks.length,Eh m o ((c.sn.put (AV s)).mark c.sn.ks.length) s,0,v⟩]⟩ none
structure Mt where
 s:D.State
 from_:Int
 by_:Mv
 deep:Int
instance : Inhabited Mt:=⟨⟨⟨[],[],[],0,0,0⟩,0,default,0⟩⟩
def bkP (l:List Mt):Nat->Int->List Mv
 | 0,_=>[]
 | f+1,n=>bif decide ((l.getD n.toNat default).from_>=0)then bkP l f (l.getD n.toNat default).from_++[(l.getD n.toNat default).by_]else[]
structure Bk where
 sn:Sn
 steps:Int
 l:List Mt
def HH (m:D.Model)(o:Op)(n:Nat):List Nx->Bk->Fnd ⊕ Bk
 | [],c=>.inr c
 | x::r,c =>
  bif decide (x.Err≠0)then .inl (CL c.sn (i64.wrap (c.steps+1)) 2 1 x.Err (bkP c.l c.l.length n++[x.Move]))
  else bif FN c.sn.ks (AV x.State)then HH m o n r ⟨c.sn,i64.wrap (c.steps+1),c.l⟩
  else bif decide (i64.wrap ((c.l.getD n default).deep+1)>=o.Depth)then .inl (CL c.sn (i64.wrap (c.steps+1)) 3 0 0 [])
  else bif decide ((c.sn.ks.length:Int)=o.States)then .inl (CL c.sn (i64.wrap (c.steps+1)) 3 0 0 [])
  else bif decide (0<BV m o x.State)then .inl (CL (c.sn.put (AV x.State)) (i64.wrap (c.steps+1)) 2 (BV m o x.State) 0 (bkP (c.l++[⟨x.State,n,x.Move,i64.wrap ((c.l.getD n default).deep+1)⟩]) (c.l.length+1) c.l.length))
  else HH m o n r ⟨c.sn.put (AV x.State),i64.wrap (c.steps+1),c.l++[⟨x.State,n,x.Move,i64.wrap ((c.l.getD n default).deep+1)⟩]⟩
def Rm (m:D.Model)(o:Op):Nat->Nat->Bk->Fnd
 | 0,_,_=>WC
 | f+1,n,c =>
  bif decide (n<c.l.length)then(match HH m o n (Eh m o c.sn (c.l.getD n default).s) c with
   | .inl r=>r
   | .inr c'=>Rm m o f (n+1) c')
  else CL c.sn c.steps 1 0 0 []
def JV (m:D.Model)(o:Op)(F G:Nat):Fnd :=
 bif o.Bfs then(bif decide (0<BV m o (A1 m))then CL ⟨[AV (A1 m)],[0]⟩ 0 2 (BV m o (A1 m)) 0 []else Rm m o G 0 ⟨⟨[AV (A1 m)],[0]⟩,0,[⟨A1 m,-1,default,0⟩]⟩)
 else H6 m o F ⟨⟨[],[]⟩,0,[]⟩ (some (A1 m,default))
def Aad:Nat:=11700000000000000000000
def Aj9 (m:D.Model)(o:Op):Fnd:=JV m o Aad 20001
def Aiz (x:D.Expr):Bool:=(decide (x.Op=32)||(decide (x.Op=36)||(decide (x.Op=37)||decide (x.Op=38))))||(decide (x.Op=2)&&decide (x.V.Scope=2))
def AmF (x:D.Expr):Bool:=decide (x.Op=35)
def Aba (m:D.Model)(p:D.Proc):Bool:=decide (p.Prio≠(m.Procs.getD 0 default).Prio)
def Ajn (p:D.Proc):Bool:=p.Locs.any λl=>l.Atomic
def WE (m:D.Model):Bool:=(decide (0<=m.Claim)||(m.Exprs.any Aiz||m.Procs.any (Aba m)))||(m.Exprs.any AmF&&m.Procs.any Ajn)
def OZ (m:D.Model):Int:=bif decide ((CX m).1≠0)then(CX m).1 else bif WE m then 44 else 0
def DJ (m:D.Model)(o:Op):Int :=
 bif decide ((CX m).1≠0)then(CX m).1 else bif(decide (o.States<1)||decide (o.States > 20000))||(decide (o.Depth<1)||decide (o.Depth > 20000))then 42 else bif decide (o.Mode≠1)||o.Fair then 44 else bif o.Reduce then OZ m else 0
def Ef (m:D.Model)(o:Op):Fnd×Int:=bif decide (DJ m o≠0)then(WC,DJ m o)else(Aj9 m o,0)
def BC (x:Int):VV:=.sc (.int .u64 x)
def Cj (ks:List ByteArray):Nat->List VV:=λi=>[AN (ks.getD i default)]
def Dh (bs:List Int):Nat->List VV:=λi=>[BC (bs.getD i 0)]
def B5 (sl:List Nat):Nat->List VV:=λi=>[Aa (sl.getD i 0)]
def Be (most:Int)(ks:List ByteArray)(bs:List Int)(sl:List Nat):List VV:=[Aa most,.sl false ks.length 1 (Cj ks),.sl false bs.length 1 (Dh bs),.sl false sl.length 1 (B5 sl)]
def HG (most:Int)(ks:List ByteArray)(bs:List Int)(sl:List Nat):List VV:=[Aa most,.ow 1 0 ks.length,.ow 2 0 bs.length,.ow 3 0 sl.length]
def Cu (most:Int)(ks:List ByteArray)(bs:List Int)(sl:List Nat):List Ob :=
 [.box (HG most ks bs sl),.arr true 0 ks.length 1 (Cj ks),.arr true 0 bs.length 1 (Dh bs),.arr true 0 sl.length 1 (B5 sl)]
def ApL:Shp:={α:=Int,enc:=λx=>([],BC x)}
structure So where
 most:Int
 ks:List ByteArray
 bs:List Int
 sl:List Nat
def Aj7:Shp:={α:=So,enc:=λx=>(Cu x.most x.ks x.bs x.sl,.tup []),lend:=true}
def Aj3:Shp:={α:=So×Int×Bool×Int,enc:=λx=>(Cu x.1.most x.1.ks x.1.bs x.1.sl,.tup [Aa x.2.1,Ac x.2.2.1,Aa x.2.2.2]),lend:=true}
def Aj6:Shp:={α:=So×Int,enc:=λx=>(Cu x.1.most x.1.ks x.1.bs x.1.sl,Aa x.2),lend:=true}
def AoS:Shp:={α:=Int×Bool,enc:=λx=>([],.tup [Aa x.1,Ac x.2])}
def Aoh:Ann:={base:=4,keep:=λ_=>[]}
def ApB:Ann:={base:=5,keep:=λ_=>[]}
def Ml:Ann:={keep:=fun
  | [0,1,0,1,1]=>[0,3,6,7]
  | _=>[]}
def Jh:Ann:={keep:=fun
  | [1]=>[0,1,5]
  | _=>[]}
def Ji:Ann:={base:=4,keep:=fun
  | [0,1,1]=>[0,17,18,19]
  | _=>[]}
def AjU (k:ByteArray)(h:Int)(n i:Int):St:=An [(0,AN k),(3,BC h),(6,Aa n),(7,Aa i)] []
def AmH (most:Int)(ks:List ByteArray)(bs:List Int)(sl:List Nat)(key:ByteArray)(i:VV):St:=An [(0,.tp (Be most ks bs sl)),(1,AN key),(5,i)] []
def WZ (most:Int)(ks:List ByteArray)(bs:List Int)(sl0 sl:List Nat):List Ob :=
 [.box [Aa most,.ow 1 0 ks.length,.ow 2 0 bs.length,.ow 4 0 sl.length],.arr true 0 ks.length 1 (Cj ks),.arr true 0 bs.length 1 (Dh bs),.arr true 0 sl0.length 1 (B5 sl0),.arr true 0 sl.length 1 (B5 sl)]
def Aoz (most:Int)(ks:List ByteArray)(bs:List Int)(sl0 sl:List Nat)(k:Int):St:=An [(0,.bp 0 0),(17,.ow 1 0 ks.length),(18,Aa ks.length),(19,Aa k)] (WZ most ks bs sl0 sl)
def AbA (most:Int):List Ob:=[.box [Aa most,.nl,.nl,.ow 1 0 16],.arr true 0 16 1 λ_=>[Aa 0]]
def Hd (most:Int)(ks:List ByteArray)(bs:List Int)(sl:List Nat)(b:Int):List Ob :=
 [.box (HG most ks bs sl),.arr true 0 ks.length 1 (Cj ks),.arr true 0 bs.length 1 (Dh bs),.arr true 0 sl.length 1 (B5 sl),.box [BC b]]
def Anc:Shp:={α:=So×Int×Int,enc:=λx=>(Hd x.1.most x.1.ks x.1.bs x.1.sl x.2.1,Aa x.2.2),lend:=true}
def Gq (f:FuncId):Shp :=
 bif Nat.beq f 69||Nat.beq f 82||Nat.beq f 57||Nat.beq f 58 then ApL
 else bif Nat.beq f 44||Nat.beq f 49 then RQ
 else bif Nat.beq f 45 then Aj7
 else bif Nat.beq f 20 then Aj3
 else bif Nat.beq f 56 then Anc
 else bif Nat.beq f 27||Nat.beq f 29 then Aj6
 else bif Nat.beq f 26 then AoS
 else T9
def Bz (x:Mv):List VV:=[Aa x.Pid,Aa x.Esc,Aa x.Way,Aa x.With,Aa x.WithEsc,Aa x.WithWay,Aa x.Claim]
def A6 (fz:Bool)(l:List Mv):VV:=.sl fz l.length 7 λi=>Bz (l.getD i default)
def Ca (l:List Mv):Nat->List VV:=λi=>Bz (l.getD i default)
def Bf (x:Nx):List VV:=[Aa x.Move.Pid,Aa x.Move.Esc,Aa x.Move.Way,Aa x.Move.With,Aa x.Move.WithEsc,Aa x.Move.WithWay,Aa x.Move.Claim,
 Ad true x.State.Globals,AK true x.State.Chans,Av true x.State.Procs,Aa x.State.Last,Aa x.State.Alone,Aa x.State.Claim,Aa x.Err,AN x.Text]
def Az (fz:Bool)(l:List Nx):VV:=.sl fz l.length 15 λi=>Bf (l.getD i default)
def Bc (l:List Nx):Nat->List VV:=λi=>Bf (l.getD i default)
instance : Inhabited Gn:=⟨(default,[])⟩
def E4 (g:Gn):List VV:=[AG true g.1.M.Globals,Ad true g.1.M.Init,AJ true g.1.M.Shapes,Ad true g.1.M.Chans,AD true g.1.M.Procs,Aa g.1.M.Claim,AS true g.1.M.Exprs,
 Ad true g.1.S.Globals,AK true g.1.S.Chans,Av true g.1.S.Procs,Aa g.1.S.Last,Aa g.1.S.Alone,Aa g.1.S.Claim,Aa g.1.Pid,Ac g.1.Timeout,Bq true g.1.Able,Bm true g.2]
def BT (fz:Bool)(l:List Gn):VV:=.sl fz l.length 17 λi=>E4 (l.getD i default)
def I0 (l:List Gn):Nat->List VV:=λi=>E4 (l.getD i default)
abbrev Wc:Type:=Bool×Int
def Du (w:Wc):List VV:=[Ac w.1,Aa w.2]
def Cx (fz:Bool)(l:List Wc):VV:=.sl fz l.length 2 λi=>Du (l.getD i default)
def JZ (l:List Wc):Nat->List VV:=λi=>Du (l.getD i default)
def rnd (ro:Option Nat):Fence:={Fence.wide with round:=ro}
section
variable {P : Program} {T:TypeId->TE} {Sh:Shs} {N:Nat} {L:Ann} {Q:Exit->Act->World->Prop} {ops:Array Oper} {ro:Option Nat}
def Akn {row:String}{args:Array Value}{w:World}{R:Value->World->Prop}(h:Rows P row args w R):RowsIn (rnd ro) 0 P row args w R:=λc cs _ =>
 let ⟨v,w',r,s⟩:=h c cs
 ⟨v,w',r,(stepsIn_wide (P:=P)).2 s⟩
def Ape {o:Oper}{a:Act}{w:World}{K:Act->World->Prop}(b:∀c,o.op≠.defer c)(h:o.wp P a w K Q):o.wpIn (rnd ro) 0 P a w K Q:=by
 refine⟨λ_ _=>trivial,?_⟩;rw[Oper.semAt_eq _ _ _ b];unfold Oper.wp at h;generalize(execOp a.eval o).run P w=r at h |-;cases r with
 | ok n w' =>
  cases n with
  | enter f args=>exact⟨λh=>by simp[rnd,Fence.wide]at h,CallsIn.mono (callsIn_wide.2 h) λ_ _ h=>h⟩
  | row r args=>exact⟨λh=>by simp[rnd,Fence.wide]at h,Akn h⟩
  | round=>exact h.elim
  | _=>exact h
 | halt e w' =>
  cases e with
  | panic v=>exact h
  | _=>exact h.elim
def Abj {i:Nat}{a:Act}{w:World}{K:Act->World->Prop}(b:∀(i:Nat) o c,ops[i]?=some o->o.op≠.defer c)(f:¬LetsOut Q)(h:wpOp P ops Q i K a w):wpOpIn (rnd ro) 0 P ops Q i K a w:=by
 unfold wpOp at h;unfold wpOpIn;cases d:ops[i]? with
 | none=>rw[d]at h;exact h
 | some o =>
  rw[d]at h;simp only at h |-;split
  .rename_i e;rw[AqH e]at h;exact Ape (b i o · d) (h.resolve_right λh=>f h.2)
  .rename_i e;rw[Aqs e]at h;exact⟨λ_ _=>trivial,h⟩
def Us (b:∀(i:Nat) o c,ops[i]?=some o->o.op≠.defer c)(d:¬LetsOut Q):∀(is:List Nat)(a:Act)(w:World),wpOps P ops Q is a w->wpOpsIn (rnd ro) 0 P ops Q is a w
 | [],a,w,h=>h
 | i::is,a,w,h=>by
  rw[wpOps_cons]at h;rw[wpOpsIn_cons];exact wpOpIn_mono (λa w h=>Us b d is a w h) (Abj b d h)
def Ajr {md:Region.Mode}(b:∀(i:Nat) o c,ops[i]?=some o->o.op≠.defer c)(d:¬LetsOut Q):∀(fuel:Nat)(listed:Array Bool)(a:Act)(w:World),wpAny P md ops Q fuel listed a w->wpAnyIn (rnd ro) 0 P md ops Q fuel listed a w
 | 0,_,_,_,h=>h
 | fuel+1,_,_,_,h=>⟨h.1,λi hi=>wpOpIn_mono (λa w h=>Ajr b d fuel _ a w h) (Abj b d (h.2 i hi))⟩
def Ku (ops:Array Oper):Bool:=ops.toList.all λo=>match o.op with
 | .defer _=>false
 | _=>true
def UR (h:Ku ops=true)(i:Nat)(o:Oper)(c:Call)(a:ops[i]?=some o):o.op≠.defer c:=λe=>by
 have:=Aqx.1 h o (by have:=Array.mem_of_getElem? a;simpa using this);rw[e]at this;cases this
def SC {st0:St}{E:AP}{w0:World}{φ0:Phi}{a:Act}(t:TOk P T)(q:P.follows .mixedOrders=true)(hB:MQ ops N=true)(y:Ku ops=true){K:St->Prop}{id:Nat}{draw:Bool}
  (h:Jl P T Sh draw ops 0 ops.toList st0 [] [] λb=>K (clr ops b)) (hrel:Rel N E st0 φ0 a w0) :
  (Code.region id ops draw).wpIn (rnd ro) 0 P (λe r w'=>e=.normal/\∃b φ',K b/\Rel N E b φ' r w'/\Ext w0 φ0 w' φ') a w0:=by
 obtain⟨O,u,z⟩:=Er ops.toList 0 st0 [] [] h;have m:=MP hB;obtain⟨s,v⟩:=H9 (T:=T) (O:=O) (st0:=st0) ops.toList 0 sM (Ap3 _) z;have n:∀(j:Nat) o,ops[j]?=some o->HL draw T O ops st0 j o:=λj o=>s j o (Ap3 _)
 have d:=UR y;have x:¬LetsOut (λe r w'=>e=Exit.normal/\∃b φ',K b/\Rel N E b φ' r w'/\Ext w0 φ0 w' φ'):=λ⟨_,_,h,_⟩=>by cases h
 cases draw with
 | false =>
  refine wpIn_region (Us d x _ _ _ ?_);rw[List.range_eq_range'];refine QE t u m n (λD φ a w f g=>⟨rfl,_,φ,v,g.finish m n f,g.ext⟩) ops.size 0 φ0 a w0 oM ?_;have e:(λi=>decide (i<0))=λ_=>false:=by funext i;simp
  rw[e];exact RI.start hrel
 | true =>
  obtain⟨c,k⟩:=hrel.drew;refine wpIn_region_any q (Ajr d x _ _ _ _ ?_);refine Ajq rfl t u m n (w0:={w0 with drawn:=w0.drawn+1}) (φ0:=φ0) (λD φ a w f g=>⟨rfl,_,φ,v,g.finish m n f,k.trans g.ext⟩) ops.size _ φ0 a _ sM ?_ ?_ ?_
  .intro i o e hi f;have h0:(Array.replicate ops.size false).getD i false=false:=by simp[Array.getD]
   exact absurd (h0.symm.trans f) sM
  .have:=List.countP_le_length (p:=λi=>!(Array.replicate ops.size false).getD i false) (l:=List.range ops.size);simpa using this
  .have e:(λi=>(Array.replicate ops.size false).getD i false)=λ_=>false:=by funext i;simp[Array.getD]
   rw[e];exact RI.start c
def J0 (N:Nat):Code->Bool
 | .skip | .ret | .exit _=>true
 | .region _ ops _=>MQ ops N&&Ku ops
 | .seq x y=>J0 N x&&J0 N y
 | .cond _ x y=>J0 N x&&J0 N y
 | .block _ c=>J0 N c
 | _=>false
def Ol (m:TOk P T)(l:P.follows .mixedOrders=true)(i:∀p,L.cut p=false):∀(c:Code),J0 N c=true->∀(p:List Nat)(K:Exit->St->Prop)(st:St),xc P T Sh N L p c K st->∀(E:AP) (φ:Phi) (a:Act) (w:World),Rel N E st φ a w ->
  c.wpIn (rnd ro) 0 P (λe n w'=>∃d φ',K e d/\Rel N E d φ' n w'/\Ext w φ w' φ') a w
 | .skip,_,p,K,st,h,E,φ,a,w,k=>wpIn_skip ⟨st,φ,h,k,Ext.refl _ _⟩
 | .exit id,_,p,K,st,h,E,φ,a,w,k=>wpIn_exit ⟨st,φ,h,k,Ext.refl _ _⟩
 | .ret,_,p,K,st,h,E,φ,a,w,k=>wpIn_ret ⟨st,φ,h,k,Ext.refl _ _⟩
 | .region id ops draw,hB,p,K,st,h,E,φ,a,w,k=>by
  simp only[J0,ApX]at hB;exact wpIn_mono (SC (id:=id) (draw:=draw) m l hB.1 hB.2 (K:=λd=>K .normal d) h k) λe n w' ⟨r,d,φ',h1,h2,h3⟩=>⟨d,φ',by rw[r];exact h1,h2,h3⟩
 | .seq x y,hB,p,K,st,h,E,φ,a,w,k=>by
  simp only[J0,ApX]at hB;refine wpIn_seq (wpIn_mono (Ol m l i x hB.1 _ _ st h E φ a w k) ?_);rintro e n w' ⟨d,φ',h1,h2,h3⟩;cases e with
  | normal =>
   simp only[Adi]at h1;rw[i,ApW]at h1;exact wpIn_mono (Ol m l i y hB.2 _ K d h1 E φ' n w' h2) λe s u ⟨st'',φ'',g1,z,A⟩=>⟨st'',φ'',g1,z,h3.trans A⟩
  | _=>exact⟨d,φ',h1,h2,h3⟩
 | .cond c x y,hB,p,K,st,h,E,φ,a,w,k=>by
  simp only[J0,ApX]at hB;have q:V w (E.up φ) (some φ) (st.val c) (a.eval c):=by
   cases c with
   | tmp t=>exact k.tm t
   | const v=>exact V.litC v
   | global g=>exact .dead
   | func f=>exact .fn rfl λj x B=>by simp at B
  simp only[xc]at h;split at h
  .rename_i b e;rw[e]at q;refine wpIn_cond (t:=b) q.sc_inv ?_;cases b with
   | true=>exact Ol m l i x hB.1 _ K st (h.1 rfl) E φ a w k
   | false=>exact Ol m l i y hB.2 _ K st (h.2 rfl) E φ a w k
  .exact h.elim
 | .block id c,hB,p,K,st,h,E,φ,a,w,k=>by
  refine wpIn_block (wpIn_mono (Ol m l i c hB _ _ st h E φ a w k) ?_);rintro e n w' ⟨d,φ',h1,h2,h3⟩;cases e with
  | exit j =>
   simp only[Exit.inBlock]
   by_cases o:j=id
   .subst o;simp only[Kw,AqM,ApY]at h1;rw[AqH rfl];exact⟨d,φ',h1,h2,h3⟩
   .have C:Nat.beq j id=false:=by
     cases F:Nat.beq j id with
     | true=>exact absurd (Ap0 F) o
     | false=>rfl
    simp only[Kw,C,ApW]at h1;rw[Aqs o];exact⟨d,φ',h1,h2,h3⟩
  | _=>exact⟨d,φ',h1,h2,h3⟩
def OI (N:Nat):Code->Bool
 | .skip=>true
 | .region _ ops _=>MQ ops N&&Ku ops
 | .seq x y=>OI N x&&OI N y
 | _=>false
def UH (i:TOk P T)(f:P.follows .mixedOrders=true)(d:∀p,L.cut p=false):∀(c:Code),OI N c=true->∀(p:List Nat)(K:Exit->St->Prop)(st:St),xc P T Sh N L p c K st->∀(E:AP) (φ:Phi) (a:Act) (w:World),Rel N E st φ a w ->
  c.wpIn (rnd ro) 0 P (λe j w'=>e=.normal/\∃b φ',K .normal b/\Rel N E b φ' j w'/\Ext w φ w' φ') a w
 | .skip,_,p,K,st,h,E,φ,a,w,g=>wpIn_skip ⟨rfl,st,φ,h,g,Ext.refl _ _⟩
 | .region id ops draw,hB,p,K,st,h,E,φ,a,w,g=>by
  simp only[OI,ApX]at hB;exact SC (id:=id) (draw:=draw) i f hB.1 hB.2 (K:=λb=>K .normal b) h g
 | .seq x y,hB,p,K,st,h,E,φ,a,w,g=>by
  simp only[OI,ApX]at hB;refine wpIn_seq (wpIn_mono (UH i f d x hB.1 _ _ st h E φ a w g) ?_);rintro e j w' ⟨rfl,b,φ',h1,h2,h3⟩;simp only[Adi]at h1;rw[d,ApW]at h1;exact wpIn_mono (UH i f d y hB.2 _ K b h1 E φ' j w' h2) λe k l ⟨m,st'',φ'',g1,n,o⟩=>⟨m,st'',φ'',g1,n,h3.trans o⟩
end
def AP.add (E:AP)(S:Nat->Prop):AP:=⟨λk=>E.fz k\/S k,λk=>E.br k\/S k,0,[]⟩
def U (S T:Nat->Prop):Nat->Prop:=λk=>S k\/T k
structure Chg (w:World) (S:Nat->Prop) (w':World) (S':Nat->Prop):Prop where
 os:w'.os=w.os
 tape:w'.tape=w.tape
 output:w'.output=w.output
 size:w.heap.size<=w'.heap.size
 block:∀k,k<w.heap.size->¬S k->w'.heap[k]?=w.heap[k]?
 new:∀k,S' k->S k\/w.heap.size<=k
 lt:∀k,S' k->k<w'.heap.size
structure Gd (E:AP) (S:Nat->Prop) (w:World):Prop where
 sub:∀k,E.br k->E.fz k
 ez:∀k,E.fz k->k<w.heap.size
 sz:∀k,S k->k<w.heap.size
 lib:CA w
 lt:∀k,k∈Ez->k<w.heap.size
 out:∀k,k∈Ez->¬S k
section
variable {w w' w'':World} {E:AP} {S S' S'':Nat->Prop} {x:VV} {v:Value}
def Chg.trans (h:Chg w S w' S')(k:Chg w' S' w'' S''):Chg w S w'' S'' where
 os:=k.os.trans h.os
 tape:=k.tape.trans h.tape
 output:=k.output.trans h.output
 size:=Aqt h.size k.size
 block:=λb a c=>(k.block b (Aqw a h.size) λe=>by
  rcases h.new b e with e|e
  .exact c e
  .omega).trans (h.block b a c)
 new:=λb e=>by
  rcases k.new b e with e|e
  .exact h.new b e
  .exact .inr (Aqt h.size e)
 lt:=k.lt
def Gd.chg (g:Gd E S w)(h:Chg w S w' S'):Gd E S' w' where
 sub:=g.sub
 ez:=λk a=>Aqw (g.ez k a) h.size
 sz:=h.lt
 lib:=g.lib.congr λk a=>h.block k (g.lt k a) (g.out k a)
 lt:=λk a=>Aqw (g.lt k a) h.size
 out:=λk a hs=>by
  rcases h.new k hs with e|e
  .exact g.out k a e
  .have:=g.lt k a;omega
end
def Od (P:Program)(gf:FuncId)(hi:List Ob)(caps:List VV)(n:Nat)(xs:Nat->List VV):Prop :=
 ∀(E:AP)(S:Nat->Prop) (φ:Phi) (w:World) (lb:Array Value) (l:Nat),Gd E (U S (Own φ)) w->(∀k,S k->¬Own φ k)->HRel (E.add S) (Bl hi) φ w->(∀id,φ id≠none↔id<hi.length)->Dj w ((E.add S).up φ) (some φ) caps lb ->
 ∀(J:Nat->(Nat->Prop)->(Nat->Prop)->World->Prop) (R:(Nat->Prop)->(Nat->Prop)->World->Prop),J 0 S (Own φ) w ->
 (∀k S T T' a c,J k S T a->(∀b,S b->¬T b)->Chg a T c T'->J k S T' c)->(∀S T T' a c,R S T a->(∀b,S b->¬T b)->Chg a T c T'->R S T' c) ->
 (∀k S T a vs,k<n->J k S T a->(∀b,S b->¬T b)->Gd E (U S T) a->Dj a (E.add (U S T)) none (xs k) vs->YieldAt Fence.wide 0 P l vs a λe c =>
  (e=.returned (.bool true)/\∃S',J (k+1) S' T c/\Chg a S c S')\/(e=.returned (.bool false)/\∃S',R S' T c/\Chg a S c S')) ->
 CallsIn Fence.wide 0 P gf (#[.func (.yield l) #[] #[]]++lb) w λe w'=>(∃v,e=.returned v)/\((∃S' T',J n S' T' w'/\(∀b,S' b->¬T' b)/\Gd E (U S' T') w')\/∃S' T',R S' T' w')
def UX (W:World)(S S':Nat->Prop):Prop:=∀k (o:Obj),S k->W.heap[k]?=some o->o.isCells=false->S' k
def Anx (J:(Nat->Prop)->World->Prop)(Ix:Code->(Nat->Prop)->World->Prop)(S:Nat->Prop)(W:World):Exit->Act->World->Prop
 | .normal,_,W'=>KeepsOthers W W'/\∃S',Chg W S W' S'/\UX W S S'/\J S' W'
 | .ret,_,W'=>KeepsOthers W W'/\∃S',Chg W S W' S'/\UX W S S'/\Ix .ret S' W'
 | _,_,_=>False
def Jc {S:Nat->Prop}{W:World}{l:Nat}(a:Obj)(hs:S l)(b:∀k,S k->k<W.heap.size):Chg W S (W.putObj l a) S :=
 ⟨rfl,rfl,rfl,sM,λk _ c=>World.putObj_heap_other λe=>c (by rw[e];exact hs),λ_ h=>.inl h,λk d=>by simp;exact b k d⟩
def Chg.inU {w w':World}{S S' T:Nat->Prop}(h:Chg w S w' S')(c:∀k,T k->k<w.heap.size):Chg w (U S T) w' (U S' T) :=
 ⟨h.os,h.tape,h.output,h.size,λk a d=>h.block k a λe=>d (.inl e),λk a=>a.elim (λb=>(h.new k b).imp .inl id) λb=>.inl (.inr b),λk a=>a.elim (h.lt k) λb=>Aqw (c k b) h.size⟩
def Afy {P:Program}{g:Operand}{ps:Array Tmp}{assign body:Code}{Q:Exit->Act->World->Prop}{a:Act}{w:World}{E:AP}{S:Nat->Prop}{φ:Phi}
  {gf:Nat} {lb:Array Value} (hg:a.eval g=.func (.func gf) #[] lb) (eg:∀args w,(callFunc gf args).run P w=.ok (.enter gf args) w)
  {hi:List Ob} {caps:List VV} {n:Nat} {xs:Nat->List VV} (hit:Od P gf hi caps n xs) (hps:∀k,(xs k).length=ps.size) (gd:Gd E (U S (Own φ)) w) (hdis:∀k,S k->¬Own φ k)
  (hH:HRel (E.add S) (Bl hi) φ w) (hφ:∀id,φ id≠none↔id<hi.length) (F:Dj w ((E.add S).up φ) (some φ) caps lb)
  (I:Nat->(Nat->Prop)->(Nat->Prop)->World->Prop) (Ix:Code->(Nat->Prop)->(Nat->Prop)->World->Prop)
  (hI1:∀k S T T' W W',I k S T W->(∀b,S b->¬T b)->Chg W T W' T'->I k S T' W')
  (hI2:∀k S T W l o o',I k S T W->Gd E (U S T) W->W.heap[l]?=some o->o.isCells=false->S l->I k S T (W.putObj l o'))
  (hIx1:∀c S T T' W W',Ix c S T W->(∀b,S b->¬T b)->Chg W T W' T'->Ix c S T' W')
  (hIx:∀c S T W l o o',Ix c S T W->W.heap[l]?=some o->o.isCells=false->S l->Ix c S T (W.putObj l o'))
  (h0:∀W,Below w.heap.size w W->(∀b,b=w.heap.size\/b=w.heap.size+1->b<W.heap.size)->I 0 (λk=>S k\/k=w.heap.size\/k=w.heap.size+1) (Own φ) W)
  (M:∀(l k:Nat)(S1 T1:Nat->Prop)(W:World)(vs:Array Value),k<n->I k S1 T1 W->(∀b,S1 b->¬T1 b)->Gd E (U S1 T1) W->Dj W (E.add (U S1 T1)) none (xs k) vs ->
   assign.wpIn (Fence.wide.inRound l) 0 P (Exit.then (λa₁ W1=>KeepsOthers W W1/\∃S2,Chg W S1 W1 S2/\UX W S1 S2/\∀W2 r o,W2=W1.putObj r o->(∃o1,W1.heap[r]?=some (.loop o1))->S2 r->Gd E (U S2 T1) W1->Gd E (U S2 T1) W2->Chg W1 S2 W2 S2 ->
    body.wpIn (Fence.wide.inRound l) 0 P (Anx (λS W=>I (k+1) S T1 W) (λc S W=>Ix c S T1 W) S2 W2) a₁ W2) (λ_ _ _=>False)) {tmps:=(ps.zip vs).foldl (λt (p,v)=>t.setIfInBounds p v) a.tmps,defers:=[]} W)
  (hdone:∀(D:Nat)(S1 T1:Nat->Prop)(W:World),I n S1 T1 W->(∀b,S1 b->¬T1 b)->Gd E (U S1 T1) W->W.heap[D]?=some (.deferred (some []))->S1 D->w.heap.size<=D->Q .normal {a with defers:={target:=.collected D,args:=#[]}::a.defers} W)
  (hstop:∀(D:Nat)(S1 T1:Nat->Prop)(c:Code)(W:World),Ix c S1 T1 W->W.heap[D]?=some (.deferred (some []))->S1 D->w.heap.size<=D->c.wpIn Fence.wide 0 P Q {a with defers:={target:=.collected D,args:=#[]}::a.defers} W) :
  (Code.rangeFunc g ps assign body).wpIn Fence.wide 0 P Q a w:=by
 refine wpIn_rangeFunc ?_;intro fn hfn;obtain⟨rec,f⟩:∃rec:LoopState->Option Code->Loop,rec=λst pe=>{state:=st,pending:=pe,fn,tmps:=a.tmps,params:=ps,assign,body,defers:=w.heap.size}:=⟨_,rfl⟩
 obtain⟨W1,G⟩:∃W1,(w.alloc (.deferred (some []))).alloc (.loop (rec .ready none))=W1:=⟨_,rfl⟩;have hL1:W1.heap[w.heap.size+1]?=some (.loop (rec .ready none)):=by
  rw[<- G];have:=World.alloc_heap_new (w.alloc (.deferred (some []))) (.loop (rec .ready none));rwa [World.size_alloc]at this
 have hK1:W1.heap[w.heap.size]?=some (.deferred (some [])):=by
  rw[<- G];exact(Below.heap_alloc _ _ _ sM).trans (World.alloc_heap_new w _)
 have m:Below w.heap.size w W1:=by rw[<- G];exact((Below.refl _ w).alloc (Ap1 _) _).alloc sM _
 have hsz1:W1.heap.size=w.heap.size+1+1:=by rw[<- G];simp
 obtain⟨S0,s⟩:∃S0:Nat->Prop,S0=λk=>S k\/k=w.heap.size\/k=w.heap.size+1:=⟨_,rfl⟩
 have hdis0:∀k,S0 k->¬Own φ k:=λk d ho=>by
  rw[s]at d;have:=hH.lt ho;rcases d with h|rfl|rfl
  .exact hdis k h ho
  .omega
  .omega
 have hc1:Chg w (U S (Own φ)) W1 (U S0 (Own φ)):=⟨m.os,m.tape,m.output,m.size,λk d _=>m.block k d,λk d=>by
   rcases d with d|d
   .rw[s]at d;rcases d with h|rfl|rfl
    .exact .inl (.inl h)
    .exact .inr (Ap1 _)
    .exact .inr (Arz _)
   .exact .inl (.inr d),λk d=>by
  rcases d with d|d
  .rw[s]at d;rcases d with h|rfl|rfl
   .have:=gd.sz k (.inl h);omega
   .omega
   .omega
  .have:=gd.sz k (.inr d);omega⟩
 have hg1:=gd.chg hc1;have N:∀(A:Nat->Prop) k,k<w.heap.size->¬(A k\/S k)->W1.heap[k]?=w.heap[k]?/\¬(A k\/S0 k):=λA k d hn=>⟨m.block k d,λe=>by
  rcases e with e|e
  .exact hn (.inl e)
  .rw[s]at e;rcases e with h|rfl|rfl
   .exact hn (.inr h)
   .omega
   .omega⟩
 have hH1:HRel (E.add S0) (Bl hi) φ W1:=hH.over (λk d=>d.imp (gd.sub k) id) m.size (N _) (N _);have O:Dj W1 ((E.add S0).up φ) (some φ) caps lb:=⟨F.1,λj x hx=>(F.2 j x hx).over m.size (N _) (N _)⟩;have hI1':I 0 S0 (Own φ) W1:=by rw[s];exact h0 W1 m λb X=>oM
 refine⟨w.heap.size+1,[{target:=.collected w.heap.size,args:=#[]}],W1,{target:=.fn (.func gf) lb,args:=#[.func (.yield (w.heap.size+1)) #[] #[]]},W1,gf,
  #[.func (.yield (w.heap.size+1)) #[] #[]]++lb,W1,?_,?_,?_,?_,λh=>by simp[Fence.wide]at h,?_⟩
 .rw[<- G,f];exact run_enterLoop_outer _ _ _ _ _
 .simp only[resolve,hg];simp[go_sem]
 .intro f' _;trivial
 .simp[invoke,go_sem,eg]
 .have fin:∀(jump:Option Code)(W W3:World),w.heap.size+1<W.heap.size->W.heap[w.heap.size]?=some (.deferred (some []))->KeepsOthers (W.putObj (w.heap.size+1) (.loop {rec .ready none with state:=.busy})) W3 ->
    (Instr.endRound (w.heap.size+1) jump).run P W3=.ok (.bool jump.isNone) (W3.putObj (w.heap.size+1) (.loop (rec (if jump.isNone then .ready else .done) jump))) /\
    W3.heap[w.heap.size+1]?=some (.loop {rec .ready none with state:=.busy}) /\
    (W3.putObj (w.heap.size+1) (.loop (rec (if jump.isNone then .ready else .done) jump))).heap[w.heap.size+1]?=some (.loop (rec (if jump.isNone then .ready else .done) jump)) /\
    (W3.putObj (w.heap.size+1) (.loop (rec (if jump.isNone then .ready else .done) jump))).heap[w.heap.size]?=some (.deferred (some [])):=λjump W W3 hlt d y=>by
   have hl2:(W.putObj (w.heap.size+1) (.loop {rec .ready none with state:=.busy})).heap[w.heap.size+1]?=some (.loop {rec .ready none with state:=.busy}):=World.putObj_heap_same hlt;have hk2:(W.putObj (w.heap.size+1) (.loop {rec .ready none with state:=.busy})).heap[w.heap.size]?=some (.deferred (some [])):=(World.putObj_heap_other oM).trans d;have q:=y.same _ _ hl2 rfl;have:=run_endRound (P:=P) jump q;rw[f]at this |-;exact⟨this,by rw[f]at q;exact q,World.putObj_heap_same (Ap6.1 q).1,(World.putObj_heap_other oM).trans (y.same _ _ hk2 rfl)⟩
  refine(hit E S0 φ W1 lb (w.heap.size+1) hg1 hdis0 hH1 hφ O
   (λk S1 T1 W=>I k S1 T1 W/\W.heap[w.heap.size+1]?=some (.loop (rec .ready none))/\W.heap[w.heap.size]?=some (.deferred (some []))/\S1 (w.heap.size+1)/\S1 w.heap.size)
   (λS1 T1 W=>∃c,Ix c S1 T1 W/\W.heap[w.heap.size+1]?=some (.loop (rec .done (some c)))/\W.heap[w.heap.size]?=some (.deferred (some []))/\S1 (w.heap.size+1)/\S1 w.heap.size)
   ⟨hI1',hL1,hK1,by rw[s];exact .inr (.inr rfl),by rw[s];exact .inr (.inl rfl)⟩
   (λk S1 T1 T2 w1 w2 h hd X=>⟨hI1 k S1 T1 T2 w1 w2 h.1 hd X,(X.block _ (Ap6.1 h.2.1).1 (hd _ h.2.2.2.1)).trans h.2.1,(X.block _ (Ap6.1 h.2.2.1).1 (hd _ h.2.2.2.2)).trans h.2.2.1,h.2.2.2⟩)
   (λS1 T1 T2 w1 w2 h hd X=>by
    obtain⟨c,h1,h2,h3,h4,h5⟩:=h;exact⟨c,hIx1 c S1 T1 T2 w1 w2 h1 hd X,(X.block _ (Ap6.1 h2).1 (hd _ h4)).trans h2,(X.block _ (Ap6.1 h3).1 (hd _ h5)).trans h3,h4,h5⟩) ?_).mono ?_
  ·
   rintro k S1 T1 W vs hlt ⟨hi,L,d,z,H⟩ hd hgW Y;have hlw:w.heap.size+1<W.heap.size:=(Ap6.1 L).1;have hy:=run_yield (P:=P) (args:=vs) L (by rw[f];exact Y.1.trans (hps k));rw[f]at hy;refine⟨fn,_,assign,body,hy,roundIn_of_wpIn hfn (wpIn_mono (M (w.heap.size+1) k S1 T1 W vs hlt hi hd hgW Y) ?_)⟩;rintro e a1 Wa hp;cases e with
   | normal =>
    obtain⟨hba,S2,R,Z,hbody⟩:=hp;have hla:=hba.same _ _ L rfl;have hka:=hba.same _ _ d rfl;have J:w.heap.size+1<Wa.heap.size:=(Ap6.1 hla).1;have u:=Z _ _ z L rfl;have hsd2:=Z _ _ H d rfl;have hTz:∀k,T1 k->k<W.heap.size:=λk d=>hgW.sz k (.inr d)
    have hgA:=hgW.chg (R.inU hTz);have B:=Jc (S:=S2) (W:=Wa) (.loop {rec .ready none with state:=.busy}) u R.lt;have hTz2:∀k,T1 k->k<Wa.heap.size:=λk d=>hgA.sz k (.inr d)
    have hgP:=hgA.chg (B.inU hTz2);refine⟨_,run_beginRound hla (by rw[f]),?_⟩;refine wpIn_mono (hbody (Wa.putObj (w.heap.size+1) (.loop {rec .ready none with state:=.busy})) _ _ rfl ⟨_,hla⟩ u hgA hgP B) ?_;have hlP:(Wa.putObj (w.heap.size+1) (.loop {rec .ready none with state:=.busy})).heap[w.heap.size+1]?=some (.loop {rec .ready none with state:=.busy}):=World.putObj_heap_same J;have hkP:(Wa.putObj (w.heap.size+1) (.loop {rec .ready none with state:=.busy})).heap[w.heap.size]?=some (.deferred (some [])):=(World.putObj_heap_other oM).trans hka;rintro e a3 W3 hp;cases e with
    | normal =>
     obtain⟨y,S3,C,K,hi3⟩:=hp;obtain⟨hr,q,hl4,hk4⟩:=fin none Wa W3 J hka y;have i:=K _ _ u hlP rfl;have hcq:=Jc (S:=S3) (W:=W3) (.loop (rec .ready none)) i C.lt;have hg3:=hgP.chg (C.inU λk d=>hgP.sz k (.inr d));exact⟨_,_,hr,.inl ⟨rfl,S3,⟨hI2 _ _ _ _ _ _ _ hi3 hg3 q rfl i,hl4,hk4,i,K _ _ hsd2 hkP rfl⟩,((R.trans B).trans C).trans hcq⟩⟩
    | ret =>
     obtain⟨y,S3,C,K,hi3⟩:=hp;obtain⟨hr,q,hl4,hk4⟩:=fin (some .ret) Wa W3 J hka y;have i:=K _ _ u hlP rfl;have hcq:=Jc (S:=S3) (W:=W3) (.loop (rec .done (some .ret))) i C.lt;exact⟨_,_,hr,.inr ⟨rfl,S3,⟨.ret,hIx _ _ _ _ _ _ _ hi3 q rfl i,hl4,hk4,i,K _ _ hsd2 hkP rfl⟩,((R.trans B).trans C).trans hcq⟩⟩
    | _=>exact hp.elim
   | _=>exact hp.elim
  ·
   rintro e W2 ⟨⟨v,rfl⟩,(⟨S1,T1,⟨hi,L,d,z,H⟩,hd,V⟩ | ⟨S1,T1,c,hi,L,d,z,H⟩)⟩
   .have B:=Jc (S:=S1) (W:=W2) (.loop {rec .ready none with state:=.exhausted}) z λk d=>V.sz k (.inl d)
    exact⟨none,_,by have:=run_endLoop (P:=P) L (by rw[f];simp);rw[f]at this;exact this,hdone _ S1 T1 _ (hI2 _ _ _ _ _ _ _ hi V L rfl z) hd (by have:=V.chg (B.inU λk d=>V.sz k (.inr d));rw[f]at this;exact this) ((World.putObj_heap_other oM).trans d) H (Ap1 _)⟩
   .exact⟨some c,_,by have:=run_endLoop (P:=P) L (by rw[f];simp);rw[f]at this;exact this,hstop _ S1 T1 c _ (hIx _ _ _ _ _ _ _ hi L rfl z) ((World.putObj_heap_other oM).trans d) H (Ap1 _)⟩
def rgL (nb:Nat):Ann:={keep:=λ_=>[],base:=nb}
def QC (nb:Nat)(st:St):List Ob:=(Pt nb [] st).map (EA st (Pt nb [] st))
def rgK (nb:Nat)(l0:List (Nat×VV))(b:List Ob)(K:Exit->St->Prop):Exit->St->Prop
 | .normal,st=>bif okF nb [] st then(leO (QC nb st) b/\True)else False
 | .ret,st=>bif okF nb [] st then K .ret (An l0 (QC nb st))else False
 | _,_=>False
def AfY (nb:Nat):VV->Bool
 | .bp id _=>Nat.blt id nb
 | x=>x.mem
def VK (nb:Nat)(l:List (Nat×VV)):Bool:=l.all λp=>AfY nb p.2
section
variable {P : Program} {T:TypeId->TE} {Sh:Shs} {N:Nat} {E:AP} {w:World} {φ:Phi} {a:Act} {st:St}
def QR {nb t:Nat}:∀{l:List (Nat×VV)},VK nb l=true->AfY nb (Bo t l)=true
 | [],_=>rfl
 | (j,x)::l,h=>by
  unfold VK at h;rw[Aru,ApX]at h;simp only[Bo];cases Nat.beq t j with
  | true=>exact h.1
  | false=>exact QR (l:=l) h.2
def V.stab {E':AP}{w':World}{φ':Phi}{nb:Nat}{x:VV}{v:Value}(h:V w (E.up φ) (some φ) x v)(e:AfY nb x=true)(hs:w.heap.size<=w'.heap.size)
  (g:∀k,k<w.heap.size->¬(E.up φ).fz k->w'.heap[k]?=w.heap[k]?/\¬(E'.up φ').fz k) (c:∀id p,id<nb->φ id=some p->∃p',φ' id=some p'/\PlK p p'):V w' (E'.up φ') (some φ') x v:=by
 have key:x.mem=true->V w' (E'.up φ') (some φ') x v:=λf=>by
  have h1:V w (E.up φ).hold none x v:=h.mem f rfl;have h2:V w' (E'.up φ').hold none x v:=h1.mono hs (λk c d=>g k c d) (λ_ _ d=>(d trivial).elim) trivial;exact h2.mem f rfl
 cases x with
 | bp id off =>
  obtain⟨b,h1,rfl⟩:=h.bp_inv;obtain⟨p',h2,h3⟩:=c id _ (Aqg e) h1;simp only[PlK]at h3;subst h3;exact .bp h2
 | _=>exact key e
def K8 {H:Nat->Ob}(h:HRel E H φ w){k:Nat}(i:Own φ k){o:Obj}(e:w.heap[k]?=some o):o.isCells=true:=by
 obtain⟨id,d⟩:=i;obtain⟨p,hp,d⟩:=A0.1 d;have:=h.ob id p hp;generalize H id=ob at this;cases ob with
 | box cs =>
  cases p with
  | box b =>
   obtain⟨c,ty,h1,_⟩:=this;simp only[PlB]at d;subst d;rw[e]at h1;cases h1;rfl
  | arr=>exact this.elim
 | arr fr g n sz f =>
  cases p with
  | box b=>exact this.elim
  | arr g' n' hd =>
   obtain⟨cap,rfl⟩:=d;obtain⟨_,_,c,ty,h1,_⟩:=this;rw[e]at h1;cases h1;rfl
 | kar g n sz q r f =>
  cases p with
  | box b=>exact this.elim
  | arr g' n' hd =>
   obtain⟨cap,rfl⟩:=d;obtain⟨_,_,⟨c,ty,h1,_⟩,_⟩:=this;rw[e]at h1;cases h1;rfl
 | gone g =>
  cases p with
  | box b=>exact this.elim
  | arr g' n' hd =>
   obtain⟨cap,rfl⟩:=d;obtain⟨_,h1⟩:=this;cases h1
def Ext.keeps {H:Nat->Ob}{w':World}{φ':Phi}(h:HRel E H φ w)(e:Ext w φ w' φ'):KeepsOthers w w' :=
 ⟨e.size,λk o b c=>(e.block k (Ap6.1 b).1 λd=>by rw[K8 h d b]at c;cases c).trans b⟩
def Agp {E:AP}{m:Option Phi}:∀(ps:List Nat)(xs:List VV)(vs:List Value)(l:List (Nat×VV)) (A:Array Value),ps.Nodup->(∀p,p∈ps->p<A.size)->xs.length=ps.length->vs.length=ps.length ->
  (∀(j:Nat) x,xs[j]?=some x->V w E m x (vs.getD j undef))->(∀t,V w E m (Bo t l) (A.getD t undef)) ->
  ∀t,V w E m (Bo t (ps.zip xs++l)) (((ps.zip vs).foldl (λt (p:Nat×Value)=>t.setIfInBounds p.1 p.2) A).getD t undef)
 | [],_,_,l,A,_,_,_,_,_,h,t=>by simpa using h t
 | p::ps,x::xs,v::vs,l,A,c,hp,h1,h2,hv,h,t=>by
  rw[ArX]at c;have ih:=Agp ps xs vs ((p,x)::l) (A.setIfInBounds p v) c.2 (λq b=>by rw[Array.size_setIfInBounds];exact hp q (Aqc _ b)) (by simpa using h1) (by simpa using h2) (λj x i=>by
   have:=hv (j+1) x i;simpa using this) (λt=>by
   simp only[Bo];cases b:Nat.beq t p with
   | true =>
    have:=Ap0 b;subst this;have d:=hp t (Ap2 ..);have h0:=hv 0 x rfl;have e:(A.setIfInBounds t v).getD t undef=v:=by simp[Array.getD,d]
    rw[e];simpa using h0
   | false =>
    have f:p≠t:=λe=>by subst e;simp at b
    rw[show(A.setIfInBounds p v).getD t undef=A.getD t undef by simp[Array.getElem?_setIfInBounds_ne f]];exact h t) t
  have e:Bo t ((p::ps).zip (x::xs)++l)=Bo t (ps.zip xs++(p,x)::l):=by
   have key:∀(L:List (Nat×VV)),(∀q,q∈L->q.1≠p)->Bo t ((p,x)::L++l)=Bo t (L++(p,x)::l):=by
    intro L
    induction L with
    | nil=>intro _;rfl
    | cons q L ih =>
     intro g;have b:=g q (Ap2 ..);have:=ih λq b=>g q (Aqc _ b)
     simp only[Art,Bo]at this |-;cases h1:Nat.beq t q.1 with
     | true =>
      have:=Ap0 h1;have h2:Nat.beq t p=false:=by
       cases h3:Nat.beq t p with
       | true=>exact absurd ((Ap0 h3).symm.trans this).symm b
       | false=>rfl
      rw[h2];rfl
     | false=>rw[ApW,<- this,ApW]
   exact key _ λq b e=>c.1 (by rw[<- e];exact(List.of_mem_zip b).1)
  rw[e];exact ih
def O0 (N:Nat)(E:AP)(φ:Phi)(a:Act)(w:World)(l0:List (Nat×VV))(K0:List Ob->Prop)(S T:Nat->Prop)(W:World):Prop :=
 ∃hs φk,∃X:Nat->Prop,K0 hs/\(∀b,S b↔Own φk b\/X b)/\(∀b,X b->Own φ b\/w.heap.size<=b)/\(∀b,T b->Own φ b\/w.heap.size<=b) /\
  Rel N (E.add (U X T)) (An l0 hs) φk {a with defers:=[]} W/\Fr 0 w φ W φk
def fr0 {w w':World}{φ φ':Phi}(h1:w'.os=w.os)(h2:w'.tape=w.tape)(h3:w'.output=w.output)(h4:w.heap.size<=w'.heap.size)(h5:∀k,k<w.heap.size->¬Own φ k->w'.heap[k]?=w.heap[k]?)(h6:∀k,Own φ' k->Own φ k\/w.heap.size<=k):Fr 0 w φ w' φ' :=
 ⟨h1,h2,h3,h4,h5,h6,λ_ _ h _=>absurd h (AqL _)⟩
def Rel.turn {E:AP}{st:St}{φ:Phi}{a:Act}{W:World}{l:Nat}(f:Obj)(h:Rel N E st φ a W)(h1:E.fz l)(h2:E.br l)(h3:l∉Ez)(g:E.ds=[]):Rel N E st φ a (W.putObj l f):=by
 have b:∀k,k≠l->(W.putObj l f).heap[k]?=W.heap[k]?:=λk c=>World.putObj_heap_other c
 have:=h.over (E:=E) (w':=W.putObj l f) h.hp.sub sM (λk _ d=>⟨b k λe=>d (by rw[e];exact h1),d⟩) (λk _ d=>⟨b k λe=>d (by rw[e];exact h2),d⟩) (λk c=>by simpa using h.old.lt k c) (by rw[g];exact .nil (by simpa using h.df.2.1)) λk c=>b k λe=>h3 (by rw[<- e];exact c)
 rw[<- h.df.1]at this;exact this
section
variable {N : Nat} {E:AP} {φ:Phi} {a:Act} {w:World} {l0:List (Nat×VV)} {K0:List Ob->Prop} {S T:Nat->Prop} {W:World}
def O0.iter (i:∀k,E.br k->E.fz k)(j:∀k,k∈Ez->k<w.heap.size/\¬Own φ k){T':Nat->Prop}{W':World}(h:O0 N E φ a w l0 K0 S T W)(c:Chg W T W' T'):O0 N E φ a w l0 K0 S T' W':=by
 obtain⟨hs,φk,X,h1,h2,h3,h4,h5,h6⟩:=h;have g:∀b,T' b->Own φ b\/w.heap.size<=b:=λb l=>(c.new b l).elim (h4 b) λh=>.inr (Aqt h6.size h)
 have key:∀(A:Nat->Prop) k,k<W.heap.size->¬(A k\/U X T k)->W'.heap[k]?=W.heap[k]?/\¬(A k\/U X T' k):=λA k d f =>
  ⟨c.block k d λe=>f (.inr (.inr e)),λe=>by
   rcases e with e|e|e
   .exact f (.inl e)
   .exact f (.inr (.inl e))
   .rcases c.new k e with e|e
    .exact f (.inr (.inr e))
    .omega⟩
 have:=h5.over (E:=E.add (U X T')) (w':=W') (λk d=>d.imp (i k) λh=>h) c.size (key _) (key _) (λk d=>?_) (.nil ?_) λk d=>?_
 .exact⟨hs,φk,X,h1,h2,h3,g,this,fr0 (c.os.trans h6.os) (c.tape.trans h6.tape) (c.output.trans h6.output) (Aqt h6.size c.size) (λk d f=>(c.block k (Aqw d h6.size) λe=>(h4 k e).elim f λh=>oM).trans (h6.block k d f)) h6.new⟩
 .rcases d with d|d|d
  .exact Aqw (h5.old.lt k (.inl d)) c.size
  .exact Aqw (h5.old.lt k (.inr (.inl d))) c.size
  .exact c.lt k d
 .exact Aqt h5.df.2.1 c.size
 .obtain⟨l1,l2⟩:=j k d;exact c.block k (Aqw l1 h6.size) λe=>(h4 k e).elim l2 λh=>oM
def O0.own (h:O0 N E φ a w l0 K0 S T W){l:Nat}(hs:S l):(Own φ l\/w.heap.size<=l):=by
 obtain⟨_,φk,X,_,h2,h3,_,h5,h6⟩:=h;rcases(h2 l).1 hs with h|h
 .exact h6.new l h
 .exact h3 l h
def O0.put (i:∀k,k∈Ez->k<w.heap.size/\¬Own φ k){l:Nat}{o:Obj}(c:Obj)(h:O0 N E φ a w l0 K0 S T W)(j:W.heap[l]?=some o)(m:o.isCells=false)(hs:S l):O0 N E φ a w l0 K0 S T (W.putObj l c):=by
 have d:=h.own hs;obtain⟨hs',φk,X,h1,h2,h3,h4,h5,h6⟩:=h;have f:X l:=((h2 l).1 hs).resolve_left λh=>by have:=K8 h5.hp h j;rw[m]at this;cases this
 refine⟨hs',φk,X,h1,h2,h3,h4,h5.turn c (.inr (.inl f)) (.inr (.inl f)) (λb=>?_) rfl,fr0 h6.os h6.tape h6.output (by simpa using h6.size) (λk b g=>(World.putObj_heap_other λe=>?_).trans (h6.block k b g)) h6.new⟩
 .obtain⟨l1,l2⟩:=i l b;exact d.elim l2 λh=>oM
 .subst e;exact d.elim g λh=>oM
end
end
def SJ {N:Nat}{E:AP}{st:St}{φ:Phi}{a:Act}{w:World}{l0:List (Nat×VV)}{K0:List Ob->Prop}{S T:Nat->Prop}{W:World}(g:Rel N E st φ a w)(h:O0 N E φ a w l0 K0 S T W){D:Nat}(l:W.heap[D]?=some (.deferred (some [])))(s:S D)(t:w.heap.size<=D) :
  ∃E' d φ',E.Le E'/\(∃hs,K0 hs/\d=An l0 hs)/\Rel N E' d φ' {a with defers:={target:=.collected D,args:=#[]}::a.defers} W/\Fr 0 w φ W φ':=by
 obtain⟨hs,φk,X,h1,h2,h3,h4,h5,h6⟩:=h;have m:X D:=((h2 D).1 s).resolve_left λh=>by have:=K8 h5.hp h l;cases this
 obtain⟨i,n,Ds,d1,d2,o⟩:=g.df;rw[<- i]at d1;obtain⟨E',b⟩:∃E':AP,E'={E.add (U X T)with lo:=E.lo,ds:={target:=.collected D,args:=#[]}::a.defers}:=⟨_,rfl⟩;have p:=h5.over (E:=E') (w':=W) (λk f=>by subst b;exact h5.hp.sub k f) (Ap1 _) (λk _ j=>⟨rfl,by subst b;exact j⟩) (λk _ j=>⟨rfl,by subst b;exact j⟩) (λk f=>by subst b;exact h5.old.lt k f) ?_ λ_ _=>rfl
 .exact⟨E',_,φk,by subst b;exact⟨λ_ h=>.inl h,λ_ h=>.inl h,rfl⟩,⟨hs,h1,rfl⟩,by have e:E'.ds={target:=.collected D,args:=#[]}::a.defers:=(by rw[b]);rw[e]at p;exact p,h6⟩
 subst b;refine⟨Aqt n h6.size,D::Ds,by show _::a.defers=_;rw[d1];rfl,ArX.2 ⟨λu=>?_,d2⟩,λD' c=>?_⟩
 .have:=(Ap6.1 (o D u).1).1;omega
 .rcases AqI.1 c with rfl|c
  .exact⟨l,.inr (.inl m),.inr (.inl m),λf=>by have:=g.old.lib.lt _ f;omega,Aqt n t⟩
  .obtain⟨q,r,v,a4,x⟩:=o D' c;exact⟨(h6.block D' (Ap6.1 q).1 λy=>g.hp.free D' y r).trans q,.inl r,.inl v,a4,x⟩
def Ado {P:Program}{T:TypeId->TE}{N:Nat}{st:St}(hT:TOk P T)(hmx:P.follows .mixedOrders=true){lc:Code}{K:Exit->St->Prop}{p q:List Nat}(Sh:Shs){id tg:Nat}{ps:Array Tmp}{assign body:Code}(hlc:lc=.block id (.rangeFunc (.tmp tg) ps assign body))
  (hB:(OI N assign&&J0 N body)=true) (hps:ps.toList.Nodup/\∀p,p∈ps.toList->p<N) {gf:Nat} (eg:∀args w,(callFunc gf args).run P w=.ok (.enter gf args) w) {hi:List Ob} {caps:List VV} {n:Nat} {xs:Nat->List VV} (hit:Od P gf hi caps n xs)
  (hxs:∀k,(xs k).length=ps.size) (ic ii:List Nat) (h1:EQ st.nx ic=true) (h2:EQ st.nx ii=true) (h3:(ic.all λi=>!(ii.any (Nat.beq i)))=true)
  (l0:List (Nat×VV)) (nb:Nat) (s:Nat->List Ob) (_:∀k,(s k).length=nb) (hl0:VK nb l0=true) (ht:∀t,VV.le (Iv st ic (st.t t)) (Bo t l0)) (hh:leO (ic.map (EA st ic)) (s 0))
  (hg:VV.le (Iv st ii (st.t tg)) (.fn (.func gf) caps)) (hhi:leO (ii.map (EA st ii)) hi)
  (round:∀k,k<n->xc P T Sh N (rgL nb) q (.seq assign body) (rgK nb l0 (s (k+1)) K) (An (ps.toList.zip (xs k)++l0) (s k)))
  (done:K .normal (An l0 (s n))):Sat P N 0 p lc K st:=by
 subst hlc;refine⟨λE φ a w g=>(wpIn_wide (n:=0)).1 (wpIn_block ?_)⟩;have hE:=g.hp.sub;have hL:∀k,k∈Ez->k<w.heap.size/\¬Own φ k:=λk d=>⟨g.old.lib.lt k d,g.old.lib.out k d⟩
 have hlen0:=(Gx hh).1;have R:=(Gx hhi).1;simp only[AqS]at hlen0 R;have u:∀k,Own (C2 ii φ) k->Own φ k:=λk h=>D6.2 (.inr h)
 have Y:∀k,Own (C2 ic φ) k->Own φ k:=λk h=>D6.2 (.inr h)
 have m:∀k,GQ ii φ k->Own φ k:=λk h=>D6.2 (.inl h)
 have I:∀k,Own (C2 ic φ) k->GQ ii φ k:=λk h=>by
  obtain⟨j,i,M,f⟩:=FQ.1 h;have:=Aqx.1 h3 i (AqE M);exact⟨i,UE (by simpa using this),f⟩
 have hdis:∀k,GQ ii φ k->¬Own (C2 ii φ) k:=λk ⟨i,hi,f⟩ J=>by
  obtain⟨j,i',M,hb'⟩:=FQ.1 J;have:=g.hp.inj i i' k f hb';subst this;exact Q1 hi j M
 have hfn:∃lb,a.eval (.tmp tg)=.func (.func gf) #[] lb/\Dj w ((E.add (GQ ii φ)).up (C2 ii φ)) (some (C2 ii φ)) caps lb:=by
  have hv:=hg _ _ _ _ (EU (FP (E':=E.add (GQ ii φ)) g.hp (λ_ h=>h) λ_ h=>h) 8 _ _ (g.tm tg));have e:a.eval (.tmp tg)=a.tmps.getD tg undef:=rfl;rw[e];generalize a.tmps.getD tg undef=v at hv |-;cases hv with
  | fn M Z=>exact⟨_,rfl,M,Z⟩
 obtain⟨lb,hlb,hcaps⟩:=hfn;have hHI:HRel (E.add (GQ ii φ)) (Bl hi) (C2 ii φ) w:=(g.hp.lend (E':=E.add (GQ ii φ)) h2 (λ_ h=>h) (λ_ h=>h) (λk h=>h.imp (hE k) λh=>h) (H':=Bl (ii.map (EA st ii))) (λj id e=>by simp[Bl,e])).le hhi;have hφI:∀j,C2 ii φ j≠none↔j<hi.length:=λj=>by rw[<- R];exact FO h2 g.lv j
 have hgd:Gd E (U (GQ ii φ) (Own (C2 ii φ))) w:=⟨hE,g.old.lt,λk d=>g.hp.lt (d.elim (m k) (u k)),g.old.lib.at',g.old.lib.lt,λk d h=>g.old.lib.out k d (h.elim (m k) (u k))⟩;refine Afy (E:=E) (S:=GQ ii φ) (φ:=C2 ii φ) hlb eg hit hxs hgd hdis hHI hφI hcaps (λk=>O0 N E φ a w l0 (λhs=>hs=s k))
  (λc S T W=>c=.ret/\O0 N E φ a w l0 (λhs=>K .ret (An l0 hs)) S T W) (λk S T T' W W' h _ c=>h.iter hE hL c) (λk S T W l o o' h _ hl J hs=>h.put hL o' hl J hs)
  (λc S T T' W W' ⟨hc,h⟩ _ hch=>⟨hc,h.iter hE hL hch⟩) (λc S T W l o o' ⟨hc,h⟩ hl J hs=>⟨hc,h.put hL o' hl J hs⟩) ?_ ?_ ?_ ?_
 ·
  intro W f O;obtain⟨φ0,hφ0⟩:∃φ0,C2 ic φ=φ0:=⟨_,rfl⟩;obtain⟨X,hX⟩:∃X:Nat->Prop,X=λb=>(GQ ii φ b/\¬Own φ0 b)\/b=w.heap.size\/b=w.heap.size+1:=⟨_,rfl⟩
  have Q:Rel N (E.add (GQ ic φ)) (An l0 (s 0)) φ0 {a with defers:=[]} w:=by
   subst hφ0;refine⟨g.sz,⟨rfl,.nil (Ap3 _)⟩,⟨λk d=>d.elim (g.old.lt k) λh=>g.hp.lt (D6.2 (.inl h)),g.old.lib.at',g.old.lib.lt,λk d h=>g.old.lib.out k d (Y k h)⟩,λt=>?_,?_,λid z=>?_,λid z=>?_⟩
   .exact ht t _ _ _ _ (EU (FP (E':=E.add (GQ ic φ)) g.hp (λ_ h=>h) λ_ h=>h) 8 _ _ (g.tm t))
   .exact(g.hp.lend (E':=E.add (GQ ic φ)) h1 (λ_ h=>h) (λ_ h=>h) (λk h=>h.imp (hE k) λh=>h) (H':=Bl (ic.map (EA st ic))) (λj id e=>by simp[Bl,e])).le hh
   .have hid':(s 0).length<=id:=z;exact Aqf λy=>by have:=(FO h1 g.lv id).1 y;omega
   .have hid':id<(s 0).length:=z;exact(FO h1 g.lv id).2 oM
  have key:∀(A:Nat->Prop) k,k<w.heap.size->¬(A k\/GQ ic φ k)->W.heap[k]?=w.heap[k]?/\¬(A k\/U X (Own (C2 ii φ)) k):=λA k d y=>⟨f.block k d,λe=>by
   have hno:∀h:Own φ k,¬Own φ0 k->False:=λh h'=>by
    rcases(D6 (ids:=ic)).1 h with h''|h''
    .exact y (.inr h'')
    .exact h' (by rw[<- hφ0];exact h'')
   rcases e with e|e|e
   .exact y (.inl e)
   .rw[hX]at e;rcases e with⟨M,Z⟩ | rfl | rfl
    .exact hno (m k M) Z
    .omega
    .omega
   .refine hno (u k e) λh=>hdis k (I k (by rw[hφ0];exact h)) e⟩
  have hR2:=Q.over (E:=E.add (U X (Own (C2 ii φ)))) (w':=W) (λk d=>d.imp (hE k) λh=>h) f.size (key _) (key _) (λk d=>?_) (.nil (Ap3 _)) λk d=>f.block k (hL k d).1
  .refine⟨s 0,φ0,X,rfl,λb=>⟨λh=>?_,λh=>?_⟩,λb h=>?_,λb h=>.inl (u b h),hR2,fr0 f.os f.tape f.output f.size (λk d _=>f.block k d) λk h=>.inl (Y k (by rw[hφ0];exact h))⟩
   .rw[hX];rcases h with h|h|h
    .by_cases J:Own φ0 b
     .exact .inl J
     .exact .inr (.inl ⟨h,J⟩)
    .exact .inr (.inr (.inl h))
    .exact .inr (.inr (.inr h))
   .rw[hX]at h;rcases h with h|⟨h,_⟩|h
    .exact .inl (I b (by rw[hφ0];exact h))
    .exact .inl h
    .exact .inr h
   .rw[hX]at h;rcases h with⟨h,_⟩ | h | h
    .exact .inl (m b h)
    .exact .inr oM
    .exact .inr oM
  .rcases d with d|d|d
   .exact Aqw (g.old.lt k d) f.size
   .rw[hX]at d;rcases d with⟨h,_⟩ | h | h
    .exact Aqw (g.hp.lt (m k h)) f.size
    .exact O k (.inl h)
    .exact O k (.inr h)
   .exact Aqw (g.hp.lt (u k d)) f.size
 ·
  rintro l k S1 T1 W vs d ⟨hs,φk,X,rfl,b1,b2,b3,Q,hF⟩ hd hgd1 hsay;rw[ApX]at hB;have hr0:=round k d;simp only[xc]at hr0;have hup:∀{x:VV}{v:Value},V W (E.add (U S1 T1)) none x v->V W ((E.add (U X T1)).up φk) (some φk) x v:=λh=>h.held.less
   (λk d=>by
    rcases d with(d | d | d) | d
    .exact .inl d
    .exact .inr (.inl ((b1 k).2 (.inr d)))
    .exact .inr (.inr d)
    .exact .inr (.inl ((b1 k).2 (.inl d)))) λk d=>by
    rcases d with(d | d | d) | d
    .exact .inl d
    .exact .inr (.inl ((b1 k).2 (.inr d)))
    .exact .inr (.inr d)
    .exact .inr (.inl ((b1 k).2 (.inl d)))
  have hR1:Rel N (E.add (U X T1)) (An (ps.toList.zip (xs k)++l0) (s k)) φk {tmps:=(ps.zip vs).foldl (λt (p,v)=>t.setIfInBounds p v) a.tmps,defers:=[]} W:=by
   have e:(ps.zip vs).foldl (λ(t:Array Value) (p,v)=>t.setIfInBounds p v) a.tmps=(ps.toList.zip vs.toList).foldl (λt (p:Nat×Value)=>t.setIfInBounds p.1 p.2) a.tmps:=by
    rw[<- Array.foldl_toList,Array.toList_zip]
   refine⟨?_,⟨rfl,Q.df.2⟩,Q.old,λt=>?_,Q.hp,Q.fr,Q.lv⟩
   .show((ps.zip vs).foldl (λ(t:Array Value) (p,v)=>t.setIfInBounds p v) a.tmps).size=N;rw[e];have:∀(L:List (Nat×Value)) (A:Array Value),(L.foldl (λt (p:Nat×Value)=>t.setIfInBounds p.1 p.2) A).size=A.size:=by
     intro L
     induction L with
     | nil=>intro A;rfl
     | cons p L ih=>intro A;rw[List.foldl_cons,ih,Array.size_setIfInBounds]
    rw[this];exact Q.sz
   .show V W _ _ (Bo t _) (((ps.zip vs).foldl (λ(t:Array Value) (p,v)=>t.setIfInBounds p v) a.tmps).getD t undef);rw[e];refine Agp ps.toList (xs k) vs.toList l0 a.tmps hps.1 (λp hp=>by rw[show a.tmps.size=N from Q.sz];exact hps.2 p hp) (by simpa using hxs k) (by rw[Arh,Arh,hsay.1,hxs k]) (λj x hx=>?_) (λt=>Q.tm t) t;have:=hup (hsay.2 j x hx);simpa[AqG]using this
  have G:∀{st:St} {φ':Phi} {a':Act} {W':World},Rel N (E.add (U X T1)) st φ' a' W'->∀{r:Nat}{o:Obj},(Own φ' r\/X r)->W'.heap[r]?=some o->o.isCells=false->X r:=λh r o g J hc=>g.resolve_left λh'=>by
   have:=K8 h.hp h' J;rw[hc]at this;cases this
  refine wpIn_mono (UH (ro:=some l) (L:=rgL nb) hT hmx (λ_=>rfl) assign hB.1 _ _ _ hr0 _ _ _ _ hR1) ?_;rintro e a1 W1 ⟨rfl,st1,φ1,g1,g2,C⟩
  .skip
   have g1:xc P T Sh N (rgL nb) (1::q) body (rgK nb l0 (s (k+1)) K) st1:=g1;refine⟨Ext.keeps hR1.hp C,λb=>Own φ1 b\/X b,⟨C.os,C.tape,C.output,C.size,λb f y=>C.block b f λh=>y ((b1 b).2 (.inl h)),λb f=>?_,λb f=>?_⟩,λb o f J hc=>.inr (G hR1 ((b1 b).1 f) J hc),?_⟩
   .rcases f with h|h
    .exact(C.new b h).imp (λh=>(b1 b).2 (.inl h)) λh=>h
    .exact .inl ((b1 b).2 (.inr h))
   .rcases f with h|h
    .exact g2.hp.lt h
    .exact g2.old.lt b (.inr (.inl h))
   rintro W2 r o2 rfl ⟨o1,hr1⟩ hr2 _ _ _;have hXr:X r:=G g2 hr2 hr1 rfl;have hwr:=b2 r hXr;have hrl:r∉Ez:=λh=>by
    obtain⟨l1,l2⟩:=hL r h;exact hwr.elim l2 λh=>oM
   have g2':=g2.turn o2 (.inr (.inl hXr)) (.inr (.inl hXr)) hrl rfl;refine wpIn_mono (Ol (ro:=some l) (L:=rgL nb) hT hmx (λ_=>rfl) body hB.2 _ _ _ g1 _ _ _ _ g2') ?_;rintro e a3 W3 ⟨st3,φ3,f1,f2,H⟩;have hend:okF nb [] st3=true->∀(F:List Ob)(K1:List Ob->Prop),leO (QC nb st3) F->K1 F->KeepsOthers (W1.putObj r o2) W3/\∃S',Chg (W1.putObj r o2) (λb=>Own φ1 b\/X b) W3 S'/\UX (W1.putObj r o2) (λb=>Own φ1 b\/X b) S'/\O0 N E φ a w l0 K1 S' T1 W3:=by
    intro B F K1 hle hK1;obtain⟨φ4,r4,f4⟩:=f2.forget B;have hl1:=(Gx hle).1;have hFt:∀b,b<W.heap.size->¬Own φk b->¬X b->W3.heap[b]?=W.heap[b]?:=λb f y hx=>by
     have h1:¬Own φ1 b:=λh=>(C.new b h).elim y λh=>oM
     have F:b<W1.heap.size:=Aqw f C.size;have Z:(W1.putObj r o2).heap[b]?=W1.heap[b]?:=World.putObj_heap_other λe=>hx (by rw[e];exact hXr)
     exact((H.block b (by simpa using F) h1).trans Z).trans (C.block b f y)
    have O:W.heap.size<=W3.heap.size:=Aqt C.size (by simpa using H.size);have hnew:∀b,Own φ4 b->Own φk b\/W.heap.size<=b:=λb f=>by
     rcases f4.new b f with h|h
     .rcases H.new b h with h|h
      .exact C.new b h
      .exact .inr (Aqt C.size (by simpa using h))
     .exact .inr (Aqt O h)
    refine⟨Ext.keeps g2'.hp H,λb=>Own φ4 b\/X b,⟨H.os,H.tape,H.output,H.size,λb f y=>H.block b f λh=>y (.inl h),λb f=>?_,λb f=>?_⟩,λb o f J hc=>.inr (G g2' f J hc),?_⟩
    .rcases f with h|h
     .rcases f4.new b h with h|h
      .exact(H.new b h).imp .inl λh=>h
      .exact .inr (Aqt H.size h)
     .exact .inl (.inr h)
    .rcases f with h|h
     .exact r4.hp.lt h
     .exact r4.old.lt b (.inr (.inl h))
    refine⟨F,φ4,X,hK1,λ_=>Iff.rfl,b2,b3,⟨Q.sz,⟨rfl,.nil r4.df.2.1⟩,r4.old,λt=>?_,r4.hp.le hle,λid z=>r4.fr id ?_,λid z=>r4.lv id ?_⟩,?_⟩
    .refine(Q.tm t).stab (nb:=nb) (QR hl0) O (λb f y=>⟨hFt b f (λh=>y (.inr h)) λh=>y (.inl (.inr (.inl h))),λh=>?_⟩) λid p z hp=>?_
     .rcases h with h|h
      .exact y (.inl h)
      .exact(hnew b h).elim (λh=>y (.inr h)) λh=>oM
     .obtain⟨p1,M,k1⟩:=C.up id p hp;obtain⟨p2,Z,k2⟩:=H.up id p1 M;obtain⟨p3,e3,k3⟩:=f4.kind id p2 z Z;exact⟨p3,e3,(k1.kind.trans k2.kind).trans k3⟩
    .have:F.length<=id:=z;show(QC nb st3).length<=id;omega
    .have:id<F.length:=z;show id<(QC nb st3).length;omega
    .refine fr0 (H.os.trans (C.os.trans hF.os)) (H.tape.trans (C.tape.trans hF.tape)) (H.output.trans (C.output.trans hF.output)) (Aqt hF.size O) (λb f y=>(hFt b (Aqw f hF.size) (λh=>(hF.new b h).elim y λh=>oM) λh=>(b2 b h).elim y λh=>oM).trans (hF.block b f y)) λb f=>?_
     rcases hnew b f with h|h
     .exact hF.new b h
     .exact .inr (Aqt hF.size h)
   cases e with
   | normal =>
    simp only[rgK]at f1;cases B:okF nb [] st3 with
    | false=>rw[B]at f1;exact f1.elim
    | true=>rw[B,ApY]at f1;exact hend B _ _ f1.1 rfl
   | ret =>
    simp only[rgK]at f1;cases B:okF nb [] st3 with
    | false=>rw[B]at f1;exact f1.elim
    | true =>
     rw[B,ApY]at f1;obtain⟨k1,S',k2,k3,k4⟩:=hend B _ (λhs=>K .ret (An l0 hs)) (Cw _) f1;exact⟨k1,S',k2,k3,rfl,k4⟩
   | _=>exact f1.elim
 ·
  rintro D S1 T1 W h hd hgd1 hD hS hwD;obtain⟨E',st',φ',M,Z,e3,e4⟩:=SJ g h hD hS hwD;exact⟨E',st',φ',M,by obtain⟨hs,rfl,rfl⟩:=Z;exact done,e3,e4⟩
 ·
  rintro D S1 T1 c W ⟨rfl,h⟩ hD hS hwD;obtain⟨E',st',φ',M,Z,e3,e4⟩:=SJ g h hD hS hwD;exact wpIn_ret ⟨E',st',φ',M,by obtain⟨hs,h1,rfl⟩:=Z;exact h1,e3,e4⟩
def AgL:Code->Code
 | .block _ (.rangeFunc _ _ assign body)=>.seq assign body
 | _=>.skip
def Ctx.rg (c:Ctx)(rel:List Nat)(nb:Nat)(l0:List (Nat×VV))(b:List Ob):Ctx :=
 {c with L:=rgL nb,code:=AgL (Dp rel c.code),p0:=[],K0:=rgK nb l0 b (c.k rel)}
def Ctx.after (c:Ctx)(rel:List Nat):Ctx:={c with code:=.skip,K0:=c.k rel}
def OU {P:Program}{g:FuncId}(h:Hr P g)(args:Array Value)(w:World):(callFunc g args).run P w=.ok (.enter g args) w:=by
 obtain⟨fn,b,d,c⟩:=h;simp only[callFunc,Sem.run_bind,Sem.run_pure,Result.andThen_ok,run_program,b,c,d,ArQ,if_false]
def Y3 {c:Ctx}(m:TOk c.P c.T)(d:c.P.follows .mixedOrders=true){rel:List Nat}{st:St}(id tg:Nat)(ps:List Tmp)(assign body:Code)(l:c.sub rel=.block id (.rangeFunc (.tmp tg) ps.toArray assign body))(o:c.L.base=0)
  (hB:(OI c.N assign&&J0 c.N body)=true) (e:ps.Nodup/\∀p,p∈ps->p<c.N) {gf:Nat} (eg:Hr c.P gf) {hi:List Ob} {caps:List VV} {n:Nat} {xs:Nat->List VV} (f:Od c.P gf hi caps n xs)
  (g:∀k,(xs k).length=ps.length) (ic ii:List Nat) (h1:EQ st.nx ic=true) (h2:EQ st.nx ii=true) (h3:(ic.all λi=>!(ii.any (Nat.beq i)))=true)
  (l0:List (Nat×VV)) (nb:Nat) (b:Nat->List Ob) (r:∀k,(b k).length=nb) (h:VK nb l0=true) (s:∀t,VV.le (Iv st ic (st.t t)) (Bo t l0)) (u:leO (ic.map (EA st ic)) (b 0))
  (hg:VV.le (Iv st ii (st.t tg)) (.fn (.func gf) caps)) (j:leO (ii.map (EA st ii)) hi)
  (round:∀k,k<n->(c.rg rel nb l0 (b (k+1))).goal (An (ps.zip (xs k)++l0) (b k))) (done:(c.after rel).goal (An l0 (b n))):AB c rel st:=by
 unfold AB;rw[o];refine Ado (q:=[]) m d c.Sh l hB e (λargs w=>OU eg args w) f (λk=>by simpa using g k) ic ii h1 h2 h3 l0 nb b r h s u hg j (λk v=>?_) done;have x:AgL (Dp rel c.code)=.seq assign body:=by
  have:Dp rel c.code=.block id (.rangeFunc (.tmp tg) ps.toArray assign body):=l;rw[this];rfl
 have:=round k v;unfold Ctx.goal Ctx.rg at this;simp only[x]at this;exact this
def Db (ops:Array Oper)(k:Nat):Array Oper:=(ops.toList.take k).toArray
def Apz:Option Nat->Operand
 | some d=>.tmp d
 | none=>.const undef
def JW (o:Oper):Oper:={o with op:=.move (Apz o.dst),guard:=none}
def CS (ops:Array Oper)(k:Nat):Array Oper:=((ops.toList.take k).map JW++ops.toList.drop k).toArray
def Ps (ops:Array Oper):Bool:=ops.toList.all λo=>o.guard.isNone
section
variable {F : Fence} {n:Nat} {P:Program} {Q Q':Exit->Act->World->Prop} {ops:Array Oper}
def ApO {o:Oper}{a:Act}{w:World}{K:Act->World->Prop}(h:o.wpIn F n P a w K Q)(hp:∀ch a w,Q (.panic ch) a w->Q' (.panic ch) a w)(d:LetsOut Q->LetsOut Q'):o.wpIn F n P a w K Q':=by
 refine⟨h.1,?_⟩;have h:=h.2;generalize(o.semAt F.round a.eval).run P w=r at h |-;cases r with
 | ok x w' =>
  cases x with
  | enter f args=>exact⟨h.1,CallsIn.mono h.2 λe c b=>by cases e<;>first | exact b | exact hp _ _ _ b | exact d b⟩
  | round=>exact⟨h.1,RoundIn.mono h.2 λe c b=>by cases e<;>first | exact b | exact hp _ _ _ b | exact d b⟩
  | _=>exact h
 | halt e w' =>
  cases e with
  | panic v=>exact hp _ _ _ h
  | _=>exact h
def AnJ {i:Nat}{a:Act}{w:World}{K:Act->World->Prop}(h:wpOpIn F n P ops Q i K a w)(hp:∀ch a w,Q (.panic ch) a w->Q' (.panic ch) a w)(d:LetsOut Q->LetsOut Q'):wpOpIn F n P ops Q' i K a w:=by
 unfold wpOpIn at h |-;cases c:ops[i]? with
 | none=>rw[c]at h;exact h
 | some o =>
  rw[c]at h;simp only at h |-;split
  .rename_i b;rw[AqH b]at h;exact ApO h hp d
  .rename_i b;rw[Aqs b]at h;exact h
def Abi (js:List Nat):∀(is:List Nat)(a:Act)(w:World),wpOpsIn F n P ops (Exit.then (wpOpsIn F n P ops Q js) Q) is a w->wpOpsIn F n P ops Q (is++js) a w
 | [],a,w,h=>h
 | i::is,a,w,h=>by
  rw[wpOpsIn_cons]at h;rw[Art,wpOpsIn_cons];exact wpOpIn_mono (λa w h=>Abi js is a w h) (AnJ h (λ_ _ _ h=>h) λh=>h)
def Abh {A:Array Oper}(c:Ps A=true):∀(is:List Nat),(∀i,i∈is->i<A.size/\ops[i]?=A[i]?)->∀(a:Act)(w:World),wpOpsIn F n P A Q is a w->wpOpsIn F n P ops Q is a w
 | [],_,a,w,h=>h
 | i::is,hi,a,w,h=>by
  rw[wpOpsIn_cons]at h |-;obtain⟨h1,h2⟩:=hi i (Ap2 ..);have d:A[i]?=some A[i]:=by simp[h1]
  have hg:A[i].guard=none:=by
   have:=Aqx.1 c A[i] sM;simpa using this
  have e:∀y,Region.wanted A[i] y=true:=λy=>by unfold Region.wanted;rw[hg]
  unfold wpOpIn at h |-;rw[d]at h;rw[h2,d];simp only[e,if_true]at h |-;exact Oper.wpIn_mono (λa w h=>Abh c is (λi b=>hi i (Aqc _ b)) a w h) h
def AgU (a:Act)(d:Nat)(hd:d<a.tmps.size):a.put (some d) (a.tmps.getD d undef)=a:=by
 obtain⟨t,ds⟩:=a;simp only[Act.put]
 congr 1
 have b:d<t.size:=hd;simp[Array.getD,b,Array.setIfInBounds_def]
def TU {k i:Nat}:(CS ops k)[i]?=if i<k then(ops[i]?).map JW else ops[i]?:=by
 unfold CS;rw[List.getElem?_toArray]
 by_cases h:i<ops.size
 .by_cases a:i<k
  .rw[Aqa (by simp;omega),Aqv,AqW,AqH a,AqH a,Array.getElem?_toList]
  .rw[Aqo (by simp;omega),Aqs a,AqK];simp only[AqS,Aq0,Arh,Array.getElem?_toList]
   congr 1
   omega
 .rw[Arb (by simp;omega),Array.getElem?_eq_none oM];split<;>rfl
def V6 {k N:Nat}(hd:∀(i:Nat) o d,ops[i]?=some o->o.dst=some d->d<N)(l:k<=ops.size):∀(m j:Nat)(a:Act)(w:World),a.tmps.size=N->j+m=k->wpOpsIn F n P (CS ops k) Q (List.range' j m++List.range' k (ops.size-k)) a w->wpOpsIn F n P (CS ops k) Q (List.range' k (ops.size-k)) a w
 | 0,j,a,w,_,_,h=>h
 | m+1,j,a,w,hs,hj,h=>by
  rw[List.range'_succ,Art,wpOpsIn_cons]at h;have b:j<ops.size:=oM
  have f:(CS ops k)[j]?=some (JW ops[j]):=by
   rw[TU,AqH oM];simp[b]
  unfold wpOpIn at h;rw[f]at h;have p:∀(o:Oper) y,Region.wanted (JW o) y=true:=λ_ _=>rfl
  simp only[p,if_true]at h;refine V6 hd l m (j+1) a w hs oM ?_;have h:=h.2;rw[Oper.semAt_eq _ _ _ (by intro c q;cases q)]at h;have key:∀o:Oper,ops[j]?=some o->(JW o).uponIn F n P a (λa w=>wpOpsIn F n P (CS ops k) Q (List.range' (j+1) m++List.range' k (ops.size-k)) a w) Q ((execOp a.eval (JW o)).run P w)->wpOpsIn F n P (CS ops k) Q (List.range' (j+1) m++List.range' k (ops.size-k)) a w:=by
   intro o f h;have g:=hd j o;obtain⟨dst,op,ty,pos,af,gd⟩:=o;cases dst with
   | none =>
    have e:(execOp a.eval (JW ⟨none,op,ty,pos,af,gd⟩)).run P w=.ok (.value undef) w:=rfl;rw[e]at h;exact h
   | some d =>
    have e:(execOp a.eval (JW ⟨some d,op,ty,pos,af,gd⟩)).run P w=.ok (.value (a.tmps.getD d undef)) w:=rfl;rw[e]at h;have h:wpOpsIn F n P (CS ops k) Q (List.range' (j+1) m++List.range' k (ops.size-k)) (a.put (some d) (a.tmps.getD d undef)) w:=h;rw[AgU a d (by rw[hs];exact g d f rfl)]at h;exact h
  exact key ops[j] (by simp[b]) h
def VB {k:Nat}{t:Array Value}:yielded (CS ops k) t=yielded ops t:=by
 funext j
 unfold yielded;have:((CS ops k)[j]?).bind (·.dst)=(ops[j]?).bind (·.dst):=by
  rw[TU];split
  .cases ops[j]?<;>rfl
  .rfl
 rw[this]
def Abg {k:Nat}:∀(js:List Nat),(∀j,j∈js->k<=j)->∀(a:Act)(w:World),wpOpsIn F n P (CS ops k) Q js a w->wpOpsIn F n P ops Q js a w
 | [],_,a,w,h=>h
 | j::js,c,a,w,h=>by
  rw[wpOpsIn_cons]at h |-;have e:(CS ops k)[j]?=ops[j]?:=by rw[TU,Aqs (Nat.not_lt.2 (c j (Ap2 ..)))]
  unfold wpOpIn at h |-;rw[e,VB]at h;have ih:=λ(a:Act)(w:World) h=>Abg js (λj h=>c j (Aqc _ h)) a w h
  cases d:ops[j]? with
  | none=>rw[d]at h;exact ih _ _ h
  | some o =>
   rw[d]at h;simp only at h |-;split
   .rename_i b;rw[AqH b]at h;exact Oper.wpIn_mono ih h
   .rename_i b;rw[Aqs b]at h;exact⟨h.1,ih _ _ h.2⟩
end
def Afo {P:Program}{Q:Exit->Act->World->Prop}{oc:Oper}{tf d:Nat}{j x2:Operand}{tys:Array TypeId}(f:oc.op=.call {callee:=.value (.tmp tf),args:=#[j,x2],argTypes:=tys})(hd:oc.dst=some d){a:Act}{w:World}{l:Nat}(m:a.tmps.getD tf undef=.func (.yield l) #[] #[])
  {K:Act->World->Prop} {R:Ending->World->Prop} (o:YieldAt Fence.wide 0 P l #[a.eval j,a.eval x2] w R) (p:∀e w',R e w'->∃b,e=.returned b/\K (a.put (some d) b) w'):oc.wpIn Fence.wide 0 P a w K Q:=by
 obtain⟨fn,tmps,assign,body,q,r⟩:=o;have i:a.eval (.tmp tf)=.func (.yield l) #[] #[]:=m;have g:(execOp a.eval oc).run P w=.ok (.round l fn tmps assign body) w:=by
  unfold execOp;rw[f];simp only[resolve,i,Deferred.ofValue,Sem.run_bind,Sem.run_pure,Result.andThen_ok,invoke,Array.empty_append,ArC,AqN,Ara];simpa using q
 refine⟨λ_ _=>trivial,?_⟩;rw[Oper.semAt_eq _ _ _ (by intro c k;rw[f]at k;cases k),g,Oper.uponIn_round];refine⟨λh=>by simp[Fence.wide]at h,r.mono λe w' s=>?_⟩;obtain⟨b,rfl,t⟩:=p e w' s;rw[hd];exact t
def AhR {P:Program}{T:TypeId->TE}{Sh:Shs}{N:Nat}{ops:Array Oper}{st0:St}{E:AP}{w0:World}{φ0:Phi}{a:Act}(m:TOk P T)(hB:(MQ ops N&&Ku ops)=true){Q:Exit->Act->World->Prop}(p:¬LetsOut Q)
  {K:St->Prop} (h:Jl P T Sh false ops 0 ops.toList st0 [] [] λb=>K (clr ops b)) (hrel:Rel N E st0 φ0 a w0) (c:∀st φ f w',K st->Rel N E st φ f w'->Ext w0 φ0 w' φ->Q .normal f w'):wpOpsIn Fence.wide 0 P ops Q (List.range' 0 ops.size) a w0:=by
 rw[ApX]at hB;obtain⟨O,q,r⟩:=Er ops.toList 0 st0 [] [] h;have g:=MP hB.1;obtain⟨d,s⟩:=H9 (T:=T) (O:=O) (st0:=st0) ops.toList 0 sM (Ap3 _) r;have k:∀(j:Nat) o,ops[j]?=some o->HL false T O ops st0 j o:=λj o=>d j o (Ap3 _)
 refine Us (ro:=none) (UR hB.2) p _ _ _ (QE m q g k (λD φ a w t l=>c _ φ a w s (l.finish g k t) l.ext) ops.size 0 φ0 a w0 oM ?_);have e:(λi=>decide (i<0))=λ_=>false:=by funext i;simp
 rw[e];exact RI.start hrel
def TB {P:Program}{T:TypeId->TE}{Sh:Shs}{N:Nat}(U:TOk P T){id k tf d:Nat}{ops:Array Oper}{oc:Oper}{V x2:Operand}{tys:Array TypeId}{Q:Exit->Act->World->Prop}(W:¬LetsOut Q)
  (c:(MQ (Db ops k) N&&Ku (Db ops k))=true) (v:Ps (Db ops k)=true) (g:(MQ (CS ops (k+1)) N&&Ku (CS ops (k+1)))=true) (p:∀(i:Nat) o d,ops[i]?=some o->o.dst=some d->d<N)
  (q:ops[k]?=some oc) (x:oc.op=.call {callee:=.value (.tmp tf),args:=#[V,x2],argTypes:=tys}) (y:oc.guard=none) (hd:oc.dst=some d) {st:St} {E:AP} {φ:Phi} {a:Act} {w:World} {Y:St->Prop}
  (hx:Jl P T Sh false (Db ops k) 0 (Db ops k).toList st [] [] λst1=>Y (clr (Db ops k) st1)) (hr:Rel N E st φ a w)
  (hY:∀st1 φ1 f r,Y st1->Rel N E st1 φ1 f r->Ext w φ r φ1->∃l R,f.tmps.getD tf undef=.func (.yield l) #[] #[]/\YieldAt Fence.wide 0 P l #[f.eval V,f.eval x2] r R/\∀e t,R e t->∃b E2 st2 φ2,∃K3:St->Prop,e=.returned b/\Rel N E2 st2 φ2 (f.put (some d) b) t /\
   (Jl P T Sh false (CS ops (k+1)) 0 (CS ops (k+1)).toList st2 [] [] λst3=>K3 (clr (CS ops (k+1)) st3))/\∀st3 φ3 X z,K3 st3->Rel N E2 st3 φ3 X z->Ext t φ2 z φ3->Q .normal X z) :
  (Code.region id ops false).wpIn Fence.wide 0 P Q a w:=by
 have A:k<ops.size:=(Ap6.1 q).1;have B:(Db ops k).size=k:=by simp[Db];omega
 have C:(CS ops (k+1)).size=ops.size:=by simp[CS];omega
 refine wpIn_region ?_;have e1:List.range ops.size=List.range' 0 k++(k::List.range' (k+1) (ops.size-(k+1))):=by
  rw[<- List.range'_succ,List.range_eq_range',show ops.size-(k+1)+1=ops.size-k by omega];have:=List.range'_append_1 (s:=0) (m:=k) (n:=ops.size-k);rw[AqC]at this;rw[this]
  congr 1
  omega
 rw[e1];refine Abi _ _ _ _ (Abh v _ (λi hi=>?_) _ _ ?_)
 .have G:i<k:=by simpa using hi
  refine⟨oM,?_⟩;unfold Db;simp[G]
 have h1:wpOpsIn Fence.wide 0 P (Db ops k) (Exit.then (wpOpsIn Fence.wide 0 P ops Q (k::List.range' (k+1) (ops.size-(k+1)))) Q) (List.range' 0 (Db ops k).size) a w:=by
  obtain⟨O,hO,H⟩:=Er (Db ops k).toList 0 st [] [] hx;rw[ApX]at c;have Z:=MP c.1;obtain⟨I,hK⟩:=H9 (T:=T) (O:=O) (st0:=st) (Db ops k).toList 0 sM (Ap3 _) H;have hG:∀(j:Nat) o,(Db ops k)[j]?=some o->HL false T O (Db ops k) st j o:=λj o=>I j o (Ap3 _)
  have J:¬LetsOut (Exit.then (wpOpsIn Fence.wide 0 P ops Q (k::List.range' (k+1) (ops.size-(k+1)))) Q):=λh=>W h
  refine Us (ro:=none) (UR c.2) J _ _ _ (QE (E:=E) (w0:=w) (φ0:=φ) U hO Z hG (λD φ1 f r hD hI=>?_) (Db ops k).size 0 φ a w oM ?_)
  .show wpOpsIn Fence.wide 0 P ops Q (k::List.range' (k+1) (ops.size-(k+1))) f r;have hrel:=hI.finish Z hG hD;obtain⟨l,R,hf,K,L⟩:=hY _ _ _ _ hK hrel hI.ext;rw[wpOpsIn_cons];unfold wpOpIn;rw[q];have hw:Region.wanted oc (yielded ops f.tmps)=true:=by unfold Region.wanted;rw[y]
   simp only[hw,if_true];refine Afo x hd hf K λe t he=>?_
   obtain⟨b,E2,st2,φ2,K3,rfl,u,M,S⟩:=L e t he;refine⟨b,rfl,Abg (k:=k+1) _ (λj hj=>by simp at hj;omega) _ _ ?_⟩;refine V6 (k:=k+1) (N:=N) p A (k+1) 0 _ _ u.sz oM ?_;have:=AhR U g W M u S;rw[C]at this;have e2:List.range' 0 ops.size=List.range' 0 (k+1)++List.range' (k+1) (ops.size-(k+1)):=by
    have:=List.range'_append_1 (s:=0) (m:=k+1) (n:=ops.size-(k+1));rw[AqC]at this;rw[this]
    congr 1
    omega
   rw[<- e2];exact this
  .have e:(λi=>decide (i<0))=λ_=>false:=by funext i;simp
   rw[e];exact RI.start hr
 rw[B]at h1;exact h1
def VV.memA:VV->Bool
 | .agg cs=>cs.all VV.mem
 | x=>x.mem
abbrev JT:=Option Nat->(Nat->Prop)->(Nat->Prop)->World->Prop
structure Lr (N:Nat) (E:AP) (J:JT) (k:Option Nat) (S:Nat->Prop) (st:St) (φ:Phi) (a:Act) (w:World):Prop where
 rel:Rel N (E.add S) st φ a w
 j:J k S (Own φ) w
 ls:∀b,b∈Ez->¬S b
 sub:∀b,E.br b->E.fz b
def AbS (N:Nat)(E:AP)(J:JT)(K:Exit->Option Nat->St->Prop):Exit->Act->World->Prop:=λe a w=>∃k st S φ,K e k st/\Lr N E J k S st φ a w
structure D4 (P:Program) (N:Nat) (E:AP) (J:JT) (c:Code) (K:Exit->Option Nat->St->Prop) (k:Option Nat) (st:St):Prop where
 h:∀S φ a w,Lr N E J k S st φ a w->c.wpIn Fence.wide 0 P (AbS N E J K) a w
def HO (J:JT):Prop:=∀k S T T' c d,J k S T c->(∀b,S b->¬T b)->Chg c T d T'->J k S T' d
def Adj (K:Exit->Option Nat->St->Prop)(next:Option Nat->St->Prop):Exit->Option Nat->St->Prop
 | .normal,k,st=>next k st
 | e,k,st=>K e k st
def Aje (id:Nat)(K:Exit->Option Nat->St->Prop):Exit->Option Nat->St->Prop
 | .exit j,k,st=>if j=id then K .normal k st else K (.exit j) k st
 | e,k,st=>K e k st
section
variable {P : Program} {T:TypeId->TE} {Sh:Shs} {N:Nat} {L:Ann} {E:AP} {J:JT} {K:Exit->Option Nat->St->Prop} {k:Option Nat} {st:St} {S:Nat->Prop} {φ:Phi} {a:Act} {w:World}
def V.memA {E':AP}{m m':Option Phi}{x:VV}{v:Value}(h:V w E m x v)(c:x.memA=true)(e:∀b,E'.fz b->E.fz b):V w E' m' x v:=by
 have key:∀{x:VV}{v:Value},V w E m x v->x.mem=true->V w E' m' x v:=λh c=>(V.mem (E':={E with br:=E'.br}) (m':=m') h c rfl).less e λ_ h=>h
 cases x with
 | agg cs =>
  obtain⟨vs,rfl,h1,h2⟩:=h.agg_inv;refine .agg h1 λj y d=>key (h2 j y d) ?_
  exact Aqx.1 c y (AqE d)
 | _=>exact key h c
def Lr.apart (h:Lr N E J k S st φ a w):∀b,S b->¬Own φ b:=λb hs c=>h.rel.hp.free b c (.inr hs)
def AlJ {w':World}{φ':Phi}(e:Ext w φ w' φ')(c:∀b,Own φ' b->b<w'.heap.size):Chg w (Own φ) w' (Own φ'):=⟨e.os,e.tape,e.output,e.size,e.block,e.new,c⟩
def An9 {φ':Phi}(e:Fr 0 w φ w φ')(c:∀b,Own φ' b->b<w.heap.size):Chg w (Own φ) w (Own φ'):=⟨rfl,rfl,rfl,Ap1 _,λ_ _ _=>rfl,e.new,c⟩
def Lr.ext (d:HO J)(h:Lr N E J k S st φ a w){b:St}{φ':Phi}{c:Act}{w':World}(r:Rel N (E.add S) b φ' c w')(e:Ext w φ w' φ'):Lr N E J k S b φ' c w' :=
 ⟨r,d _ _ _ _ _ _ h.j h.apart (AlJ e λ_ f=>r.hp.lt f),h.ls,h.sub⟩
def Lr.forget (b:HO J)(h:Lr N E J k S st φ a w){keep:List Nat}(c:okF 0 keep st=true):∃φ',Lr N E J k S (forget 0 keep st) φ' a w :=
 let ⟨φ',r,f⟩:=h.rel.forget c
 ⟨φ',r,b _ _ _ _ _ _ h.j h.apart (An9 f λ_ d=>r.hp.lt d),h.ls,h.sub⟩
def Lr.cv (c:HO J)(h:Lr N E J k S st φ a w){b:St}(d:Cv st b):∃φ',Lr N E J k S b φ' a w :=
 let ⟨φ',r,e⟩:=d _ _ _ _ _ h.rel
 ⟨φ',h.ext c r e⟩
def Aa0 (g:HO J)(i:TOk P T)(d:P.follows .mixedOrders=true){c:Code}(hB:J0 N c=true)(keep:List Nat){p:List Nat}(h:xc P T Sh N (rgL 0) p c (λe b=>bif okF 0 keep b then K e k (Go.Proofs.YtedfjceonnoifaaGreatDoor.forget 0 keep b)else False) st):D4 P N E J c K k st :=
 ⟨λS φ a w hi=>by
  refine wpIn_mono (Ol (ro:=none) (L:=rgL 0) i d (λ_=>rfl) c hB _ _ _ h _ _ _ _ hi.rel) ?_;rintro e j w' ⟨b,φ',h1,h2,h3⟩;have h4:=hi.ext g h2 h3;cases f:okF 0 keep b with
  | false=>rw[f]at h1;exact h1.elim
  | true =>
   rw[f]at h1;obtain⟨φ'',h5⟩:=h4.forget g f;exact⟨k,_,S,φ'',h1,h5⟩⟩
def MM {x y:Code}(h:D4 P N E J x (Adj K λk st=>D4 P N E J y K k st) k st):D4 P N E J (.seq x y) K k st :=
 ⟨λS φ a w hi=>by
  refine wpIn_seq (wpIn_mono (h.h S φ a w hi) ?_);rintro e c w' ⟨k',b,S',φ',h1,h2⟩;cases e with
  | normal=>exact h1.h _ _ _ _ h2
  | _=>exact⟨k',b,S',φ',h1,h2⟩⟩
def IZ {id:Nat}{c:Code}(h:D4 P N E J c (Aje id K) k st):D4 P N E J (.block id c) K k st :=
 ⟨λS φ a w hi=>by
  refine wpIn_block (wpIn_mono (h.h S φ a w hi) ?_);rintro e f w' ⟨k',b,S',φ',h1,h2⟩;cases e with
  | exit j =>
   simp only[Exit.inBlock];simp only[Aje]at h1
   by_cases d:j=id
   .rw[AqH d]at h1 |-;exact⟨k',b,S',φ',h1,h2⟩
   .rw[Aqs d]at h1 |-;exact⟨k',b,S',φ',h1,h2⟩
  | _=>exact⟨k',b,S',φ',h1,h2⟩⟩
def Adm {t:Nat}{x y:Code}{b:Bool}(c:st.t t=.sc (.bool b))(h1:b=true->D4 P N E J x K k st)(h2:b=false->D4 P N E J y K k st):D4 P N E J (.cond (.tmp t) x y) K k st :=
 ⟨λS φ a w hi=>by
  have hv:=hi.rel.tm t;rw[c]at hv;refine wpIn_cond (t:=b) hv.sc_inv ?_;cases b with
  | true=>exact(h1 rfl).h _ _ _ _ hi
  | false=>exact(h2 rfl).h _ _ _ _ hi⟩
def Adl (h:K .normal k st):D4 P N E J .skip K k st:=⟨λS φ _ _ hi=>wpIn_skip ⟨k,st,S,φ,h,hi⟩⟩
def Agt (h:K .ret k st):D4 P N E J .ret K k st:=⟨λS φ _ _ hi=>wpIn_ret ⟨k,st,S,φ,h,hi⟩⟩
def D4.cv (e:HO J){c:Code}{b:St}(f:Cv st b)(h:D4 P N E J c K k b):D4 P N E J c K k st :=
 ⟨λS _ a w hi=>let ⟨φ',d⟩:=hi.cv e f;h.h S φ' a w d⟩
def Ve {c:Code}{Q:Exit->Act->World->Prop}(I:Nat->Act->World->Prop)(h0:∃g,I g a w)
  (round:∀g a w,I g a w->c.wpIn Fence.wide 0 P (Exit.then (λd w'=>∃b,b<g/\I b d w') Q) a w):(Code.loop c).wpIn Fence.wide 0 P Q a w :=
 wpIn_wide.2 (HQ I h0 λg a w h=>wpIn_wide.1 (round g a w h))
def Sx (m:HO J){c:Code}(I:Nat->Option Nat->St->Prop)(h0:∃g,Up (I g k) st)
  (round:∀g k st,I g k st->D4 P N E J c (Adj K λk' b=>∃d,d<g/\Up (I d k') b) k st):D4 P N E J (.loop c) K k st :=
 ⟨λS φ a w hi=>by
  obtain⟨n,st0,f,i⟩:=h0;obtain⟨φ0,j⟩:=hi.cv m f;refine Ve (λg a w=>∃k st S φ,I g k st/\Lr N E J k S st φ a w) ⟨n,k,st0,S,φ0,i,j⟩ ?_;rintro g a w ⟨k,st,S,φ,h1,h2⟩;refine wpIn_mono ((round g k st h1).h S φ a w h2) ?_;rintro e p w' ⟨k',b,S',φ',h3,h4⟩;cases e with
  | normal =>
   obtain⟨d,l,st1,o,h5⟩:=h3;obtain⟨φ1,h6⟩:=h4.cv m o;exact⟨d,l,k',st1,S',φ1,h5,h6⟩
  | _=>exact⟨k',b,S',φ',h3,h4⟩⟩
def Apf (K:Act->World->Prop):Exit->Act->World->Prop:=λe a w=>e=.normal/\K a w
def AhV {K:Act->World->Prop}:¬LetsOut (Apf K):=λ⟨_,_,h,_⟩=>by cases h
def Aee {t d:Nat}{x:VV}{l:List (Nat×VV)}:Bo t ((d,x)::l)=bif Nat.beq t d then x else Bo t l:=rfl
def Y0 (hJ:HO J)(hT:TOk P T){id kk tf d i n:Nat}{ops:Array Oper}{oc:Oper}{M x2:Operand}{tys:Array TypeId}{l:Nat}{xs:Nat->List VV}
  (hY:∀k S T B vs,k<n->J (some k) S T B->(∀b,S b->¬T b)->Gd E (U S T) B->Dj B (E.add (U S T)) none (xs k) vs->YieldAt Fence.wide 0 P l vs B λe z =>
   (e=.returned (.bool true)/\∃S',J (some (k+1)) S' T z/\Chg B S z S')\/(e=.returned (.bool false)/\∃S',J none S' T z/\Chg B S z S'))
  (R:(MQ (Db ops kk) N&&Ku (Db ops kk))=true) (hng:Ps (Db ops kk)=true) (W:(MQ (CS ops (kk+1)) N&&Ku (CS ops (kk+1)))=true) (I:∀(i:Nat) o d,ops[i]?=some o->o.dst=some d->d<N)
  (X:ops[kk]?=some oc) (hop:oc.op=.call {callee:=.value (.tmp tf),args:=#[M,x2],argTypes:=tys}) (hgd:oc.guard=none) (hd:oc.dst=some d) (hi:i<n) (keep keep2:List Nat)
  (h:xc P T Sh N (rgL 0) [] (.region id (Db ops kk) false) (λ_ st1=>bif okF 0 keep st1 then(∃l1 m,Go.Proofs.YtedfjceonnoifaaGreatDoor.forget 0 keep st1=An l1 m/\Bo tf l1=.fn (.yield l) []/\xs i=[(An l1 m).val M,(An l1 m).val x2]/\(xs i).all VV.memA=true /\
   ∀b,xc P T Sh N (rgL 0) [] (.region id (CS ops (kk+1)) false) (λ_ st3=>bif okF 0 keep2 st3 then K .normal (bif b then some (i+1)else none) (Go.Proofs.YtedfjceonnoifaaGreatDoor.forget 0 keep2 st3)else False) (An ((d,.sc (.bool b))::l1) m))else False) st) :
  D4 P N E J (.region id ops false) K (some i) st :=
 ⟨λS φ a w s=>by
  have Z:∀{st3:St}{S':Nat->Prop} {φ2 φ3:Phi} {a2 a3:Act} {z w3:World} {st2:St} {k':Option Nat},Lr N E J k' S' st2 φ2 a2 z->(bif okF 0 keep2 st3 then K .normal k' (Go.Proofs.YtedfjceonnoifaaGreatDoor.forget 0 keep2 st3)else False)->Rel N (E.add S') st3 φ3 a3 w3->Ext z φ2 w3 φ3->AbS N E J K .normal a3 w3:=by
   intro st3 S' φ2 φ3 a2 a3 z w3 st2 k' h0 h1 r e;have h2:=h0.ext hJ r e;cases O:okF 0 keep2 st3 with
   | false=>rw[O]at h1;exact h1.elim
   | true =>
    rw[O]at h1;obtain⟨φ',h5⟩:=h2.forget hJ O;exact⟨k',_,S',φ',h1,h5⟩
  refine wpIn_mono (TB (Q:=Apf (AbS N E J K .normal)) (Y:=λst1=>bif okF 0 keep st1 then(∃l1 m,Go.Proofs.YtedfjceonnoifaaGreatDoor.forget 0 keep st1=An l1 m/\Bo tf l1=.fn (.yield l) []/\xs i=[(An l1 m).val M,(An l1 m).val x2]/\(xs i).all VV.memA=true /\
   ∀b,xc P T Sh N (rgL 0) [] (.region id (CS ops (kk+1)) false) (λ_ st3=>bif okF 0 keep2 st3 then K .normal (bif b then some (i+1)else none) (Go.Proofs.YtedfjceonnoifaaGreatDoor.forget 0 keep2 st3)else False) (An ((d,.sc (.bool b))::l1) m))else False) hT AhV R hng W I X hop hgd hd h s.rel ?_) ?_
  .intro st1 φ1 F B hy1 hr1 he1;have h1:=s.ext hJ hr1 he1;cases O:okF 0 keep st1 with
   | false=>grind
   | true =>
    rw[O,ApY]at hy1;obtain⟨l1,m,e1,e2,e3,e4,hx2⟩:=hy1;obtain⟨φf,G⟩:=h1.forget hJ O;rw[e1]at G;have p:=G.rel;have hop':∀x:Operand,V B ((E.add S).up φf) (some φf) ((An l1 m).val x) (F.eval x):=λx=>by
     cases x with
     | tmp t=>exact p.tm t
     | const v=>exact V.litC v
     | global g=>exact .dead
     | func f=>exact .fn rfl λj x hx=>by simp at hx
    have hm:∀x:Operand,((An l1 m).val x).memA=true->V B (E.add (U S (Own φf))) none ((An l1 m).val x) (F.eval x):=λx hx=>V.memA (hop' x) hx λb q=>by
     rcases q with q|q|q
     .exact .inl (.inl q)
     .exact .inl (.inr q)
     .exact .inr q
    rw[e3]at e4;simp only[Aru,List.all_nil,Bool.and_true,ApX]at e4;have hfy:F.tmps.getD tf undef=.func (.yield l) #[] #[]:=by
     have hv:=p.tm tf;rw[show(An l1 m).t tf=.fn (.yield l) []from e2]at hv;generalize F.tmps.getD tf undef=v at hv |-;cases hv with
     | fn q1 q2 =>
      grind
    have hgd1:Gd E (U S (Own φf)) B:=⟨s.sub,λb q=>p.old.lt b (.inl q),λb q=>q.elim (λh=>p.old.lt b (.inr h)) λh=>p.hp.lt h,p.old.lib.at',p.old.lib.lt,λb q h=>h.elim (s.ls b q) (p.old.lib.out b q)⟩;have hsay:Dj B (E.add (U S (Own φf))) none (xs i) #[F.eval M,F.eval x2]:=by
     rw[e3];refine⟨rfl,λj y H=>?_⟩
     match j,H with
     | 0,H=>simp only[Aqj,ApZ]at H;subst H;exact hm M e4.1
     | 1,H=>simp only[AqQ,Aqj,ApZ]at H;subst H;exact hm x2 e4.2
     | j+2,H=>simp at H
    refine⟨l,_,hfy,hY i S (Own φf) B #[F.eval M,F.eval x2] hi G.j G.apart hgd1 hsay,λe z he=>?_⟩
    .obtain⟨b,S',rfl,hj2,u⟩:∃b S',e=.returned (.bool b)/\J (bif b then some (i+1)else none) S' (Own φf) z/\Chg B S z S':=gD
     have key:∀(A:Nat->Prop) b,b<B.heap.size->¬(A b\/S b)->z.heap[b]?=B.heap[b]?/\¬(A b\/S' b):=λA b q hn=>⟨u.block b q λh=>hn (.inr h),λh=>by
      rcases h with h|h
      .exact hn (.inl h)
      .rcases u.new b h with h|h
       .exact hn (.inr h)
       .omega⟩
     have C:=p.over (E:=E.add S') (w':=z) (λb q=>q.imp (s.sub b) λh=>h) u.size (key _) (key _) (λb q=>q.elim (λh=>Aqw (p.old.lt b (.inl h)) u.size) λh=>u.lt b h) (.nil (Aqt p.df.2.1 u.size)) λb q=>u.block b (p.old.lib.lt b q) (s.ls b q)
     have hdl:d<F.tmps.size:=by rw[p.sz];exact I kk oc d X hd
     have hr3:Rel N (E.add S') (An ((d,.sc (.bool b))::l1) m) φf (F.put (some d) (.bool b)) z:=by
      refine⟨by simpa[Act.put]using p.sz,⟨p.df.1,C.df.2⟩,C.old,λt=>?_,C.hp,C.fr,C.lv⟩;show V z _ _ (Bo t ((d,.sc (.bool b))::l1)) _;rw[MR F _ _ t gD,Aee]
      by_cases ht:t=d
      .subst ht;rw[AqM,ApY,AqH rfl];exact .sc
      .have q:Nat.beq t d=false:=by grind[Ap0]
       rw[q,ApW,Aqs λh=>ht (Aqi h).symm];exact C.tm t
     have h3:Lr N E J (bif b then some (i+1)else none) S' (An ((d,.sc (.bool b))::l1) m) φf (F.put (some d) (.bool b)) z:=⟨hr3,hj2,λc hc h=>(u.new c h).elim (s.ls c hc) λh=>by have:=p.old.lib.lt c hc;omega,s.sub⟩;exact⟨.bool b,E.add S',_,φf,λst3=>bif okF 0 keep2 st3 then K .normal (bif b then some (i+1)else none) (Go.Proofs.YtedfjceonnoifaaGreatDoor.forget 0 keep2 st3)else False,rfl,hr3,hx2 b,λst3 φ3 a3 w3 hst3 r e=>⟨rfl,Z h3 hst3 r e⟩⟩
  .rintro e a' w' ⟨rfl,h⟩;exact h⟩
def Ald {gf:FuncId}{fn:Func}{c:Code}(H:P.funcs[gf]?=some fn)(g:fn.body=some c)(r:fn.results=#[]){hi:List Ob}{caps:List VV}{n:Nat}{xs:Nat->List VV}(Z:caps.length+1<=fn.ntmps)
  (h:∀(l:Nat)(E:AP)(J:JT),HO J->(∀k S T i vs,k<n->J (some k) S T i->(∀b,S b->¬T b)->Gd E (U S T) i->Dj i (E.add (U S T)) none (xs k) vs->YieldAt Fence.wide 0 P l vs i λe p =>
    (e=.returned (.bool true)/\∃S',J (some (k+1)) S' T p/\Chg i S p S')\/(e=.returned (.bool false)/\∃S',J none S' T p/\Chg i S p S')) ->
   D4 P fn.ntmps E J c (λe k _=>(e=.normal\/e=.ret)/\(k=some n\/k=none)) (some 0) (St.init hi (.fn (.yield l) []::caps))):Od P gf hi caps n xs:=by
 intro E S φ w lb l gd B I hφ f J R h0 z s M;obtain⟨JJ,m⟩:∃JJ:JT,JJ=λk=>match k with
  | some k=>J k
  | none=>R:=⟨_,rfl⟩
 have hs:HO JJ:=by
  subst m;intro k S T T' i p;cases k with
  | none=>exact s S T T' i p
  | some k=>exact z k S T T' i p
 refine callsIn_of_wp H g trivial (wpIn_mono ((h l E JJ hs (by subst m;exact M)).h S φ _ w ⟨?_,by subst m;exact h0,λb g O=>gd.out b g (.inl O),gd.sub⟩) ?_) rfl
 .have Q:(#[Value.func (Fn.yield l) #[] #[]]++lb).size=(VV.fn (.yield l) []::caps).length:=by simp[f.1];omega
  refine⟨?_,⟨rfl,.nil (Ap3 _)⟩,⟨λk u=>u.elim (gd.ez k) λh=>gd.sz k (.inl h),gd.lib,gd.lt,λk u h=>gd.out k u (.inr h)⟩,λt=>?_,I,λid q=>?_,λid q=>(hφ id).2 q⟩
  .grind
  .show V w _ _ ((VV.fn (.yield l) []::caps).getD t .dead) _;cases t with
   | zero =>
    have e:(#[Value.func (Fn.yield l) #[] #[]]++lb++Array.replicate (fn.ntmps-(#[Value.func (Fn.yield l) #[] #[]]++lb).size) undef).getD 0 undef=.func (.yield l) #[] #[]:=by simp[Array.getElem?_append]
    rw[e];exact .fn rfl λj x W=>by simp at W
   | succ t =>
    rw[List.getD_cons_succ];cases A:caps[t]? with
    | none=>rw[Aqd,A];exact .dead
    | some x =>
     have ht:t<lb.size:=gD
     rw[Aqd,A];have:=f.2 t x A;simp_all[Array.getElem?_append]
  .have C:hi.length<=id:=q;grind
 .rintro e X w' ⟨k,st,S',φ',⟨Y,u⟩,d⟩;have y:Gd E (U S' (Own φ')) w':=⟨d.sub,λb g=>d.rel.old.lt b (.inl g),λb g=>g.elim (λh=>d.rel.old.lt b (.inr h)) λh=>d.rel.hp.lt h,d.rel.old.lib.at',d.rel.old.lib.lt,λb g h=>h.elim (d.ls b g) (d.rel.old.lib.out b g)⟩;have o:(∃v:Value,Ending.returned (.tuple #[])=.returned v)/\((∃S' T',J n S' T' w'/\(∀b,S' b->¬T' b)/\Gd E (U S' T') w')\/∃S' T',R S' T' w'):=by
   refine⟨⟨_,rfl⟩,?_⟩;have F:=d.j;subst m;rcases u with rfl|rfl
   .exact .inl ⟨S',_,F,d.apart,y⟩
   .exact .inr ⟨S',_,F⟩
  have G:(results fn X.tmps).run P w'=.ok (.tuple #[]) w':=by
   simp[results,r]
  rcases Y with rfl|rfl
  .exact⟨d.rel.df.1,_,G,o⟩
  .exact⟨d.rel.df.1,_,G,o⟩
end
def hdC:Nat->Code->Code
 | 0,.seq x _=>x
 | n+1,.seq x y=>.seq x (hdC n y)
 | _,c=>c
def tlC:Nat->Code->Code
 | 0,.seq _ y=>y
 | n+1,.seq _ y=>tlC n y
 | _,_=>.skip
def AnU:Nat->Code->Bool
 | 0,.seq _ _=>true
 | n+1,.seq _ y=>AnU n y
 | _,_=>false
def Apc (k:Nat):Code->Code
 | .region id ops _=>.region id (Db ops k) false
 | _=>.skip
def Aov (k:Nat):Code->Code
 | .region id ops _=>.region id (CS ops (k+1)) false
 | _=>.skip
def kfI (keep:List Nat)(K:Exit->St->Prop):Exit->St->Prop:=λe st=>bif okF 0 keep st then K e (forget 0 keep st)else False
def Ctx.piece (c:Ctx)(code:Code)(keep:List Nat)(K:Exit->St->Prop):Ctx:={c with L:=rgL 0,code:=code,p0:=[],K0:=kfI keep K}
section
variable {c : Ctx} {E:AP} {J:JT} {K:Exit->Option Nat->St->Prop} {k:Option Nat} {st:St}
def Qn {P:Program}{T:TypeId->TE}{Sh:Shs}{N:Nat}(f:HO J)(g:TOk P T)(d:P.follows .mixedOrders=true)(keep:List Nat):∀(n:Nat){code:Code}{p:List Nat}{st:St},AnU n code=true->J0 N (hdC n code)=true->xc P T Sh N (rgL 0) p (hdC n code) (kfI keep λe b=>Adj K (λk st=>D4 P N E J (tlC n code) K k st) e k b) st->D4 P N E J code K k st
 | 0,.seq x y,p,st,_,hB,h=>MM (Aa0 (p:=p) f g d hB keep h)
 | n+1,.seq x y,p,st,hl,hB,h=>by
  simp only[hdC,J0,ApX]at hB;simp only[hdC,xc]at h;refine⟨λS φ a w hi=>wpIn_seq (wpIn_mono (Ol (ro:=none) (L:=rgL 0) g d (λ_=>rfl) x hB.1 _ _ _ h _ _ _ _ hi.rel) ?_)⟩;rintro e l w' ⟨b,φ',h1,h2,h3⟩;have h4:=hi.ext f h2 h3;have m:∀e,e≠.normal->kfI keep (λe b=>Adj K (λk st=>D4 P N E J (tlC n y) K k st) e k b) e b->AbS N E J K e l w':=by
   intro e o h5;unfold kfI at h5;cases i:okF 0 keep b with
   | false=>rw[i]at h5;exact h5.elim
   | true =>
    rw[i]at h5;obtain⟨φ'',h6⟩:=h4.forget f i;refine⟨k,_,S,φ'',?_,h6⟩;cases e with
    | normal=>exact(o rfl).elim
    | _=>exact h5
  cases e with
  | normal =>
   have j:xc P T Sh N (rgL 0) (1::p) (hdC n y) (kfI keep λe b=>Adj K (λk st=>D4 P N E J (tlC n y) K k st) e k b) b:=h1;exact(Qn f g d keep n hl hB.2 j).h S φ' l w' h4
  | _=>exact m _ sM h1
def Ii (d:HO J)(f:TOk c.P c.T)(a:c.P.follows .mixedOrders=true)(keep:List Nat)(n:Nat){code:Code}(g:AnU n code=true)(hB:J0 c.N (hdC n code)=true)(h:(c.piece (hdC n code) keep λe b=>Adj K (λk st=>D4 c.P c.N E J (tlC n code) K k st) e k b).goal st):D4 c.P c.N E J code K k st :=
 Qn d f a keep n g hB h
def Qm (d:HO J)(f:TOk c.P c.T)(a:c.P.follows .mixedOrders=true){code:Code}(hB:J0 c.N code=true)(keep:List Nat)(h:(c.piece code keep λe b=>K e k b).goal st):D4 c.P c.N E J code K k st:=Aa0 d f a hB keep h
end
def AoR:Shp:={α:=D.Loc×Bool,enc:=λy=>([],.tup [.agg (AT y.1),Ac y.2])}
def AoO:Shp:={α:=Nx,enc:=λy=>([],.agg (Bf y))}
def AmX:Shp:={α:=List Nx×Int,enc:=λy=>([],.tup [Az true y.1,Aa y.2])}
def Am5:Shp:={α:=List Gn,enc:=λy=>([],BT true y)}
def AoP:Shp:={α:=Mv,enc:=λy=>([],.agg (Bz y))}
def AoH:Shp:={α:=Wc,enc:=λy=>([],.agg (Du y))}
def AmS:Shp:={α:=List Wc,enc:=λy=>([],Cx true y)}
def AoK:Shp:={α:=D.State×Int,enc:=λy=>([],.tup [.agg (Ag y.1),Aa y.2])}
def AoV:Shp:={α:=D.Model×D.State,enc:=λy=>([.box (Ae y.1),.box (Ag y.2)],.fn (.func 102) [.bp 0 0,.bp 1 0])}
def BR (f:FuncId):Shp :=
 bif Nat.beq f 73 then AoR else bif Nat.beq f 72 then AoV else  bif Nat.beq f 123||Nat.beq f 122 then Al8 else bif Nat.beq f 105 then AoO else bif Nat.beq f 121||Nat.beq f 104 then Am5 else bif Nat.beq f 74||Nat.beq f 50 then AmX else bif Nat.beq f 75 then AoP else bif Nat.beq f 106 then AoH else bif Nat.beq f 76 then AmS else bif Nat.beq f 77 then Al5 else bif Nat.beq f 9 then AoK else   Ac8 f
def Gk:Ann:={keep:=fun
  | [0,1,0,1,1,1]=>[1,2,4,18,19,20]
  | [0,1,0,1,1,1,1]=>[1,2,4,33,34,35]
  | [0,1,1,0,0,1,1,0,0,1,0,1,1,1,1]=>[1,2,4,7,8,33,34,35,41,42]
  | _=>[]}
def Nm:Ann:={keep:=fun
  | [0,1,1,1]=>[2,3,4,6,9,10]
  | [0,1,0,1,1,1,1,1,1,0,0,0,0,1,1,1]=>[2,3,4,6,9,10,13,16,52,53,54]
  | _=>[]}
def KE:Ann:={keep:=fun
  | [0,1,0,1,1,1,1,1,1]=>[2,4,5,6,7,60,61,62]
  | _=>[]}
def Rw:Ann:={keep:=fun
  | [0,1,0,1,1]=>[1,3,11,12]
  | _=>[]}
def KG:Ann:={keep:=fun
  | [0,1,0,1,1,1]=>[1,3,4,12,13,14]
  | [0,1,0,1,1,1,1,1]=>[1,4,7,39,40,41]
  | _=>[]}
def IF:Ann:={keep:=fun
  | [0,1,0,1,1,1,1,1,1]=>[7,8,9,10,38,39,40]
  | [0,1,0,1,1,1,1,1,1,1]=>[8,9,58,59,60]
  | _=>[]}
def E5:Ann:={keep:=fun
  | [0,1,0,1,1,1,1,1]=>[2,3,6,8,37,38,39]
  | [0,1,1,1,1,0,0,1,1,0,0,1,0,1,1,1,1,1]=>[2,3,6,8,9,37,38,39,58,59,60]
  | _=>[]}
def yV (l:Nat):VV:=.fn (.yield l) []
def Qe (l:Nat)(L:List Gn)(i:Int):St:=An [(0,yV l),(30,BT true L),(31,Aa L.length),(32,Aa i)] []
def VM (l:Nat)(L:List Gn)(i:Int)(g:Gn)(j:Int):St:=An [(0,yV l),(30,BT true L),(31,Aa L.length),(32,Aa i),(8,.bp 0 0),(37,Bm true g.2),(38,Aa g.2.length),(39,Aa j)] [.box (E4 g)]
def AoA (l:Nat)(L:List Gn)(i:Int)(g:Gn)(j:Int)(w:Wy):St:=An [(0,yV l),(30,BT true L),(31,Aa L.length),(32,Aa i),(8,.bp 0 0),(37,Bm true g.2),(38,Aa g.2.length),(39,Aa j),(10,.bp 1 0)] [.box (E4 g),.box (A9 w)]
def lEy (l:Nat)(L:List Gn)(i:Int)(g:Gn)(j:Int)(w:Wy):List (Nat×VV):=[(0,yV l),(30,BT true L),(31,Aa L.length),(32,Aa i),(8,.bp 0 0),(37,Bm true g.2),(38,Aa g.2.length),(39,Aa j),(43,yV l),(45,.agg (Ai g.1)),(46,.agg (A9 w))]
def OO:Ob:=.box [.nl,.nl,.nl,Aa 0,Aa 0,Aa 0]
def Ajc (g:List Int)(nc np:VV):Ob:=.box [Ad true g,nc,np,Aa 0,Aa (-1),Aa (-1)]
def AaW (m:D.Model)(l:List D.Chan)(k:Int):St:=An [(1,.bp 0 0),(2,.bp 1 0),(4,.bp 2 0),(18,Ad true m.Chans),(19,Aa m.Chans.length),(20,Aa k)] [.box (Ae m),OO,Ajc m.Init (.ow 3 0 l.length) .nl,.arr true 0 l.length 2 (DL l)]
def AaV (m:D.Model)(cs:List D.Chan)(ps:List D.Process)(k:Int):St:=An [(1,.bp 0 0),(2,.bp 1 0),(4,.bp 2 0),(33,AD true m.Procs),(34,Aa m.Procs.length),(35,Aa k)] [.box (Ae m),OO,Ajc m.Init (.ow 3 0 cs.length) (.ow 4 0 ps.length),.arr true 0 cs.length 2 (DL cs),.arr true 0 ps.length 4 (CU ps)]
def Sp (m:D.Model)(cs:List D.Chan)(ps:List D.Process)(k:Int)(p:D.Proc)(many j:Int):St:=An [(1,.bp 0 0),(2,.bp 1 0),(4,.bp 2 0),(7,Aa k),(8,.bp 5 0),(33,AD true m.Procs),(34,Aa m.Procs.length),(35,Aa k),(41,Aa many),(42,Aa j)] [.box (Ae m),OO,Ajc m.Init (.ow 3 0 cs.length) (.ow 4 0 ps.length),.arr true 0 cs.length 2 (DL cs),.arr true 0 ps.length 4 (CU ps),.box (A2 p)]
def AcQ (m:D.Model)(s:D.State)(pid:Int)(t:ByteArray)(n:Int):St:=An [(2,Aa pid),(3,.bp 0 0),(4,.bp 1 0),(6,.bp 2 0),(9,AN t),(10,Aa n)] [.box (Ae m),.box (Ag s),OO]
def AaR (m:D.Model)(s:D.State)(pid:Int)(t:ByteArray)(n:Int)(e:D.Env)(ws:List Wy)(i:Int):St:=An [(2,Aa pid),(3,.bp 0 0),(4,.bp 1 0),(6,.bp 2 0),(9,AN t),(10,Aa n),(13,.bp 3 0),(16,Ac false),(52,Bm true ws),(53,Aa ws.length),(54,Aa i)] [.box (Ae m),.box (Ag s),OO,.box (Ai e)]
def Apm (e:D.Env)(w:Wy):List VV:=[Aa e.Pid,Aa w.Esc,Aa w.Way,Aa w.With,Aa w.WithEsc,Aa w.WithWay,Aa (-1),.nl,.nl,.nl,Aa 0,Aa 0,Aa 0,Aa 0,AN ByteArray.empty]
def Apl:List VV:=[Aa 0,Aa 0,Aa 0,Aa 0,Aa 0,Aa 0,Aa 0,.nl,.nl,.nl,Aa 0,Aa 0,Aa 0,Aa 0,AN ByteArray.empty]
def Ny (e:D.Env)(w:Wy)(s:D.State)(t:ByteArray)(i:Int):St:=An [(2,.bp 0 0),(4,.bp 1 0),(5,.bp 2 0),(6,.bp 3 0),(7,AN t),(60,.ow 4 0 2),(61,Aa 2),(62,Aa i)] [.box (Ai e),.box Apl,.box (Apm e w),.box (Ag s),.arr true 0 2 1 (AO [e.Pid,w.With])]
def VN (e:D.Env)(l:List Gn)(i:Int):St:=An [(1,.bp 0 0),(3,.ow 1 0 l.length),(11,Aa e.S.Procs.length),(12,Aa i)] [.box (Ai e),.arr true 0 l.length 17 (I0 l)]
def AaU (e:D.Env)(L:List Gn)(most i:Int):St:=An [(1,.bp 0 0),(3,BT true L),(4,Aa most),(12,BT true L),(13,Aa L.length),(14,Aa i)] [.box (Ai e)]
def VL (e:D.Env)(L out:List Gn)(most i:Int):St:=An [(1,.bp 0 0),(4,Aa most),(7,.ow 1 0 out.length),(39,BT true L),(40,Aa L.length),(41,Aa i)] [.box (Ai e),.arr true 0 out.length 17 (I0 out)]
def AjW (e:D.Env)(out:List Wc)(some:Bool)(l:List D.Trans)(i:Int):St:=An [(7,.bp 0 0),(8,.ow 1 0 out.length),(9,Ac some),(10,Ao true l),(38,Ao true l),(39,Aa l.length),(40,Aa i)] [.box (Ai e),.arr true 0 out.length 2 (JZ out)]
def AjV (out:List Wc)(some:Bool)(l:List D.Trans)(i:Int):St:=An [(8,.ow 0 0 out.length),(9,Ac some),(58,Ao true l),(59,Aa l.length),(60,Aa i)] [.arr true 0 out.length 2 (JZ out)]
def AcS (m:D.Model)(s:D.State)(L:List Nx)(ws:List Wc)(out:List Nx)(c:Int):St:=An [(2,.bp 0 0),(3,.bp 1 0),(6,Az true L),(8,.ow 2 0 out.length),(37,Cx true ws),(38,Aa ws.length),(39,Aa c)] [.box (Ae m),.box (Ag s),.arr true 0 out.length 15 (Bc out)]
def Af2 (m:D.Model)(s:D.State)(L:List Nx)(ws:List Wc)(out:List Nx)(c k:Int):St:=An [(2,.bp 0 0),(3,.bp 1 0),(6,Az true L),(8,.ow 2 0 out.length),(9,Aa c),(37,Cx true ws),(38,Aa ws.length),(39,Aa c),(58,Az true L),(59,Aa L.length),(60,Aa k)] [.box (Ae m),.box (Ag s),.arr true 0 out.length 15 (Bc out)]
def HJ:Ann:={cut:=(λ| [1,0,1,1,1]=>true | _=>false),keep:=fun
  | [1,0,1,1,1]=>[7,18]
  | _=>[]}
def F5 (g:FuncId)(c:List VV):Nat->List VV
 | 0=>[.dead]
 | k+1=>[.fn (.func g) [.tp c,.tp (F5 g c k)]]
def laid (H:Nat->List VV):VV->VV
 | .bp id 0=>.tp (H id)
 | x=>x
section
variable {w : World} {E:AP} {φ:Phi} {hs:List Ob}
def ZG {c:List VV}{b:Nat}{vs:Array Value}{ty:TypeId}(a:w.heap[b]?=some (.cells vs ty (0,0)))(d:¬E.br b)(f:c.length<=vs.size)(h:∀j x,c[j]?=some x->V w E none x (vs.getD j undef)){m:Option Phi}:V w E m (.tp c) (.pointer (some ⟨b,0,none⟩)) :=
 .tp (λj=>vs.getD j undef) ((Ap6.1 a).1) d (λj x e=>by
  have:=(Ap4.1 e).1;rw[AqC];exact F2 a oM) h
def AB.lay {c:Ctx}{rel:List Nat}{l:List (Nat×VV)}{g:FuncId}{i j:Nat}{ci:List VV}(n:Nat)(K:c.L.base=0)(hi:hs[i]?=some (.box ci))(Q:ci.all VV.mem=true)(Y:hs[j]?=some (.box [.fn (.func g) [.bp i 0,.bp j 0]]))
  (hm:∀k o,hs[k]?=some o->k=j\/∃cs,o=.box cs/\cs.all VV.mem=true) (M:∀p∈l,p.2.mem=true\/∃k,p.2=.bp k 0/\k<hs.length)
  (h:AB c rel (An (l.map λp=>(p.1,laid (λk=>bif Nat.beq k j then F5 g ci n else match hs[k]? with
   | some (.box cs)=>cs
   | _=>[]) p.2)) [])):AB c rel (An l hs):=by
 refine⟨λE _ a w z=>?_⟩;rename_i φ;have R:∀k,Own φ k->¬E.br k:=λk d S=>z.hp.free k d (z.hp.sub k S)
 have u:∀k o,hs[k]?=some o->∃p,φ k=some p/\ObV w E φ o p:=λk o N=>by
  have d:k<hs.length:=(Ap4.1 N).1;obtain⟨p,hp⟩:=Arr.1 (z.lv k d);have:=z.hp.ob k p hp;have e:(An l hs).H k=o:=by simp[An,Bl,N]
  rw[e]at this;exact⟨p,hp,this⟩
 have Z:∀{x:VV}{v:Value},x.mem=true->V w (E.up φ) (some φ) x v->V w (E.up λ_=>none) none x v:=λr hv =>
  (hv.mem (E':=(E.up φ)) (m':=none) r rfl).less (λk d=>d.imp (λh=>h) λ⟨id,h⟩=>by rcases h with h|⟨_,_,_,h⟩<;>cases h) λk d=>d.imp (λh=>h) λ⟨id,h⟩=>by rcases h with h|⟨_,_,_,h⟩<;>cases h
 have B:∀k,Own φ k->¬(E.up λ_=>none).br k:=λk d S=>S.elim (R k d) λ⟨id,h⟩=>by rcases h with h|⟨_,_,_,h⟩<;>cases h
 have plain:∀k cs,hs[k]?=some (.box cs)->cs.all VV.mem=true->∀b,φ k=some (.box b)->∀{m:Option Phi},V w (E.up λ_=>none) m (.tp cs) (.pointer (some ⟨b,0,none⟩)):=λk cs N T b K m=>by
  obtain⟨p,hp,hv⟩:=u k _ N;rw[K]at hp;cases hp;obtain⟨vs,ty,h1,h2⟩:=hv;exact ZG h1 (B b ⟨k,.inl K⟩) (by rw[h2.1];exact Ap1 _) λj x r=>Z (Aqx.1 T x (AqE r)) (h2.2 j x r)
 have tow:∀n b,φ j=some (.box b)->∀{m:Option Phi},V w (E.up λ_=>none) m (.tp (F5 g ci n)) (.pointer (some ⟨b,0,none⟩)):=by
  intro n
  induction n with
  | zero =>
   intro b s m;obtain⟨p,hp,hv⟩:=u j _ Y;rw[s]at hp;cases hp;obtain⟨vs,ty,h1,h2⟩:=hv;refine ZG h1 (B b ⟨j,.inl s⟩) (by rw[h2.1];exact Ap1 _) λk x r=>?_
   have:x=.dead:=by
    have:=AqE r;simpa[F5]using this
   subst this;exact .dead
  | succ n ih =>
   intro b s m;obtain⟨p,hp,hv⟩:=u j _ Y;rw[s]at hp;cases hp;obtain⟨vs,ty,h1,h2⟩:=hv;refine ZG h1 (B b ⟨j,.inl s⟩) (by rw[h2.1];exact Ap1 _) λk x r=>?_
   match k,r with
   | k+1,r=>simp[F5]at r
   | 0,r =>
    have e:x=.fn (.func g) [.tp ci,.tp (F5 g ci n)]:=by
     have:some (VV.fn (.func g) [.tp ci,.tp (F5 g ci n)])=some x:=r;exact(Aqi this).symm
    subst e;have O:=h2.2 0 _ rfl;generalize vs.getD 0 undef=v at O;cases O with
    | fn a1 a2 =>
     refine .fn a1 λq y C=>?_
     obtain⟨bi,P,U⟩:=(a2 0 _ rfl).bp_inv;obtain⟨bj,e3,e4⟩:=(a2 1 _ rfl).bp_inv;rw[s]at e3;cases e3
     match q,C with
     | 0,C =>
      obtain rfl:VV.tp ci=y:=Aqi C;rw[U];exact plain i ci hi Q bi P
     | 1,C =>
      obtain rfl:VV.tp (F5 g ci n)=y:=Aqi C;rw[e4];exact ih b s
     | q+2,C=>simp at C
 have F:∀(f:VV->VV)(t:Nat)(l:List (Nat×VV)),f .dead=.dead->Bo t (l.map λp=>(p.1,f p.2))=f (Bo t l):=by
  intro f t l O
  induction l with
  | nil=>exact O.symm
  | cons p l ih =>
   simp only[AqN,Bo];cases Nat.beq t p.1 with
   | true=>rfl
   | false=>exact ih
 have G:∀(t:Nat)(l:List (Nat×VV)),(∀p∈l,p.2.mem=true\/∃k,p.2=.bp k 0/\k<hs.length)->(Bo t l).mem=true\/∃k,Bo t l=.bp k 0/\k<hs.length:=by
  intro t l M
  induction l with
  | nil=>exact .inl rfl
  | cons p l ih =>
   simp only[Bo];cases Nat.beq t p.1 with
   | true=>exact M p (Ap2 ..)
   | false=>exact ih λq I=>M q (Aqc _ I)
 have none_blk:∀{k:Nat},¬Own (λ_=>none) k:=λ⟨id,h⟩=>by rcases h with h|⟨_,_,_,h⟩<;>cases h
 have hrel:=h.h E (λ_=>none) a w ⟨z.sz,z.df,z.old.sub λk d=>(none_blk d).elim,λt=>?_,⟨z.hp.sub,λid p e=>(by cases e),λa b k ha _=>(none_blk ⟨a,ha⟩).elim,λk d=>(none_blk d).elim⟩,λ_ _=>rfl,λid A=>absurd A (AqL id)⟩
 .refine AqU hrel λ_ _ _ ⟨E',W,φ',h0,h1,h2,h3⟩=>⟨E',W,φ',h0,h1,h2,Fr.trans ⟨rfl,rfl,rfl,Ap1 _,λ_ _ _=>rfl,λk d=>(none_blk d).elim,λid p A=>?_⟩ h3⟩
  rw[K]at A;exact absurd A (AqL id)
 .show V w _ _ (Bo t (l.map _)) _;rw[F _ t l rfl];have X:V w _ _ (Bo t l) _:=z.tm t;rcases G t l M with r|⟨k,r,d⟩
  .have:∀H,laid H (Bo t l)=Bo t l:=λH=>by
    generalize Bo t l=x at r;cases x with
    | bp=>cases r
    | _=>rfl
   rw[this];have:=Z r X;exact this.held
  .rw[r]at X |-;obtain⟨b,P,U⟩:=X.bp_inv;rw[U];show V w _ _ (.tp (bif Nat.beq k j then F5 g ci n else match hs[k]? with
    | some (.box cs)=>cs
    | _=>[])) _
   cases I:Nat.beq k j with
   | true =>
    obtain rfl:=Ap0 I;rw[ApY];exact tow n b P
   | false =>
    rw[ApW];rcases hm k _ (Ap8 d)with rfl|⟨cs,e,hc⟩
    .rw[AqM]at I;cases I
    .have J:hs[k]?=some (.box cs):=by rw[Ap8 d,e]
     rw[J];exact plain k cs J hc b P
end
def C6 (_:FuncId):Shp:=T9
def Eo (f:FuncId):Shp :=
 bif Nat.beq f 66||Nat.beq f 68||Nat.beq f 67||Nat.beq f 83||Nat.beq f 158||Nat.beq f 159||Nat.beq f 160||Nat.beq f 156||Nat.beq f 157||Nat.beq f 16 then RQ
 else bif Nat.beq f 51 then Al6
 else bif Nat.beq f 37||Nat.beq f 42||Nat.beq f 40||Nat.beq f 79||Nat.beq f 130||Nat.beq f 133||Nat.beq f 135||Nat.beq f 126||Nat.beq f 128||Nat.beq f 108||Nat.beq f 110||Nat.beq f 109||Nat.beq f 125||Nat.beq f 78 then T9
 else BR f
def Dm (o:Op):List VV:=[Aa o.Mode,Ac o.Bfs,Ac o.Reduce,Ac o.Fair,Ac o.Free,Aa o.States,Aa o.Depth]
def AF (f:Fnd):List VV:=[Aa f.Kind,Aa f.What,Aa f.Err,Aa 0,A6 true f.Trail,Aa f.Cycle,Aa f.States,Aa f.Steps]
def BS (n:Int):List VV:=[Aa 0,Aa 0,Aa 0,Aa 0,.nl,Aa 0,Aa 0,Aa n]
def BF (m:D.Model)(o:Op)(c:Sn)(sl:List Nat)(n:Int):List VV :=
 [AG true m.Globals,Ad true m.Init,AJ true m.Shapes,Ad true m.Chans,AD true m.Procs,Aa m.Claim,AS true m.Exprs,
  Aa o.Mode,Ac o.Bfs,Ac o.Reduce,Ac o.Fair,Ac o.Free,Aa o.States,Aa o.Depth,.tp (Be o.States c.ks c.bs sl),Aa 0,Aa 0,Aa 0,Aa 0,.nl,Aa 0,Aa 0,Aa n]
def Ej (m:D.Model)(o:Op)(n:Int):List VV :=
 [AG true m.Globals,Ad true m.Init,AJ true m.Shapes,Ad true m.Chans,AD true m.Procs,Aa m.Claim,AS true m.Exprs,
  Aa o.Mode,Ac o.Bfs,Ac o.Reduce,Ac o.Fair,Ac o.Free,Aa o.States,Aa o.Depth,.bp 1 0,Aa 0,Aa 0,Aa 0,Aa 0,.nl,Aa 0,Aa 0,Aa n]
def Nb (most:Int)(c:Sn)(sl:List Nat):List VV:=[Aa most,.ow 2 0 c.ks.length,.ow 3 0 c.bs.length,.ow 4 0 sl.length]
def Jy (m:D.Model)(o:Op)(c:Sn)(sl:List Nat)(n:Int):List Ob :=
 [.box (Ej m o n),.box (Nb o.States c sl),.arr true 0 c.ks.length 1 (Cj c.ks),.arr true 0 c.bs.length 1 (Dh c.bs),.arr true 0 sl.length 1 (B5 sl)]
def Ly (n:Nat):List Ob:=[.box (List.replicate 23 .dead),.box (List.replicate 4 .dead),.arr true 0 n 1 (λ_=>[.dead]),.arr true 0 n 1 (λ_=>[.dead]),.arr true 0 (slN n) 1 (λ_=>[.dead])]
def Ek (f:Pf):List VV:=[Aa f.n,Az true f.list,Aa f.at_,Aa f.by_.Pid,Aa f.by_.Esc,Aa f.by_.Way,Aa f.by_.With,Aa f.by_.WithEsc,Aa f.by_.WithWay,Aa f.by_.Claim]
def G5 (l:List Pf):Nat->List VV:=λi=>Ek (l.getD i default)
def Li (fz:Bool)(l:List Pf):VV:=.sl fz l.length 10 λi=>Ek (l.getD i default)
def H5 (x:Mt):List VV:=[Ad true x.s.Globals,AK true x.s.Chans,Av true x.s.Procs,Aa x.s.Last,Aa x.s.Alone,Aa x.s.Claim,Aa x.from_,Aa x.by_.Pid,Aa x.by_.Esc,Aa x.by_.Way,Aa x.by_.With,Aa x.by_.WithEsc,Aa x.by_.WithWay,Aa x.by_.Claim,Aa x.deep]
def Ue (l:List Mt):Nat->List VV:=λi=>H5 (l.getD i default)
def I9 (fz:Bool)(l:List Mt):VV:=.sl fz l.length 15 λi=>H5 (l.getD i default)
def Gr (l:List Nx):Nat->List VV:=λi=>bif Nat.blt i l.length then Bf (l.getD i default)else List.replicate 15 .dead
def AmT:Shp:={α:=ByteArray,enc:=λy=>([],AN y)}
def AoW:Shp:={α:=ByteArray×Int,enc:=λy=>([],.tup [AN y.1,Aa y.2])}
def AmZ:Shp:={α:=List Nx,enc:=λy=>([],Az true y)}
def AmY:Shp:={α:=List Nx×Int,enc:=λy=>([.arr true 0 y.1.length 15 (Bc y.1)],.tup [.ow 0 0 y.1.length,Aa y.2])}
def Ana:Shp:={α:=List Nx×Nat×Int,enc:=λy=>([.arr true 0 y.2.1 15 (Gr y.1),.box [Aa y.2.2]],.ow 0 0 y.1.length),lend:=true}
def Am7:Shp:={α:=Fnd,enc:=λy=>(Ly y.N,.agg (AF y)),lend:=true}
def Am6:Shp:={α:=Fnd,enc:=λy=>([],.agg (AF y))}
def AoT:Shp:={α:=Fnd×Int,enc:=λy=>([],.tup [.agg (AF y.1),Aa y.2])}
def Am1:Shp:={α:=List Mv,enc:=λy=>([],A6 true y)}
def AmU:Shp:={α:=List Mv,enc:=λy=>([.arr true 0 y.length 7 (Ca y)],.tup []),lend:=true}
def Am0:Shp:={α:=Int,enc:=λy=>(AbA y,.tup [.bp 0 0,Aa 0])}
def AoQ:Shp:={α:=D.Model,enc:=λy=>([],.agg (Ae y))}
def AoN:Shp:={α:=Op,enc:=λy=>([],.agg (Dm y))}
def AoU:Shp:={α:=D.Expr,enc:=λy=>([],.agg (AE y))}
def C9 (f:FuncId):Shp :=
 bif Nat.beq f 21||Nat.beq f 71 then AmT
 else bif Nat.beq f 46 then AoW
 else bif Nat.beq f 22||Nat.beq f 8 then RQ
 else bif Nat.beq f 52||Nat.beq f 4 then T9
 else bif Nat.beq f 47||Nat.beq f 48 then Al9
 else bif Nat.beq f 24 then AmZ
 else bif Nat.beq f 53 then Ana
 else bif Nat.beq f 12||Nat.beq f 11 then Am7
 else bif Nat.beq f 23 then Am6
 else bif Nat.beq f 6 then AoT
 else bif Nat.beq f 28||Nat.beq f 25 then Am1
 else bif Nat.beq f 55 then AmU
 else bif Nat.beq f 10 then Am0
 else bif Nat.beq f 7 then AoQ
 else bif Nat.beq f 5 then AoN
 else bif Nat.beq f 13||Nat.beq f 14 then AoU
 else bif Nat.beq f 20||Nat.beq f 27||Nat.beq f 29||Nat.beq f 26||Nat.beq f 82||Nat.beq f 49 then Gq f
 else Eo f
def Ow (f:FuncId):Shp:=bif Nat.beq f 50||Nat.beq f 74 then AmY else C9 f
def Su (f:FuncId):Shp:=bif Nat.beq f 83 then RQ else T9
def GO:Ann:={base:=5,cut:=(λ| [1,1,0,1]=>true | [1,1,1,1,1,1]=>true | _=>false),keep:=fun
  | [1]=>[0,3,4,5,6]
  | [1,1,0,1]=>[0,3,4,5,6]
  | [1,1,1,1,1,1]=>[0,3,4,5,6]
  | _=>[]}
def Lp:Ann:={base:=5,keep:=fun
  | [0,1,0,1,1,1,1]=>[0,4,5,7]
  | [0,1,0,0,1,0,0,1,0,1,1,1,1]=>[0,4,5,7,48,49,50]
  | _=>[]}
def ED:Ann:={cut:=(λ| [1,1,1]=>true | _=>false),keep:=fun
  | [1,1,1]=>[0,3,5]
  | [0,1,0,1,1,1,1]=>[0,5,37,38,39]
  | _=>[]}
def N7:Ann:={keep:=fun
  | [0,1,0,1,1]=>[1,5,9,10,11]
  | _=>[]}
def IK:Ann:={cut:=(λ| [1,1,1]=>true | _=>false),keep:=fun
  | [1,1,1]=>[2,7]
  | [0,0,1,1]=>[0,1,2,7]
  | _=>[]}
def UV:Ann:={base:=1,keep:=fun
  | [0,1]=>[0,2,3]
  | _=>[]}
def Lo:Ann:={base:=2,cut:=(λ| [1,1,1,1]=>true | _=>false),keep:=fun
  | [0,1,0,1,1,1]=>[0,1,5,6]
  | [1,1,1,1]=>[0,5]
  | _=>[]}
def Ln:Ann:={cut:=(λ| [1,1,1,1,1,1]=>true | _=>false),keep:=fun
  | [1,1,1,1,1,1]=>[2,3,4,7,9]
  | _=>[]}
def AbN:Ann:={cut:=(λ| [1,1,1]=>true | _=>false),keep:=λ_=>[]}
def YE (m:D.Model)(o:Op)(c:Sn)(sl:List Nat)(n:Int)(s:D.State)(q:List Pf)(k:Nat)(v:Mv):St :=
 An [(0,.bp 0 0),(3,.bp 5 0),(4,.bp 6 0),(5,.ow 7 0 k),(6,.bp 8 0)] (Jy m o c sl n++[.box (Ag s),.box (BS 0),.arr true 0 q.length 10 (G5 q),.box (Bz v)])
def AjY (m:D.Model)(o:Op)(c:Sn)(sl:List Nat)(n:Int)(q:List Mt)(k:Int):St :=
 An [(0,.bp 0 0),(4,.bp 5 0),(5,.ow 6 0 q.length),(7,Aa k)] (Jy m o c sl n++[.box (BS 0),.arr true 0 q.length 15 (Ue q)])
def YF (m:D.Model)(o:Op)(c:Sn)(sl:List Nat)(n:Int)(q:List Mt)(k:Int)(l:List Nx)(j:Int):St :=
 An [(0,.bp 0 0),(4,.bp 5 0),(5,.ow 6 0 q.length),(7,Aa k),(48,Az true l),(49,Aa l.length),(50,Aa j)] (Jy m o c sl n++[.box (BS 0),.arr true 0 q.length 15 (Ue q)])
def Aow (w:List VV)(s:D.State)(l:List Nx):St:=An [(0,.tp w),(3,.bp 0 0),(5,.ow 1 0 l.length)] [.box (Ag s),.arr true 0 l.length 15 (Bc l)]
def AjS (w:List VV)(l:List Nx)(ps:List Int)(k:Int):St:=An [(0,.tp w),(5,.ow 0 0 l.length),(37,Ad true ps),(38,Aa ps.length),(39,Aa k)] [.arr true 0 l.length 15 (Bc l)]
def Aoy (more:List Mv)(out:List Mv)(p:List Pf)(k:Int):St:=An [(1,A6 false more),(5,.ow 0 0 out.length),(9,Li false p),(10,Aa p.length),(11,Aa k)] [.arr true 0 out.length 7 (Ca out)]
def AoE (l:List Mt)(n:Int)(more out:List Mv):St:=An [(0,I9 false l),(1,Aa n),(2,A6 false more),(7,.ow 0 0 out.length)] [.arr true 0 out.length 7 (Ca out)]
def AmI (l:List Mv)(i j:Int):St:=An [(0,.ow 0 0 l.length),(2,Aa i),(3,Aa j)] [.arr true 0 l.length 7 (Ca l)]
def Af1 (l:List Nx)(p i j:Int):St:=An [(0,.ow 0 0 l.length),(1,.fn (.func 54) [.bp 1 0]),(5,Aa i),(6,Aa j)] [.arr true 0 l.length 15 (Bc l),.box [Aa p]]
def AmM (l:List Nx)(p i:Int):St:=An [(0,.ow 0 0 l.length),(5,Aa i)] [.arr true 0 l.length 15 (Bc l),.box [Aa p]]
def GN:Ann:={cut:=(λ| [1,0,1,1]=>true | _=>false),keep:=fun
  | [1,0,1,1]=>[2,3,4,5,19]
  | [0,1,0,1,1,1]=>[2,3,4,5,23,24,25]
  | _=>[]}
def Abw:List (Nat×VV):=[(2,.bp 0 0),(3,.bp 1 0),(4,.bp 2 0),(5,.bp 3 0)]
def WY (m:D.Model)(s:D.State):List Ob:=[.box (Ae m),.box (Ag s),.box [Ac false],.box [Aa 0]]
def AaQ (m:D.Model)(s:D.State)(i:Int):St:=An [(2,.bp 0 0),(3,.bp 1 0),(4,.bp 2 0),(5,.bp 3 0),(23,Av true s.Procs),(24,Aa s.Procs.length),(25,Aa i)] [.box (Ae m),.box (Ag s),.box [Ac false],.box [Aa 0]]
def AjZ (more out:List Mv):St:=An [(2,A6 false more),(7,.ow 0 0 out.length)] [.arr true 0 out.length 7 (Ca out)]
def AmL (n:Nat)(l:List Nx)(p:Int):St:=An [(0,.ow 0 0 n),(5,Aa l.length)] [.arr true 0 n 15 (Gr l),.box [Aa p]]
def Ctx.line (c:Ctx)(rel:List Nat)(K:Exit->St->Prop):Ctx:={c with L:=rgL 1,code:=Dp rel c.code,p0:=[],K0:=K}
def Amg (J:VV->VV->VV->Ob->Nat->Prop)(F:Ob->Nat->Prop):Exit->St->Prop
 | .normal,st=>J (st.t 0) (st.t 2) (st.t 3) (st.H 0) st.nx
 | .exit 0,st=>F (st.H 0) st.nx
 | _,_=>False
def Rb (most:Int):List VV:=[Aa most,.ow 5 0 0,.ow 6 0 0,.ow 7 0 16]
def ApJ (m:D.Model)(o:Op)(s:D.State):St:=An [(2,.bp 0 0),(3,.bp 1 0),(4,.bp 2 0),(7,.bp 3 0),(9,.bp 4 0)] [.box (Ae m),.box (Dm o),.box (BS 0),.box (Ag s),.box (Rb o.States),.arr true 0 0 1 (Cj []),.arr true 0 0 1 (Dh []),.arr true 0 16 1 (B5 (List.replicate 16 0))]
def Ar2 (J:Nat->Act->World->Prop)(Q:Exit->Act->World->Prop):Exit->Act->World->Prop
 | .goto l,a,w=>J l a w
 | e,a,w=>Q e a w
def RN {P:Program}{a:Act}{w:World}{Q:Exit->Act->World->Prop}{c:Code}{rest:Nat->Code}(J:Nat->Nat->Act->World->Prop)(q:∀l g a w,J l g a w->findLabel c l=some (rest l))
  (first:c.wp P (Ar2 (λl a w=>∃g,J l g a w) Q) a w) (pass:∀l g a w,J l g a w->(rest l).wp P (Ar2 (λl' m w'=>∃j,j<g/\J l' j m w') Q) a w):(Code.scope c).wp P Q a w:=by
 intro b k cs;have hg:∀l g a w,J l g a w->gotoIn l (.inScope c::k)=some (.code (rest l)::.inScope c::k):=λl g a w h=>by simp[gotoIn,q l g a w h]
 have key:∀g l a w,J l g a w->∃e m w',Q e m w'/\Arrives P (lone (b.at a (.code (rest l)::.inScope c::k)) cs w) b k cs e m w':=by
  intro n
  induction n using Nat.strongRecOn with
  | _ n ih =>
   intro l a w r;obtain⟨e,a₁,w₁,f,d⟩:=pass l n a w r b (.inScope c::k) cs;cases e with
   | normal=>exact⟨.normal,a₁,w₁,f,Steps.trans d (.one step_inScope)⟩
   | exit id=>exact⟨.exit id,a₁,w₁,f,λk' o=>d k' (by simp[exitTo,o])⟩
   | goto l' =>
    obtain⟨j,p,i⟩:=f;obtain⟨e₂,a₂,w₂,hq₂,harr₂⟩:=ih j p l' a₁ w₁ i;exact⟨e₂,a₂,w₂,hq₂,.of_steps (d _ (hg l' j a₁ w₁ i)) harr₂⟩
   | ret=>exact⟨_,a₁,w₁,f,d⟩
   | panic ch=>exact⟨_,a₁,w₁,f,d⟩
   | outgrown=>exact⟨_,a₁,w₁,f,d⟩
 obtain⟨e,a₁,w₁,f,d⟩:=first b (.inScope c::k) cs
 cases e with
 | normal=>exact⟨.normal,a₁,w₁,f,.head step_scope (Steps.trans d (.one step_inScope))⟩
 | exit id=>exact⟨.exit id,a₁,w₁,f,λk' o=>.head step_scope (d k' (by simp[exitTo,o]))⟩
 | goto l' =>
  obtain⟨j,i⟩:=f;obtain⟨e₂,a₂,w₂,hq₂,harr₂⟩:=key j l' a₁ w₁ i;exact⟨e₂,a₂,w₂,hq₂,.of_steps (.head step_scope (d _ (hg l' j a₁ w₁ i))) harr₂⟩
 | ret=>exact⟨_,a₁,w₁,f,.of_steps (.one step_scope) d⟩
 | panic ch=>exact⟨_,a₁,w₁,f,.of_steps (.one step_scope) d⟩
 | outgrown=>exact⟨_,a₁,w₁,f,.of_steps (.one step_scope) d⟩
def NR (b:Nat)(keep:List Nat)(J:Nat->St->Prop)(K:Exit->St->Prop):Exit->St->Prop
 | .goto l,st=>bif okF b keep st then J l (forget b keep st)else False
 | e,st=>K e st
section
variable {P : Program} {T:TypeId->TE} {N:Nat}
def Y1 (u:TOk P T)(i:P.follows .mixedOrders=true){lc:Code}(c:Code)(rest:Nat->Code){K:Exit->St->Prop}{st:St}{p:List Nat}(Sh:Shs)(L:Ann)(keep:List Nat)(J:Nat->Nat->St->Prop)(n:lc=.scope c)(v:∀l g st,J l g st->findLabel c l=some (rest l)/\Dy N (rest l)=true)(hB:Dy N c=true)
  (first:xc P T Sh N L (0::p) c (NR L.base keep (λl b=>∃g,Up (J l g) b) K) st)
  (pass:∀l g st,J l g st->xc P T Sh N L ((l+1)::p) (rest l) (NR L.base keep (λl' b=>∃m,m<g/\Up (J l' m) b) K) st):Sat P N L.base p lc K st:=by
 subst n;refine⟨λE φ a w A=>?_⟩;have conv:∀(J1:Nat->St->Prop)(J2:Nat->Act->World->Prop)(E1:AP) (φ1:Phi) (o:World),E.Le E1->Fr L.base w φ o φ1->(∀l E' b φ' d w',E.Le E'->J1 l b->Rel N E' b φ' d w'->Fr L.base w φ w' φ'->J2 l d w')->∀e d w',(∃E' b φ',E1.Le E'/\NR L.base keep J1 K e b/\Rel N E' b φ' d w'/\Fr L.base o φ1 w' φ') ->
   Ar2 J2 (λe d w'=>∃E' b φ',E.Le E'/\K e b/\Rel N E' b φ' d w'/\Fr L.base w φ w' φ') e d w':=by
  rintro J1 J2 E1 φ1 o j k B e d w' ⟨E',b,φ',x,g1,y,z⟩;cases e with
  | goto l' =>
   simp only[NR]at g1;cases q:okF L.base keep b with
   | false=>rw[q]at g1;exact g1.elim
   | true =>
    rw[q]at g1;obtain⟨φ3,C,F⟩:=y.forget q;exact B l' E' _ φ3 _ _ (j.trans x) g1 C (k.trans (z.trans F))
  | _=>exact⟨E',b,φ',j.trans x,g1,y,k.trans z⟩
 refine RN (rest:=rest) (λl g d w'=>∃E' b φ',E.Le E'/\J l g b/\Rel N E' b φ' d w'/\Fr L.base w φ w' φ') (λl g d w' ⟨_,b,_,_,h,_⟩=>(v l g b h).1) ?_ ?_
 .exact AqU ((FE u i c hB _ _ st first).h E φ a w A) (conv _ _ E φ w (.refl E) (Fr.refl _ _ _) λl E' b φ' d w' h0 ⟨g,st1,f,hg⟩ h2 h3=>let ⟨φ4,r,s⟩:=f _ _ _ _ _ h2;⟨g,E',st1,φ4,h0,hg,r,h3.trans (Arc s)⟩)
 .rintro l g d w' ⟨E',b,φ',h0,h1,h2,h3⟩;exact AqU ((FE u i (rest l) (v l g b h1).2 _ _ b (pass l g b h1)).h E' φ' d w' h2) (conv _ _ E' φ' w' h0 h3 λl E'' b φ' d w' h0 ⟨m,t,st1,f,hg⟩ h2 h3=>let ⟨φ4,r,s⟩:=f _ _ _ _ _ h2;⟨m,t,E'',st1,φ4,h0,hg,r,h3.trans (Arc s)⟩)
end
def Ctx.firsts (c:Ctx)(rel:List Nat)(J:Nat->St->Prop):Ctx :=
 {c with code:=Dp (rel++[0]) c.code,p0:=0::c.at rel,K0:=NR c.L.base (c.L.keep (c.at rel)) J (c.k rel)}
def Ctx.passes (c:Ctx)(rel:List Nat)(l:Nat)(J:Nat->St->Prop):Ctx :=
 {c with code:=(findLabel (Dp (rel++[0]) c.code) l).getD .skip,p0:=(l+1)::c.at rel,K0:=NR c.L.base (c.L.keep (c.at rel)) J (c.k rel)}
def YY {c:Ctx}(e:TOk c.P c.T)(b:c.P.follows .mixedOrders=true){rel:List Nat}{st:St}(J:Nat->Nat->St->Prop)(f:c.sub rel=.scope (Dp (rel++[0]) c.code))(i:∀l g st,J l g st->(findLabel (Dp (rel++[0]) c.code) l).isSome=true/\Dy c.N ((findLabel (Dp (rel++[0]) c.code) l).getD .skip)=true)
  (hB:Dy c.N (Dp (rel++[0]) c.code)=true) (first:A3 ((c.firsts rel λl a=>∃g,Up (J l g) a).goal st)) (pass:∀l g st,J l g st->A3 ((c.passes rel l λl' a=>∃d,d<g/\Up (J l' d) a).goal st)):AB c rel st :=
 Y1 (L:=c.L) (p:=c.at rel) (K:=c.k rel) e b _ (λl=>(findLabel (Dp (rel++[0]) c.code) l).getD .skip) c.Sh (c.L.keep (c.at rel)) J f (λl g st h=>by
  obtain⟨h1,h2⟩:=i l g st h;obtain⟨r,j⟩:=Option.isSome_iff_exists.1 h1;exact⟨by rw[j];rfl,h2⟩) hB first.out λl g st h=>(pass l g st h).out
def Ak5 (r:D.Expr)(n:Int):(fc C9 AH f13 [] (.agg (AE r))).goal (St.init [] [Aa n]) =
  (LQ (VV.agg [Aa 1,Aa n,Aa (-1),Aa (-1),Aa (-1),Aa 0,Aa 0,Aa 0,Aa 0,VV.nl,VV.nl,VV.nl]) (VV.agg (AE r))):=kR
def Aim (r:D.Expr):(fc C9 AH f14 [] (.agg (AE r))).goal (St.init [] []) =
  (LQ (VV.agg [Aa 2,Aa 0,Aa (-1),Aa (-1),Aa (-1),Aa 0,Aa 0,Aa (-1),Aa (-1),VV.nl,VV.nl,VV.nl]) (VV.agg (AE r))):=kR
def Abq (r:D.Model)(b:Bool){g}(h:g=λ(i:Nat)=>λ(y:D.Expr)=>λ(a:D.Expr)=>λ(c:D.Expr)=>λ(d:D.Expr)=>λ(e:D.Expr)=>List.drop (i*12) [Aa y.Op,Aa y.N,Aa y.A,Aa y.B,Aa y.C,Aa y.V.Scope,Aa y.V.Slot,Aa y.V.Who,Aa y.V.Type_,Bb true y.V.Dims,Ad true y.Args,Ad true y.Match,Aa a.Op,Aa a.N,Aa a.A,Aa a.B,Aa a.C,Aa a.V.Scope,Aa a.V.Slot,Aa a.V.Who,Aa a.V.Type_,Bb true a.V.Dims,Ad true a.Args,Ad true a.Match,Aa 9,Aa 0,Aa 1,Aa 0,Aa (-1),Aa 0,Aa 0,Aa 0,Aa 0,VV.nl,VV.nl,VV.nl,Aa c.Op,Aa c.N,Aa c.A,Aa c.B,Aa c.C,Aa c.V.Scope,Aa c.V.Slot,Aa c.V.Who,Aa c.V.Type_,Bb true c.V.Dims,Ad true c.Args,Ad true c.Match,Aa d.Op,Aa d.N,Aa d.A,Aa d.B,Aa d.C,Aa d.V.Scope,Aa d.V.Slot,Aa d.V.Who,Aa d.V.Type_,Bb true d.V.Dims,Ad true d.Args,Ad true d.Match,Aa e.Op,Aa e.N,Aa e.A,Aa e.B,Aa e.C,Aa e.V.Scope,Aa e.V.Slot,Aa e.V.Who,Aa e.V.Type_,Bb true e.V.Dims,Ad true e.Args,Ad true e.Match,Aa 13,Aa 0,Aa 4,Aa 5,Aa (-1),Aa 0,Aa 0,Aa 0,Aa 0,VV.nl,VV.nl,VV.nl]){j}(k:j=[[(VV.sl true 1 9 λ(i:Nat)=>List.take 9 (List.drop (i*9) [Aa 2,Aa 3,Aa 2,Aa 0,VV.nl,VV.nl,AN ByteArray.empty,Aa 2,Aa 0]),[3]),(VV.nl,[]),(zf,[]),(zf,[]),(zf,[]),(zf,[]),(zf,[])],[(VV.nl,[]),(VV.nl,[]),(zf,[]),(zf,[]),(zf,[]),(zf,[]),(zf,[])],[(VV.sl true 1 9 λ(i:Nat)=>List.take 9 (List.drop (i*9) [Aa 3,Aa 6,Aa (-1),Aa 0,VV.nl,VV.nl,AN ByteArray.empty,Aa 1,Aa 0]),[4]),(VV.nl,[]),(zf,[]),(zf,[]),(zf,[]),(zf,[]),(zf,[])]]){l}(m:l=[[(VV.sl true 1 9 λ(i:Nat)=>List.take 9 (List.drop (i*9) [Aa 2,Aa 3,Aa 2,Aa 0,VV.nl,VV.nl,AN ByteArray.empty,Aa 1,Aa 0]),[1]),(VV.nl,[]),(zf,[]),(zf,[]),(zf,[]),(zf,[]),(zf,[])],[(VV.nl,[]),(VV.nl,[]),(zf,[]),(zf,[]),(zf,[]),(zf,[]),(zf,[])]]){f}(n:f=(λ(x:VV×List Nat)=>x.fst)){o}(p:o=(λ(r:List (VV×List Nat))=>List.flatMap (λ(x:VV×List Nat)=>x.snd) r)):(fc C9 AH f7 [] (.agg (Ae r))).goal (St.init [] [Ac b]) =
  (BB b (∃(y:D.Expr),VC 13 [Aa 1] (.agg (AE y))/\∃(a:D.Expr),VC 14 [] (.agg (AE a))/\∃(c:D.Expr),VC 14 [] (.agg (AE c))/\∃(d:D.Expr),VC 14 [] (.agg (AE d))/\∃(e:D.Expr),VC 13 [Aa 2] (.agg (AE e))/\LQ (.agg [.sl true 1 2 λ(i:Nat)=>List.take 2 (List.drop (i*2) [Aa 8,Ac false]),.sl true 1 1 λ(i:Nat)=>List.take 1 (List.drop (i*1) [Aa 0]),.nl,.nl,.sl true 1 10 λ(i:Nat)=>List.map f ([[(zs,[]),(z8,[]),(.nl,[]),(.nl,[]),(.sl true 3 7 λ(i:Nat)=>List.map f (j.getD i []),5::List.flatMap o j),(z8,[]),(Aa 1,[]),(Aa 2,[]),(Aa 1,[]),(Aa (-1),[])]].getD i []),Aa (-1),.sl true 7 12 λ(i:Nat)=>List.take 12 (g i y a c d e)]) (.agg (Ae r))) (∃(y:D.Expr),VC 13 [Aa 1] (.agg (AE y))/\∃(a:D.Expr),VC 14 [] (.agg (AE a))/\∃(c:D.Expr),VC 14 [] (.agg (AE c))/\∃(d:D.Expr),VC 14 [] (.agg (AE d))/\∃(e:D.Expr),VC 13 [Aa 2] (.agg (AE e))/\LQ (.agg [.sl true 1 2 λ(i:Nat)=>List.take 2 (List.drop (i*2) [Aa 8,Ac false]),.sl true 1 1 λ(i:Nat)=>List.take 1 (List.drop (i*1) [Aa 0]),.nl,.nl,.sl true 1 10 λ(i:Nat)=>List.map f ([[(zs,[]),(z8,[]),(.nl,[]),(.nl,[]),(.sl true 2 7 λ(i:Nat)=>List.map f (l.getD i []),2::List.flatMap o l),(z8,[]),(Aa 1,[]),(Aa 2,[]),(Aa 1,[]),(Aa (-1),[])]].getD i []),Aa (-1),.sl true 7 12 λ(i:Nat)=>List.take 12 (g i y a c d e)]) (.agg (Ae r)))):=by subst h k m n p;kernel_rfl
def Ah1 (b:Bool){e}(f:e=λ(y:D.Model)=>[VV.agg (Ae y),VV.agg [Aa 1,Ac false,Ac false,Ac false,Ac false,Aa 100,Aa 100]]):(fc C9 AH f4 [] (Ac b)).goal (St.init [] []) =
  (∃(y:D.Model),VC 7 [Ac false] (.agg (Ae y))/\∃(c:Fnd×Int),VC 6 (e y) (.tup [.agg (AF c.fst),Aa c.snd])/\∃(y:D.Model),VC 7 [Ac true] (.agg (Ae y))/\∃(a:Fnd×Int),VC 6 (e y) (.tup [.agg (AF a.fst),Aa a.snd])/\∃(y:D.Model),VC 7 [Ac true] (.agg (Ae y))/\∃(d:Fnd×Int),VC 6 [.agg (Ae y),.agg [Aa 1,Ac true,Ac false,Ac false,Ac false,Aa 100,Aa 100]] (.tup [.agg (AF d.fst),Aa d.snd])/\LQ (Ac (bif bif bif bif bif bif bif bif bif c.snd==0 then c.fst.Kind==1 else false then c.fst.Cycle==(-1:Int)else false then a.snd==0 else false then a.fst.Kind==2 else false then a.fst.What==1 else false then a.fst.Err==50 else false then d.snd==0 else false then d.fst.Kind==2 else false then(↑d.fst.Trail.length:Int)==3 else false)) (Ac b)):=by subst f;kernel_rfl
def AjC (r o:Op):(fc C9 AH f5 [] (.agg (Dm r))).goal (St.init [] [.agg (Dm o)]) =
  (BB (decide (o.States > 400)) (LQ (VV.agg [Aa o.Mode,Ac o.Bfs,Ac o.Reduce,Ac o.Fair,Ac o.Free,Aa 400,Aa o.Depth]) (VV.agg (Dm r))) (LQ (VV.agg (Dm o)) (VV.agg (Dm r)))):=kR
def Ain (b:Bool)(m:D.Model)(o:Op):(fc C9 AH f3 [] (Ac b)).goal (St.init [] [.agg (Ae m),.agg (Dm o)]) =
  (∃(y:Bool),VC 4 [] (Ac y)/\∃(a:Op),VC 5 [VV.agg (Dm o)] (VV.agg (Dm a))/\∃(c:Fnd×Int),VC 6 [VV.agg (Ae m),VV.agg [Aa a.Mode,Ac a.Bfs,Ac a.Reduce,Ac a.Fair,Ac true,Aa a.States,Aa a.Depth]] (VV.tup [VV.agg (AF c.fst),Aa c.snd])/\∃(d:Fnd×Int),VC 6 [VV.agg (Ae m),VV.agg [Aa a.Mode,Ac a.Bfs,Ac a.Reduce,Ac a.Fair,Ac false,Aa a.States,Aa a.Depth]] (VV.tup [VV.agg (AF d.fst),Aa d.snd])/\BB (c.snd != d.snd) (LQ (Ac false) (Ac b)) (BB (c.snd != 0) (LQ (Ac y) (Ac b)) (LQ (Ac (bif bif bif y then !bif c.fst.Kind==2 then d.fst.Kind==1 else false else false then !bif d.fst.Kind==1 then c.fst.Kind != 1 else false else false then bif c.fst.Kind != 2 then true else c.fst.What != 2 else false)) (Ac b)))):=kR
end Go.Proofs.YtedfjceonnoifaaGreatDoor
namespace Go.Proofs.YtedfjceonnoifaaGreatDoor
open Go.RowKit Go.Proofs.Tryz
open IntKind(i64)
def CK (b:Bool)(o:Op):Op:={o with Free:=b}
section
variable {m : D.Model} {o:Op}
def IN {s:D.State}:BV m (CK true o) s=(bif Fx m s then 3 else 0)/\(BV m (CK false o) s=BV m (CK true o) s\/BV m (CK false o) s=2):=by
 unfold BV;show(bif Fx m s then(3:Int)else bif GY m s&&!true then 2 else 0)=_/\((bif Fx m s then(3:Int)else bif GY m s&&!false then 2 else 0)=(bif Fx m s then(3:Int)else bif GY m s&&!true then 2 else 0)\/_);cases Fx m s<;>cases GY m s<;>simp[CK]
def GoF (a b:Fnd):Prop:=a.What≠2/\(b=a\/b.Kind=2)
def Ec {a:Fnd}(h:a.What≠2):GoF a a:=⟨h,.inl rfl⟩
def QQ {c:Sn}{s:D.State}:Eh m (CK false o) c s=Eh m (CK true o) c s:=by
 have a:∀(l:List Nx)(ps:List Int),Gv (CK false o) c l ps=Gv (CK true o) c l ps:=λl ps=>by
  induction ps with
  | nil=>rfl
  | cons p r ih=>show(bif Kf (CK true o) c l p then _ else Gv (CK false o) c l r)=_;rw[ih];rfl
 unfold Eh;rw[a];rfl
def LG {s:D.State}:BV m (CK true o) s≠2:=by
 rw[IN.1];cases Fx m s<;>decide
def Rg:∀(f:Nat)(c:Wk)(x:Option (D.State×Mv)),GoF (H6 m (CK true o) f c x) (H6 m (CK false o) f c x)
 | 0,_,_=>Ec (show(0:Int)≠2 by decide)
 | f+1,c,none=>by
  have IH:=Rg f;unfold H6;cases c.path.getLast? with
  | none=>exact Ec (by simp[CL])
  | some fr =>
   simp only;cases decide (fr.at_=fr.list.length)with
   | true=>exact IH _ _
   | false =>
    rw[ApW,ApW];cases decide ((fr.list.getD fr.at_ default).Err≠0)with
    | true=>exact Ec (by simp[CL])
    | false=>exact IH _ _
 | f+1,c,some (s,v)=>by
  have IH:=Rg f;unfold H6;cases FN c.sn.ks (AV s)with
  | true=>exact IH _ _
  | false =>
  rw[ApW,ApW];show GoF (bif decide ((c.sn.ks.length:Int)=o.States)then _ else bif decide ((c.path.length:Int)=o.Depth)then _ else _) (bif decide ((c.sn.ks.length:Int)=o.States)then _ else bif decide ((c.path.length:Int)=o.Depth)then _ else _);cases decide ((c.sn.ks.length:Int)=o.States)with
  | true=>exact Ec (by simp[CL])
  | false =>
  cases decide ((c.path.length:Int)=o.Depth)with
  | true=>exact Ec sM
  | false =>
  simp only[ApW];rw[QQ];have a:=LG (m:=m) (o:=o) (s:=s);obtain⟨h1,h2⟩:=IN (m:=m) (o:=o) (s:=s);rcases h2 with h2|h2
  .rw[h2];cases decide (0<BV m (CK true o) s)with
   | true=>exact Ec (by simpa[CL]using a)
   | false=>exact IH _ _
  .rw[h2];refine⟨?_,.inr rfl⟩;cases decide (0<BV m (CK true o) s)with
   | true=>simpa[CL]using a
   | false=>exact(IH _ _).1
def Aol (a b:Fnd ⊕ Bk):Prop:=(∀r,a=.inl r->r.What≠2)/\(b=a\/∃r,b=.inl r/\r.Kind=2)
def Rn {n:Nat}:∀(l:List Nx)(c:Bk),Aol (HH m (CK true o) n l c) (HH m (CK false o) n l c)
 | [],c=>⟨λr h=>(by cases h),.inl rfl⟩
 | x::r,c=>by
  have IH:=Rn (n:=n) r;have same:∀{a:Fnd},a.What≠2->Aol (.inl a) (.inl a):=λh=>⟨λr e=>(by cases e;exact h),.inl rfl⟩
  unfold HH;cases decide (x.Err≠0)with
  | true=>exact same (by simp[CL])
  | false =>
  cases FN c.sn.ks (AV x.State)with
  | true=>exact IH _
  | false =>
  simp only[ApW];show Aol (bif decide (i64.wrap ((c.l.getD n default).deep+1)>=o.Depth)then _ else bif decide ((c.sn.ks.length:Int)=o.States)then _ else _) (bif decide (i64.wrap ((c.l.getD n default).deep+1)>=o.Depth)then _ else bif decide ((c.sn.ks.length:Int)=o.States)then _ else _);cases decide (i64.wrap ((c.l.getD n default).deep+1)>=o.Depth)with
  | true=>exact same (by simp[CL])
  | false =>
  cases decide ((c.sn.ks.length:Int)=o.States)with
  | true=>exact same (by simp[CL])
  | false =>
  simp only[ApW];have b:=LG (m:=m) (o:=o) (s:=x.State);obtain⟨h1,h2⟩:=IN (m:=m) (o:=o) (s:=x.State);rcases h2 with h2|h2
  .rw[h2];cases decide (0<BV m (CK true o) x.State)with
   | true=>exact same (by simpa[CL]using b)
   | false=>exact IH _
  .rw[h2];refine⟨λd e=>?_,.inr ⟨_,rfl,rfl⟩⟩;cases hd:decide (0<BV m (CK true o) x.State)with
   | true=>rw[hd,ApY]at e;cases e;simpa[CL]using b
   | false=>rw[hd,ApW]at e;exact(IH _).1 _ e
def Rl:∀(f n:Nat)(c:Bk),GoF (Rm m (CK true o) f n c) (Rm m (CK false o) f n c)
 | 0,_,_=>Ec (show(0:Int)≠2 by decide)
 | f+1,n,c=>by
  have IH:=Rl f;unfold Rm;rw[QQ];cases decide (n<c.l.length)with
  | false=>exact Ec (by simp[CL])
  | true =>
  rw[ApY,ApY];obtain⟨h1,h2⟩:=Rn (m:=m) (o:=o) (n:=n) (Eh m (CK true o) c.sn (c.l.getD n default).s) c;generalize HH m (CK true o) n (Eh m (CK true o) c.sn (c.l.getD n default).s) c=a at h1 h2;generalize HH m (CK false o) n (Eh m (CK true o) c.sn (c.l.getD n default).s) c=b at h2;rcases h2 with rfl|⟨r,rfl,d⟩
  .cases b with
   | inl r=>exact Ec (h1 r rfl)
   | inr c'=>exact IH _ _
  .refine⟨?_,.inr d⟩;cases a with
   | inl r'=>exact h1 r' rfl
   | inr c'=>exact(IH _ _).1
def AeC (F G:Nat):GoF (JV m (CK true o) F G) (JV m (CK false o) F G):=by
 unfold JV;show GoF (bif o.Bfs then _ else _) (bif o.Bfs then _ else _);cases o.Bfs with
 | false=>exact Rg _ _ _
 | true =>
  rw[ApY,ApY];have a:=LG (m:=m) (o:=o) (s:=A1 m);obtain⟨h1,h2⟩:=IN (m:=m) (o:=o) (s:=A1 m);rcases h2 with h2|h2
  .rw[h2];cases decide (0<BV m (CK true o) (A1 m))with
   | true=>exact Ec (by simpa[CL]using a)
   | false=>exact Rl _ _ _
  .rw[h2];refine⟨?_,.inr rfl⟩;cases decide (0<BV m (CK true o) (A1 m))with
   | true=>simpa[CL]using a
   | false=>exact(Rl _ _ _).1
end
def Ad1 (n:Int):D.Expr:=⟨1,n,-1,-1,-1,⟨0,0,0,0,[]⟩,[],[]⟩
def OH:D.Expr:=⟨2,0,-1,-1,-1,⟨0,0,-1,-1,[]⟩,[],[]⟩
def frL (k a b to:Int):D.Loc:=⟨[⟨⟨k,a,b,0,[],[],ByteArray.empty⟩,to,0⟩],[],false,false,false,false,false⟩
def frN:D.Loc:=⟨[],[],false,false,false,false,false⟩
def frP (l:List D.Loc):D.Proc:=⟨ByteArray.empty,0,[],[],l,0,1,2,1,-1⟩
def frX:List D.Expr:=[Ad1 1,OH,⟨9,0,1,0,-1,⟨0,0,0,0,[]⟩,[],[]⟩,OH,OH,Ad1 2,⟨13,0,4,5,-1,⟨0,0,0,0,[]⟩,[],[]⟩]
def frM (b:Bool):D.Model:=⟨[⟨8,false⟩],[0],[],[],[frP (bif b then[frL 2 3 2 2,frN,frL 3 6 (-1) 1]else[frL 2 3 2 1,frN])],-1,frX⟩
def frO (b:Bool):Op:=⟨1,b,false,false,false,100,100⟩
def ApT:((Ef (frM false) (frO false)).2=0/\(Ef (frM false) (frO false)).1.Kind=1)/\(Ef (frM false) (frO false)).1.Cycle=-1:=by decide +kernel
def ApS:((Ef (frM true) (frO false)).2=0/\(Ef (frM true) (frO false)).1.Kind=2)/\(Ef (frM true) (frO false)).1.What=1/\(Ef (frM true) (frO false)).1.Err=50:=by decide +kernel
def ApR:((Ef (frM true) (frO true)).2=0/\(Ef (frM true) (frO true)).1.Kind=2)/\(Ef (frM true) (frO true)).1.Trail.length=3:=by decide +kernel
def Jm {α:Type}{P:α->Prop}:([]:List α).length<=1048576/\∀y∈([]:List α),P y:=⟨Ap3 _,λ_ a=>absurd a List.not_mem_nil⟩
def Yg {k a b to:Int}(h1:Ev.wInt .i64 k)(h2:Ev.wInt .i64 a)(h3:Ev.wInt .i64 b)(h4:Ev.wInt .i64 to):HR (frL k a b to):=by
 refine⟨⟨by simp[frL],λy c=>?_⟩,Jm,trivial,trivial,trivial,trivial,trivial⟩;obtain rfl:=Aqp.1 c;exact⟨⟨h1,h2,h3,rfl,Jm,Jm,Ap3 _⟩,h4,rfl⟩
def AfA:HR frN:=⟨Jm,Jm,trivial,trivial,trivial,trivial,trivial⟩
def ApD {x:D.Expr}(h1:Ev.wInt .i64 x.Op)(h2:Ev.wInt .i64 x.N)(h3:Ev.wInt .i64 x.A)(h4:Ev.wInt .i64 x.B)(h5:Ev.wInt .i64 x.C)(h6:JF x.V)(h7:x.Args=[])(a:x.Match=[]):KM x:=⟨h1,h2,h3,h4,h5,h6,by rw[h7];exact Jm,by rw[a];exact Jm⟩
def Amr:∀x∈frX,KM x:=λx a=>by
 simp only[frX,AqI,List.mem_nil_iff,or_false]at a;rcases a with rfl|rfl|rfl|rfl|rfl|rfl|rfl<;>exact ApD rfl rfl rfl rfl rfl ⟨rfl,rfl,rfl,rfl,Jm⟩ rfl rfl
def Ams {l:List D.Loc}(h:l.length<=1048576/\∀y∈l,HR y):Hy (frP l):=⟨Ap3 _,rfl,Jm,Jm,h,rfl,rfl,rfl,rfl,rfl⟩
def Yf {b:Bool}:AI (frM b):=by
 refine⟨⟨by simp[frM],λy a=>?_⟩,⟨by simp[frM],λy a=>?_⟩,Jm,Jm,⟨by simp[frM],λy a=>?_⟩,rfl,⟨by simp[frM,frX],Amr⟩⟩
 .obtain rfl:=Aqp.1 a;exact⟨rfl,trivial⟩
 .obtain rfl:=Aqp.1 a;exact rfl
 .obtain rfl:=Aqp.1 a;refine Ams ?_;cases b with
  | true =>
   refine⟨sM,λy a=>?_⟩;simp only[ApY,AqI,List.mem_nil_iff,or_false]at a;rcases a with rfl|rfl|rfl
   .exact Yg rfl rfl rfl rfl
   .exact AfA
   .exact Yg rfl rfl rfl rfl
  | false =>
   refine⟨sM,λy a=>?_⟩;simp only[ApW,AqI,List.mem_nil_iff,or_false]at a;rcases a with rfl|rfl
   .exact Yg rfl rfl rfl rfl
   .exact AfA
def Lt (o:Op):Op:=bif decide (o.States > 400)then{o with States:=400}else o
def Aaa (r:ByteArray×Int)(m:D.Model)(s:D.State):(fc C9 AH f46 [] (.tup [AN r.1,Aa r.2])).goal (St.init [] [.agg (Ae m),.agg (Ag s)]) =
  (∃(y:Int),VC 70 [VV.agg (Ae m),VV.agg (Ag s)] (Aa y)/\BB (y != 0) (LQ (VV.tup [AN (⟨#[]⟩:ByteArray),Aa y]) (VV.tup [AN r.fst,Aa r.snd])) (∃(y:ByteArray),VC 71 [VV.agg (Ag s)] (AN y)/\LQ (VV.tup [AN y,Aa 0]) (VV.tup [AN r.fst,Aa r.snd]))):=kR
def AeK (b:Bool)(e:Int)(m:D.Model)(s:D.State):(fc C9 AH f47 [] (.tup [Ac b,Aa e])).goal (St.init [] [.agg (Ae m),.agg (Ag s)]) =
  (∃(y:Int),VC 70 [VV.agg (Ae m),VV.agg (Ag s)] (Aa y)/\BB (y != 0) (LQ (VV.tup [Ac false,Aa y]) (VV.tup [Ac b,Aa e])) (((true&&decide (m.Claim>=0)==true)=true->inX m.Claim m.Procs.length)/\LQ (VV.tup [Ac (bif decide (m.Claim>=0)then s.Claim==(m.Procs.getD m.Claim.toNat default).Final else false),Aa 0]) (VV.tup [Ac b,Aa e]))):=kR
def AfP (t:ByteArray)(m:D.Model)(o:Op)(c:Sn)(sl:List Nat)(n:Int)(s:D.State):(fc C9 AH f21 [] (AN t)).goal (St.init [] [.tp (BF m o c sl n),.agg (Ag s)]) =
  (∃(y:ByteArray×Int),VC 46 [VV.agg (Ae m),VV.agg (Ag s)] (VV.tup [AN y.fst,Aa y.snd])/\LQ (AN y.fst) (AN t)):=kR
def Acm (r:Int)(m:D.Model)(o:Op)(c:Sn)(sl:List Nat)(n:Int)(s:D.State):(fc C9 AH f22 [] (Aa r)).goal (St.init [] [.tp (BF m o c sl n),.agg (Ag s)]) =
  (∃(y:Bool×Int),VC 47 [VV.agg (Ae m),VV.agg (Ag s)] (VV.tup (Du y))/\BB y.fst (LQ (Aa 3) (Aa r)) (∃(y:Bool×Int),VC 48 [VV.agg (Ae m),VV.agg (Ag s)] (VV.tup (Du y))/\BB (bif y.fst then !o.Free else false) (LQ (Aa 2) (Aa r)) (LQ (Aa 0) (Aa r)))):=kR
def AiL (r:Fnd)(m:D.Model)(o:Op)(c:Sn)(sl:List Nat)(n:Int)(k w e:Int)(t:List Mv):(fc C9 AH f23 [] (.agg (AF r))).goal (St.init [] [.tp (BF m o c sl n),Aa k,Aa w,Aa e,A6 true t]) =
  (∃(y:Int),VC 49 [VV.tp (Be o.States c.ks c.bs sl)] (Aa y)/\LQ (VV.agg [Aa k,Aa w,Aa e,Aa 0,A6 true t,Aa (-1),Aa y,Aa n]) (VV.agg (AF r))):=kR
def Aeh (b:Bool)(w:List VV)(l:List Nx)(p:Int):(fc C9 AH f52 [] (Ac b)).goal (St.init [] [.tp w,Az false l,Aa p]) =
  (∃(y:Bool),VC 79 [Az false l,VV.fn (Fn.func (nat_lit 81)) [VV.tp [Aa p],VV.tp [VV.tp w]]] (Ac y)/\LQ (Ac y) (Ac b)):=kR
def Aei (b:Bool)(m:D.Model)(o:Op)(c:Sn)(sl:List Nat)(n:Int)(x:Nx)(p:Int):(fc C9 AH f81 [] (Ac b)).goal (St.init [] [.agg (Bf x),.tp [Aa p],.tp [.tp (BF m o c sl n)]]) =
  (BB (x.Move.Pid != p) (LQ (Ac false) (Ac b)) (BB (x.Err != 0) (LQ (Ac true) (Ac b)) (∃(y:ByteArray),VC 21 [VV.tp (BF m o c sl n),VV.agg (Ag x.State)] (AN y)/\∃(a:Int×Bool),VC 26 [VV.tp (Be o.States c.ks c.bs sl),AN y] (VV.tup [Aa a.fst,Ac a.snd])/\∃(y:Int),((true&&(!a.snd)==false&&(!o.Bfs)==true)=true->VC 82 [VV.tp (Be o.States c.ks c.bs sl),Aa a.fst] (BC y))/\LQ (Ac (bif !a.snd then true else bif !o.Bfs then IntKind.u64.wrap (↑(BitVec.ofInt IntKind.u64.bits y &&& BitVec.ofInt IntKind.u64.bits (1:Int)).toNat:Int)==0 else false)) (Ac b)))):=kR
def YG (r:List Nx)(m:D.Model)(o:Op)(c:Sn)(sl:List Nat)(n:Int)(s:D.State):(fc C9 ED f24 [] (Az true r)).goal (St.init [] [.tp (BF m o c sl n),.agg (Ag s)]) =
  (∃(y:List Nx×Int),VC 50 [VV.agg (Ae m),VV.agg (Ag s)] (VV.tup [Az true y.fst,Aa y.snd])/\BB (!o.Reduce) (LQ (Az true y.fst) (Az true r)) (AB (fc C9 ED f24 [] (Az true r)) [1,1,1] (An [(0,VV.tp (BF m o c sl n)),(3,VV.bp 0 0),(5,Az true y.fst)] [Ob.box (Ag s)]))):=kR
def YH (r:List Nx)(m:D.Model)(o:Op)(c:Sn)(sl:List Nat)(n:Int)(s:D.State):(fc Ow ED f24 [] (Az true r)).goal (St.init [] [.tp (BF m o c sl n),.agg (Ag s)]) =
  (∃(y:List Nx×Int),Ah prog 50 [] [VV.agg (Ae m),VV.agg (Ag s)] [Ob.arr true 0 y.fst.length 15 (Bc y.fst)] (VV.tup [VV.ow 0 0 y.fst.length,Aa y.snd])/\BB (!o.Reduce) (LQ (Az true y.fst) (Az true r)) (AB (fc Ow ED f24 [] (Az true r)) [1,1,1] (An [(0,VV.tp (BF m o c sl n)),(3,VV.bp 0 0),(5,VV.ow 1 0 y.fst.length)] [Ob.box (Ag s),Ob.arr true 0 y.fst.length 15 (Bc y.fst)]))):=kR
def VP (r:List Nx)(m:D.Model)(o:Op)(c:Sn)(sl:List Nat)(n:Int)(s:D.State)(l:List Nx):((fc Ow ED f24 [] (Az true r)).cut [1,1,1]).goal (Aow (BF m o c sl n) s l) =
  (∃(y:List Int×Int),VC 51 [VV.agg (Ae m),VV.agg (Ag s),Az false l] (VV.tup [Ad true y.fst,Aa y.snd])/\AB ((fc Ow ED f24 [] (Az true r)).cut [1,1,1]) [1,0,1,0] (An [(0,VV.tp (BF m o c sl n)),(5,VV.ow 0 0 l.length),(37,Ad true y.fst),(38,Aa (↑y.fst.length:Int)),(39,Aa 0)] [Ob.arr true 0 l.length 15 (Bc l)])):=kR
def VO (r:List Nx)(w:List VV)(l:List Nx)(ps:List Int)(k:Int)(J:St->Prop):((fc Ow ED f24 [] (Az true r)).loop [1,1,1,1,0,1,0] J).goal (AjS w l ps k) =
  (BB (decide (k<(↑ps.length:Int))) (inX k ps.length/\∃(y:Bool),VC 52 [VV.tp w,Az false l,Aa (ps.getD k.toNat 0)] (Ac y)/\BB y (∃(y:List Nx×Nat×Int),Ah prog 53 [Ob.arr true 0 l.length 15 (Bc l),Ob.box [Aa (ps.getD k.toNat 0)]] [VV.ow 0 0 l.length,VV.fn (Fn.func (nat_lit 54)) [VV.bp 1 0]] [Ob.arr true 0 y.snd.fst 15 (Gr y.fst),Ob.box [Aa y.snd.snd]] (VV.ow 0 0 y.fst.length)/\LQ (VV.sl true y.fst.length 15 (Gr y.fst)) (Az true r)) (J (An [(0,VV.tp w),(5,VV.ow 0 0 l.length),(37,Ad true ps),(38,Aa (↑ps.length:Int)),(39,Aa (i64.wrap (k+(1:Int))))] [Ob.arr true 0 l.length 15 (Bc l)]))) (LQ (Az true l) (Az true r))):=kR
def Af4 (b:Bool)(x:Nx)(p:Int):(fc C9 AH f54 [] (Ac b)).goal (St.init [] [.agg (Bf x),.tp [Aa p]]) =
  (LQ (Ac (x.Move.Pid != p)) (Ac b)):=kR
def AlH (r:List Nx×Int)(m:D.Model)(s:D.State){a}(b:a=[Ob.arr true 0 r.fst.length 15 (Bc r.fst)]):(BL prog tb Ow AbN false f50 [.arr true 0 r.1.length 15 (Bc r.1)] (.tup [.ow 0 0 r.1.length,Aa r.2])).goal (St.init [] [.agg (Ae m),.agg (Ag s)]) =
  (∃(y:List Nx×Int),Ah prog 74 [] [.agg (Ae m),.agg (Ag s)] [.arr true 0 y.fst.length 15 (Bc y.fst)] (.tup [.ow 0 0 y.fst.length,Aa y.snd])/\BB (bif y.snd != 0 then true else decide (m.Claim<0)) (leO [.arr true 0 y.fst.length 15 (Bc y.fst)] a/\(VV.tup [.ow 0 0 y.fst.length,Aa y.snd]).le (.tup [.ow 0 0 r.fst.length,Aa r.snd])) (AB (BL prog tb Ow AbN false f50 a (.tup [.ow 0 0 r.fst.length,Aa r.snd])) [1,1,1] (An [] []))):=by subst b;kernel_rfl
def Ad7 (r:List Mv)(p:List Pf)(more:List Mv){a}(b:a=(↑p.length:Int)):(fc C9 N7 f28 [] (A6 true r)).goal (St.init [] [Li false p,A6 false more]) =
  (((0:Int)<=(1:Int)/\(1:Int)<=a/\a<=a)/\AB (fc C9 N7 f28 [] (A6 true r)) [1,1,0,1,0] (An [(1,A6 false more),(5,.nl),(9,.sl false (a-(1:Int)).toNat 10 λ(i:Nat)=>G5 p (Int.toNat (1:Int)+i)),(10,Aa (↑(a-(1:Int)).toNat:Int)),(11,Aa 0)] [])):=by subst b;kernel_rfl
def Zy (r:List Mv)(p:List Pf)(more out:List Mv)(k:Int)(J:St->Prop):((fc C9 N7 f28 [] (A6 true r)).loop [1,1,0,1,0] J).goal (Aoy more out p k) =
  (BB (decide (k<(↑p.length:Int))) (inX k p.length/\(out.length+1)*56<=140737488355328/\J (An [(1,A6 false more),(5,VV.ow 0 0 (out.length+1)),(9,Li false p),(10,Aa (↑p.length:Int)),(11,Aa (i64.wrap (k+(1:Int))))] [Ob.arr true 0 (out.length+1) 7 λ(i:Nat)=>bif i.blt out.length then Bz (out.getD i default)else(λ(i:Nat)=>List.take 7 (List.drop (i*7) (Bz (p.getD k.toNat default).by_))) (i-out.length)])) ((out.length+more.length)*56<=140737488355328/\(∀(i:Nat),i<more.length->(Ca more i).all VV.mem1=true)/\LQ (VV.sl true (out.length+more.length) 7 λ(i:Nat)=>bif i.blt out.length then Ca out i else Ca more (i-out.length)) (A6 true r))):=kR
def Ajl (r:List Mv)(l:List Mt)(n:Int)(more:List Mv):(fc C9 IK f25 [] (A6 true r)).goal (St.init [] [I9 false l,Aa n,A6 false more]) =
  (AB (fc C9 IK f25 [] (A6 true r)) [1,1,0,0] (An [(0,I9 false l),(1,Aa n),(2,A6 false more),(7,VV.nl)] [])):=kR
def Aff (r:List Mv)(l:List Mt)(n:Int)(more out:List Mv)(J:St->Prop){a}(b:a=l.getD n.toNat default):((fc C9 IK f25 [] (A6 true r)).loop [1,1,0,0] J).goal (AoE l n more out) =
  (inX n l.length/\BB (decide (a.from_>=0)) (inX n l.length/\(out.length+1)*56<=140737488355328/\inX n l.length/\J (An [(0,I9 false l),(1,Aa a.from_),(2,A6 false more),(7,.ow 0 0 (out.length+1))] [.arr true 0 (out.length+1) 7 λ(i:Nat)=>bif i.blt out.length then Bz (out.getD i default)else(λ(i:Nat)=>List.take 7 (List.drop (i*7) (Bz a.by_))) (i-out.length)])) (AB (fc C9 IK f25 [] (A6 true r)) [1,1,1] (AjZ more out))):=by subst b;kernel_rfl
def AlG (hs':List Ob)(r:VV)(l:List Nx)(p:Int):(BL prog tb Su Lo false f53 hs' (r)).goal (St.init [.arr true 0 l.length 15 (Bc l),.box [Aa p]] [.ow 0 0 l.length,.fn (.func 54) [.bp 1 0]]) =
  (∃(y:Int),VC 83 [Az false l,VV.fn (Fn.func (nat_lit 54)) [VV.tp [Aa p]]] (Aa y)/\BB (y==(-1:Int)) (leO [Ob.arr true 0 l.length 15 (Bc l),Ob.box [Aa p]] hs'/\(VV.ow 0 0 l.length).le r) (AB (BL prog tb Su Lo false f53 hs' r) [1,1,1,0,1,0] (Af1 l p y (i64.wrap (y+(1:Int)))))):=kR
def AiV (hs':List Ob)(r:VV)(l:List Nx)(p i j:Int)(J:St->Prop):((BL prog tb Su Lo false f53 hs' (r)).loop [1,1,1,0,1,0] J).goal (Af1 l p i j) =
  (BB (decide (j<(↑l.length:Int))) (inX j l.length/\∃(y:Bool),VC 54 [VV.agg (Bf (l.getD j.toNat default)),VV.tp [Aa p]] (Ac y)/\BB (!y) (inX i l.length/\J (An [(0,VV.ow 0 0 l.length),(1,VV.fn (Fn.func (nat_lit 54)) [VV.bp 1 0]),(5,Aa (i64.wrap (i+(1:Int)))),(6,Aa (i64.wrap (j+(1:Int))))] [Ob.arr true 0 l.length 15 λ(j_1:Nat)=>bif j_1.beq i.toNat then Bf (l.getD j.toNat default)else Bf (l.getD j_1 default),Ob.box [Aa p]])) (J (Af1 l p i (i64.wrap (j+(1:Int)))))) (AB (BL prog tb Su Lo false f53 hs' r) [1,1,1,1] (AmM l p i))):=kR
def YZ (r:Int)(m:D.Model)(o:Op):(fc C9 AH f8 [] (Aa r)).goal (St.init [] [.agg (Ae m),.agg (Dm o)]) =
  (∃(y:Int×Int×Int),VC 15 [VV.agg (Ae m)] (LK y)/\BB (y.fst != 0) (LQ (Aa y.fst) (Aa r)) (BB (bif bif bif decide (o.States<1)then true else decide (o.States > 20000)then true else decide (o.Depth<1)then true else decide (o.Depth > 20000)) (LQ (Aa 42) (Aa r)) (BB (bif o.Mode != 1 then true else o.Fair) (LQ (Aa 44) (Aa r)) (BB o.Reduce (∃(y:Int),VC 16 [VV.agg (Ae m)] (Aa y)/\LQ (Aa y) (Aa r)) (LQ (Aa 0) (Aa r)))))):=kR
def Adf (r:Fnd×Int)(m:D.Model)(o:Op){a}(d:a=VV.tup [VV.agg (AF r.fst),Aa r.snd]){b}(e:b=BS (0:Int)):(fc C9 Ln f6 [] (.tup [.agg (AF r.1),Aa r.2])).goal (St.init [] [.agg (Ae m),.agg (Dm o)]) =
  (∃(y:Int),VC 8 [.agg (Ae m),.agg (Dm o)] (Aa y)/\BB (y != 0) (LQ (.tup [.agg b,Aa y]) a) (∃(y:D.State×Int),VC 9 [.agg (Ae m)] (.tup [.agg (Ag y.fst),Aa y.snd])/\BB (y.snd != 0) (LQ (.tup [.agg b,Aa y.snd]) a) (∃(c:Int),Ah prog 10 [] [Aa o.States] (AbA c) (.tup [.bp 0 0,Aa 0])/\BB false (LQ (.tup [.agg b,Aa 0]) a) (AB (fc C9 Ln f6 [] a) [1,1,1,1,1,1] (An [(2,.bp 0 0),(3,.bp 1 0),(4,.bp 2 0),(7,.bp 3 0),(9,.bp 4 0)] [.box (Ae m),.box (Dm o),.box b,.box (Ag y.fst),.box [Aa c,.nl,.nl,.ow 5 0 16],.arr true 0 16 1 λ(_:Nat)=>[Aa 0]]))))):=by subst d e;kernel_rfl
def YW (r:Fnd×Int)(m:D.Model)(o:Op)(s:D.State){a}(b:a=[Ob.box (Ej m o (0:Int)),Ob.box [Aa o.States,VV.ow 2 0 0,VV.ow 3 0 0,VV.ow 4 0 16],Ob.arr true 0 0 1 (Cj []),Ob.arr true 0 0 1 (Dh []),Ob.arr true 0 16 1 (B5 (List.replicate 16 0))]){c}(d:c=VV.tup [VV.agg (AF r.fst),Aa r.snd]):((fc C9 Ln f6 [] (.tup [.agg (AF r.1),Aa r.2])).cut [1,1,1,1,1,1]).goal (ApJ m o s) =
  (BB o.Bfs (∃(y:Fnd),Ah prog 11 a [.bp 0 0,.agg (Ag s)] (Ly y.N) (.agg (AF y))/\LQ (.tup [.agg (AF y),Aa 0]) c) (∃(y:Fnd),Ah prog 12 a [.bp 0 0,.agg (Ag s)] (Ly y.N) (.agg (AF y))/\LQ (.tup [.agg (AF y),Aa 0]) c)):=by subst b d;kernel_rfl
def AlE (hs':List Ob)(r:Fnd)(m:D.Model)(o:Op)(c:Sn)(sl:List Nat)(n:Int)(s:D.State):(fc C9 GO f12 hs' (.agg (AF r))).goal (St.init (Jy m o c sl n) [.bp 0 0,.agg (Ag s)]) =
  (AB (fc C9 GO f12 hs' (VV.agg (AF r))) [1] (An [(0,VV.bp 0 0),(3,VV.bp 5 0),(4,VV.bp 6 0),(5,VV.dead),(6,VV.dead)] [Ob.box (Ej m o n),Ob.box (Nb o.States c sl),Ob.arr true 0 c.ks.length 1 (Cj c.ks),Ob.arr true 0 c.bs.length 1 (Dh c.bs),Ob.arr true 0 sl.length 1 (B5 sl),Ob.box (Ag s),Ob.box (BS (0:Int))])):=kR
def AiQ (hs':List Ob)(r:Fnd)(m:D.Model)(o:Op)(c:Sn)(sl:List Nat)(n:Int)(s:D.State)(J:Nat->St->Prop):((fc C9 GO f12 hs' (.agg (AF r))).firsts [1] J).goal (An [(0,.bp 0 0),(3,.bp 5 0),(4,.bp 6 0),(5,.dead),(6,.dead)] (Jy m o c sl n++[.box (Ag s),.box (BS 0)])) =
  (AB ((fc C9 GO f12 hs' (VV.agg (AF r))).firsts [1] J) [1,1] (An [(0,VV.bp 0 0),(3,VV.bp 5 0),(4,VV.bp 6 0),(5,VV.nl),(6,VV.bp 7 0)] [Ob.box (Ej m o n),Ob.box (Nb o.States c sl),Ob.arr true 0 c.ks.length 1 (Cj c.ks),Ob.arr true 0 c.bs.length 1 (Dh c.bs),Ob.arr true 0 sl.length 1 (B5 sl),Ob.box (Ag s),Ob.box (BS (0:Int)),Ob.box [Aa 0,Aa 0,Aa 0,Aa 0,Aa 0,Aa 0,Aa 0]])):=kR
def AiR (hs':List Ob)(r:Fnd)(m:D.Model)(o:Op)(c:Sn)(sl:List Nat)(n:Int)(s:D.State)(q:List Pf)(k:Nat)(v:Mv)(J:Nat->St->Prop){l}(p:l=λ(a:So×Int×Bool×Int)=>λ(i:Nat)=>bif i.blt k then Ek (q.getD i default)else(λ(i:Nat)=>List.take 10 (List.drop (i*10) (Aa a.snd.fst::VV.nl::Aa 0::Bz v))) (i-k)){t}(u:t=λ(a:So×Int×Bool×Int)=>[Ob.box (Ej m o n),Ob.box [Aa a.fst.most,VV.ow 2 0 a.fst.ks.length,VV.ow 3 0 a.fst.bs.length,VV.ow 4 0 a.fst.sl.length],Ob.arr true 0 a.fst.ks.length 1 (Cj a.fst.ks),Ob.arr true 0 a.fst.bs.length 1 (Dh a.fst.bs),Ob.arr true 0 a.fst.sl.length 1 (B5 a.fst.sl)]){f}(w:f=i64.wrap ((↑(k+1):Int)-(1:Int))){g}(x:g=VV.agg (AF r)){z}(A:z=(fc C9 GO f12 hs' g).passes [1] 0 J){e}(B:e=Ag s):((fc C9 GO f12 hs' (.agg (AF r))).passes [1] 0 J).goal (YE m o c sl n s q k v) =
  (∃(y:ByteArray),VC 21 [.tp (BF m o c sl n),.agg e] (AN y)/\∃(a:So×Int×Bool×Int),Ah prog 20 (Cu o.States c.ks c.bs sl) [.bp 0 0,AN y] (Cu a.fst.most a.fst.ks a.fst.bs a.fst.sl) (.tup (Aa a.snd.fst::Du a.snd.snd))/\BB (bif a.snd.snd.snd != 0 then true else bif a.snd.snd.fst then(↑k:Int)==o.Depth else false) (∃(y:Fnd),VC 23 [.tp (AG true m.Globals::Ad true m.Init::AJ true m.Shapes::Ad true m.Chans::AD true m.Procs::Aa m.Claim::AS true m.Exprs::Aa o.Mode::Ac o.Bfs::Ac o.Reduce::Ac o.Fair::Ac o.Free::Aa o.States::Aa o.Depth::.tp (Be a.fst.most a.fst.ks a.fst.bs a.fst.sl)::BS n),Aa 3,Aa 0,Aa 0,.nl] (.agg (AF y))/\BB (a.snd.snd.snd==0) (leO (t a) hs'/\(VV.agg [Aa y.Kind,Aa y.What,Aa y.Err,Aa 0,A6 true y.Trail,Aa y.Cycle,Aa (i64.wrap (y.States-(1:Int))),Aa y.Steps]).le g) (leO (t a) hs'/\(VV.agg (AF y)).le g)) (BB a.snd.snd.fst (∃(y:So×Int),Ah prog 27 (Cu a.fst.most a.fst.ks a.fst.bs a.fst.sl) [.bp 0 0,Aa a.snd.fst,BC (1:Int)] (Cu y.fst.most y.fst.ks y.fst.bs y.fst.sl) (Aa y.snd)/\(k+1)*96<=140737488355328/\∃(d:Int),VC 22 [.tp (AG true m.Globals::Ad true m.Init::AJ true m.Shapes::Ad true m.Chans::AD true m.Procs::Aa m.Claim::AS true m.Exprs::Aa o.Mode::Ac o.Bfs::Ac o.Reduce::Ac o.Fair::Ac o.Free::Aa o.States::Aa o.Depth::.tp (Be y.fst.most y.fst.ks y.fst.bs y.fst.sl)::BS n),.agg e] (Aa d)/\BB (decide (d > 0)) (∃(b:List Mv),VC 28 [.sl false (k+1) 10 λ(i:Nat)=>bif i.blt k then Ek (q.getD i default)else(λ(i:Nat)=>List.take 10 (List.drop (i*10) (Aa a.snd.fst::.nl::Aa 0::Bz v))) (i-k),.nl] (A6 true b)/\∃(h:Fnd),VC 23 [.tp (AG true m.Globals::Ad true m.Init::AJ true m.Shapes::Ad true m.Chans::AD true m.Procs::Aa m.Claim::AS true m.Exprs::Aa o.Mode::Ac o.Bfs::Ac o.Reduce::Ac o.Fair::Ac o.Free::Aa o.States::Aa o.Depth::.tp (Be y.fst.most y.fst.ks y.fst.bs y.fst.sl)::BS n),Aa 2,Aa d,Aa 0,A6 true b] (.agg (AF h))/\leO [.box (Ej m o n),.box [Aa y.fst.most,.ow 2 0 y.fst.ks.length,.ow 3 0 y.fst.bs.length,.ow 4 0 y.fst.sl.length],.arr true 0 y.fst.ks.length 1 (Cj y.fst.ks),.arr true 0 y.fst.bs.length 1 (Dh y.fst.bs),.arr true 0 y.fst.sl.length 1 (B5 y.fst.sl)] hs'/\(VV.agg (AF h)).le g) (∃(b:List Nx),VC 24 [.tp (AG true m.Globals::Ad true m.Init::AJ true m.Shapes::Ad true m.Chans::AD true m.Procs::Aa m.Claim::AS true m.Exprs::Aa o.Mode::Ac o.Bfs::Ac o.Reduce::Ac o.Fair::Ac o.Free::Aa o.States::Aa o.Depth::.tp (Be y.fst.most y.fst.ks y.fst.bs y.fst.sl)::BS n),.agg e] (Az true b)/\inX f (k+1)/\AB z [1,1,1,1] (An [(0,.bp 0 0),(3,.bp 5 0),(4,.bp 6 0),(5,.ow 7 0 (k+1)),(6,.bp 8 0)] [.box (Ej m o n),.box [Aa y.fst.most,.ow 2 0 y.fst.ks.length,.ow 3 0 y.fst.bs.length,.ow 4 0 y.fst.sl.length],.arr true 0 y.fst.ks.length 1 (Cj y.fst.ks),.arr true 0 y.fst.bs.length 1 (Dh y.fst.bs),.arr true 0 y.fst.sl.length 1 (B5 y.fst.sl),.box e,.box (BS (0:Int)),.arr true 0 (k+1) 10 λ(j:Nat)=>bif j.beq f.toNat then bif Nat.beq 1 10 then[Az true b]else List.take 1 ((l a) f.toNat)++[Az true b]++List.drop 2 ((l a) f.toNat)else(l a) j,.box (Bz v)]))) (AB z [1,1,1,1] (An [(0,.bp 0 0),(3,.bp 5 0),(4,.bp 6 0),(5,.ow 7 0 k),(6,.bp 8 0)] [.box (Ej m o n),.box [Aa a.fst.most,.ow 2 0 a.fst.ks.length,.ow 3 0 a.fst.bs.length,.ow 4 0 a.fst.sl.length],.arr true 0 a.fst.ks.length 1 (Cj a.fst.ks),.arr true 0 a.fst.bs.length 1 (Dh a.fst.bs),.arr true 0 a.fst.sl.length 1 (B5 a.fst.sl),.box e,.box (BS (0:Int)),.arr true 0 q.length 10 (G5 q),.box (Bz v)])))):=by subst p u w x A B;kernel_rfl
def Xp (hs':List Ob)(r:Fnd)(m:D.Model)(o:Op)(c:Sn)(sl:List Nat)(n:Int)(s:D.State)(q:List Pf)(k:Nat)(v:Mv)(J:Nat->St->Prop){a}(g:a=q.getD (i64.wrap ((↑k:Int)-(1:Int))).toNat default){b}(h:b=a.list.getD (↑a.at_:Int).toNat default){d}(l:d=i64.wrap ((↑k:Int)-(1:Int))){f}(p:f=i64.wrap (n+(1:Int))){t}(u:t=i64.wrap ((↑a.at_:Int)+(1:Int))):((fc C9 GO f12 hs' (.agg (AF r))).passes [1] 1 J).goal (YE m o c sl n s q k v) =
  (BB ((↑k:Int)==0) (∃(y:Fnd),VC 23 [.tp (BF m o c sl n),Aa 1,Aa 0,Aa 0,.nl] (.agg (AF y))/\leO (Jy m o c sl n) hs'/\(VV.agg (AF y)).le (.agg (AF r))) (inX d k/\BB ((↑a.at_:Int)==(↑a.list.length:Int)) (∃(y:So×Int),Ah prog 29 (Cu o.States c.ks c.bs sl) [.bp 0 0,Aa (↑a.n:Int),BC (1:Int)] (Cu y.fst.most y.fst.ks y.fst.bs y.fst.sl) (Aa y.snd)/\((0:Int)<=i64.wrap ((↑k:Int)-(1:Int))/\i64.wrap ((↑k:Int)-(1:Int))<=(↑k:Int))/\J 1 (An [(0,.bp 0 0),(3,.bp 5 0),(4,.bp 6 0),(5,.ow 7 0 d.toNat),(6,.bp 8 0)] [.box (Ej m o n),.box [Aa y.fst.most,.ow 2 0 y.fst.ks.length,.ow 3 0 y.fst.bs.length,.ow 4 0 y.fst.sl.length],.arr true 0 y.fst.ks.length 1 (Cj y.fst.ks),.arr true 0 y.fst.bs.length 1 (Dh y.fst.bs),.arr true 0 y.fst.sl.length 1 (B5 y.fst.sl),.box (Ag s),.box (BS (0:Int)),.arr true 0 q.length 10 (G5 q),.box (Bz v)])) (inX (↑a.at_:Int) a.list.length/\BB (b.Err != 0) (∃(y:List Mv),VC 28 [.sl false k 10 λ(j:Nat)=>bif j.beq d.toNat then Aa (↑a.n:Int)::Az true a.list::Aa t::Bz a.by_ else Ek (q.getD j default),.sl false 1 7 λ(i:Nat)=>List.take 7 (List.drop (i*7) (Bz b.Move))] (A6 true y)/\∃(e:Fnd),VC 23 [.tp (BF m o c sl f),Aa 2,Aa 1,Aa b.Err,A6 true y] (.agg (AF e))/\leO (Jy m o c sl f) hs'/\(VV.agg (AF e)).le (.agg (AF r))) (J 0 (An [(0,.bp 0 0),(3,.bp 5 0),(4,.bp 6 0),(5,.ow 7 0 k),(6,.bp 8 0)] [.box (Ej m o f),.box (Nb o.States c sl),.arr true 0 c.ks.length 1 (Cj c.ks),.arr true 0 c.bs.length 1 (Dh c.bs),.arr true 0 sl.length 1 (B5 sl),.box (Ag b.State),.box (BS (0:Int)),.arr true 0 q.length 10 λ(j:Nat)=>bif j.beq d.toNat then Aa (↑a.n:Int)::Az true a.list::Aa t::Bz a.by_ else Ek (q.getD j default),.box (Bz b.Move)]))))):=by subst g h l p u;kernel_rfl
def AlN (hs':List Ob)(r:Fnd)(m:D.Model)(o:Op)(c:Sn)(sl:List Nat)(n:Int)(s:D.State){d}(e:d=λ(a:So×Int×Bool×Int)=>AG true m.Globals::Ad true m.Init::AJ true m.Shapes::Ad true m.Chans::AD true m.Procs::Aa m.Claim::AS true m.Exprs::Aa o.Mode::Ac o.Bfs::Ac o.Reduce::Ac o.Fair::Ac o.Free::Aa o.States::Aa o.Depth::VV.tp (Be a.fst.most a.fst.ks a.fst.bs a.fst.sl)::BS n){f}(g:f=λ(a:So×Int×Bool×Int)=>[Aa a.fst.most,VV.ow 2 0 a.fst.ks.length,VV.ow 3 0 a.fst.bs.length,VV.ow 4 0 a.fst.sl.length]):(fc C9 Lp f11 hs' (.agg (AF r))).goal (St.init (Jy m o c sl n) [.bp 0 0,.agg (Ag s)]) =
  (∃(y:ByteArray),VC 21 [.tp (BF m o c sl n),.agg (Ag s)] (AN y)/\∃(a:So×Int×Bool×Int),Ah prog 20 (Cu o.States c.ks c.bs sl) [.bp 0 0,AN y] (Cu a.fst.most a.fst.ks a.fst.bs a.fst.sl) (.tup (Aa a.snd.fst::Du a.snd.snd))/\∃(y:Int),VC 22 [.tp (d a),.agg (Ag s)] (Aa y)/\BB (decide (y > 0)) (∃(b:Fnd),VC 23 [.tp (d a),Aa 2,Aa y,Aa 0,.nl] (.agg (AF b))/\leO [.box (Ej m o n),.box (f a),.arr true 0 a.fst.ks.length 1 (Cj a.fst.ks),.arr true 0 a.fst.bs.length 1 (Dh a.fst.bs),.arr true 0 a.fst.sl.length 1 (B5 a.fst.sl)] hs'/\(VV.agg (AF b)).le (.agg (AF r))) (AB (fc C9 Lp f11 hs' (.agg (AF r))) [1,1,1,1,0,1,0] (An [(0,.bp 0 0),(4,.bp 5 0),(5,.ow 6 0 1),(7,Aa 0)] [.box (Ej m o n),.box (f a),.arr true 0 a.fst.ks.length 1 (Cj a.fst.ks),.arr true 0 a.fst.bs.length 1 (Dh a.fst.bs),.arr true 0 a.fst.sl.length 1 (B5 a.fst.sl),.box (BS (0:Int)),.arr true 0 1 15 λ(i:Nat)=>List.take 15 (List.drop (i*15) [Ad true s.Globals,AK true s.Chans,Av true s.Procs,Aa s.Last,Aa s.Alone,Aa s.Claim,Aa (-1),Aa 0,Aa 0,Aa 0,Aa 0,Aa 0,Aa 0,Aa 0,Aa 0])]))):=by subst e g;kernel_rfl
def Aji (hs':List Ob)(r:Fnd)(m:D.Model)(o:Op)(c:Sn)(sl:List Nat)(n:Int)(q:List Mt)(k:Int)(J:St->Prop):((fc C9 Lp f11 hs' (.agg (AF r))).loop [1,1,1,1,0,1,0] J).goal (AjY m o c sl n q k) =
  (BB (decide (k<(↑q.length:Int))) (inX k q.length/\∃(y:List Nx),VC 24 [VV.tp (BF m o c sl n),VV.agg (Ag (q.getD k.toNat default).s)] (Az true y)/\AB ((fc C9 Lp f11 hs' (VV.agg (AF r))).loop [1,1,1,1,0,1,0] J) [1,0,0,1,0] (YF m o c sl n q k y (0:Int))) (∃(y:Fnd),VC 23 [VV.tp (BF m o c sl n),Aa 1,Aa 0,Aa 0,VV.nl] (VV.agg (AF y))/\leO (Jy m o c sl n) hs'/\(VV.agg (AF y)).le (VV.agg (AF r)))):=kR
def Ajh (hs':List Ob)(r:Fnd)(m:D.Model)(o:Op)(c:Sn)(sl:List Nat)(n:Int)(q:List Mt)(k:Int)(l:List Nx)(j:Int)(J J2:St->Prop){s}(t:s=λ(a:So×Int×Bool×Int)=>AG true m.Globals::Ad true m.Init::AJ true m.Shapes::Ad true m.Chans::AD true m.Procs::Aa m.Claim::AS true m.Exprs::Aa o.Mode::Ac o.Bfs::Ac o.Reduce::Ac o.Fair::Ac o.Free::Aa o.States::Aa o.Depth::VV.tp (Be a.fst.most a.fst.ks a.fst.bs a.fst.sl)::BS (i64.wrap (n+(1:Int)))){u}(v:u=(λ(i:Nat)=>List.take 15 (List.drop (i*15) [Ad true (l.getD j.toNat default).State.Globals,AK true (l.getD j.toNat default).State.Chans,Av true (l.getD j.toNat default).State.Procs,Aa (l.getD j.toNat default).State.Last,Aa (l.getD j.toNat default).State.Alone,Aa (l.getD j.toNat default).State.Claim,Aa k,Aa (l.getD j.toNat default).Move.Pid,Aa (l.getD j.toNat default).Move.Esc,Aa (l.getD j.toNat default).Move.Way,Aa (l.getD j.toNat default).Move.With,Aa (l.getD j.toNat default).Move.WithEsc,Aa (l.getD j.toNat default).Move.WithWay,Aa (l.getD j.toNat default).Move.Claim,Aa (i64.wrap ((q.getD k.toNat default).deep+(1:Int)))]))){w}(x:w=λ(a:So×Int×Bool×Int)=>[Ob.box (Ej m o (i64.wrap (n+(1:Int)))),Ob.box [Aa a.fst.most,VV.ow 2 0 a.fst.ks.length,VV.ow 3 0 a.fst.bs.length,VV.ow 4 0 a.fst.sl.length],Ob.arr true 0 a.fst.ks.length 1 (Cj a.fst.ks),Ob.arr true 0 a.fst.bs.length 1 (Dh a.fst.bs),Ob.arr true 0 a.fst.sl.length 1 (B5 a.fst.sl)]){d}(z:d=i64.wrap (n+(1:Int))){e}(A:e=l.getD j.toNat default){g}(B:g=VV.agg (AF r)){f}(C:f=(q.length+1)):(((fc C9 Lp f11 hs' (.agg (AF r))).loop [1,1,1,1,0,1,0] J).loop [1,0,0,1,0] J2).goal (YF m o c sl n q k l j) =
  (BB (decide (j<(↑l.length:Int))) (inX j l.length/\BB (e.Err != 0) (∃(y:List Mv),VC 25 [I9 false q,Aa k,.sl false 1 7 λ(i:Nat)=>List.take 7 (List.drop (i*7) (Bz e.Move))] (A6 true y)/\∃(b:Fnd),VC 23 [.tp (BF m o c sl d),Aa 2,Aa 1,Aa e.Err,A6 true y] (.agg (AF b))/\leO (Jy m o c sl d) hs'/\(VV.agg (AF b)).le g) (∃(y:ByteArray),VC 21 [.tp (BF m o c sl d),.agg (Ag e.State)] (AN y)/\∃(b:Int×Bool),VC 26 [.tp (Be o.States c.ks c.bs sl),AN y] (.tup [Aa b.fst,Ac b.snd])/\BB b.snd (J2 (YF m o c sl d q k l (i64.wrap (j+(1:Int))))) (inX k q.length/\BB (decide (i64.wrap ((q.getD k.toNat default).deep+(1:Int))>=o.Depth)) (∃(y:Fnd),VC 23 [.tp (BF m o c sl d),Aa 3,Aa 0,Aa 0,.nl] (.agg (AF y))/\leO (Jy m o c sl d) hs'/\(VV.agg (AF y)).le g) (∃(a:So×Int×Bool×Int),Ah prog 20 (Cu o.States c.ks c.bs sl) [.bp 0 0,AN y] (Cu a.fst.most a.fst.ks a.fst.bs a.fst.sl) (.tup (Aa a.snd.fst::Du a.snd.snd))/\BB (a.snd.snd.snd != 0) (∃(y:Fnd),VC 23 [.tp (s a),Aa 3,Aa 0,Aa 0,.nl] (.agg (AF y))/\leO (w a) hs'/\(VV.agg (AF y)).le g) (inX k q.length/\f*168<=140737488355328/\∃(y:Int),VC 22 [.tp (s a),.agg (Ag e.State)] (Aa y)/\BB (decide (y > 0)) (∃(h:List Mv),VC 25 [.sl false f 15 λ(i:Nat)=>bif i.blt q.length then H5 (q.getD i default)else u (i-q.length),Aa (i64.wrap ((↑f:Int)-(1:Int))),.nl] (A6 true h)/\∃(p:Fnd),VC 23 [.tp (s a),Aa 2,Aa y,Aa 0,A6 true h] (.agg (AF p))/\leO (w a) hs'/\(VV.agg (AF p)).le g) (J2 (An [(0,.bp 0 0),(4,.bp 5 0),(5,.ow 6 0 f),(7,Aa k),(48,Az true l),(49,Aa (↑l.length:Int)),(50,Aa (i64.wrap (j+(1:Int))))] [.box (Ej m o d),.box [Aa a.fst.most,.ow 2 0 a.fst.ks.length,.ow 3 0 a.fst.bs.length,.ow 4 0 a.fst.sl.length],.arr true 0 a.fst.ks.length 1 (Cj a.fst.ks),.arr true 0 a.fst.bs.length 1 (Dh a.fst.bs),.arr true 0 a.fst.sl.length 1 (B5 a.fst.sl),.box (BS (0:Int)),.arr true 0 f 15 λ(i:Nat)=>bif i.blt q.length then H5 (q.getD i default)else u (i-q.length)]))))))) (J (AjY m o c sl n q (i64.wrap (k+(1:Int)))))):=by subst t v x z A B C;kernel_rfl
def AjQ (b:Bool)(r:Int)(m:D.Model)(s:D.State):(fc BR GN f48 [] (.tup [Ac b,Aa r])).goal (St.init [] [.agg (Ae m),.agg (Ag s)]) =
  (∃(y:Int),VC 70 [VV.agg (Ae m),VV.agg (Ag s)] (Aa y)/\BB (y != 0) (LQ (VV.tup [Ac false,Aa y]) (VV.tup [Ac b,Aa r])) (∃(y:D.Model×D.State),Ah prog 72 [] [VV.agg (Ae m),VV.agg (Ag s)] [Ob.box (Ae y.fst),Ob.box (Ag y.snd)] (VV.fn (Fn.func (nat_lit 102)) [VV.bp 0 0,VV.bp 1 0])/\AB (fc BR GN f48 [] (VV.tup [Ac b,Aa r])) [1,1,0,1] (An [(2,VV.bp 0 0),(3,VV.bp 1 0),(4,VV.bp 2 0),(5,VV.bp 3 0),(19,VV.fn (Fn.func (nat_lit 102)) [VV.bp 4 0,VV.bp 5 0])] [Ob.box (Ae m),Ob.box (Ag s),Ob.box [Ac false],Ob.box [Aa 0],Ob.box (Ae y.fst),Ob.box (Ag y.snd)]))):=kR
def VE (b:Bool)(r:Int)(m:D.Model)(s:D.State)(e:D.Env)(w:Wy)(hs2:List Ob):((fc BR GN f48 [] (.tup [Ac b,Aa r])).rg [1,1,0,1] 4 Abw hs2).goal (An ([(20,.agg (Ai e)),(21,.agg (A9 w))]++Abw) (WY m s)) =
  (LQ (VV.tup [Ac false,Aa 0]) (VV.tup [Ac b,Aa r])):=kR
def AfW (b:Bool)(r:Int)(m:D.Model)(s:D.State):((fc BR GN f48 [] (.tup [Ac b,Aa r])).after [1,1,0,1]).goal (An Abw (WY m s)) =
  (AB (fc BR GN f48 [] (VV.tup [Ac b,Aa r])) [1,1,1,0,1,0] (AaQ m s (0:Int))):=kR
def AfV (b:Bool)(r:Int)(m:D.Model)(s:D.State)(i:Int)(J:St->Prop){a}(c:a=s.Procs.getD i.toNat default):((fc BR GN f48 [] (.tup [Ac b,Aa r])).loop [1,1,1,0,1,0] J).goal (AaQ m s i) =
  (BB (decide (i<(↑s.Procs.length:Int))) (inX i s.Procs.length/\∃(y:D.Loc×Bool),VC 73 [.agg (Ae m),.agg (Ag s),Aa i] (.tup [.agg (AT y.fst),Ac y.snd])/\inX a.Type_ m.Procs.length/\BB (bif a.Loc != (m.Procs.getD a.Type_.toNat default).Final then !y.fst.End else false) (LQ (.tup [Ac true,Aa 0]) (.tup [Ac b,Aa r])) (J (AaQ m s (i64.wrap (i+(1:Int)))))) (LQ (.tup [Ac false,Aa 0]) (.tup [Ac b,Aa r]))):=by subst c;kernel_rfl
def AgO (l:List Mv)(J:VV->VV->VV->Ob->Nat->Prop)(F:Ob->Nat->Prop):(Ctx.line (fc C9 UV f55 [] (.tup [])) [0] (Amg J F)).goal (St.init [.arr true 0 l.length 7 (Ca l)] [.ow 0 0 l.length]) =
  (J (VV.ow 0 0 l.length) (Aa 0) (Aa (i64.wrap ((↑l.length:Int)-(1:Int)))) (Ob.arr true 0 l.length 7 (Ca l)) 1):=kR
def AgN (l:List Mv)(i j:Int)(J:VV->VV->VV->Ob->Nat->Prop)(F:Ob->Nat->Prop):(Ctx.line (fc C9 UV f55 [] (.tup [])) [1,0,0] (Amg J F)).goal (AmI l i j) =
  (BB (decide (i<j)) (inX j l.length/\inX i l.length/\inX i l.length/\inX j l.length/\J (VV.ow 0 0 l.length) (Aa (i64.wrap (i+(1:Int)))) (Aa (i64.wrap (j-(1:Int)))) (Ob.arr true 0 l.length 7 λ(j_1:Nat)=>bif j_1.beq j.toNat then Bz (l.getD i.toNat default)else(λ(j_2:Nat)=>bif j_2.beq i.toNat then Bz (l.getD j.toNat default)else Bz (l.getD j_2 default)) j_1) 1) (F (Ob.arr true 0 l.length 7 (Ca l)) 1)):=kR
def Afe (r:List Mv)(more out:List Mv):((fc C9 IK f25 [] (A6 true r)).cut [1,1,1,1]).goal (AjZ more out) =
  ((out.length+more.length)*56<=140737488355328/\(∀(i:Nat),i<more.length->(Ca more i).all VV.mem1=true)/\LQ (VV.sl true (out.length+more.length) 7 λ(i:Nat)=>bif i.blt out.length then Ca out i else Ca more (i-out.length)) (A6 true r)):=kR
def AiU (hs':List Ob)(r:VV)(n:Nat)(l:List Nx)(p:Int):((BL prog tb Su Lo false f53 hs' (r)).cut [1,1,1,1,1]).goal (AmL n l p) =
  (((0:Int)<=(↑l.length:Int)/\(↑l.length:Int)<=(↑n:Int))/\leO [Ob.arr true 0 n 15 (Gr l),Ob.box [Aa p]] hs'/\(VV.ow 0 0 (↑l.length:Int).toNat).le r):=kR
end Go.Proofs.YtedfjceonnoifaaGreatDoor
namespace Go.Proofs.YtedfjceonnoifaaGreatDoor
open Go.RowKit Go.Proofs.Tryz
open IntKind(i64)
def Agm (r:D.State)(e:Int)(m:D.Model){a}(b:a=[VV.nl,VV.nl,VV.nl,Aa 0,Aa 0,Aa 0]):(fc BR Gk f9 [] (.tup [.agg (Ag r),Aa e])).goal (St.init [] [.agg (Ae m)]) =
  (∃(y:Bool),VC 17 [.agg (Ae m)] (Ac y)/\BB (!y) (LQ (.tup [.agg a,Aa 40]) (.tup [.agg (Ag r),Aa e])) (∃(y:List Int),VC 18 [Ad true m.Init] (Ad true y)/\AB (fc BR Gk f9 [] (.tup [.agg (Ag r),Aa e])) [1,1,1,0,1,0] (An [(1,.bp 0 0),(2,.bp 1 0),(4,.bp 2 0),(18,Ad true m.Chans),(19,Aa (↑m.Chans.length:Int)),(20,Aa 0)] [.box (Ae m),.box a,.box [Ad true y,.nl,.nl,Aa 0,Aa (-1),Aa (-1)]]))):=by subst b;kernel_rfl
def Akx (r:D.Loc×Bool)(m:D.Model)(s:D.State)(pid:Int){z1}(a:z1=s.Procs.getD pid.toNat default){z2}(b:z2=VV.tup [VV.agg (AT r.fst),Ac r.snd]):(fc BR AH f73 [] (.tup [.agg (AT r.1),Ac r.2])).goal (St.init [] [.agg (Ae m),.agg (Ag s),Aa pid]) =
  (BB (bif decide (pid<0)then true else decide (pid>=(↑s.Procs.length:Int))) (LQ (.tup [.agg [.nl,.nl,Ac false,Ac false,Ac false,Ac false,Ac false],Ac false]) z2) (inX pid s.Procs.length/\inX z1.Type_ m.Procs.length/\inX pid s.Procs.length/\inX z1.Loc (m.Procs.getD z1.Type_.toNat default).Locs.length/\LQ (.tup [.agg (AT ((m.Procs.getD z1.Type_.toNat default).Locs.getD z1.Loc.toNat default)),Ac true]) z2)):=by subst a b;kernel_rfl
def Aj1 (r:D.State×ByteArray×Int)(m:D.Model)(s:D.State)(pid:Int):(fc BR Nm f123 [] (.tup [.agg (Ag r.1),AN r.2.1,Aa r.2.2])).goal (St.init [] [.agg (Ae m),.agg (Ag s),Aa pid]) =
  (AB (fc BR Nm f123 [] (VV.tup [VV.agg (Ag r.fst),AN r.snd.fst,Aa r.snd.snd])) [1,1,1,0] (AcQ m s pid (⟨#[]⟩:ByteArray) (0:Int))):=kR
def Af3 (r:Nx)(e:D.Env)(w:Wy){c}(d:c=[Aa e.Pid,Aa w.Esc,Aa w.Way,Aa w.With,Aa w.WithEsc,Aa w.WithWay,Aa (-1),VV.nl,VV.nl,VV.nl,Aa 0,Aa 0,Aa 0,Aa 0,AN ByteArray.empty]){f}(g:f=[Aa 0,Aa 0,Aa 0,Aa 0,Aa 0,Aa 0,Aa 0,VV.nl,VV.nl,VV.nl,Aa 0,Aa 0,Aa 0,Aa 0,AN ByteArray.empty]){b}(h:b=VV.agg (Bf r)):(fc BR KE f105 [] (.agg (Bf r))).goal (St.init [] [.agg (Ai e),.agg (A9 w)]) =
  (∃(y:D.State×ByteArray×Int),VC 122 [.agg (Ai e),.agg (A9 w)] (.tup [.agg (Ag y.fst),AN y.snd.fst,Aa y.snd.snd])/\BB (y.snd.snd==0) (∃(a:D.State×ByteArray×Int),VC 123 [.agg (Ae e.M),.agg (Ag y.fst),Aa e.Pid] (.tup [.agg (Ag a.fst),AN a.snd.fst,Aa a.snd.snd])/\(↑(y.snd.fst.size+a.snd.fst.size):Int)<=(9223372036854775807:Int)/\BB (a.snd.snd != 0) (LQ (.agg [Aa e.Pid,Aa w.Esc,Aa w.Way,Aa w.With,Aa w.WithEsc,Aa w.WithWay,Aa (-1),.nl,.nl,.nl,Aa 0,Aa 0,Aa 0,Aa a.snd.snd,AN ByteArray.empty]) b) (AB (fc BR KE f105 [] b) [1,1,1,1,1,1,0,1,0] (An [(2,.bp 0 0),(4,.bp 1 0),(5,.bp 2 0),(6,.bp 3 0),(7,AN (y.snd.fst++a.snd.fst)),(60,.ow 4 0 2),(61,Aa (↑2:Int)),(62,Aa 0)] [.box (Ai e),.box f,.box c,.box [Ad true a.fst.Globals,AK true a.fst.Chans,Av true a.fst.Procs,Aa a.fst.Last,Aa (-1),Aa a.fst.Claim],.arr true 0 2 1 λ(i:Nat)=>List.take 1 (List.drop (i*1) [Aa e.Pid,Aa w.With])]))) (BB (y.snd.snd != 0) (LQ (.agg [Aa e.Pid,Aa w.Esc,Aa w.Way,Aa w.With,Aa w.WithEsc,Aa w.WithWay,Aa (-1),.nl,.nl,.nl,Aa 0,Aa 0,Aa 0,Aa y.snd.snd,AN ByteArray.empty]) b) (AB (fc BR KE f105 [] b) [1,1,1,1,1,1,0,1,0] (An [(2,.bp 0 0),(4,.bp 1 0),(5,.bp 2 0),(6,.bp 3 0),(7,AN y.snd.fst),(60,.ow 4 0 2),(61,Aa (↑2:Int)),(62,Aa 0)] [.box (Ai e),.box f,.box c,.box [Ad true y.fst.Globals,AK true y.fst.Chans,Av true y.fst.Procs,Aa y.fst.Last,Aa (-1),Aa y.fst.Claim],.arr true 0 2 1 λ(i:Nat)=>List.take 1 (List.drop (i*1) [Aa e.Pid,Aa w.With])])))):=by subst d g h;kernel_rfl
def Agv (r:List Gn)(e:D.Env):(fc BR Rw f121 [] (BT true r)).goal (St.init [] [.agg (Ai e)]) =
  (AB (fc BR Rw f121 [] (BT true r)) [1,1,0,1,0] (An [(1,VV.bp 0 0),(3,VV.nl),(11,Aa (↑e.S.Procs.length:Int)),(12,Aa 0)] [Ob.box (Ai e)])):=kR
def Aix (r:List Gn)(e:D.Env):(fc BR KG f104 [] (BT true r)).goal (St.init [] [.agg (Ai e)]) =
  (∃(y:List Gn),VC 121 [VV.agg (Ai e)] (BT true y)/\AB (fc BR KG f104 [] (BT true r)) [1,1,1,0,1,0] (AaU e y (0:Int) (0:Int))):=kR
def AiW (r:Mv)(c:Int):(fc BR AH f75 [] (.agg (Bz r))).goal (St.init [] [Aa c]) =
  (LQ (VV.agg [Aa (-1),Aa (-1),Aa (-1),Aa (-1),Aa (-1),Aa (-1),Aa c]) (VV.agg (Bz r))):=kR
def Ae2 (r:Wc)(e:D.Env)(s:D.Stmt){a}(b:a=VV.agg (Du r)):(fc BR AH f106 [] (.agg (Du r))).goal (St.init [] [.agg (Ai e),.agg (Ax s)]) =
  (BB (s.Kind==1) (∃(y:Int×Int),VC 124 [.agg (Ai e),Aa s.A] (vII y)/\LQ (.agg [Ac (bif y.fst != 0 then true else y.snd != 0),Aa y.snd]) a) (BB (s.Kind==3) (∃(y:Int×Int),VC 124 [.agg (Ai e),Aa s.A] (vII y)/\BB (bif y.snd==0 then y.fst==0 else false) (LQ (.agg [Ac true,Aa 50]) a) (LQ (.agg [Ac true,Aa y.snd]) a)) (LQ (.agg [Ac (s.Kind==8),Aa 0]) a))):=by subst b;kernel_rfl
def AeU (r:List Wc)(m:D.Model)(s:D.State){a}(b:a=(m.Procs.getD m.Claim.toNat default).Locs.getD s.Claim.toNat default):(fc BR IF f76 [] (Cx true r)).goal (St.init [] [.agg (Ae m),.agg (Ag s)]) =
  (∃(y:List Bool×Int),VC 103 [.agg (Ae m),.agg (Ag s)] (.tup [Bq true y.fst,Aa y.snd])/\inX m.Claim m.Procs.length/\inX s.Claim (m.Procs.getD m.Claim.toNat default).Locs.length/\AB (fc BR IF f76 [] (Cx true r)) [1,1,1,1,1,1,0,1,0] (An [(7,.bp 0 0),(8,.nl),(9,Ac false),(10,Ao true a.Out),(38,Ao true a.Out),(39,Aa (↑a.Out.length:Int)),(40,Aa 0)] [.box [AG true m.Globals,Ad true m.Init,AJ true m.Shapes,Ad true m.Chans,AD true m.Procs,Aa m.Claim,AS true m.Exprs,Ad true s.Globals,AK true s.Chans,Av true s.Procs,Aa s.Last,Aa s.Alone,Aa s.Claim,Aa (-1),Ac false,Bq true y.fst]])):=by subst b;kernel_rfl
def Aaq (r:List Nx×Int)(m:D.Model)(s:D.State){b}(c:b=[VV.agg (Ae m),VV.agg (Ag s)]){d}(e:d=fc BR E5 f50 [] (VV.tup [Az true r.fst,Aa r.snd])):(fc BR E5 f50 [] (.tup [Az true r.1,Aa r.2])).goal (St.init [] [.agg (Ae m),.agg (Ag s)]) =
  (∃(y:List Nx×Int),VC 74 b (.tup [Az true y.fst,Aa y.snd])/\BB (bif y.snd != 0 then true else decide (m.Claim<0)) (LQ (.tup [Az true y.fst,Aa y.snd]) (.tup [Az true r.fst,Aa r.snd])) (BB ((↑y.fst.length:Int)==0) (∃(y:Mv),VC 75 [Aa (-1)] (.agg (Bz y))/\∃(a:List Wc),VC 76 b (Cx true a)/\AB d [1,1,1,1,1,0,1,0] (An [(2,.bp 0 0),(3,.bp 1 0),(6,.ow 2 0 1),(8,.nl),(37,Cx true a),(38,Aa (↑a.length:Int)),(39,Aa 0)] [.box (Ae m),.box (Ag s),.arr true 0 1 15 λ(i:Nat)=>List.take 15 (List.drop (i*15) [Aa y.Pid,Aa y.Esc,Aa y.Way,Aa y.With,Aa y.WithEsc,Aa y.WithWay,Aa y.Claim,Ad true s.Globals,AK true s.Chans,Av true s.Procs,Aa s.Last,Aa s.Alone,Aa s.Claim,Aa 0,AN ByteArray.empty])])) (∃(a:List Wc),VC 76 b (Cx true a)/\AB d [1,1,1,1,1,0,1,0] (An [(2,.bp 0 0),(3,.bp 1 0),(6,Az true y.fst),(8,.nl),(37,Cx true a),(38,Aa (↑a.length:Int)),(39,Aa 0)] [.box (Ae m),.box (Ag s)])))):=by subst c e;kernel_rfl
def Alu (m:D.Model)(s:D.State)(l:Nat)(K:Exit->St->Prop):((fc BR AH f102 [] (.tup [])).piece (hdC 3 ((fc BR AH f102 [] (.tup [])).sub [])) [0,30,31,32] K).goal (St.init [.box (Ae m),.box (Ag s)] [yV l,.bp 0 0,.bp 1 0]) =
  (∃(y:List Bool×Int),VC 103 [VV.agg (Ae m),VV.agg (Ag s)] (VV.tup [Bq true y.fst,Aa y.snd])/\∃(a:List Gn),VC 104 [VV.agg [AG true m.Globals,Ad true m.Init,AJ true m.Shapes,Ad true m.Chans,AD true m.Procs,Aa m.Claim,AS true m.Exprs,Ad true s.Globals,AK true s.Chans,Av true s.Procs,Aa s.Last,Aa s.Alone,Aa s.Claim,Aa 0,Ac false,Bq true y.fst]] (BT true a)/\BB ((↑a.length:Int)==0) (∃(b:List Gn),VC 104 [VV.agg [AG true m.Globals,Ad true m.Init,AJ true m.Shapes,Ad true m.Chans,AD true m.Procs,Aa m.Claim,AS true m.Exprs,Ad true s.Globals,AK true s.Chans,Av true s.Procs,Aa s.Last,Aa s.Alone,Aa s.Claim,Aa 0,Ac true,Bq true y.fst]] (BT true b)/\K Exit.normal (Qe l b (0:Int))) (K Exit.normal (Qe l a (0:Int)))):=kR
def AlB (l:Nat)(L:List Gn)(i:Int)(K:Exit->St->Prop):((fc BR AH f102 [] (.tup [])).piece (hdC 1 ((fc BR AH f102 [] (.tup [])).sub [1,1,1,1,0,0])) [0,30,31,32] K).goal (Qe l L i) =
  (BB (decide (i<(↑L.length:Int))) (K Exit.normal (Qe l L i)) (K (Exit.exit 0) (Qe l L i))):=kR
def AlA (l:Nat)(L:List Gn)(i:Int)(K:Exit->St->Prop):((fc BR AH f102 [] (.tup [])).piece (hdC 1 ((fc BR AH f102 [] (.tup [])).sub [1,1,1,1,0,0,1,1,0,0])) [0,30,31,32,8,37,38,39] K).goal (Qe l L i) =
  (inX i L.length/\K Exit.normal (VM l L i (L.getD i.toNat default) (0:Int))):=kR
def Alz (l:Nat)(L:List Gn)(i:Int)(g:Gn)(j:Int)(K:Exit->St->Prop):((fc BR AH f102 [] (.tup [])).piece (hdC 1 ((fc BR AH f102 [] (.tup [])).sub [1,1,1,1,0,0,1,1,0,0,1,1,0,0])) [0,30,31,32,8,37,38,39] K).goal (VM l L i g j) =
  (BB (decide (j<(↑g.snd.length:Int))) (K Exit.normal (VM l L i g j)) (K (Exit.exit 2) (VM l L i g j))):=kR
def Aly (l:Nat)(L:List Gn)(i:Int)(g:Gn)(j:Int)(K:Exit->St->Prop):((fc BR AH f102 [] (.tup [])).piece (hdC 0 ((fc BR AH f102 [] (.tup [])).sub [1,1,1,1,0,0,1,1,0,0,1,1,0,0,1,1,0,0])) [0,30,31,32,8,37,38,39,10] K).goal (VM l L i g j) =
  (inX j g.snd.length/\K Exit.normal (AoA l L i g j (g.snd.getD j.toNat default))):=kR
def Alx (l:Nat)(L:List Gn)(i:Int)(g:Gn)(j:Int)(w:Wy)(K:Exit->St->Prop):((fc BR AH f102 [] (.tup [])).piece (Apc 4 ((fc BR AH f102 [] (.tup [])).sub [1,1,1,1,0,0,1,1,0,0,1,1,0,0,1,1,0,0,1,0])) [0,30,31,32,8,37,38,39,43,45,46] K).goal (AoA l L i g j w) =
  (K Exit.normal (An [(0,VV.fn (Fn.yield l) []),(30,BT true L),(31,Aa (↑L.length:Int)),(32,Aa i),(8,VV.bp 0 0),(37,Bm true g.snd),(38,Aa (↑g.snd.length:Int)),(39,Aa j),(43,VV.fn (Fn.yield l) []),(45,VV.agg (Ai g.fst)),(46,VV.agg (A9 w))] [Ob.box (E4 g)])):=kR
def Alw (l:Nat)(L:List Gn)(i:Int)(g:Gn)(j:Int)(w:Wy)(b:Bool)(K:Exit->St->Prop):((fc BR AH f102 [] (.tup [])).piece (Aov 4 ((fc BR AH f102 [] (.tup [])).sub [1,1,1,1,0,0,1,1,0,0,1,1,0,0,1,1,0,0,1,0])) [0,30,31,32,8,37,38,39,48] K).goal (An ((47,Ac b)::lEy l L i g j w) [.box (E4 g)]) =
  (K Exit.normal (An [(0,VV.fn (Fn.yield l) []),(30,BT true L),(31,Aa (↑L.length:Int)),(32,Aa i),(8,VV.bp 0 0),(37,Bm true g.snd),(38,Aa (↑g.snd.length:Int)),(39,Aa j),(48,Ac !b)] [Ob.box (E4 g)])):=kR
def Alv (l:Nat)(L:List Gn)(i:Int)(g:Gn)(j:Int)(K:Exit->St->Prop):((fc BR AH f102 [] (.tup [])).piece ((fc BR AH f102 [] (.tup [])).sub [1,1,1,1,0,0,1,1,0,0,1,1,0,0,1,1,1]) [0,30,31,32,8,37,38,39] K).goal (VM l L i g j) =
  (K Exit.normal (VM l L i g (i64.wrap (j+(1:Int))))):=kR
def Alt (l:Nat)(L:List Gn)(i:Int)(K:Exit->St->Prop):((fc BR AH f102 [] (.tup [])).piece ((fc BR AH f102 [] (.tup [])).sub [1,1,1,1,0,0,1,1,1]) [0,30,31,32] K).goal (Qe l L i) =
  (K Exit.normal (Qe l L (i64.wrap (i+(1:Int))))):=kR
def Ade (r:D.State)(e:Int)(m:D.Model)(l:List D.Chan)(k:Int)(J:St->Prop){a}(b:a=[VV.nl,VV.nl,VV.nl,Aa 0,Aa 0,Aa 0]):((fc BR Gk f9 [] (.tup [.agg (Ag r),Aa e])).loop [1,1,1,0,1,0] J).goal (AaW m l k) =
  (BB (decide (k<(↑m.Chans.length:Int))) (inX k m.Chans.length/\(l.length+1)*32<=140737488355328/\J (An [(1,.bp 0 0),(2,.bp 1 0),(4,.bp 2 0),(18,Ad true m.Chans),(19,Aa (↑m.Chans.length:Int)),(20,Aa (i64.wrap (k+(1:Int))))] [.box (Ae m),.box a,.box [Ad true m.Init,.ow 3 0 (l.length+1),.nl,Aa 0,Aa (-1),Aa (-1)],.arr true 0 (l.length+1) 2 λ(i:Nat)=>bif i.blt l.length then Ay (l.getD i default)else(λ(i:Nat)=>List.take 2 (List.drop (i*2) [Aa (m.Chans.getD k.toNat 0),.nl])) (i-l.length)])) (AB (fc BR Gk f9 [] (.tup [.agg (Ag r),Aa e])) [1,1,1,1,0,1,0] (An [(1,.bp 0 0),(2,.bp 1 0),(4,.bp 2 0),(33,AD true m.Procs),(34,Aa (↑m.Procs.length:Int)),(35,Aa 0)] [.box (Ae m),.box a,.box [Ad true m.Init,.ow 3 0 l.length,.nl,Aa 0,Aa (-1),Aa (-1)],.arr true 0 l.length 2 (DL l)]))):=by subst b;kernel_rfl
def Adc (r:D.State)(e:Int)(m:D.Model)(cs:List D.Chan)(ps:List D.Process)(k:Int)(J:St->Prop){z1}(a:z1=VV.tup [VV.agg (Ag r),Aa e]):((fc BR Gk f9 [] (.tup [.agg (Ag r),Aa e])).loop [1,1,1,1,0,1,0] J).goal (AaV m cs ps k) =
  (BB (decide (k<(↑m.Procs.length:Int))) (inX k m.Procs.length/\AB ((fc BR Gk f9 [] z1).loop [1,1,1,1,0,1,0] J) [1,1,0,0,1,1,0] (Sp m cs ps k (m.Procs.getD k.toNat default) (m.Procs.getD k.toNat default).Active (0:Int))) (BB (decide (m.Claim>=0)) (inX m.Claim m.Procs.length/\LQ (.tup [.agg [Ad true m.Init,AK true cs,Av true ps,Aa 0,Aa (-1),Aa (m.Procs.getD m.Claim.toNat default).Start],Aa 0]) z1) (LQ (.tup [.agg [Ad true m.Init,AK true cs,Av true ps,Aa 0,Aa (-1),Aa (-1)],Aa 0]) z1))):=by subst a;kernel_rfl
def Adb (r:D.State)(e:Int)(m:D.Model)(cs:List D.Chan)(ps:List D.Process)(k:Int)(p:D.Proc)(many j:Int)(J J2:St->Prop):(((fc BR Gk f9 [] (.tup [.agg (Ag r),Aa e])).loop [1,1,1,1,0,1,0] J).loop [1,1,0,0,1,1,0] J2).goal (Sp m cs ps k p many j) =
  (BB (decide (j<many)) (((0:Int)<=p.Params/\p.Params<=p.Params/\p.Params*(↑8:Int)<=140737488355328)/\∃(y:D.Process),VC 19 [VV.agg (Ae m),Aa k,VV.sl false p.Params.toNat 1 λ(_:Nat)=>((((fc BR Gk f9 [] (VV.tup [VV.agg (Ag r),Aa e])).loop [1,1,1,1,0,1,0] J).loop [1,1,0,0,1,1,0] J2).T 2).zero] (VV.agg (Aw y))/\(ps.length+1)*48<=140737488355328/\J2 (An [(1,VV.bp 0 0),(2,VV.bp 1 0),(4,VV.bp 2 0),(7,Aa k),(8,VV.bp 5 0),(33,AD true m.Procs),(34,Aa (↑m.Procs.length:Int)),(35,Aa k),(41,Aa many),(42,Aa (i64.wrap (j+(1:Int))))] [Ob.box (Ae m),Ob.box [VV.nl,VV.nl,VV.nl,Aa 0,Aa 0,Aa 0],Ob.box [Ad true m.Init,VV.ow 3 0 cs.length,VV.ow 4 0 (ps.length+1),Aa 0,Aa (-1),Aa (-1)],Ob.arr true 0 cs.length 2 (DL cs),Ob.arr true 0 (ps.length+1) 4 λ(i:Nat)=>bif i.blt ps.length then Aw (ps.getD i default)else(λ(i:Nat)=>List.take 4 (List.drop (i*4) (Aw y))) (i-ps.length),Ob.box (A2 p)])) (J (AaV m cs ps (i64.wrap (k+(1:Int)))))):=kR
def Aga (r:D.State×ByteArray×Int)(m:D.Model)(s:D.State)(pid:Int)(t:ByteArray)(n:Int)(J:St->Prop){b}(c:b=[AG true m.Globals,Ad true m.Init,AJ true m.Shapes,Ad true m.Chans,AD true m.Procs,Aa m.Claim,AS true m.Exprs,Ad true s.Globals,AK true s.Chans,Av true s.Procs,Aa s.Last,Aa s.Alone,Aa s.Claim,Aa pid,Ac false,VV.nl]){a}(d:a=VV.tup [VV.agg (Ag r.fst),AN r.snd.fst,Aa r.snd.snd]){e}(f:e=[VV.nl,VV.nl,VV.nl,Aa 0,Aa 0,Aa 0]):((fc BR Nm f123 [] (.tup [.agg (Ag r.1),AN r.2.1,Aa r.2.2])).loop [1,1,1,0] J).goal (AcQ m s pid t n) =
  (∃(y:D.Loc×Bool),VC 73 [.agg (Ae m),.agg (Ag s),Aa pid] (.tup [.agg (AT y.fst),Ac y.snd])/\BB (bif !y.snd then true else !y.fst.Dstep) (LQ (.tup [.agg (Ag s),AN t,Aa 0]) a) (BB (n==200) (LQ (.tup [.agg e,AN (⟨#[]⟩:ByteArray),Aa 53]) a) (∃(y:List Wy×Int),VC 148 [.agg b] (.tup [Bm true y.fst,Aa y.snd])/\AB ((fc BR Nm f123 [] a).loop [1,1,1,0] J) [0,0,1,1,1,1,1,1,0,1,0] (An [(2,Aa pid),(3,.bp 0 0),(4,.bp 1 0),(6,.bp 2 0),(9,AN t),(10,Aa n),(13,.bp 3 0),(16,Ac false),(52,Bm true y.fst),(53,Aa (↑y.fst.length:Int)),(54,Aa 0)] [.box (Ae m),.box (Ag s),.box e,.box b])))):=by subst c d f;kernel_rfl
def Af9 (r:D.State×ByteArray×Int)(m:D.Model)(s:D.State)(pid:Int)(t:ByteArray)(n:Int)(e:D.Env)(ws:List Wy)(i:Int)(J J2:St->Prop){a}(b:a=LQ (VV.tup [VV.agg [VV.nl,VV.nl,VV.nl,Aa 0,Aa 0,Aa 0],AN (⟨#[]⟩:ByteArray),Aa 53]) (VV.tup [VV.agg (Ag r.fst),AN r.snd.fst,Aa r.snd.snd])):(((fc BR Nm f123 [] (.tup [.agg (Ag r.1),AN r.2.1,Aa r.2.2])).loop [1,1,1,0] J).loop [0,0,1,1,1,1,1,1,0,1,0] J2).goal (AaR m s pid t n e ws i) =
  (BB (decide (i<(↑ws.length:Int))) (inX i ws.length/\BB (decide ((ws.getD i.toNat default).With>=0)) (J2 (AaR m s pid t n e ws (i64.wrap (i+(1:Int))))) (∃(y:D.State×ByteArray×Int),VC 122 [.agg (Ai e),.agg (A9 (ws.getD i.toNat default))] (.tup [.agg (Ag y.fst),AN y.snd.fst,Aa y.snd.snd])/\BB (y.snd.snd != 0) (LQ (.tup [.agg [.nl,.nl,.nl,Aa 0,Aa 0,Aa 0],AN (⟨#[]⟩:ByteArray),Aa y.snd.snd]) (.tup [.agg (Ag r.fst),AN r.snd.fst,Aa r.snd.snd])) ((↑(t.size+y.snd.fst.size):Int)<=(9223372036854775807:Int)/\BB false a (J (AcQ m y.fst pid (t++y.snd.fst) (i64.wrap (n+(1:Int)))))))) (BB true a (J (AcQ m s pid t (i64.wrap (n+(1:Int))))))):=by subst b;kernel_rfl
def AcV (r:Nx)(e:D.Env)(w:Wy)(s:D.State)(t:ByteArray)(i:Int)(J:St->Prop):((fc BR KE f105 [] (.agg (Bf r))).loop [1,1,1,1,1,1,0,1,0] J).goal (Ny e w s t i) =
  (BB (decide (i<2)) (inX i 2/\∃(y:D.Loc×Bool),VC 73 [VV.agg (Ae e.M),VV.agg (Ag s),Aa ([e.Pid,w.With].getD i.toNat 0)] (VV.tup [VV.agg (AT y.fst),Ac y.snd])/\BB (bif y.snd then y.fst.Atomic else false) (J (An [(2,VV.bp 0 0),(4,VV.bp 1 0),(5,VV.bp 2 0),(6,VV.bp 3 0),(7,AN t),(60,VV.ow 4 0 2),(61,Aa 2),(62,Aa (i64.wrap (i+(1:Int))))] [Ob.box (Ai e),Ob.box [Aa 0,Aa 0,Aa 0,Aa 0,Aa 0,Aa 0,Aa 0,VV.nl,VV.nl,VV.nl,Aa 0,Aa 0,Aa 0,Aa 0,AN ByteArray.empty],Ob.box [Aa e.Pid,Aa w.Esc,Aa w.Way,Aa w.With,Aa w.WithEsc,Aa w.WithWay,Aa (-1),VV.nl,VV.nl,VV.nl,Aa 0,Aa 0,Aa 0,Aa 0,AN ByteArray.empty],Ob.box [Ad true s.Globals,AK true s.Chans,Av true s.Procs,Aa s.Last,Aa ([e.Pid,w.With].getD i.toNat 0),Aa s.Claim],Ob.arr true 0 2 1 (AO [e.Pid,w.With])])) (J (Ny e w s t (i64.wrap (i+(1:Int)))))) (LQ (VV.agg [Aa e.Pid,Aa w.Esc,Aa w.Way,Aa w.With,Aa w.WithEsc,Aa w.WithWay,Aa (-1),Ad true s.Globals,AK true s.Chans,Av true s.Procs,Aa s.Last,Aa s.Alone,Aa s.Claim,Aa 0,AN t]) (VV.agg (Bf r)))):=kR
def Ads (r:List Gn)(e:D.Env)(l:List Gn)(i:Int)(J:St->Prop):((fc BR Rw f121 [] (BT true r)).loop [1,1,0,1,0] J).goal (VN e l i) =
  (BB (decide (i<(↑e.S.Procs.length:Int))) (∃(y:List Wy×Int),VC 148 [VV.agg [AG true e.M.Globals,Ad true e.M.Init,AJ true e.M.Shapes,Ad true e.M.Chans,AD true e.M.Procs,Aa e.M.Claim,AS true e.M.Exprs,Ad true e.S.Globals,AK true e.S.Chans,Av true e.S.Procs,Aa e.S.Last,Aa e.S.Alone,Aa e.S.Claim,Aa i,Ac e.Timeout,Bq true e.Able]] (VV.tup [Bm true y.fst,Aa y.snd])/\BB (decide ((↑y.fst.length:Int) > 0)) ((l.length+1)*312<=140737488355328/\J (An [(1,VV.bp 0 0),(3,VV.ow 1 0 (l.length+1)),(11,Aa (↑e.S.Procs.length:Int)),(12,Aa (i64.wrap (i+(1:Int))))] [Ob.box (Ai e),Ob.arr true 0 (l.length+1) 17 λ(i_1:Nat)=>bif i_1.blt l.length then E4 (l.getD i_1 default)else(λ(i_2:Nat)=>List.take 17 (List.drop (i_2*17) [AG true e.M.Globals,Ad true e.M.Init,AJ true e.M.Shapes,Ad true e.M.Chans,AD true e.M.Procs,Aa e.M.Claim,AS true e.M.Exprs,Ad true e.S.Globals,AK true e.S.Chans,Av true e.S.Procs,Aa e.S.Last,Aa e.S.Alone,Aa e.S.Claim,Aa i,Ac e.Timeout,Bq true e.Able,Bm true y.fst])) (i_1-l.length)])) (J (VN e l (i64.wrap (i+(1:Int)))))) (LQ (BT true l) (BT true r))):=kR
def AeB (r:List Gn)(e:D.Env)(L:List Gn)(most i:Int)(J:St->Prop){a}(b:a=L.getD i.toNat default):((fc BR KG f104 [] (BT true r)).loop [1,1,1,0,1,0] J).goal (AaU e L most i) =
  (BB (decide (i<(↑L.length:Int))) (inX i L.length/\BB (a.fst.Pid==e.S.Alone) (LQ (.sl true 1 17 λ(i_1:Nat)=>List.take 17 (List.drop (i_1*17) (E4 a))) (BT true r)) (inX a.fst.Pid e.S.Procs.length/\J (AaU e L (bif true then max most (e.S.Procs.getD a.fst.Pid.toNat default).Prio else min most (e.S.Procs.getD a.fst.Pid.toNat default).Prio) (i64.wrap (i+(1:Int)))))) (AB (fc BR KG f104 [] (BT true r)) [1,1,1,1,1,0,1,0] (An [(1,.bp 0 0),(4,Aa most),(7,.nl),(39,BT true L),(40,Aa (↑L.length:Int)),(41,Aa 0)] [.box (Ai e)]))):=by subst b;kernel_rfl
def AeA (r:List Gn)(e:D.Env)(L out:List Gn)(most i:Int)(J:St->Prop){a}(b:a=L.getD i.toNat default):((fc BR KG f104 [] (BT true r)).loop [1,1,1,1,1,0,1,0] J).goal (VL e L out most i) =
  (BB (decide (i<(↑L.length:Int))) (inX i L.length/\inX a.fst.Pid e.S.Procs.length/\BB ((e.S.Procs.getD a.fst.Pid.toNat default).Prio==most) ((out.length+1)*312<=140737488355328/\J (An [(1,.bp 0 0),(4,Aa most),(7,.ow 1 0 (out.length+1)),(39,BT true L),(40,Aa (↑L.length:Int)),(41,Aa (i64.wrap (i+(1:Int))))] [.box (Ai e),.arr true 0 (out.length+1) 17 λ(i_1:Nat)=>bif i_1.blt out.length then E4 (out.getD i_1 default)else(λ(i_2:Nat)=>List.take 17 (List.drop (i_2*17) (E4 a))) (i_1-out.length)])) (J (VL e L out most (i64.wrap (i+(1:Int)))))) (LQ (BT true out) (BT true r))):=by subst b;kernel_rfl
def Aaf (r:List Wc)(_:D.Model)(_:D.State)(e:D.Env)(out:List Wc)(some:Bool)(l:List D.Trans)(i:Int)(J:St->Prop):((fc BR IF f76 [] (Cx true r)).loop [1,1,1,1,1,1,0,1,0] J).goal (AjW e out some l i) =
  (BB (decide (i<(↑l.length:Int))) (inX i l.length/\∃(y:Bool×Int),VC 106 [VV.agg (Ai e),VV.agg (Ax (l.getD i.toNat default).S)] (VV.agg (Du y))/\(out.length+1)*16<=140737488355328/\J (An [(7,VV.bp 0 0),(8,VV.ow 1 0 (out.length+1)),(9,Ac (bif some then true else y.fst)),(10,Ao true l),(38,Ao true l),(39,Aa (↑l.length:Int)),(40,Aa (i64.wrap (i+(1:Int))))] [Ob.box (Ai e),Ob.arr true 0 (out.length+1) 2 λ(i:Nat)=>bif i.blt out.length then Du (out.getD i default)else(λ(i:Nat)=>List.take 2 (List.drop (i*2) (Du y))) (i-out.length)])) (AB (fc BR IF f76 [] (Cx true r)) [1,1,1,1,1,1,1,0,1,0] (AjV out some l (0:Int)))):=kR
def Aae (r:List Wc)(out:List Wc)(some:Bool)(l:List D.Trans)(i:Int)(J:St->Prop):((fc BR IF f76 [] (Cx true r)).loop [1,1,1,1,1,1,1,0,1,0] J).goal (AjV out some l i) =
  (BB (decide (i<(↑l.length:Int))) (inX i l.length/\BB (bif(l.getD i.toNat default).S.Kind==7 then !some else false) (inX i out.length/\J (An [(8,VV.ow 0 0 out.length),(9,Ac some),(58,Ao true l),(59,Aa (↑l.length:Int)),(60,Aa (i64.wrap (i+(1:Int))))] [Ob.arr true 0 out.length 2 λ(j:Nat)=>bif j.beq i.toNat then[Ac true,Aa (out.getD i.toNat default).snd]else Du (out.getD j default)])) (J (AjV out some l (i64.wrap (i+(1:Int)))))) (LQ (Cx true out) (Cx true r))):=kR
def XA (r:List Nx×Int)(m:D.Model)(s:D.State)(L:List Nx)(ws:List Wc)(out:List Nx)(c:Int)(J:St->Prop){a}(b:a=ws.getD c.toNat default):((fc BR E5 f50 [] (.tup [Az true r.1,Aa r.2])).loop [1,1,1,1,1,0,1,0] J).goal (AcS m s L ws out c) =
  (BB (decide (c<(↑ws.length:Int))) (inX c ws.length/\BB (!a.fst) (J (AcS m s L ws out (i64.wrap (c+(1:Int))))) (BB (a.snd != 0) (∃(y:Mv),VC 75 [Aa c] (.agg (Bz y))/\(out.length+1)*176<=140737488355328/\J (An [(2,.bp 0 0),(3,.bp 1 0),(6,Az true L),(8,.ow 2 0 (out.length+1)),(37,Cx true ws),(38,Aa (↑ws.length:Int)),(39,Aa (i64.wrap (c+(1:Int))))] [.box (Ae m),.box (Ag s),.arr true 0 (out.length+1) 15 λ(i:Nat)=>bif i.blt out.length then Bf (out.getD i default)else(λ(i:Nat)=>List.take 15 (List.drop (i*15) [Aa y.Pid,Aa y.Esc,Aa y.Way,Aa y.With,Aa y.WithEsc,Aa y.WithWay,Aa y.Claim,.nl,.nl,.nl,Aa 0,Aa 0,Aa 0,Aa a.snd,AN ByteArray.empty])) (i-out.length)])) (AB ((fc BR E5 f50 [] (.tup [Az true r.fst,Aa r.snd])).loop [1,1,1,1,1,0,1,0] J) [1,1,0,0,1,1,1,1,0] (Af2 m s L ws out c (0:Int))))) (LQ (.tup [Az true out,Aa 0]) (.tup [Az true r.fst,Aa r.snd]))):=by subst b;kernel_rfl
def Xz (r:List Nx×Int)(m:D.Model)(s:D.State)(L:List Nx)(ws:List Wc)(out:List Nx)(c k:Int)(J J2:St->Prop){a}(d:a=L.getD k.toNat default){e}(f:e=[(2,VV.bp 0 0),(3,VV.bp 1 0),(6,Az true L),(8,VV.ow 2 0 (out.length+1)),(9,Aa c),(37,Cx true ws),(38,Aa (↑ws.length:Int)),(39,Aa c),(58,Az true L),(59,Aa (↑L.length:Int)),(60,Aa (i64.wrap (k+(1:Int))))]){b}(g:b=m.Procs.getD m.Claim.toNat default):(((fc BR E5 f50 [] (.tup [Az true r.1,Aa r.2])).loop [1,1,1,1,1,0,1,0] J).loop [1,1,0,0,1,1,1,1,0] J2).goal (Af2 m s L ws out c k) =
  (BB (decide (k<(↑L.length:Int))) (inX k L.length/\BB (a.Err==0) (∃(y:D.State),VC 77 [.agg (Ag a.State)] (.agg (Ag y))/\inX m.Claim m.Procs.length/\inX s.Claim b.Locs.length/\inX c (b.Locs.getD s.Claim.toNat default).Out.length/\(out.length+1)*176<=140737488355328/\J2 (An e [.box (Ae m),.box (Ag s),.arr true 0 (out.length+1) 15 λ(i:Nat)=>bif i.blt out.length then Bf (out.getD i default)else(λ(i:Nat)=>List.take 15 (List.drop (i*15) [Aa a.Move.Pid,Aa a.Move.Esc,Aa a.Move.Way,Aa a.Move.With,Aa a.Move.WithEsc,Aa a.Move.WithWay,Aa c,Ad true y.Globals,AK true y.Chans,Av true y.Procs,Aa y.Last,Aa y.Alone,Aa ((b.Locs.getD s.Claim.toNat default).Out.getD c.toNat default).To,Aa a.Err,AN a.Text])) (i-out.length)])) ((out.length+1)*176<=140737488355328/\J2 (An e [.box (Ae m),.box (Ag s),.arr true 0 (out.length+1) 15 λ(i:Nat)=>bif i.blt out.length then Bf (out.getD i default)else(λ(i:Nat)=>List.take 15 (List.drop (i*15) [Aa a.Move.Pid,Aa a.Move.Esc,Aa a.Move.Way,Aa a.Move.With,Aa a.Move.WithEsc,Aa a.Move.WithWay,Aa c,Ad true a.State.Globals,AK true a.State.Chans,Av true a.State.Procs,Aa a.State.Last,Aa a.State.Alone,Aa a.State.Claim,Aa a.Err,AN a.Text])) (i-out.length)]))) (J (AcS m s L ws out (i64.wrap (c+(1:Int)))))):=by subst d f g;kernel_rfl
def Akl (r:List Nx×Int)(m:D.Model)(s:D.State){a}(b:a=[Ob.arr true 0 r.fst.length 15 (Bc r.fst)]):(BL prog tb BR HJ false f74 [.arr true 0 r.1.length 15 (Bc r.1)] (.tup [.ow 0 0 r.1.length,Aa r.2])).goal (St.init [] [.agg (Ae m),.agg (Ag s)]) =
  (∃(y:Int),VC 70 [.agg (Ae m),.agg (Ag s)] (Aa y)/\BB (y != 0) (leO [] a/\(VV.tup [.nl,Aa y]).le (.tup [.ow 0 0 r.fst.length,Aa r.snd])) (∃(y:D.Model×D.State),Ah prog 72 [] [.agg (Ae m),.agg (Ag s)] [.box (Ae y.fst),.box (Ag y.snd)] (.fn (Fn.func (nat_lit 102)) [.bp 0 0,.bp 1 0])/\AB (BL prog tb BR HJ false f74 a (.tup [.ow 0 0 r.fst.length,Aa r.snd])) [1,1,1,0,1] (An [(7,.bp 0 0),(18,.fn (Fn.func (nat_lit 102)) [.bp 1 0,.bp 2 0])] [.box [.nl],.box (Ae y.fst),.box (Ag y.snd)]))):=by subst b;kernel_rfl
def AgB (r:List Nx×Int)(e:D.Env)(w:Wy)(l l2:List Nx):((BL prog tb BR HJ false f74 [.arr true 0 r.1.length 15 (Bc r.1)] (.tup [.ow 0 0 r.1.length,Aa r.2])).rg [1,1,1,0,1] 2 [(7,.bp 0 0)] [.box [.ow 1 0 l2.length],.arr true 0 l2.length 15 (Bc l2)]).goal (An [(19,.agg (Ai e)),(20,.agg (A9 w)),(7,.bp 0 0)] [.box [.ow 1 0 l.length],.arr true 0 l.length 15 (Bc l)]) =
  (∃(y:Nx),VC 105 [VV.agg (Ai e),VV.agg (A9 w)] (VV.agg (Bf y))/\(l.length+1)*176<=140737488355328/\leO [Ob.box [VV.ow 1 0 (l.length+1)],Ob.arr true 0 (l.length+1) 15 λ(i:Nat)=>bif i.blt l.length then Bf (l.getD i default)else(λ(i:Nat)=>List.take 15 (List.drop (i*15) (Bf y))) (i-l.length)] [Ob.box [VV.ow 1 0 l2.length],Ob.arr true 0 l2.length 15 (Bc l2)]/\True):=kR
def AgA (r:List Nx×Int)(l:List Nx):((BL prog tb BR HJ false f74 [.arr true 0 r.1.length 15 (Bc r.1)] (.tup [.ow 0 0 r.1.length,Aa r.2])).after [1,1,1,0,1]).goal (An [(7,.bp 0 0)] [.box [.ow 1 0 l.length],.arr true 0 l.length 15 (Bc l)]) =
  (leO [Ob.arr true 0 l.length 15 (Bc l)] [Ob.arr true 0 r.fst.length 15 (Bc r.fst)]/\(VV.tup [VV.ow 0 0 l.length,Aa 0]).le (VV.tup [VV.ow 0 0 r.fst.length,Aa r.snd])):=kR
def Alm (m:D.Model)(s:D.State){z1}(a:z1=VV.fn (Fn.func (nat_lit 102)) [VV.bp 0 0,VV.bp 1 0]):(BL prog tb BR AH false f72 [.box (Ae m),.box (Ag s)] (.fn (.func 102) [.bp 0 0,.bp 1 0])).goal (St.init [] [.agg (Ae m),.agg (Ag s)]) =
  (leO [.box (Ae m),.box (Ag s)] [.box (Ae m),.box (Ag s)]/\z1.le z1):=by subst a;kernel_rfl
end Go.Proofs.YtedfjceonnoifaaGreatDoor
namespace Go.Proofs.YtedfjceonnoifaaGreatDoor
open Go.RowKit Go.Proofs.Tryz
open IntKind(i64)
def K6:∀(l r:List Gn),CP (l++r)=CP l++CP r
 | [],_=>rfl
 | g::l,r=>by
  show g.2.map (λw=>(g.1,w))++CP (l++r)=(g.2.map (λw=>(g.1,w))++CP l)++CP r;rw[K6 l r,AqT]
def MW (L:List Gn)(i:Nat):Nat:=(CP (L.take i)).length
def Ak3 {L:List Gn}:MW L L.length=(CP L).length:=by unfold MW;rw[AqZ]
def LN {L:List Gn}{i:Nat}(hi:i<L.length):L.take (i+1)=L.take i++[L.getD i default]:=by
 rw[List.take_add_one];simp[List.getD,hi]
def AhU {L:List Gn}{i:Nat}(hi:i<L.length):MW L (i+1)=MW L i+(L.getD i default).2.length:=by
 unfold MW;rw[LN hi,K6];simp[CP]
def AkV {L:List Gn}{i j:Nat}(hi:i<L.length)(a:j<(L.getD i default).2.length):MW L i+j<(CP L).length/\(CP L).getD (MW L i+j) default=((L.getD i default).1,(L.getD i default).2.getD j default):=by
 have e:CP L=CP (L.take i)++((L.getD i default).2.map (λw=>((L.getD i default).1,w))++CP (L.drop (i+1))):=by
  have h1:L=L.take (i+1)++L.drop (i+1):=(List.take_append_drop (i+1) L).symm;have h2:CP L=CP (L.take (i+1))++CP (L.drop (i+1)):=by rw[<- K6,<- h1]
  rw[h2,LN hi,K6];simp[CP]
 have b:MW L i+j<(CP L).length:=by
  rw[e];simp only[Ap5,AqS];unfold MW;omega
 refine⟨b,?_⟩;rw[Aqd,e,Aqo (by unfold MW;omega),show MW L i+j-(CP (L.take i)).length=j by unfold MW;omega,Aqa (by simpa using a)];generalize(L.getD i default)=g at a;rw[Aqv,Ap8 a,Aqd,Ap8 a];rfl
section
variable {m : D.Model} {s:D.State} {e:D.Env} {w:Wy}
def Ah5:VV.le (.agg [.nl,.nl,Ac false,Ac false,Ac false,Ac false,Ac false]) (.agg (AT default)):=Aq2 ⟨Aqy,Aqy,lR,lR,lR,lR,lR,trivial⟩
def Qy {pid:Int}(h:Gs m s):Ah prog 73 [] [.agg (Ae m),.agg (Ag s),Aa pid] [] (.tup [.agg (AT (Cs m s pid).1),Ac (Cs m s pid).2]):=by
 have c:Cs m s pid=bif decide (pid<0)||decide ((s.Procs.length:Int)<=pid)then(default,false)else((I4 m (s.Procs.getD pid.toNat default).Type_).getD (s.Procs.getD pid.toNat default).Loc.toNat default,true):=rfl
 generalize Cs m s pid=r at c;refine Ap func73 (Akx r m s pid rfl rfl) ⟨λb=>?_,λb=>?_⟩
 .rw[B6]at b;simp only[ArJ]at b;rw[b,ApY]at c;subst c;exact⟨trivial,Arq ⟨Ah5,lR,trivial⟩⟩
 .rw[B6]at b;simp only[ArJ]at b;rw[b,ApW]at c;subst c;simp only[Aql,Aqz]at b;have hp:0<=pid/\pid<s.Procs.length:=oM
  have f:=(h.pid (t:=false) (a:=[]) hp).1.facts;exact⟨hp,f.1,hp,f.2,trivial,lR⟩
def AiI {pid:Int}{b:Bool}:leL [AG true m.Globals,Ad true m.Init,AJ true m.Shapes,Ad true m.Chans,AD true m.Procs,Aa m.Claim,AS true m.Exprs,Ad true s.Globals,AK true s.Chans,Av true s.Procs,Aa s.Last,Aa s.Alone,Aa s.Claim,Aa pid,Ac b,.nl] (Ai ⟨m,s,pid,b,[]⟩) :=
 ⟨lR,lR,lR,lR,lR,lR,lR,lR,lR,lR,lR,lR,lR,lR,lR,Aqy,trivial⟩
def Th {α:Type}{p:α->Bool}:∀{l:List α}{i:Nat},(∀j,j<i->∀x,l[j]?=some x->p x=false)->l.find? p=(l.drop i).find? p
 | l,0,_=>by rw[List.drop_zero]
 | [],i+1,_=>sM
 | x::l,i+1,h=>by
  rw[List.find?_cons,h 0 oM x rfl,List.drop_succ_cons];exact Th λj b y a=>h (j+1) oM y a
def UB {r:D.State×ByteArray×Int}{c:Int}(h:(C8,noT,c)=r):VV.le (.tup [.agg [.nl,.nl,.nl,Aa 0,Aa 0,Aa 0],AN (⟨#[]⟩:ByteArray),Aa c]) (.tup [.agg (Ag r.1),AN r.2.1,Aa r.2.2]):=by
 subst h;exact QU
def Af8 {pid:Int}(h:Gs m s):Ah prog 123 [] [.agg (Ae m),.agg (Ag s),Aa pid] [] (.tup [.agg (Ag (onS m pid 200 s noT).1),AN (onS m pid 200 s noT).2.1,Aa (onS m pid 200 s noT).2.2]):=by
 generalize c:onS m pid 200 s noT=r;refine Ap func123 (Aj1 r m s pid) ?_;change AB _ _ (AcQ m s pid noT 0);refine Aq (λg st=>∃(n:Nat)(b:D.State)(t:ByteArray),n<=200/\g=200-n/\Gs m b/\t.size<=n*67108864/\onS m pid (200-n) b t=r/\st=AcQ m b pid t n) ⟨_,Up.of ⟨0,s,noT,Ap3 _,rfl,h,Ap3 _,c,rfl⟩⟩ ?_;clear c h;rintro g st ⟨n,b,t,T,rfl,h,U,c,rfl⟩;refine Aqh (Aga r m b pid t n _ rfl rfl rfl) ⟨Cs m b pid,Qy h,λf=>?_,λf=>⟨λo=>?_,λo=>?_⟩⟩
 .rw[B6]at f;cases E:200-n with
  | zero =>
   rw[E]at c;have F:onS m pid 0 b t=bif !(Cs m b pid).2||!(Cs m b pid).1.Dstep then(b,t,0)else(C8,noT,53):=rfl
   rw[F,f,ApY]at c;subst c;exact⟨trivial,lR⟩
  | succ k =>
   rw[E,QF,f,ApY]at c;subst c;exact⟨trivial,lR⟩
 .have z:n=200:=by simp at o;omega
  subst z;rw[B6]at f;have F:onS m pid 0 b t=bif !(Cs m b pid).2||!(Cs m b pid).1.Dstep then(b,t,0)else(C8,noT,53):=rfl
  rw[Nat.sub_self,F,f,ApW]at c;exact⟨trivial,UB c⟩
 .have z:n<200:=by simp at o;omega
  obtain⟨k,E⟩:∃k,200-n=k+1:=⟨200-n-1,oM⟩;rw[B6]at f;rw[E,QF,f,ApW]at c;simp only[Aql,Ar1]at f;obtain⟨v,H⟩:=h.pid (t:=false) (a:=[]) (NG f.1);have O:=PG v.ok.wf v.small;rw[PM H]at c O;refine⟨(BD ⟨m,b,pid,false,[]⟩,0),O.le trivial ⟨Aq2 AiI,trivial⟩ trivial lR,?_⟩;refine AB.le (AR _) (l':=[(2,Aa pid),(3,.bp 0 0),(4,.bp 1 0),(6,.bp 2 0),(9,AN t),(10,Aa n),(13,.bp 3 0),(16,Ac false),(52,Bm true (BD ⟨m,b,pid,false,[]⟩)),(53,Aa (BD ⟨m,b,pid,false,[]⟩).length),(54,Aa 0)])
   (hs':=[.box (Ae m),.box (Ag b),OO,.box (Ai ⟨m,b,pid,false,[]⟩)]) ⟨Ob.le_refl _,Ob.le_refl _,Ob.le_refl _,Ob.le_box AiI,trivial⟩ ?_
  have A:=K5 v;change AB _ _ (AaR m b pid t n ⟨m,b,pid,false,[]⟩ (BD ⟨m,b,pid,false,[]⟩) 0);have q:∀w∈BD ⟨m,b,pid,false,[]⟩,Ah prog 122 [] [.agg (Ai ⟨m,b,pid,false,[]⟩),.agg (A9 w)] [] (.tup [.agg (Ag (goP ⟨m,b,pid,false,[]⟩ w).1),AN (goP ⟨m,b,pid,false,[]⟩ w).2.1,Aa (goP ⟨m,b,pid,false,[]⟩ w).2.2])/\((goP ⟨m,b,pid,false,[]⟩ w).2.2=0->Gs m (goP ⟨m,b,pid,false,[]⟩ w).1)/\(goP ⟨m,b,pid,false,[]⟩ w).2.1.size<=67108864:=λw u =>
   ⟨Ail v H u,λI=>AbC v u I,Pu v u⟩
  generalize V:BD ⟨m,b,pid,false,[]⟩=ws at c A q;generalize W:goP ⟨m,b,pid,false,[]⟩=G at c q;refine Aq (λg st=>∃i:Nat,i<=ws.length/\g=ws.length-i/\(∀j,j<i->∀x,ws[j]?=some x->decide (x.With<0)=false)/\st=AaR m b pid t n ⟨m,b,pid,false,[]⟩ ws i) ⟨_,Up.of ⟨0,Ap3 _,rfl,λj P=>absurd P (AqL _),rfl⟩⟩ ?_;rintro g st ⟨i,hi,rfl,R,rfl⟩;have J:=Th (p:=λw:Wy=>decide (w.With<0)) R;simp only at c;rw[J]at c;refine Aqh (Af9 r m b pid t n ⟨m,b,pid,false,[]⟩ ws i _ _ rfl) ⟨λK=>?_,λL=>⟨λ_=>?_,λh=>by cases h⟩⟩
  .have l:i<ws.length:=by have:=AZ K;omega
   have M:(i:Int).toNat=i:=oM
   rw[M];have Q:ws[i]?=some (ws.getD i default):=by simp[List.getD,l]
   have N:ws.drop i=ws.getD i default::ws.drop (i+1):=by simp_all
   obtain⟨g1,S,X⟩:=q _ (As (d:=default) l);refine⟨⟨oM,oM⟩,λhv=>?_,λhv=>?_⟩
   .refine⟨ws.length-(i+1),oM,Up.of ⟨i+1,oM,rfl,λj P x H=>?_,by rw[Al oM]⟩⟩;grind
   .have B:decide ((ws.getD i default).With<0)=true:=by simp at hv |-;omega
    rw[N,List.find?_cons,B]at c;refine⟨G (ws.getD i default),g1,λy=>?_,λy=>⟨?_,⟨λh=>(by cases h),λ_=>?_⟩⟩⟩
    .rw[AY]at y;change(bif decide ((G (ws.getD i default)).2.2≠0)then _ else _)=r at c;rw[y,ApY]at c;exact⟨trivial,UB c⟩
    .omega
    .rw[AY]at y;change(bif decide ((G (ws.getD i default)).2.2≠0)then _ else _)=r at c;rw[y,ApW]at c;have I:(G (ws.getD i default)).2.2=0:=by simpa using y
     refine⟨200-(n+1),oM,Up.of ⟨n+1,(G (ws.getD i default)).1,t++(G (ws.getD i default)).2.1,oM,rfl,S I,?_,?_,by rw[Al oM]⟩⟩
     .grind
     grind
  .have C:ws.length<=i:=by have:=AW L;omega
   rw[Aqk C]at c;exact⟨trivial,UB c⟩
end
section
variable {m : D.Model} {s:D.State} {e:D.Env} {w:Wy}
def Abt {a b c d f g:Int}{err:Int}:VV.le (.agg [Aa a,Aa b,Aa c,Aa d,Aa f,Aa g,Aa (-1),.nl,.nl,.nl,Aa 0,Aa 0,Aa 0,Aa err,AN ByteArray.empty]) (.agg (Bf ⟨⟨a,b,c,d,f,g,-1⟩,C8,err,noT⟩)) :=
 Aq2 ⟨lR,lR,lR,lR,lR,lR,lR,Aqy,Aqy,Aqy,lR,lR,lR,lR,lR,trivial⟩
def AgE {a b:Int}(F:Nat->List VV)(h0:F 0=[Aa a])(h1:F 1=[Aa b]):∀i,i<2->leL (F i) (AO [a,b] i)
 | 0,_=>AL h0
 | 1,_=>AL h1
def alL (m:D.Model)(s:D.State)(l:List Int):D.State:=l.foldl (EW m) s
def Aju:∀{l:List Int}{s:D.State},Gs m s->Gs m (alL m s l)
 | [],_,h=>h
 | _::l,_,h=>Aju (l:=l) (RB h)
def Ajt {l:List Int}{k:Nat}(h:k<l.length):alL m s (l.take (k+1))=EW m (alL m s (l.take k)) (l.getD k 0):=by
 have:l.take (k+1)=l.take k++[l.getD k 0]:=by simp_all
 rw[this];unfold alL;grind
def AcT {t:ByteArray}(h:Gs e.M s):AB (fc BR KE f105 [] (.agg (Bf ⟨NL e w,EW e.M (EW e.M s e.Pid) w.With,0,t⟩))) [1,1,1,1,1,1,0,1,0] (Ny e w s t 0):=by
 have i:Ny e w s t 0=Ny e w (alL e.M s ([e.Pid,w.With].take 0)) t ((0:Nat):Int):=rfl;rw[i];refine Ar 2 (λk=>Ny e w (alL e.M s ([e.Pid,w.With].take k)) t k) (λ_=>True) trivial ?_;intro k j _ J next
 have hg:=Aju (l:=[e.Pid,w.With].take k) h;have b:=λ(h:k<2)=>Ajt (m:=e.M) (s:=s) (l:=[e.Pid,w.With]) (k:=k) h
 refine Aqh (AcV _ e w _ t k J) ⟨λd=>?_,λf=>?_⟩
 .have a:k<2:=by have:=AZ d;omega
  have g:(k:Int).toNat=k:=oM
  rw[g];have hs2:=b a;generalize alL e.M s ([e.Pid,w.With].take k)=s1 at hg hs2;refine⟨⟨oM,oM⟩,Cs e.M s1 ([e.Pid,w.With].getD k 0),Qy hg,λc=>next _ a trivial (Up.of ?_),λc=>next _ a trivial (Up.of ?_)⟩
  .rw[BU]at c;unfold EW at hs2;rw[c,ApY]at hs2;rw[hs2,Al oM]<;>rfl
  .rw[BU]at c;unfold EW at hs2;rw[c,ApW]at hs2;rw[hs2,Al oM]
 .obtain rfl:k=2:=by have:=AW f;omega
  exact⟨trivial,lR⟩
def AcU (h:CY e)(j:He e=0)(c:w∈BD e):Ah prog 105 [] [.agg (Ai e),.agg (A9 w)] [] (.agg (Bf (F6 e w))):=by
 generalize g:F6 e w=r;refine Ap func105 (Af3 r e w rfl rfl rfl) ⟨goP e w,Ail h j c,λh1=>?_,λh1=>?_⟩
 .have i:(goP e w).2.2=0:=by simpa using h1
  have d:=AbC h c i;obtain⟨a,b⟩:=Uu (pid:=e.Pid) (k:=200) (t:=noT) d;have f:F6 e w=bif decide ((onS e.M e.Pid 200 (goP e w).1 noT).2.2≠0)then⟨NL e w,C8,(onS e.M e.Pid 200 (goP e w).1 noT).2.2,noT⟩
   else⟨NL e w,EW e.M (EW e.M {(onS e.M e.Pid 200 (goP e w).1 noT).1 with Alone:=-1} e.Pid) w.With,0,(goP e w).2.1++(onS e.M e.Pid 200 (goP e w).1 noT).2.1⟩:=by
   unfold F6;grind
  have l:=Pu h c;have n:noT.size=0:=rfl;rw[g]at f;refine⟨onS e.M e.Pid 200 (goP e w).1 noT,Af8 d,oM,λh2=>?_,λh2=>?_⟩
  .rw[AY]at h2;rw[h2,ApY]at f;subst f;exact⟨trivial,Abt⟩
  .rw[AY]at h2;rw[h2,ApW]at f;subst f;refine AB.le (hs':=[.box (Ai e),.box Apl,.box (Apm e w),.box (Ag {(onS e.M e.Pid 200 (goP e w).1 noT).1 with Alone:=-1}),.arr true 0 2 1 (AO [e.Pid,w.With])]) (AR _) ⟨Ob.le_refl _,Ob.le_refl _,Ob.le_refl _,Ob.le_refl _,Aqm (AgE _ rfl rfl),trivial⟩ ?_;exact AcT (AbF (a (by simpa using h2)))
 .have i:(goP e w).2.2≠0:=by simpa using h1
  unfold F6 at g;rw[Aqn i,ApY]at g;subst g;exact⟨λ_=>⟨trivial,Abt⟩,λh2=>absurd (by simpa using h2) i⟩
def AgJ {out:List Gn}{x:Gn}{G:Nat->List VV}(a:G 0=E4 x){i:Nat}(hi:i<out.length+1):(bif i.blt out.length then I0 out i else G (i-out.length))=I0 (out++[x]) i :=
 BO (f:=E4) (d:=default) (l:=out) (r:=[x]) (F:=I0 out) (λ_ _=>rfl) gD (by simp;omega)
def Aes {k:Nat}:Ff e (k+1)=Ff e k++Km e k:=rfl
def Adr (h:Gs e.M e.S):Ah prog 121 [] [.agg (Ai e)] [] (BT true (Ff e e.S.Procs.length)):=by
 have hp:=h.fits.pl;refine Ap func121 (Agv _ e) ?_;refine AB.own 1 3 17 (I0 []) rfl ?_;change AB _ _ (VN e (Ff e 0) ((0:Nat):Int));refine Ar e.S.Procs.length (λk=>VN e (Ff e k) k) (λ_=>True) trivial ?_;intro k o _ J next
 have g:=NT (e:=e) (n:=k);have a:=Aes (e:=e) (k:=k);refine Aqh (Ads _ e (Ff e k) k J) ⟨λc=>?_,λd=>?_⟩
 .have b:k<e.S.Procs.length:=by have:=AZ c;omega
  unfold Km at a;refine⟨GH (B2 e k),PG (e:=B2 e k) h.wf h.small,λl=>?_,λl=>?_⟩
  .rw[Aqn gD,ApY]at a;have f:e.S.Procs.length<=16:=hp;refine⟨oM,next _ b trivial ?_⟩;rw[a,Al oM];refine Up.mk (hs':=[.box (Ai e),.arr true 0 ((Ff e k).length+1) 17 (I0 (Ff e k++[(B2 e k,(GH (B2 e k)).1)]))]) (AR _) ⟨Ob.le_refl _,Aqm λi hi=>AL (AgJ (x:=(B2 e k,(GH (B2 e k)).1)) (G:=λj=>List.take 17 (List.drop (j*17) (E4 (B2 e k,(GH (B2 e k)).1)))) rfl hi),trivial⟩ ?_;unfold VN;grind
  .rw[Aqu gD,ApW,Aq8]at a;refine next _ b trivial (Up.of ?_)
   grind[Al]
 .obtain rfl:k=e.S.Procs.length:=by have:=AW d;omega
  exact⟨trivial,lR⟩
def Zz {most:Int}{g:Gn}{r:List Gn}:MY e most (g::r)=bif decide (g.1.Pid=e.S.Alone)then(some g,most)else MY e (max most (F9 e g)) r:=rfl
def Tf (h:Gs e.M e.S):Ah prog 104 [] [.agg (Ai e)] [] (BT true (Ei e)):=by
 have hp:e.S.Procs.length<=16:=h.fits.pl;have v:=NT (e:=e) (n:=e.S.Procs.length);have b:∀g∈Ff e e.S.Procs.length,inX g.1.Pid e.S.Procs.length:=λg hg=>by
  obtain⟨i,hi,rfl⟩:=Te hg;exact⟨by show(0:Int)<=i;omega,by show(i:Int)<_;omega⟩
 have f:∀r:Option Gn×Int,MY e 0 (Ff e e.S.Procs.length)=r->Ei e=match r with | (some g,_)=>[g] | (none,most)=>(Ff e e.S.Procs.length).filter λg=>decide (F9 e g=most):=λr B=>by
  unfold Ei;rw[B]<;>rfl
 generalize Ei e=out at f;refine Ap func104 (Aix out e) ⟨Ff e e.S.Procs.length,Adr h,?_⟩;generalize Ff e e.S.Procs.length=L at v b f;refine Aq (λg st=>∃(k:Nat)(most:Int),k<=L.length/\g=L.length-k/\MY e most (L.drop k)=MY e 0 L/\st=AaU e L most k) ⟨_,Up.of ⟨0,0,Ap3 _,rfl,rfl,rfl⟩⟩ ?_;rintro g st ⟨k,most,C,rfl,t,rfl⟩;refine Aqh (AeB out e L most k _ rfl) ⟨λl=>?_,λo=>?_⟩
 .have a:k<L.length:=by have:=AZ l;omega
  have q:(k:Int).toNat=k:=oM
  rw[q];rw[A5 (d:=default) a,Zz]at t;refine⟨⟨oM,oM⟩,λA=>?_,λA=>⟨b _ (As a),L.length-(k+1),oM,Up.of ⟨k+1,max most (F9 e (L.getD k default)),oM,rfl,?_,?_⟩⟩⟩
  .rw[Aqn (by simpa using A),ApY]at t;have f:=f _ t.symm;subst f;refine⟨trivial,AqY (.inl rfl) λj E=>AL ?_⟩;obtain rfl:j=0:=oM
   rfl
  .grind
  .rw[Al oM]<;>rfl
 .obtain rfl:k=L.length:=by have:=AW o;omega
  rw[ArL]at t;have f:out=L.filter λg=>decide (F9 e g=most):=f _ t.symm
  have F:([]:List Gn)=(L.take 0).filter λg=>decide (F9 e g=most):=rfl
  refine AB.own 2 7 17 (I0 []) rfl ?_;change AB _ _ (VL e L ((L.take 0).filter λg=>decide (F9 e g=most)) most ((0:Nat):Int));refine Ar L.length (λk=>VL e L ((L.take k).filter λg=>decide (F9 e g=most)) most k) (λ_=>True) trivial ?_;intro k C _ J next
  have y:((L.take k).filter λg=>decide (F9 e g=most)).length<=L.length:=gD;refine Aqh (AeA out e L _ most k J rfl) ⟨λl=>?_,λo=>?_⟩
  .have a:k<L.length:=by have:=AZ l;omega
   have q:(k:Int).toNat=k:=oM
   rw[q];have c:((L.take (k+1)).filter λg=>decide (F9 e g=most))=((L.take k).filter λg=>decide (F9 e g=most))++([L.getD k default].filter λg=>decide (F9 e g=most)):=by rw[LN a,List.filter_append]
   generalize((L.take k).filter λg=>decide (F9 e g=most))=acc at y c;refine⟨⟨oM,oM⟩,b _ (As a),λz=>⟨oM,next _ a trivial ?_⟩,λz=>next _ a trivial (Up.of ?_)⟩
   .have u:decide (F9 e (L.getD k default)=most)=true:=by
     have:(e.S.Procs.getD (L.getD k default).1.Pid.toNat default).Prio=most:=by simpa using z
     exact Aqn this
    rw[List.filter_cons_of_pos (p:=λg=>decide (F9 e g=most)) u,List.filter_nil]at c;rw[c,Al oM];refine Up.mk (hs':=[.box (Ai e),.arr true 0 (acc.length+1) 17 (I0 (acc++[L.getD k default]))]) (AR _) ⟨Ob.le_refl _,Aqm λi hi=>AL (AgJ (x:=L.getD k default) (G:=λj=>List.take 17 (List.drop (j*17) (E4 (L.getD k default)))) rfl hi),trivial⟩ ?_;unfold VL;grind
   .have u:¬decide (F9 e (L.getD k default)=most)=true:=by
     have:¬(e.S.Procs.getD (L.getD k default).1.Pid.toNat default).Prio=most:=by simpa using z
     exact λh=>this (Aqb h)
    grind[List.filter_cons_of_neg,Aq8,Al]
  .obtain rfl:k=L.length:=by have:=AW o;omega
   rw[AqZ,<- f];exact⟨trivial,lR⟩
end
def Wz:Code->Array Oper
 | .region _ ops _=>ops
 | _=>#[]
def isR:Code->Bool
 | .region _ _ false=>true
 | _=>false
def Apy (N:Nat)(ops:Array Oper):Bool:=ops.toList.all λo=>match o.dst with
 | some d=>Nat.blt d N
 | none=>true
def AlD {N:Nat}{ops:Array Oper}(h:Apy N ops=true)(i:Nat)(o:Oper)(d:Nat)(a:ops[i]?=some o)(hd:o.dst=some d):d<N:=by
 have b:o∈ops.toList:=by
  rw[<- Array.getElem?_toList]at a;exact AqE a
 have:=Aqx.1 h o b;rw[hd]at this;exact Aqg this
def Ala (l':List (Nat×VV))(hs:List Ob)(l:List (Nat×VV)):RG (An (l++l') hs) (An l hs):=by
 refine⟨λt=>?_,λ_=>Ob.le_refl _,rfl⟩;show VV.le (Bo t (l++l')) (Bo t l)
 induction l with
 | nil=>exact λ_ _ _ _ _=>.dead
 | cons p l ih =>
  obtain⟨j,x⟩:=p;simp only[Art,Bo];grind[VV.le_refl]
section
variable {c : Ctx} {E:AP} {J:JT} {K:Exit->Option Nat->St->Prop} {k:Option Nat} {st:St}
def D4.forget (d:HO J){code:Code}(keep:List Nat)(f:okF 0 keep st=true)(h:D4 c.P c.N E J code K k (Go.Proofs.YtedfjceonnoifaaGreatDoor.forget 0 keep st)):D4 c.P c.N E J code K k st :=
 ⟨λS _ a w hi=>let ⟨φ',b⟩:=hi.forget d f;h.h S φ' a w b⟩
def V8 (y:HO J)(z:TOk c.P c.T){code:Code}(v:isR code=true)(kk tf d:Nat){i n:Nat}{oc:Oper}(x x2:Operand){tys:Array TypeId}{l:Nat}{xs:Nat->List VV}
  (A:∀k S T f vs,k<n->J (some k) S T f->(∀b,S b->¬T b)->Gd E (U S T) f->Dj f (E.add (U S T)) none (xs k) vs->YieldAt Fence.wide 0 c.P l vs f λe p =>
   (e=.returned (.bool true)/\∃S',J (some (k+1)) S' T p/\Chg f S p S')\/(e=.returned (.bool false)/\∃S',J none S' T p/\Chg f S p S'))
  (g:(MQ (Db (Wz code) kk) c.N&&Ku (Db (Wz code) kk))=true) (q:Ps (Db (Wz code) kk)=true) (j:(MQ (CS (Wz code) (kk+1)) c.N&&Ku (CS (Wz code) (kk+1)))=true) (o:Apy c.N (Wz code)=true)
  (r:(Wz code)[kk]?=some oc) (t:oc.op=.call {callee:=.value (.tmp tf),args:=#[x,x2],argTypes:=tys}) (u:oc.guard=none) (hd:oc.dst=some d) (hi:i<n) (keep keep2:List Nat)
  (h:(c.piece (Apc kk code) keep λ_ st1=>∃l1 a,st1=An l1 a/\Bo tf l1=.fn (.yield l) []/\xs i=[(An l1 a).val x,(An l1 a).val x2]/\(xs i).all VV.memA=true /\
   ∀b,(c.piece (Aov kk code) keep2 λ_ st3=>K .normal (bif b then some (i+1)else none) st3).goal (An ((d,.sc (.bool b))::l1) a)).goal st) :
  D4 c.P c.N E J code K (some i) st:=by
 cases code with
 | region id ops b =>
  cases b with
  | false=>exact Y0 (ops:=ops) y z A g q j (AlD o) r t u hd hi keep keep2 h
  | true=>cases v
 | _=>cases v
end
section
variable {m : D.Model} {s:D.State} {e:D.Env} {w:Wy}
noncomputable def cEv:Ctx:=fc BR AH f102 [] (.tup [])
def Apv:tlC 3 (cEv.sub [])=.block 0 (.loop (cEv.sub [1,1,1,1,0,0])):=kR
def Apu:tlC 1 (cEv.sub [1,1,1,1,0,0])=.seq (.block 1 (cEv.sub [1,1,1,1,0,0,1,1,0,0])) (cEv.sub [1,1,1,1,0,0,1,1,1]):=kR
def Apt:tlC 1 (cEv.sub [1,1,1,1,0,0,1,1,0,0])=.block 2 (.loop (cEv.sub [1,1,1,1,0,0,1,1,0,0,1,1,0,0])):=kR
def Aps:tlC 1 (cEv.sub [1,1,1,1,0,0,1,1,0,0,1,1,0,0])=.seq (.block 3 (cEv.sub [1,1,1,1,0,0,1,1,0,0,1,1,0,0,1,1,0,0])) (cEv.sub [1,1,1,1,0,0,1,1,0,0,1,1,0,0,1,1,1]):=kR
def Apr:tlC 0 (cEv.sub [1,1,1,1,0,0,1,1,0,0,1,1,0,0,1,1,0,0])=.seq (cEv.sub [1,1,1,1,0,0,1,1,0,0,1,1,0,0,1,1,0,0,1,0]) (.cond (.tmp 48) .ret .skip):=kR
def Apw:∃oc tys,(Wz (cEv.sub [1,1,1,1,0,0,1,1,0,0,1,1,0,0,1,1,0,0,1,0]))[4]?=some oc/\oc.op=.call {callee:=.value (.tmp 43),args:=#[.tmp 45,.tmp 46],argTypes:=tys}/\oc.guard=none/\oc.dst=some 47:=⟨_,_,rfl,rfl,rfl,rfl⟩
def U2 (m:D.Model)(s:D.State)(k:Nat):List VV:=[.agg (Ai ((Df m s).getD k default).1),.agg (A9 ((Df m s).getD k default).2)]
def XN (h:Gs m s):Jt m s=C3 m s s.Procs.length:=by
 unfold Jt;rw[h.check]<;>rfl
def Q8 (h:Gs m s):Od prog 102 [.box (Ae m),.box (Ag s)] [.bp 0 0,.bp 1 0] (Df m s).length (U2 m s):=by
 refine Ald (c:=cEv.sub []) func102 kR rfl dZ ?_;intro l E J f B;have q:∀t a,Gs (D.Env.mk m s 0 t a).M (D.Env.mk m s 0 t a).S:=λ_ _=>h
 have r:GC m s=bif decide (0<(Ei ⟨m,s,0,false,C3 m s s.Procs.length⟩).length)then Ei ⟨m,s,0,false,C3 m s s.Procs.length⟩else Ei ⟨m,s,0,true,C3 m s s.Procs.length⟩:=by
  unfold GC;rw[XN h]
 have u:Df m s=CP (GC m s):=rfl;have v:=Q4 h;have n:∀g∈GC m s,g.2.length<=16778240:=λg hg=>by
  obtain⟨i,t,hi,rfl⟩:=L8 h hg;exact K5 (h.pid (i:=i) (t:=t) (a:=C3 m s s.Procs.length) ⟨oM,oM⟩).1
 have key:D4 cEv.P cEv.N E J (tlC 3 (cEv.sub [])) (λe k _=>(e=.normal\/e=.ret)/\(k=some (Df m s).length\/k=none)) (some 0) (Qe l (GC m s) 0):=by
  have o:∀k,U2 m s k=[.agg (Ai ((Df m s).getD k default).1),.agg (A9 ((Df m s).getD k default).2)]:=λ_=>rfl
  generalize U2 m s=xs at B o;rw[u]at B o |-;generalize GC m s=L at B v n o;clear r u;rw[Apv];refine IZ (Sx f (λg k st=>∃i,i<=L.length/\g=L.length-i/\k=some (MW L i)/\st=Qe l L i) ⟨_,Up.of ⟨0,Ap3 _,rfl,rfl,rfl⟩⟩ ?_);rintro g k st ⟨i,hi,rfl,rfl,rfl⟩;refine Ii (c:=cEv) f Aj Ak [0,30,31,32] 1 kR kR ((AlB l L i _).mpr ⟨λC=>?_,λF=>?_⟩)
  .have p:i<L.length:=by have:=AZ C;omega
   have G:(i:Int).toNat=i:=oM
   have H:=n _ (As (d:=default) p);have x:=λj=>AkV (L:=L) (i:=i) (j:=j) p
   have y:=AhU p;show D4 cEv.P cEv.N E J (tlC 1 (cEv.sub [1,1,1,1,0,0])) _ _ _;rw[Apu];refine MM (IZ (Ii (c:=cEv) f Aj Ak [0,30,31,32,8,37,38,39] 1 kR kR ((AlA l L i _).mpr ⟨⟨oM,oM⟩,?_⟩)));rw[G];generalize L.getD i default=gn at H x y;show D4 cEv.P cEv.N E J (tlC 1 (cEv.sub [1,1,1,1,0,0,1,1,0,0])) _ _ _;rw[Apt];refine IZ (Sx f (λg k st=>∃j,j<=gn.2.length/\g=gn.2.length-j/\k=some (MW L i+j)/\st=VM l L i gn j) ⟨_,Up.of ⟨0,Ap3 _,rfl,rfl,rfl⟩⟩ ?_);rintro g k st ⟨j,Y,rfl,rfl,rfl⟩;refine Ii (c:=cEv) f Aj Ak [0,30,31,32,8,37,38,39] 1 kR kR ((Alz l L i gn j _).mpr ⟨λI=>?_,λO=>?_⟩)
   .have z:j<gn.2.length:=by have:=AZ I;omega
    have Q:(j:Int).toNat=j:=oM
    obtain⟨R,T⟩:=x j z;show D4 cEv.P cEv.N E J (tlC 1 (cEv.sub [1,1,1,1,0,0,1,1,0,0,1,1,0,0])) _ _ _;rw[Aps];refine MM (IZ (Ii (c:=cEv) f Aj Ak [0,30,31,32,8,37,38,39,10] 0 kR kR ((Aly l L i gn j _).mpr ⟨⟨oM,oM⟩,?_⟩)));rw[Q];show D4 cEv.P cEv.N E J (tlC 0 (cEv.sub [1,1,1,1,0,0,1,1,0,0,1,1,0,0,1,1,0,0])) _ _ _;rw[Apr];obtain⟨oc,tys,U,V,W,X⟩:=Apw;refine MM (V8 (c:=cEv) f Aj kR 4 43 47 (.tmp 45) (.tmp 46) B kR kR kR kR U V W X R [0,30,31,32,8,37,38,39,43,45,46] [0,30,31,32,8,37,38,39,48] ((Alx l L i gn j _ _).mpr ⟨_,_,rfl,rfl,?_,?_,λb=>(Alw l L i gn j _ b _).mpr ?_⟩))
    .rw[o,T]<;>rfl
    .rw[o]<;>rfl
    .refine Adm (t:=48) (b:=!b) rfl (λA=>?_) λA=>?_
     .obtain rfl:b=false:=by simpa using A
      exact Agt ⟨.inr rfl,.inr rfl⟩
     .obtain rfl:b=true:=by simpa using A
      refine Adl ?_;show D4 cEv.P cEv.N E J (cEv.sub [1,1,1,1,0,0,1,1,0,0,1,1,0,0,1,1,1]) _ _ _;refine D4.cv f (Ala [(48,Ac !true)] _ [(0,yV l),(30,BT true L),(31,Aa L.length),(32,Aa i),(8,.bp 0 0),(37,Bm true gn.2),(38,Aa gn.2.length),(39,Aa j)]).cv ?_;refine Qm (c:=cEv) f Aj Ak kR [0,30,31,32,8,37,38,39] ((Alv l L i gn j _).mpr ?_);refine⟨gn.2.length-(j+1),oM,Up.of ⟨j+1,oM,rfl,rfl,?_⟩⟩;rw[Al oM]
   .obtain rfl:j=gn.2.length:=by have:=AW O;omega
    show D4 cEv.P cEv.N E J (cEv.sub [1,1,1,1,0,0,1,1,1]) _ _ _;refine D4.forget (c:=cEv) f [0,30,31,32] rfl ?_;change D4 cEv.P cEv.N E J (cEv.sub [1,1,1,1,0,0,1,1,1]) _ _ (Qe l L i);refine Qm (c:=cEv) f Aj Ak kR [0,30,31,32] ((Alt l L i _).mpr ?_);refine⟨L.length-(i+1),oM,Up.of ⟨i+1,oM,rfl,by rw[y],?_⟩⟩;rw[Al oM]
  .obtain rfl:i=L.length:=by have:=AW F;omega
   refine⟨.inl rfl,.inl ?_⟩;rw[Ak3]
 refine Ii (c:=cEv) f Aj Ak [0,30,31,32] 3 kR kR ((Alu m s l _).mpr ⟨(C3 m s s.Procs.length,0),Ty h.wf h.small h.check,Ei ⟨m,s,0,false,C3 m s s.Procs.length⟩,Tf (q _ _),λA=>⟨Ei ⟨m,s,0,true,C3 m s s.Procs.length⟩,Tf (q _ _),?_⟩,λA=>?_⟩)
 .rw[Aqu gD,ApW]at r;rw[r]at key;exact key
 .rw[Aqn gD,ApY]at r;rw[r]at key;exact key
end
def rfI:Code->Nat
 | .block i _=>i
 | _=>0
def rfA:Code->Code
 | .block _ (.rangeFunc _ _ a _)=>a
 | _=>.skip
def rfB:Code->Code
 | .block _ (.rangeFunc _ _ _ b)=>b
 | _=>.skip
def SI {c:Ctx}(o:TOk c.P c.T)(d:c.P.follows .mixedOrders=true){rel:List Nat}{st:St}(id tg:Nat)(ps:List Tmp)(assign body:Code)(q:c.sub rel=.block id (.rangeFunc (.tmp tg) ps.toArray assign body))(r:c.L.base=0)
  (hB:(OI c.N assign&&J0 c.N body)=true) (f:ps.Nodup/\∀p,p∈ps->p<c.N) {gf:Nat} (eg:Hr c.P gf) {hi:List Ob} {caps:List VV} {n:Nat} {xs:Nat->List VV} (g:Od c.P gf hi caps n xs)
  (h:∀k,(xs k).length=ps.length) (ic ii:List Nat) (h1:EQ st.nx ic=true) (h2:EQ st.nx ii=true) (h3:(ic.all λi=>!(ii.any (Nat.beq i)))=true)
  (b:List (Nat×VV)) (nb:Nat) (a:Nat->List Ob) (u:∀k,(a k).length=nb) (j:VK nb b=true) (v:∀t,VV.le (Iv st ic (st.t t)) (Bo t b)) (x:leO (ic.map (EA st ic)) (a 0))
  (hg:VV.le (Iv st ii (st.t tg)) (.fn (.func gf) caps)) (l:leO (ii.map (EA st ii)) hi)
  (round:∀k,k<n->A3 ((c.rg rel nb b (a (k+1))).goal (An (ps.zip (xs k)++b) (a k)))) (done:A3 ((c.after rel).goal (An b (a n)))):AB c rel st :=
 Y3 o d id tg ps assign body q r hB f eg g h ic ii h1 h2 h3 b nb a u j v x hg l (λk y=>(round k y).out) done.out
def La (x:VV):VV.le x .dead:=λ_ _ _ _ _=>.dead
def IS {α:Type}{l:List α}{k:Nat}{d:α}(h:k<l.length):l.take (k+1)=l.take k++[l.getD k d]:=by
 rw[List.take_add_one];simp[List.getD,h]
def AoF:[19,20].Nodup/\∀p,p∈[19,20]->p<(f74).ntmps:=dZ
section
variable {m : D.Model} {s:D.State} {e:D.Env} {w:Wy}
def Q7:Ah prog 72 [] [.agg (Ae m),.agg (Ag s)] [.box (Ae m),.box (Ag s)] (.fn (.func 102) [.bp 0 0,.bp 1 0]) :=
 Ap func72 (Alm m s rfl) ⟨Cw _,lR⟩
def Anv {out:List Nx}{x:Nx}{G:Nat->List VV}(a:G 0=Bf x){i:Nat}(hi:i<out.length+1):(bif i.blt out.length then Bc out i else G (i-out.length))=Bc (out++[x]) i :=
 BO (f:=Bf) (d:=default) (l:=out) (r:=[x]) (F:=Bc out) (λ_ _=>rfl) (λj b=>by
  obtain rfl:j=0:=by simpa using b
  exact a) (by simp;omega)
noncomputable abbrev ssC (L:List Nx):Ctx:=BL prog tb BR HJ false f74 [.arr true 0 (L,(0:Int)).1.length 15 (Bc (L,(0:Int)).1)] (.tup [.ow 0 0 (L,(0:Int)).1.length,Aa (L,(0:Int)).2])
def Aeo (l:List Nx):List Ob:=[.box [.ow 1 0 l.length],.arr true 0 l.length 15 (Bc l)]
def Af5 (L l l2:List Nx):((ssC L).rg [1,1,1,0,1] 2 [(7,.bp 0 0)] (Aeo l2)).goal (An ([19,20].zip [.agg (Ai e),.agg (A9 w)]++[(7,.bp 0 0)]) (Aeo l)) =
  ((ssC L).rg [1,1,1,0,1] 2 [(7,.bp 0 0)] [.box [.ow 1 0 l2.length],.arr true 0 l2.length 15 (Bc l2)]).goal (An [(19,.agg (Ai e)),(20,.agg (A9 w)),(7,.bp 0 0)] [.box [.ow 1 0 l.length],.arr true 0 l.length 15 (Bc l)]):=kR
def AmN {L l:List Nx}{x:Nx}(h:Ah prog 105 [] [.agg (Ai e),.agg (A9 w)] [] (.agg (Bf x)))(a:l.length<=285230080):A3 (((ssC L).rg [1,1,1,0,1] 2 [(7,.bp 0 0)] (Aeo (l++[x]))).goal (An ([19,20].zip [.agg (Ai e),.agg (A9 w)]++[(7,.bp 0 0)]) (Aeo l))):=by
 refine Aqh ((Af5 L l (l++[x])).trans (AgB (L,0) e w l (l++[x]))) ⟨x,h,oM,?_,trivial⟩;rw[Ap5];exact⟨Ob.le_refl _,Aqm λi hi=>AL (Anv (x:=x) (G:=λi=>List.take 15 (List.drop (i*15) (Bf x))) rfl hi),trivial⟩
def Aj0 {L l:List Nx}(a:l=L):A3 (((ssC L).after [1,1,1,0,1]).goal (An [(7,.bp 0 0)] (Aeo l))):=by
 subst a;exact Aqh (AgA (l,0) l) ⟨Cw _,lR⟩
def Ot (h:Gs m s):Ah prog 74 [] [.agg (Ae m),.agg (Ag s)] [.arr true 0 (B9 m s).1.length 15 (Bc (B9 m s).1)] (.tup [.ow 0 0 (B9 m s).1.length,Aa (B9 m s).2]):=by
 have o:B9 m s=((Df m s).map λp=>F6 p.1 p.2,0):=by
  unfold B9;rw[h.check]<;>rfl
 have f:=Tl h;have b:∀k,k<(Df m s).length->Ah prog 105 [] (U2 m s k) [] (.agg (Bf (F6 ((Df m s).getD k default).1 ((Df m s).getD k default).2))):=λk i=>by
  obtain⟨_,_,h3,h4,h5⟩:=Tk h (As (d:=default) i);exact AcU h3 h4 h5
 refine Ap func74 (Akl (B9 m s) m s rfl) ⟨B4 m s,Dx h.wf h.small (λh=>(EN h).clp),λh1=>?_,λ_=>⟨(m,s),Q7,?_⟩⟩
 .rw[h.check]at h1;cases h1
 rw[o];refine AB.cv (ArI 0 0 15 (Bc []) rfl rfl) ?_;have c:=Q8 h;have a:∀k,U2 m s k=[.agg (Ai ((Df m s).getD k default).1),.agg (A9 ((Df m s).getD k default).2)]:=λ_=>rfl
 generalize U2 m s=xs at c b a;generalize Df m s=L at c b a f;refine SI Aj Ak (rfI ((fc BR HJ f74 [] (.tup [.nl,.nl])).sub [1,1,1,0,1])) 18 [19,20] (rfA ((fc BR HJ f74 [] (.tup [.nl,.nl])).sub [1,1,1,0,1])) (rfB ((fc BR HJ f74 [] (.tup [.nl,.nl])).sub [1,1,1,0,1])) kR rfl kR AoF
  ⟨_,func102,rfl,rfl⟩ c (λk=>by rw[a]<;>rfl) [0,3] [1,2] rfl rfl rfl [(7,.bp 0 0)] 2 (λk=>Aeo ((L.take k).map λp=>F6 p.1 p.2)) (λ_=>rfl) rfl (λt=>?_) ?_ ?_ ?_ (λk i=>?_) ?_
 .show VV.le (Iv _ _ (Bo t [(7,.bp 0 0),(18,_)])) (Bo t [(7,.bp 0 0)]);simp only[Bo];cases Nat.beq t 7 with
  | true=>exact lR
  | false=>exact La _
 .exact Cw _
 .exact lR
 .exact Cw _
 .have g:=b k i;rw[a]at g |-;have j:(L.take (k+1)).map (λp=>F6 p.1 p.2)=(L.take k).map (λp=>F6 p.1 p.2)++[F6 (L.getD k default).1 (L.getD k default).2]:=by
   rw[IS (d:=default) i,Are]<;>rfl
  have n:((L.take k).map (λp=>F6 p.1 p.2)).length=k:=by simp;omega
  rw[j];generalize(L.take k).map (λp=>F6 p.1 p.2)=l at n;exact AmN g oM
 .exact Aj0 (by rw[AqZ])
def Yz (h:Gs m s):Ah prog 74 [] [.agg (Ae m),.agg (Ag s)] [] (.tup [Az true (B9 m s).1,Aa (B9 m s).2]):=by
 have h1:Ah prog 74 [] [.agg (Ae m),.agg (Ag s)] [.gone 1] (.tup [Az true (B9 m s).1,Aa (B9 m s).2]):=(Ot h).sel [0] kR kR;exact h1.pick [] rfl λj a=>absurd a (AqL j)
end
def Ah.froz {P:Program}{f:FuncId}{xs:List VV}{c:List Ob}{r r2:VV}{ids:List Nat}(k:Nat)(h:Ah P f [] xs c r)(hp:EY (Bl c) k r=some (r2,ids))(o:r2.memA=true):Ah P f [] xs [] r2:=by
 refine⟨h.callable,λw E φ vs q t hφ d=>(h.call w E φ vs q t hφ d).mono ?_⟩;rintro e w' ⟨v,φ',rfl,h1,h2,h3,h4⟩;have h5:=FY (ids:=ids) h1 _ r r2 v ids h4 hp λ_ h=>h
 have h6:V w' (E.up (BM ids φ')) (some (BM ids φ')) r2 v:=V.held (V.unhold h5);have a:∀{b:Nat},¬Own (λ_=>none:Phi) b:=λ{b} h=>by
  obtain⟨id,g⟩:=h;obtain⟨p,hp,_⟩:=A0.1 g;cases hp
 refine⟨v,λ_=>none,rfl,⟨h1.sub,λ_ _ e=>(by cases e),λi j k hi _=>absurd ⟨i,hi⟩ a,λk l=>absurd l a⟩,⟨h2.os,h2.tape,h2.output,h2.size,h2.block,λk l=>absurd l a,λid p n=>absurd n (AqL _)⟩,λid=>⟨λh=>absurd rfl h,λh=>absurd h (AqL _)⟩,V.memA h6 o ?_⟩;exact λb g=>g.elim .inl λh=>absurd h a
section
variable {m : D.Model} {s:D.State} {e:D.Env} {w:Wy}
def Aah (a:Fit s):Ah prog 77 [] [.agg (Ag s)] [] (.agg (Ag s)):=(NW a).froz (ids:=[0,1]) 6 kR kR
def P7 {c:Int}:Ah prog 75 [] [Aa c] [] (.agg (Bz (Dl c))) :=
 Ap func75 (AiW (Dl c) c) ⟨trivial,lR⟩
def Aap (c:AI e.M)(hs:BH e.S){t:D.Stmt}:Ah prog 106 [] [.agg (Ai e),.agg (Ax t)] [] (.agg (Du (DZ e t))):=by
 have a:DZ e t=if t.Kind=1 then(decide ((Bh e t.A).1≠0)||decide ((Bh e t.A).2≠0),(Bh e t.A).2)else if t.Kind=3 then(true,bif decide ((Bh e t.A).2=0)&&decide ((Bh e t.A).1=0)then 50 else(Bh e t.A).2)else(decide (t.Kind=8),0):=rfl
 have b:=Hf c hs t.A;generalize DZ e t=r at a;generalize Bh e t.A=y at a b;refine Ap func106 (Ae2 r e t rfl) ⟨λh1=>⟨y,b,?_⟩,λh1=>⟨λh2=>⟨y,b,λh3=>?_,λh3=>?_⟩,λh2=>?_⟩⟩
 .rw[AqH (by simpa using h1)]at a;subst a;refine⟨trivial,AqV ?_⟩;rw[B6,AY,AY]<;>rfl
 .rw[Aqs (by simpa using h1),AqH (by simpa using h2)]at a;rw[BU]at h3;rw[show(decide (y.2=0)&&decide (y.1=0))=true by simpa using h3,ApY]at a;subst a;exact⟨trivial,lR⟩
 .rw[Aqs (by simpa using h1),AqH (by simpa using h2)]at a;rw[BU]at h3;rw[show(decide (y.2=0)&&decide (y.1=0))=false by simpa using h3,ApW]at a;subst a;exact⟨trivial,lR⟩
 .rw[Aqs (by simpa using h1),Aqs (by simpa using h2)]at a;subst a;refine⟨trivial,AqV ?_⟩;rw[show(t.Kind==8)=decide (t.Kind=8)by rw[AqP];simp]<;>rfl
def Ans {out:List Wc}{x:Wc}{G:Nat->List VV}(a:G 0=Du x){i:Nat}(hi:i<out.length+1):(bif i.blt out.length then JZ out i else G (i-out.length))=JZ (out++[x]) i :=
 BO (f:=Du) (d:=default) (l:=out) (r:=[x]) (F:=JZ out) (λ_ _=>rfl) (λj b=>by
  obtain rfl:j=0:=by simpa using b
  exact a) (by simp;omega)
def OS (m:D.Model)(s:D.State)(k i:Nat):Wc:=bif Nat.blt i k then Jv m s i else DZ (CG m s) ((Au m s).getD i default).S
def F4 (m:D.Model)(s:D.State)(k:Nat):List Wc:=(List.range (Au m s).length).map (OS m s k)
def Ia {k:Nat}:(F4 m s k).length=(Au m s).length:=by simp[F4]
def PN {k j:Nat}(a:j<(Au m s).length):(F4 m s k).getD j default=OS m s k j:=by
 simp[F4,List.getD,a]
def Yh:F4 m s 0=(Au m s).map λt=>DZ (CG m s) t.S:=by
 refine List.ext_getElem (by simp[F4]) λi h1 h2=>?_
 have hi:i<(Au m s).length:=by simpa[F4]using h1
 simp only[F4,List.getElem_map,List.getElem_range];show OS m s 0 i=_;unfold OS;rw[show Nat.blt i 0=false from rfl,ApW];simp[List.getD,hi]
def Aco:F4 m s (Au m s).length=DU m s:=by
 refine ArY λi hi=>?_
 unfold OS;rw[DA (Aq1.1 hi)]
def R7 {k:Nat}:OS m s k k=DZ (CG m s) ((Au m s).getD k default).S:=by
 unfold OS;rw[EF (Ap1 _)]
def R6 {k j:Nat}(h:j≠k):OS m s (k+1) j=OS m s k j:=by
 unfold OS;rcases AqF j k with a|a
 .rw[DA a,DA oM]
 .rw[EF a,EF oM]
def Vi {k:Nat}:OS m s (k+1) k=Jv m s k:=by unfold OS;rw[DA (Aq3 _)]
def Rh (h:Gs m s)(n:0<=m.Claim):Ah prog 76 [] [.agg (Ae m),.agg (Ag s)] [] (Cx true (DU m s)):=by
 obtain⟨r,u,v⟩:=Nf h n;obtain⟨A,B,C⟩:=Nd h n;have hd:=λt=>Aap (e:=CG m s) (t:=t) h.wf h.small
 refine Ap func76 (AeU (DU m s) m s rfl) ⟨(Jt m s,0),by rw[XN h];exact Ty h.wf h.small h.check,⟨n,r⟩,⟨u,v⟩,?_⟩;refine AB.own 1 8 2 (JZ []) rfl ?_;change AB _ _ (AjW (CG m s) (((Au m s).take 0).map λt=>DZ (CG m s) t.S) (((Au m s).take 0).any λt=>(DZ (CG m s) t.S).1) (Au m s) ((0:Nat):Int));refine Ar (Au m s).length (λk=>AjW (CG m s) (((Au m s).take k).map λt=>DZ (CG m s) t.S) (((Au m s).take k).any λt=>(DZ (CG m s) t.S).1) (Au m s) k) (λ_=>True) trivial ?_;intro k y _ J next
 have z:(((Au m s).take k).map λt=>DZ (CG m s) t.S).length=k:=by simp;omega
 refine Aqh (Aaf (DU m s) m s (CG m s) _ _ (Au m s) k J) ⟨λb=>?_,λc=>?_⟩
 .have a:k<(Au m s).length:=by have:=AZ b;omega
  have d:(k:Int).toNat=k:=oM
  rw[d];have o:(Au m s).take (k+1)=(Au m s).take k++[(Au m s).getD k default]:=IS a;refine⟨⟨oM,oM⟩,DZ (CG m s) ((Au m s).getD k default).S,hd _,oM,next _ a trivial ?_⟩;rw[o,Are,List.any_append,AqN,Ara,ArE,List.any_nil,Bool.or_false,Al oM];refine Up.mk (l':=[(7,.bp 0 0),(8,.ow 1 0 ((((Au m s).take k).map λt=>DZ (CG m s) t.S).length+1)),(9,Ac ((((Au m s).take k).any λt=>(DZ (CG m s) t.S).1)||(DZ (CG m s) ((Au m s).getD k default).S).1)),(10,Ao true (Au m s)),(38,Ao true (Au m s)),(39,Aa (Au m s).length),(40,Aa ((k+1:Nat):Int))])
   (hs':=[.box (Ai (CG m s)),.arr true 0 ((((Au m s).take k).map λt=>DZ (CG m s) t.S).length+1) 2 (JZ ((((Au m s).take k).map λt=>DZ (CG m s) t.S)++[DZ (CG m s) ((Au m s).getD k default).S]))])
   ⟨⟨rfl,lR⟩,⟨rfl,lR⟩,⟨rfl,AqV (by rw[B6])⟩,⟨rfl,lR⟩,⟨rfl,lR⟩,⟨rfl,lR⟩,⟨rfl,lR⟩,trivial⟩ ⟨Ob.le_refl _,Aqm λi hi=>AL (Ans (x:=DZ (CG m s) ((Au m s).getD k default).S) (G:=λi=>List.take 2 (List.drop (i*2) (Du (DZ (CG m s) ((Au m s).getD k default).S)))) rfl hi),trivial⟩ ?_
  unfold AjW;rw[Ap5]<;>rfl
 .obtain rfl:k=(Au m s).length:=by have:=AW c;omega
  rw[AqZ,<- Yh];have p:((Au m s).any λt=>(DZ (CG m s) t.S).1)=Lu m s:=rfl;rw[p];refine Ar (Au m s).length (λk=>AjV (F4 m s k) (Lu m s) (Au m s) k) (λ_=>True) trivial ?_;intro k y _ J next
  refine Aqh (Aae (DU m s) (F4 m s k) (Lu m s) (Au m s) k J) ⟨λb=>?_,λc=>?_⟩
  .have a:k<(Au m s).length:=by have:=AZ b;omega
   have d:(k:Int).toNat=k:=oM
   rw[d];have l:Jv m s k=bif decide (((Au m s).getD k default).S.Kind=7)&&!Lu m s then(true,(DZ (CG m s) ((Au m s).getD k default).S).2)else DZ (CG m s) ((Au m s).getD k default).S:=rfl
   refine⟨⟨oM,oM⟩,λf=>⟨⟨oM,by rw[Ia];omega⟩,next _ a trivial ?_⟩,λf=>next _ a trivial (Up.of ?_)⟩
   .rw[BU,show((((Au m s).getD k default).S.Kind==7)&&!Lu m s)=(decide (((Au m s).getD k default).S.Kind=7)&&!Lu m s)by rw[show(((Au m s).getD k default).S.Kind==7)=decide (((Au m s).getD k default).S.Kind=7)by rw[AqP];simp]]at f;rw[f,ApY]at l;rw[Al oM,PN a,R7];refine Up.mk (l':=[(8,.ow 0 0 (F4 m s (k+1)).length),(9,Ac (Lu m s)),(58,Ao true (Au m s)),(59,Aa (Au m s).length),(60,Aa ((k+1:Nat):Int))]) (hs':=[.arr true 0 (F4 m s (k+1)).length 2 (JZ (F4 m s (k+1)))]) ?_ ?_ rfl
    .rw[Ia,Ia];exact AR _
    .rw[Ia,Ia];refine⟨Aqm λj g=>AL ?_,trivial⟩;show _=Du ((F4 m s (k+1)).getD j default);rw[PN g,PN g];cases q:j.beq k with
     | true =>
      have:=Ap0 q;subst this;rw[ApY,Vi,l]<;>rfl
     | false=>rw[ApW,R6 (by rintro rfl;simp at q)]
   .rw[BU,show((((Au m s).getD k default).S.Kind==7)&&!Lu m s)=(decide (((Au m s).getD k default).S.Kind=7)&&!Lu m s)by rw[show(((Au m s).getD k default).S.Kind==7)=decide (((Au m s).getD k default).S.Kind=7)by rw[AqP];simp]]at f;rw[f,ApW]at l;have:F4 m s (k+1)=F4 m s k:=ArY λj _=>by
     by_cases g:j=k
     .subst g;rw[Vi,R7,l]
     .exact R6 g
    rw[this,Al oM]
  .obtain rfl:k=(Au m s).length:=by have:=AW c;omega
   rw[Aco];exact⟨trivial,lR⟩
end
section
variable {m : D.Model} {s:D.State} {e:D.Env} {w:Wy}
def Anw {out:List Nx}{x:Nx}{G:Nat->List VV}(a:leL (G 0) (Bf x)){i:Nat}(hi:i<out.length+1):leL (bif i.blt out.length then Bf (out.getD i default)else G (i-out.length)) (Bc (out++[x]) i):=by
 rcases AqF i out.length with h|h
 .rw[DA h];refine AL ?_;show _=Bf ((out++[x]).getD i default);simp[Aqa h]
 .rw[EF h];obtain rfl:i=out.length:=oM
  show leL _ (Bf ((out++[x]).getD out.length default));have:(out++[x]).getD out.length default=x:=by simp
  rw[this,Nat.sub_self];exact a
def Zv {k:Nat}:Ey m s (k+1)=Ey m s k++OD m s k:=rfl
def Nq:(DU m s).length=(Au m s).length:=by simp[DU]
def AfD {k:Nat}(h:k<(Au m s).length):(DU m s).getD k default=Jv m s k:=by simp[DU,List.getD,h]
def Aa8 {l:Nat->List (Nat×VV)}{J:St->Prop}{out:List Nx}{x:Nx}{G:Nat->List VV}(a:leL (G 0) (Bf x))
  (h:J (An (l (out++[x]).length) [.box (Ae m),.box (Ag s),.arr true 0 (out++[x]).length 15 (Bc (out++[x]))])) :
  Up J (An (l (out.length+1)) [.box (Ae m),.box (Ag s),.arr true 0 (out.length+1) 15 λi=>bif i.blt out.length then Bf (out.getD i default)else G (i-out.length)]):=by
 rw[show(out++[x]).length=out.length+1 by simp]at h;exact Up.mk (hs':=[.box (Ae m),.box (Ag s),.arr true 0 (out.length+1) 15 (Bc (out++[x]))]) (AR _) ⟨Ob.le_refl _,Ob.le_refl _,Aqm λi hi=>Anw (x:=x) (G:=G) a hi,trivial⟩ h
def OL (h:Gs m s)(y:0<=m.Claim):AB (fc BR E5 f50 [] (.tup [Az true (Ey m s (Au m s).length,(0:Int)).1,Aa (Ey m s (Au m s).length,(0:Int)).2])) [1,1,1,1,1,0,1,0] (AcS m s (FA m s) (DU m s) [] 0):=by
 obtain⟨O,P,Q⟩:=Nf h y;obtain⟨R,V,W⟩:=Nd h y;obtain⟨S,r2⟩:=Aa4 h;have B:=λk z=>(NK h y (k:=k) z).1
 change AB _ _ (AcS m s (FA m s) (DU m s) (Ey m s 0) ((0:Nat):Int));refine Ar (Au m s).length (λk=>AcS m s (FA m s) (DU m s) (Ey m s k) k) (λ_=>True) trivial ?_;intro k z _ J next
 have C:=B k z;refine Aqh (XA _ m s (FA m s) (DU m s) (Ey m s k) k J rfl) ⟨λE=>?_,λF=>?_⟩
 .have c:k<(Au m s).length:=by have:=AZ E;rw[Nq]at this;omega
  have H:(k:Int).toNat=k:=oM
  have g:OD m s k=bif !(Jv m s k).1 then[]else bif decide ((Jv m s k).2≠0)then[⟨Dl k,C8,(Jv m s k).2,noT⟩]else(FA m s).map (F3 k ((Au m s).getD k default).To):=rfl
  have a:=Zv (m:=m) (s:=s) (k:=k);rw[H,AfD c];generalize OD m s k=nk at g a;generalize Ey m s (k+1)=nk1 at a next
  generalize Ey m s k=out at C a;have f:out.length<=292075601920:=by have:=Aqe 285230080 z;have:=Aqe 285230080 R;omega
  refine⟨⟨oM,by rw[Nq];omega⟩,λA=>next _ c trivial (Up.of ?_),λA=>⟨λf=>⟨Dl k,P7,oM,next _ c trivial ?_⟩,λf=>?_⟩⟩
  .rw[A,ApY]at g;rw[a,g,Aq8,Al oM]
  .rw[A,ApW,show decide ((Jv m s k).2≠0)=true by simpa using f,ApY]at g;rw[Al oM];refine Aa8 (x:=⟨Dl k,C8,(Jv m s k).2,noT⟩) (l:=λn=>[(2,.bp 0 0),(3,.bp 1 0),(6,Az true (FA m s)),(8,.ow 2 0 n),(37,Cx true (DU m s)),(38,Aa (DU m s).length),(39,Aa ((k+1:Nat):Int))]) (G:=λi=>List.take 15 (List.drop (i*15) [Aa (Dl k).Pid,Aa (Dl k).Esc,Aa (Dl k).Way,Aa (Dl k).With,Aa (Dl k).WithEsc,Aa (Dl k).WithWay,Aa (Dl k).Claim,VV.nl,VV.nl,VV.nl,Aa 0,Aa 0,Aa 0,Aa (Jv m s k).2,AN ByteArray.empty])) ?_ ?_
   .exact⟨lR,lR,lR,lR,lR,lR,lR,Aqy,Aqy,Aqy,lR,lR,lR,lR,lR,trivial⟩
   .rw[a,g]<;>rfl
  .rw[A,ApW,show decide ((Jv m s k).2≠0)=false by simpa using f,ApW]at g;have key:nk1=out++((FA m s).take (FA m s).length).map (F3 k ((Au m s).getD k default).To):=by rw[AqZ,a,g]
   generalize FA m s=L at S r2 key next
   clear g a;have T:out=out++(L.take 0).map (F3 k ((Au m s).getD k default).To):=sM
   have I:Af2 m s L (DU m s) out k 0=Af2 m s L (DU m s) (out++(L.take 0).map (F3 k ((Au m s).getD k default).To)) k ((0:Nat):Int):=by rw[<- T]<;>rfl
   rw[I];refine Ar L.length (λi=>Af2 m s L (DU m s) (out++(L.take i).map (F3 k ((Au m s).getD k default).To)) k i) (λ_=>True) trivial ?_;intro i hi _ J2 next2;have K:(out++(L.take i).map (F3 k ((Au m s).getD k default).To)).length<=292075601920+285230080:=by simp;omega
   refine Aqh (Xz _ m s L (DU m s) (out++(L.take i).map (F3 k ((Au m s).getD k default).To)) k i J J2 rfl rfl rfl) ⟨λo=>?_,λp=>?_⟩
   .have b:i<L.length:=by have:=AZ o;omega
    have q:(i:Int).toNat=i:=oM
    rw[q];have M:=next2;have r:(L.take (i+1)).map (F3 k ((Au m s).getD k default).To)=(L.take i).map (F3 k ((Au m s).getD k default).To)++[F3 k ((Au m s).getD k default).To (L.getD i default)]:=by rw[IS (d:=default) b,Are]<;>rfl
    have t:=r2 _ (As (d:=default) b);rw[r,<- AqT]at next2;clear M r;have j:F3 k ((Au m s).getD k default).To (L.getD i default)=bif decide ((L.getD i default).Err=0)then⟨{(L.getD i default).Move with Claim:=k},{(L.getD i default).State with Claim:=((Au m s).getD k default).To},(L.getD i default).Err,(L.getD i default).Text⟩else⟨{(L.getD i default).Move with Claim:=k},(L.getD i default).State,(L.getD i default).Err,(L.getD i default).Text⟩:=rfl
    generalize F3 k ((Au m s).getD k default).To (L.getD i default)=x at j next2;generalize out++(L.take i).map (F3 k ((Au m s).getD k default).To)=u at K next2;generalize L.getD i default=n at t j;have fin:∀(G:Nat->List VV),leL (G 0) (Bf x)->J2 (An [(2,.bp 0 0),(3,.bp 1 0),(6,Az true L),(8,.ow 2 0 (u.length+1)),(9,Aa k),(37,Cx true (DU m s)),(38,Aa (DU m s).length),(39,Aa k),(58,Az true L),(59,Aa L.length),(60,Aa ((i+1:Nat):Int))]
      [.box (Ae m),.box (Ag s),.arr true 0 (u.length+1) 15 λi=>bif i.blt u.length then Bf (u.getD i default)else G (i-u.length)]):=λG U=>next2 _ b trivial (Aa8 (x:=x) (l:=λn=>[(2,.bp 0 0),(3,.bp 1 0),(6,Az true L),(8,.ow 2 0 n),(9,Aa k),(37,Cx true (DU m s)),(38,Aa (DU m s).length),(39,Aa k),(58,Az true L),(59,Aa L.length),(60,Aa ((i+1:Nat):Int))]) (G:=G) U rfl)
    rw[Al oM];refine⟨⟨oM,oM⟩,λN=>?_,λN=>⟨oM,fin (λi=>List.take 15 (List.drop (i*15) [Aa n.Move.Pid,Aa n.Move.Esc,Aa n.Move.Way,Aa n.Move.With,Aa n.Move.WithEsc,Aa n.Move.WithWay,Aa k,Ad true n.State.Globals,AK true n.State.Chans,Av true n.State.Procs,Aa n.State.Last,Aa n.State.Alone,Aa n.State.Claim,Aa n.Err,AN n.Text])) ?_⟩⟩
    .have v:n.Err=0:=by simpa using N
     rw[Aqn v,ApY]at j;refine⟨n.State,Aah (t.gs v).fit,⟨y,O⟩,⟨P,Q⟩,⟨oM,by show(k:Int)<(Au m s).length;omega⟩,oM,fin (λi=>List.take 15 (List.drop (i*15) [Aa n.Move.Pid,Aa n.Move.Esc,Aa n.Move.Way,Aa n.Move.With,Aa n.Move.WithEsc,Aa n.Move.WithWay,Aa k,Ad true n.State.Globals,AK true n.State.Chans,Av true n.State.Procs,Aa n.State.Last,Aa n.State.Alone,Aa ((Au m s).getD k default).To,Aa n.Err,AN n.Text])) ?_⟩;rw[j];exact AL rfl
    .rw[Aqu (by simpa using N),ApW]at j;rw[j];exact AL rfl
   .obtain rfl:i=L.length:=by have:=AW p;omega
    rw[<- key,Al oM];exact next _ c trivial (Up.of rfl)
 .obtain rfl:k=(Au m s).length:=by have:=AW F;rw[Nq]at this;omega
  exact⟨trivial,lR⟩
def Xs (h:Gs m s):Ah prog 50 [] [.agg (Ae m),.agg (Ag s)] [] (.tup [Az true (Cq m s).1,Aa (Cq m s).2]):=by
 have c:Cq m s=bif decide ((B9 m s).2≠0)||decide (m.Claim<0)then B9 m s else(Ey m s (Au m s).length,0):=rfl
 refine Ap func50 (Aaq (Cq m s) m s rfl rfl) ⟨B9 m s,Yz h,λa=>?_,λa=>?_⟩
 .rw[B6,AY]at a;rw[a,ApY]at c;rw[c];exact⟨trivial,lR⟩
 .rw[B6,AY]at a;rw[a,ApW]at c;simp only[Aql,Aqz]at a;have d:0<=m.Claim:=oM
  rw[c];refine⟨λf=>⟨Dl (-1),P7,DU m s,Rh h d,?_⟩,λf=>⟨DU m s,Rh h d,?_⟩⟩
  .have g:FA m s=[⟨Dl (-1),s,0,noT⟩]:=by
    unfold FA;rw[Aqu (by have:((B9 m s).1.length:Int)=0:=(by simpa using f);omega),ApW]
   have b:=OL h d;rw[g]at b;generalize DU m s=ws at b;have h0:∀(F:Nat->List VV),F 0=Bf ⟨Dl (-1),s,0,noT⟩->∀i,i<1->leL (F i) (Bc [⟨Dl (-1),s,0,noT⟩] i):=λF j i hi=>by
    obtain rfl:i=0:=oM
    exact AL j
   refine AB.le (hs':=[.box (Ae m),.box (Ag s),.arr true 0 1 15 (Bc [⟨Dl (-1),s,0,noT⟩])]) (AR _) ⟨Ob.le_refl _,Ob.le_refl _,Aqm (h0 _ rfl),trivial⟩ ?_;refine AB.cv (Cv.pub (k:=2) (id:=2) rfl rfl) ?_;refine AB.forget [2,3,6,8,37,38,39] kR ?_;have l:Go.Proofs.YtedfjceonnoifaaGreatDoor.forget 0 [2,3,6,8,37,38,39] (An ([(2,VV.bp 0 0),(3,.bp 1 0),(6,.ow 2 0 1),(8,.nl),(37,Cx true ws),(38,Aa ws.length),(39,Aa 0)].set 2 (6,.sl true 1 15 (Bc [⟨Dl (-1),s,0,noT⟩]))) ([Ob.box (Ae m),.box (Ag s),.arr true 0 1 15 (Bc [⟨Dl (-1),s,0,noT⟩])].set 2 (.gone (0+1))))=An [(2,.bp 0 0),(3,.bp 1 0),(6,Az true [⟨Dl (-1),s,0,noT⟩]),(8,.nl),(37,Cx true ws),(38,Aa ws.length),(39,Aa 0)] [.box (Ae m),.box (Ag s)]:=kR
   show AB _ _ (Go.Proofs.YtedfjceonnoifaaGreatDoor.forget 0 [2,3,6,8,37,38,39] _);refine Eq.mpr (congrArg (AB _ _) l) ?_;exact AB.own 3 8 15 (Bc []) rfl b
  .have g:FA m s=(B9 m s).1:=by
    unfold FA;rw[Aqn (by have:((B9 m s).1.length:Int)≠0:=(by simpa using f);omega),ApY]
   have b:=OL h d;rw[g]at b;exact AB.own 3 8 15 (Bc []) rfl b
end
section
variable {m : D.Model} {s:D.State} {e:D.Env} {w:Wy}
def Aa3 {α:Type}{f:α->List VV}{d:α}{out:List α}{x:α}{G:Nat->List VV}(a:leL (G 0) (f x)){i:Nat}(hi:i<out.length+1):leL (bif i.blt out.length then f (out.getD i d)else G (i-out.length)) (f ((out++[x]).getD i d)):=by
 rcases AqF i out.length with h|h
 .rw[DA h];refine AL ?_;simp[Aqa h]
 .rw[EF h];obtain rfl:i=out.length:=oM
  have:(out++[x]).getD out.length d=x:=by simp
  rw[this,Nat.sub_self];exact a
def Akq (n:Nat):leL [VV.sl false n 1 λ_=>[Aa 0]] [Ad false (List.replicate n 0)]:=by
 refine AL ?_;have:(λi=>[Aa ((List.replicate n (0:Int)).getD i 0)])=λ_=>[Aa 0]:=by
  funext i
  have:(List.replicate n (0:Int)).getD i 0=0:=by
   simp only[Aqd,List.getElem?_replicate];split<;>rfl
  rw[this]
 unfold Ad;rw[List.length_replicate,this]
def Z1 (z:AI m)(h:E0 m=true):Ah prog 9 [] [.agg (Ae m)] [] (.tup [.agg (Ag (A1 m)),Aa 0]):=by
 have I:∀k:Nat,k<m.Procs.length->DO (Bd m k)=true:=λk y=>(Ed (CB h).2.1 k y).1
 have R:m.Chans.length<=1048576:=z.Chans.1;have K:=λk y=>Abr h (k:=k) y
 refine Ap func9 (Agm (A1 m) 0 m rfl) ⟨E0 m,QO z,λg=>(by rw[h]at g;cases g),λ_=>⟨m.Init,Aaj (by have:=z.Init.1;omega),?_⟩⟩;refine AB.cv (ArI 2 1 2 (DL []) rfl rfl) ?_;change AB _ _ (AaW m ((m.Chans.take 0).map λc=>⟨c,[]⟩) ((0:Nat):Int));refine Ar m.Chans.length (λk=>AaW m ((m.Chans.take k).map λc=>⟨c,[]⟩) k) (λ_=>True) trivial ?_;intro k y _ J next
 have A:((m.Chans.take k).map λc=>(⟨c,[]⟩:D.Chan)).length=k:=by simp;omega
 refine Aqh (Ade _ 0 m ((m.Chans.take k).map λc=>⟨c,[]⟩) k J rfl) ⟨λo=>?_,λq=>?_⟩
 .have a:k<m.Chans.length:=by have:=AZ o;omega
  have B:(k:Int).toNat=k:=oM
  rw[B];have L:(m.Chans.take (k+1)).map (λc=>(⟨c,[]⟩:D.Chan))=(m.Chans.take k).map (λc=>⟨c,[]⟩)++[⟨m.Chans.getD k 0,[]⟩]:=by rw[IS (d:=(0:Int)) a,Are]<;>rfl
  refine⟨⟨oM,oM⟩,oM,next _ a trivial ?_⟩;rw[L,Al oM];generalize(m.Chans.take k).map (λc=>(⟨c,[]⟩:D.Chan))=out at A;refine Up.mk (hs':=[.box (Ae m),OO,Ajc m.Init (.ow 3 0 (out.length+1)) .nl,.arr true 0 (out.length+1) 2 (DL (out++[(⟨m.Chans.getD k 0,[]⟩:D.Chan)]))]) (AR _) ⟨Ob.le_refl _,Ob.le_refl _,Ob.le_refl _,Aqm λi hi=>Aa3 (f:=Ay) (d:=default) (x:=⟨m.Chans.getD k 0,[]⟩) (G:=λi=>List.take 2 (List.drop (i*2) [Aa (m.Chans.getD k 0),VV.nl])) ⟨lR,Aqy,trivial⟩ hi,trivial⟩ ?_;unfold AaW;rw[Ap5]<;>rfl
 .obtain rfl:k=m.Chans.length:=by have:=AW q;omega
  rw[AqZ];have r:(A1 m).Chans=m.Chans.map λc=>⟨c,[]⟩:=rfl
  have C:(A1 m).Procs=Dd m m.Procs.length:=rfl;refine AB.cv (ArI 2 2 4 (CU []) rfl rfl) ?_;generalize W:m.Chans.map (λc=>(⟨c,[]⟩:D.Chan))=cs at r A;change AB _ _ (AaV m cs (Dd m 0) ((0:Nat):Int));refine Ar m.Procs.length (λk=>AaV m cs (Dd m k) k) (λ_=>True) trivial ?_;intro k y _ J next
  have t:=K k y;refine Aqh (Adc (A1 m) 0 m cs (Dd m k) k J rfl) ⟨λo=>?_,λq=>?_⟩
  .have a:k<m.Procs.length:=by have:=AZ o;omega
   have B:(k:Int).toNat=k:=oM
   have S:DO (Bd m k)=true:=I k a;have M:m.Procs.getD (k:Int).toNat default=Bd m k:=rfl;have n:=S;unfold DO at n;simp only[ApX,Ap7]at n;have X:=n.1.1.1.1.1.1.1.1;have Y:=n.1.1.1.1.1.1.1.2;have T:=n.1.1.1.1.1.2;have Z:=n.1.1.1.1.2;have a4:=n.1.1.1.2;have a5:=n.1.1.2;have U:=z.Procs.1;have E:=Sw (args:=List.replicate (Bd m k).Params.toNat 0) z (typ:=k) ⟨oM,oM⟩ (by simp;omega) (by simp;omega) (by simp;omega);have l:Dd m (k+1)=Dd m k++List.replicate (Bd m k).Active.toNat (Hj m k (List.replicate (Bd m k).Params.toNat 0)):=rfl;rw[M];refine⟨⟨oM,oM⟩,?_⟩;generalize Hj m k (List.replicate (Bd m k).Params.toNat 0)=b at E l;generalize Bd m k=p at *;generalize Dd m (k+1)=ps1 at l next
   generalize Dd m k=ps at l t;have V:Sp m cs ps k p p.Active 0=Sp m cs (ps++List.replicate 0 b) k p p.Active ((0:Nat):Int):=by rw[List.replicate_zero,Aq8]<;>rfl
   rw[V];refine Ar p.Active.toNat (λj=>Sp m cs (ps++List.replicate j b) k p p.Active j) (λ_=>True) trivial ?_;intro j hj _ J2 next2;have N:(ps++List.replicate j b).length=ps.length+j:=sM
   refine Aqh (Adb _ 0 m cs (ps++List.replicate j b) k p p.Active j J J2) ⟨λF=>?_,λH=>?_⟩
   .have u:j<p.Active.toNat:=by have:=AZ F;omega
    have O:ps++List.replicate (j+1) b=(ps++List.replicate j b)++[b]:=by rw[List.replicate_succ',AqT]
    have P:=(Akq p.Params.toNat).1;refine⟨⟨T,Arx _,oM⟩,b,E.le trivial ⟨lR,lR,P,trivial⟩ trivial lR,oM,next2 _ u trivial ?_⟩;rw[O,Al oM];generalize ps++List.replicate j b=Q at N;refine Up.mk (hs':=[.box (Ae m),OO,Ajc m.Init (.ow 3 0 cs.length) (.ow 4 0 (Q.length+1)),.arr true 0 cs.length 2 (DL cs),.arr true 0 (Q.length+1) 4 (CU (Q++[b])),.box (A2 p)]) (AR _) ⟨Ob.le_refl _,Ob.le_refl _,Ob.le_refl _,Ob.le_refl _,Aqm λi hi=>Aa3 (f:=Aw) (d:=default) (x:=b) (G:=λi=>List.take 4 (List.drop (i*4) (Aw b))) (Bt _) hi,Ob.le_refl _,trivial⟩ ?_;unfold Sp;rw[Ap5]<;>rfl
   .obtain rfl:j=p.Active.toNat:=by have:=AW H;omega
    rw[<- l];refine next _ a trivial (Up.of ?_)
    rw[Al oM]
  .obtain rfl:k=m.Procs.length:=by have:=AW q;omega
   refine⟨λg=>⟨?_,trivial,?_⟩,λg=>⟨trivial,?_⟩⟩
   .have:=Aqb g;exact⟨oM,(EN h).clp⟩
   .have g:0<=m.Claim:=Aqb g;have v:(A1 m).Claim=(Bd m m.Claim).Start:=by
     unfold A1;rw[Aqn g]<;>rfl
    refine AqV ?_;show _=VV.tup [.agg [Ad true (A1 m).Globals,AK true (A1 m).Chans,Av true (A1 m).Procs,Aa (A1 m).Last,Aa (A1 m).Alone,Aa (A1 m).Claim],Aa 0];rw[v,r,C]<;>rfl
   .have g:¬0<=m.Claim:=Aqr g;have v:(A1 m).Claim=-1:=by
     unfold A1;rw[Aqu g]<;>rfl
    refine AqV ?_;show _=VV.tup [.agg [Ad true (A1 m).Globals,AK true (A1 m).Chans,Av true (A1 m).Procs,Aa (A1 m).Last,Aa (A1 m).Alone,Aa (A1 m).Claim],Aa 0];rw[v,r,C]<;>rfl
end
def N6:Ann:={keep:=fun
  | [0,1,0,1,1]=>[3,4,29,30,31]
  | _=>[]}
def Mm:Ann:={keep:=fun
  | [0,1,0,1,1,1,1]=>[2,3,10,26,27,28]
  | _=>[]}
def BG:Ann:={keep:=fun
  | [0,1,0,1]=>[0,1,7,8]
  | _=>[]}
def Hu (t f:VV)(n k:Int):St:=An [(0,t),(1,f),(7,Aa n),(8,Aa k)] []
def Apn:List Nat:=[1,1,1]
def Rx:Ann:={cut:=(λ| [1,1,1]=>true | _=>false),keep:=fun
  | [1,1,1]=>[2,3,5]
  | _=>[]}
def AjT (m:D.Model)(p:D.Proc)(w:List D.Trans)(k:Int):St:=An [(3,.bp 0 0),(4,.bp 1 0),(29,Ao true w),(30,Aa w.length),(31,Aa k)] [.box (Ae m),.box (A2 p)]
def AmJ (m:D.Model)(l:List Nx)(ps:List D.Process)(out:List Int)(k:Int):St:=An [(2,Az false l),(3,.bp 0 0),(10,.ow 1 0 out.length),(26,Av true ps),(27,Aa ps.length),(28,Aa k)] [.box (Ae m),.arr true 0 out.length 1 (AO out)]
def Al2 (m:D.Model)(s:D.Stmt)(c:List VV):St:=An [(2,.tp (Ae m)),(3,.tp (Ax s)),(5,.tp c)] []
def Ahy (b:Bool)(x:D.Expr):(fc Eo AH f35 [] (Ac b)).goal (St.init [] [.agg (AE x)]) =
  (LQ (Ac (bif bif bif bif x.Op==32 then true else x.Op==36 then true else x.Op==37 then true else x.Op==38 then true else bif x.Op==2 then x.V.Scope==2 else false)) (Ac b)):=kR
def Ag4 (b:Bool)(m:D.Model)(p:D.Proc):(fc Eo AH f36 [] (Ac b)).goal (St.init [] [.agg (A2 p),.tp (Ae m)]) =
  (inX (0:Int) m.Procs.length/\LQ (Ac (p.Prio != (m.Procs.getD (Int.toNat (0:Int)) default).Prio)) (Ac b)):=kR
def AgX (b:Bool)(x:D.Expr):(fc Eo AH f38 [] (Ac b)).goal (St.init [] [.agg (AE x)]) =
  (LQ (Ac (x.Op==35)) (Ac b)):=kR
def AhL (b:Bool)(p:D.Proc):(fc Eo AH f39 [] (Ac b)).goal (St.init [] [.agg (A2 p)]) =
  (∃(y:Bool),VC 40 [Cy true p.Locs,VV.fn (Fn.func (nat_lit 41)) []] (Ac y)/\LQ (Ac y) (Ac b)):=kR
def AhJ (b:Bool)(l:D.Loc):(fc Eo AH f41 [] (Ac b)).goal (St.init [] [.agg (AT l)]) =
  (LQ (Ac l.Atomic) (Ac b)):=kR
def AhN (r:Int)(m:D.Model):(fc Eo AH f16 [] (Aa r)).goal (St.init [] [.agg (Ae m)]) =
  (∃(y:Int×Int×Int),VC 15 [VV.agg (Ae m)] (LK y)/\BB (y.fst != 0) (LQ (Aa y.fst) (Aa r)) (∃(y:Bool),VC 37 [AS true m.Exprs,VV.fn (Fn.func (nat_lit 38)) []] (Ac y)/\∃(a:Bool),((true&&decide (m.Claim>=0)==false)=true->VC 37 [AS true m.Exprs,VV.fn (Fn.func (nat_lit 35)) []] (Ac a))/\∃(b:Bool),((true&&(bif decide (m.Claim>=0)then true else a)==false)=true->VC 42 [AD true m.Procs,VV.fn (Fn.func (nat_lit 36)) [tpM m]] (Ac b))/\∃(c:Bool),((true&&(bif bif decide (m.Claim>=0)then true else a then true else b)==false&&y==true)=true->VC 42 [AD true m.Procs,VV.fn (Fn.func (nat_lit 39)) []] (Ac c))/\BB (bif bif bif decide (m.Claim>=0)then true else a then true else b then true else bif y then c else false) (LQ (Aa 44) (Aa r)) (LQ (Aa 0) (Aa r)))):=kR
def AdJ (b:Bool)(l:D.Loc):(fc Eo AH f108 [] (Ac b)).goal (St.init [] [.agg (AT l)]) =
  (LQ (Ac (bif bif bif l.Atomic then true else l.Dstep then true else l.Accept then true else l.Progress)) (Ac b)):=kR
def Zk (b:Bool)(m:D.Model)(l:D.Loc):(fc Eo AH f110 [] (Ac b)).goal (St.init [] [.agg (Ae m),.agg (AT l)]) =
  (∃(y:Bool),VC 130 [AJ true m.Shapes,VV.fn (Fn.func (nat_lit 131)) []] (Ac y)/\BB (!y) (LQ (Ac false) (Ac b)) ((1+l.Esc.length)*24<=140737488355328/\(∀(i:Nat),i<l.Esc.length->((λ(i:Nat)=>[Ao true (l.Esc.getD i [])]) i).all VV.mem1=true)/\∃(y:Bool),VC 133 [VV.sl false (1+l.Esc.length) 1 λ(i:Nat)=>bif i.blt 1 then(λ(i:Nat)=>List.take 1 (List.drop (i*1) [Ao true l.Out])) i else[Ao true (l.Esc.getD (i-1) [])],VV.fn (Fn.func (nat_lit 134)) [VV.tp [VV.fn (Fn.func (nat_lit 132)) []]]] (Ac y)/\LQ (Ac y) (Ac b))):=kR
def Ag8 (b:Bool)(s:D.Shape):(fc Eo AH f131 [] (Ac b)).goal (St.init [] [.agg (BX s)]) =
  (LQ (Ac (s.Room==0)) (Ac b)):=kR
def Ag7 (b:Bool)(t:D.Trans):(fc Eo AH f132 [] (Ac b)).goal (St.init [] [.agg (Cn t)]) =
  (LQ (Ac (bif t.S.Kind==6 then decide (t.S.N<2)else false)) (Ac b)):=kR
def Ag6 (b:Bool)(w:List D.Trans):(fc Eo AH f134 [] (Ac b)).goal (St.init [] [Ao true w,.tp [.fn (.func 132) []]]) =
  (∃(y:Bool),VC 135 [Ao true w,VV.fn (Fn.func (nat_lit 132)) []] (Ac y)/\LQ (Ac y) (Ac b)):=kR
def Abb (b:Bool)(m:D.Model)(x:Int)(c:List VV){z1}(g:z1=BB ((m.Exprs.getD x.toNat default).Op==2) (∃(y:Bool),((true&&((m.Exprs.getD x.toNat default).V.Scope==1)==true)=true->VC 126 [Bb true (m.Exprs.getD x.toNat default).V.Dims,VV.fn (Fn.func (nat_lit 127)) [VV.tp [VV.fn (Fn.func (nat_lit 125)) [tpM m,VV.tp c]]]] (Ac y))/\LQ (Ac (bif(m.Exprs.getD x.toNat default).V.Scope==1 then !y else false)) (Ac b)) (∃(y:Bool),((true&&(bif decide ((m.Exprs.getD x.toNat default).Op>=3)then decide ((m.Exprs.getD x.toNat default).Op<=24)else false)==true)=true->VC 125 [Aa (m.Exprs.getD x.toNat default).A,tpM m,VV.tp c] (Ac y))/\∃(a:Bool),((true&&(bif bif decide ((m.Exprs.getD x.toNat default).Op>=3)then decide ((m.Exprs.getD x.toNat default).Op<=24)else false then y else false)==true)=true->VC 125 [Aa (m.Exprs.getD x.toNat default).B,tpM m,VV.tp c] (Ac a))/\∃(d:Bool),((true&&(bif bif bif decide ((m.Exprs.getD x.toNat default).Op>=3)then decide ((m.Exprs.getD x.toNat default).Op<=24)else false then y else false then a else false)==true)=true->VC 125 [Aa (m.Exprs.getD x.toNat default).C,tpM m,VV.tp c] (Ac d))/\LQ (Ac (bif bif bif bif decide ((m.Exprs.getD x.toNat default).Op>=3)then decide ((m.Exprs.getD x.toNat default).Op<=24)else false then y else false then a else false then d else false)) (Ac b))){e}(h:e=m.Exprs.getD x.toNat default){f}(i:f=LQ (Ac true) (Ac b)):(fc Eo AH f125 [] (Ac b)).goal (St.init [] [Aa x,.tp (Ae m),.tp [.fn (.func 125) [.tp (Ae m),.tp c]]]) =
  (BB (decide (x<0)) f (inX x m.Exprs.length/\BB (e.Op==1) (BB (e.Op==1) f z1) (BB (e.Op==31) f z1))):=by subst g h i;kernel_rfl
def Aha (b:Bool)(m:D.Model)(d:D.Dim)(c:List VV):(fc Eo AH f127 [] (Ac b)).goal (St.init [] [.agg (Lh d),.tp [.fn (.func 125) [.tp (Ae m),.tp c]]]) =
  (∃(y:Bool),VC 125 [Aa d.I,tpM m,VV.tp c] (Ac y)/\LQ (Ac !y) (Ac b)):=kR
def Ag9 (b:Bool)(m:D.Model)(x:Int)(c:List VV):(fc Eo AH f129 [] (Ac b)).goal (St.init [] [Aa x,.tp [.fn (.func 125) [.tp (Ae m),.tp c]]]) =
  (∃(y:Bool),VC 125 [Aa x,tpM m,VV.tp c] (Ac y)/\LQ (Ac !y) (Ac b)):=kR
def Ag2 (b:Bool)(m:D.Model)(s:D.Stmt):(fc Eo Rx f109 [] (Ac b)).goal (St.init [] [.agg (Ae m),.agg (Ax s)]) =
  (AB (fc Eo Rx f109 [] (Ac b)) [1,1,1] (An [(2,VV.bp 0 0),(3,VV.bp 1 0),(5,VV.bp 2 0)] [Ob.box (Ae m),Ob.box (Ax s),Ob.box [VV.fn (Fn.func (nat_lit 125)) [VV.bp 0 0,VV.bp 2 0]]])):=kR
def AdK (b:Bool)(m:D.Model)(p:D.Proc)(l:D.Loc):(fc Eo N6 f78 [] (Ac b)).goal (St.init [] [.agg (Ae m),.agg (A2 p),.agg (AT l)]) =
  (∃(y:Bool),((true&&(bif(↑l.Out.length:Int)==0 then true else decide ((↑l.Esc.length:Int) > 0))==false)=true->VC 108 [VV.agg (AT l)] (Ac y))/\BB (bif bif bif(↑l.Out.length:Int)==0 then true else decide ((↑l.Esc.length:Int) > 0)then true else y then true else decide (p.Provided>=0)) (LQ (Ac false) (Ac b)) (AB (fc Eo N6 f78 [] (Ac b)) [1,1,0,1,0] (AjT m p l.Out (0:Int)))):=kR
def Zm (r:List Int×Int)(m:D.Model)(s:D.State)(l:List Nx){a}(b:a=[Ad true r.fst,Aa r.snd]):(fc Eo Mm f51 [] (.tup [Ad true r.1,Aa r.2])).goal (St.init [] [.agg (Ae m),.agg (Ag s),Az false l]) =
  (∃(y:Int),VC 16 [.agg (Ae m)] (Aa y)/\BB (y != 0) (LQ (.tup [.nl,Aa y]) (.tup a)) (∃(y:Int),VC 70 [.agg (Ae m),.agg (Ag s)] (Aa y)/\BB (y != 0) (LQ (.tup [.nl,Aa y]) (.tup a)) (AB (fc Eo Mm f51 [] (.tup a)) [1,1,1,1,0,1,0] (An [(2,Az false l),(3,.bp 0 0),(10,.nl),(26,Av true s.Procs),(27,Aa (↑s.Procs.length:Int)),(28,Aa 0)] [.box (Ae m)])))):=by subst b;kernel_rfl
def AhM (b:Bool)(n:Nx)(i:Int):(fc Eo AH f80 [] (Ac b)).goal (St.init [] [.agg (Bf n),.tp [Aa i]]) =
  (LQ (Ac (n.Move.Pid==i)) (Ac b)):=kR
def AkT (b:Bool)(g:FuncId)(l:List D.Expr):(fc Eo AH f37 [] (Ac b)).goal (St.init [] [AS true l,.fn (.func g) []]) =
  (∃(y:Int),VC 66 [AS true l,VV.fn (Fn.func g) []] (Aa y)/\LQ (Ac (decide (y>=0))) (Ac b)):=kR
def AkO (b:Bool)(g:FuncId)(l:List D.Proc):(fc Eo AH f42 [] (Ac b)).goal (St.init [] [AD true l,.fn (.func g) []]) =
  (∃(y:Int),VC 68 [AD true l,VV.fn (Fn.func g) []] (Aa y)/\LQ (Ac (decide (y>=0))) (Ac b)):=kR
def AkN (b:Bool)(g:FuncId)(c:List VV)(l:List D.Proc):(fc Eo AH f42 [] (Ac b)).goal (St.init [] [AD true l,.fn (.func g) [.tp c]]) =
  (∃(y:Int),VC 68 [AD true l,VV.fn (Fn.func g) [VV.tp c]] (Aa y)/\LQ (Ac (decide (y>=0))) (Ac b)):=kR
def AkR (b:Bool)(g:FuncId)(l:List D.Loc):(fc Eo AH f40 [] (Ac b)).goal (St.init [] [Cy true l,.fn (.func g) []]) =
  (∃(y:Int),VC 67 [Cy true l,VV.fn (Fn.func g) []] (Aa y)/\LQ (Ac (decide (y>=0))) (Ac b)):=kR
def AkP (b:Bool)(g:FuncId)(c:List VV)(l:List Nx):(fc Eo AH f79 [] (Ac b)).goal (St.init [] [Az false l,.fn (.func g) [.tp c]]) =
  (∃(y:Int),VC 83 [Az false l,VV.fn (Fn.func g) [VV.tp c]] (Aa y)/\LQ (Ac (decide (y>=0))) (Ac b)):=kR
def AkQ (b:Bool)(g:FuncId)(c d:List VV)(l:List Nx):(fc Eo AH f79 [] (Ac b)).goal (St.init [] [Az false l,.fn (.func g) [.tp c,.tp d]]) =
  (∃(y:Int),VC 83 [Az false l,VV.fn (Fn.func g) [VV.tp c,VV.tp d]] (Aa y)/\LQ (Ac (decide (y>=0))) (Ac b)):=kR
def AkM (b:Bool)(g:FuncId)(l:List D.Shape):(fc Eo AH f130 [] (Ac b)).goal (St.init [] [AJ true l,.fn (.func g) []]) =
  (∃(y:Int),VC 158 [AJ true l,VV.fn (Fn.func g) []] (Aa y)/\LQ (Ac (decide (y>=0))) (Ac b)):=kR
def AkK (b:Bool)(g:FuncId)(c:List VV)(l:List (List D.Trans)):(fc Eo AH f133 [] (Ac b)).goal (St.init [] [Bg false l,.fn (.func g) [.tp c]]) =
  (∃(y:Int),VC 159 [Bg false l,VV.fn (Fn.func g) [VV.tp c]] (Aa y)/\LQ (Ac (decide (y>=0))) (Ac b)):=kR
def AkL (b:Bool)(g:FuncId)(l:List D.Trans):(fc Eo AH f135 [] (Ac b)).goal (St.init [] [Ao true l,.fn (.func g) []]) =
  (∃(y:Int),VC 160 [Ao true l,VV.fn (Fn.func g) []] (Aa y)/\LQ (Ac (decide (y>=0))) (Ac b)):=kR
def AkU (b:Bool)(g:FuncId)(c:List VV)(l:List D.Dim):(fc Eo AH f126 [] (Ac b)).goal (St.init [] [Bb true l,.fn (.func g) [.tp c]]) =
  (∃(y:Int),VC 156 [Bb true l,VV.fn (Fn.func g) [VV.tp c]] (Aa y)/\LQ (Ac (decide (y>=0))) (Ac b)):=kR
def AkS (b:Bool)(g:FuncId)(c:List VV)(l:List Int):(fc Eo AH f128 [] (Ac b)).goal (St.init [] [Ad true l,.fn (.func g) [.tp c]]) =
  (∃(y:Int),VC 157 [Ad true l,VV.fn (Fn.func g) [VV.tp c]] (Aa y)/\LQ (Ac (decide (y>=0))) (Ac b)):=kR
def AkH (r:Int)(g:FuncId)(l:List D.Expr):(fc C6 BG f66 [] (Aa r)).goal (St.init [] [AS true l,.fn (.func g) []]) =
  (AB (fc C6 BG f66 [] (Aa r)) [1,0,1,0] (An [(0,AS true l),(1,VV.fn (Fn.func g) []),(7,Aa (↑l.length:Int)),(8,Aa 0)] [])):=kR
def AkC (r:Int)(g:FuncId)(l:List D.Proc):(fc C6 BG f68 [] (Aa r)).goal (St.init [] [AD true l,.fn (.func g) []]) =
  (AB (fc C6 BG f68 [] (Aa r)) [1,0,1,0] (An [(0,AD true l),(1,VV.fn (Fn.func g) []),(7,Aa (↑l.length:Int)),(8,Aa 0)] [])):=kR
def AkB (r:Int)(g:FuncId)(c:List VV)(l:List D.Proc):(fc C6 BG f68 [] (Aa r)).goal (St.init [] [AD true l,.fn (.func g) [.tp c]]) =
  (AB (fc C6 BG f68 [] (Aa r)) [1,0,1,0] (An [(0,AD true l),(1,VV.fn (Fn.func g) [VV.tp c]),(7,Aa (↑l.length:Int)),(8,Aa 0)] [])):=kR
def AkF (r:Int)(g:FuncId)(l:List D.Loc):(fc C6 BG f67 [] (Aa r)).goal (St.init [] [Cy true l,.fn (.func g) []]) =
  (AB (fc C6 BG f67 [] (Aa r)) [1,0,1,0] (An [(0,Cy true l),(1,VV.fn (Fn.func g) []),(7,Aa (↑l.length:Int)),(8,Aa 0)] [])):=kR
def AkD (r:Int)(g:FuncId)(c:List VV)(l:List Nx):(fc C6 BG f83 [] (Aa r)).goal (St.init [] [Az false l,.fn (.func g) [.tp c]]) =
  (AB (fc C6 BG f83 [] (Aa r)) [1,0,1,0] (An [(0,Az false l),(1,VV.fn (Fn.func g) [VV.tp c]),(7,Aa (↑l.length:Int)),(8,Aa 0)] [])):=kR
def AkE (r:Int)(g:FuncId)(c d:List VV)(l:List Nx):(fc C6 BG f83 [] (Aa r)).goal (St.init [] [Az false l,.fn (.func g) [.tp c,.tp d]]) =
  (AB (fc C6 BG f83 [] (Aa r)) [1,0,1,0] (An [(0,Az false l),(1,VV.fn (Fn.func g) [VV.tp c,VV.tp d]),(7,Aa (↑l.length:Int)),(8,Aa 0)] [])):=kR
def AkA (r:Int)(g:FuncId)(l:List D.Shape):(fc C6 BG f158 [] (Aa r)).goal (St.init [] [AJ true l,.fn (.func g) []]) =
  (AB (fc C6 BG f158 [] (Aa r)) [1,0,1,0] (An [(0,AJ true l),(1,VV.fn (Fn.func g) []),(7,Aa (↑l.length:Int)),(8,Aa 0)] [])):=kR
def Aky (r:Int)(g:FuncId)(c:List VV)(l:List (List D.Trans)):(fc C6 BG f159 [] (Aa r)).goal (St.init [] [Bg false l,.fn (.func g) [.tp c]]) =
  (AB (fc C6 BG f159 [] (Aa r)) [1,0,1,0] (An [(0,Bg false l),(1,VV.fn (Fn.func g) [VV.tp c]),(7,Aa (↑l.length:Int)),(8,Aa 0)] [])):=kR
def Akz (r:Int)(g:FuncId)(l:List D.Trans):(fc C6 BG f160 [] (Aa r)).goal (St.init [] [Ao true l,.fn (.func g) []]) =
  (AB (fc C6 BG f160 [] (Aa r)) [1,0,1,0] (An [(0,Ao true l),(1,VV.fn (Fn.func g) []),(7,Aa (↑l.length:Int)),(8,Aa 0)] [])):=kR
def AkI (r:Int)(g:FuncId)(c:List VV)(l:List D.Dim):(fc C6 BG f156 [] (Aa r)).goal (St.init [] [Bb true l,.fn (.func g) [.tp c]]) =
  (AB (fc C6 BG f156 [] (Aa r)) [1,0,1,0] (An [(0,Bb true l),(1,VV.fn (Fn.func g) [VV.tp c]),(7,Aa (↑l.length:Int)),(8,Aa 0)] [])):=kR
def AkG (r:Int)(g:FuncId)(c:List VV)(l:List Int):(fc C6 BG f157 [] (Aa r)).goal (St.init [] [Ad true l,.fn (.func g) [.tp c]]) =
  (AB (fc C6 BG f157 [] (Aa r)) [1,0,1,0] (An [(0,Ad true l),(1,VV.fn (Fn.func g) [VV.tp c]),(7,Aa (↑l.length:Int)),(8,Aa 0)] [])):=kR
def Aht (r:Int)(g:FuncId)(l:List D.Expr)(n k:Int)(J:St->Prop):((fc C6 BG f66 [] (Aa r)).loop [1,0,1,0] J).goal (Hu (AS true l) (.fn (.func g) []) n k) =
  (BB (decide (k<n)) (inX k l.length/\∃(y:Bool),VC g [VV.agg (AE (l.getD k.toNat default))] (Ac y)/\BB y (LQ (Aa k) (Aa r)) (J (An [(0,AS true l),(1,VV.fn (Fn.func g) []),(7,Aa n),(8,Aa (i64.wrap (k+(1:Int))))] []))) (LQ (Aa (-1)) (Aa r))):=kR
def Ahk (r:Int)(g:FuncId)(l:List D.Proc)(n k:Int)(J:St->Prop):((fc C6 BG f68 [] (Aa r)).loop [1,0,1,0] J).goal (Hu (AD true l) (.fn (.func g) []) n k) =
  (BB (decide (k<n)) (inX k l.length/\∃(y:Bool),VC g [VV.agg (A2 (l.getD k.toNat default))] (Ac y)/\BB y (LQ (Aa k) (Aa r)) (J (An [(0,AD true l),(1,VV.fn (Fn.func g) []),(7,Aa n),(8,Aa (i64.wrap (k+(1:Int))))] []))) (LQ (Aa (-1)) (Aa r))):=kR
def Ahi (r:Int)(g:FuncId)(c:List VV)(l:List D.Proc)(n k:Int)(J:St->Prop):((fc C6 BG f68 [] (Aa r)).loop [1,0,1,0] J).goal (Hu (AD true l) (.fn (.func g) [.tp c]) n k) =
  (BB (decide (k<n)) (inX k l.length/\∃(y:Bool),VC g [VV.agg (A2 (l.getD k.toNat default)),VV.tp c] (Ac y)/\BB y (LQ (Aa k) (Aa r)) (J (An [(0,AD true l),(1,VV.fn (Fn.func g) [VV.tp c]),(7,Aa n),(8,Aa (i64.wrap (k+(1:Int))))] []))) (LQ (Aa (-1)) (Aa r))):=kR
def Ahp (r:Int)(g:FuncId)(l:List D.Loc)(n k:Int)(J:St->Prop):((fc C6 BG f67 [] (Aa r)).loop [1,0,1,0] J).goal (Hu (Cy true l) (.fn (.func g) []) n k) =
  (BB (decide (k<n)) (inX k l.length/\∃(y:Bool),VC g [VV.agg (AT (l.getD k.toNat default))] (Ac y)/\BB y (LQ (Aa k) (Aa r)) (J (An [(0,Cy true l),(1,VV.fn (Fn.func g) []),(7,Aa n),(8,Aa (i64.wrap (k+(1:Int))))] []))) (LQ (Aa (-1)) (Aa r))):=kR
def Ahl (r:Int)(g:FuncId)(c:List VV)(l:List Nx)(n k:Int)(J:St->Prop):((fc C6 BG f83 [] (Aa r)).loop [1,0,1,0] J).goal (Hu (Az false l) (.fn (.func g) [.tp c]) n k) =
  (BB (decide (k<n)) (inX k l.length/\∃(y:Bool),VC g [VV.agg (Bf (l.getD k.toNat default)),VV.tp c] (Ac y)/\BB y (LQ (Aa k) (Aa r)) (J (An [(0,Az false l),(1,VV.fn (Fn.func g) [VV.tp c]),(7,Aa n),(8,Aa (i64.wrap (k+(1:Int))))] []))) (LQ (Aa (-1)) (Aa r))):=kR
def Ahn (r:Int)(g:FuncId)(c d:List VV)(l:List Nx)(n k:Int)(J:St->Prop):((fc C6 BG f83 [] (Aa r)).loop [1,0,1,0] J).goal (Hu (Az false l) (.fn (.func g) [.tp c,.tp d]) n k) =
  (BB (decide (k<n)) (inX k l.length/\∃(y:Bool),VC g [VV.agg (Bf (l.getD k.toNat default)),VV.tp c,VV.tp d] (Ac y)/\BB y (LQ (Aa k) (Aa r)) (J (An [(0,Az false l),(1,VV.fn (Fn.func g) [VV.tp c,VV.tp d]),(7,Aa n),(8,Aa (i64.wrap (k+(1:Int))))] []))) (LQ (Aa (-1)) (Aa r))):=kR
def Ahg (r:Int)(g:FuncId)(l:List D.Shape)(n k:Int)(J:St->Prop):((fc C6 BG f158 [] (Aa r)).loop [1,0,1,0] J).goal (Hu (AJ true l) (.fn (.func g) []) n k) =
  (BB (decide (k<n)) (inX k l.length/\∃(y:Bool),VC g [VV.agg (BX (l.getD k.toNat default))] (Ac y)/\BB y (LQ (Aa k) (Aa r)) (J (An [(0,AJ true l),(1,VV.fn (Fn.func g) []),(7,Aa n),(8,Aa (i64.wrap (k+(1:Int))))] []))) (LQ (Aa (-1)) (Aa r))):=kR
def Ahc (r:Int)(g:FuncId)(c:List VV)(l:List (List D.Trans))(n k:Int)(J:St->Prop):((fc C6 BG f159 [] (Aa r)).loop [1,0,1,0] J).goal (Hu (Bg false l) (.fn (.func g) [.tp c]) n k) =
  (BB (decide (k<n)) (inX k l.length/\∃(y:Bool),VC g [Ao true (l.getD k.toNat []),VV.tp c] (Ac y)/\BB y (LQ (Aa k) (Aa r)) (J (An [(0,Bg false l),(1,VV.fn (Fn.func g) [VV.tp c]),(7,Aa n),(8,Aa (i64.wrap (k+(1:Int))))] []))) (LQ (Aa (-1)) (Aa r))):=kR
def Ahe (r:Int)(g:FuncId)(l:List D.Trans)(n k:Int)(J:St->Prop):((fc C6 BG f160 [] (Aa r)).loop [1,0,1,0] J).goal (Hu (Ao true l) (.fn (.func g) []) n k) =
  (BB (decide (k<n)) (inX k l.length/\∃(y:Bool),VC g [VV.agg (Cn (l.getD k.toNat default))] (Ac y)/\BB y (LQ (Aa k) (Aa r)) (J (An [(0,Ao true l),(1,VV.fn (Fn.func g) []),(7,Aa n),(8,Aa (i64.wrap (k+(1:Int))))] []))) (LQ (Aa (-1)) (Aa r))):=kR
def Ahv (r:Int)(g:FuncId)(c:List VV)(l:List D.Dim)(n k:Int)(J:St->Prop):((fc C6 BG f156 [] (Aa r)).loop [1,0,1,0] J).goal (Hu (Bb true l) (.fn (.func g) [.tp c]) n k) =
  (BB (decide (k<n)) (inX k l.length/\∃(y:Bool),VC g [VV.agg (Lh (l.getD k.toNat default)),VV.tp c] (Ac y)/\BB y (LQ (Aa k) (Aa r)) (J (An [(0,Bb true l),(1,VV.fn (Fn.func g) [VV.tp c]),(7,Aa n),(8,Aa (i64.wrap (k+(1:Int))))] []))) (LQ (Aa (-1)) (Aa r))):=kR
def Ahr (r:Int)(g:FuncId)(c:List VV)(l:List Int)(n k:Int)(J:St->Prop):((fc C6 BG f157 [] (Aa r)).loop [1,0,1,0] J).goal (Hu (Ad true l) (.fn (.func g) [.tp c]) n k) =
  (BB (decide (k<n)) (inX k l.length/\∃(y:Bool),VC g [Aa (l.getD k.toNat 0),VV.tp c] (Ac y)/\BB y (LQ (Aa k) (Aa r)) (J (An [(0,Ad true l),(1,VV.fn (Fn.func g) [VV.tp c]),(7,Aa n),(8,Aa (i64.wrap (k+(1:Int))))] []))) (LQ (Aa (-1)) (Aa r))):=kR
def AdP (b:Bool)(m:D.Model)(s:D.Stmt)(c:List VV):((fc Eo Rx f109 [] (Ac b)).cut Apn).goal (Al2 m s [.fn (.func 125) [.tp (Ae m),.tp c]]) =
  (BB (s.Kind==1) (∃(y:Bool),VC 125 [Aa s.A,tpM m,VV.tp c] (Ac y)/\LQ (Ac y) (Ac b)) (BB (s.Kind==2) (∃(y:Bool),VC 125 [Aa s.A,tpM m,VV.tp c] (Ac y)/\∃(a:Bool),((true&&y==true)=true->VC 125 [Aa s.B,tpM m,VV.tp c] (Ac a))/\LQ (Ac (bif y then a else false)) (Ac b)) (BB (s.Kind==4) (∃(y:Bool),VC 128 [Ad true s.Args,VV.fn (Fn.func (nat_lit 129)) [VV.tp [VV.fn (Fn.func (nat_lit 125)) [tpM m,VV.tp c]]]] (Ac y)/\LQ (Ac !y) (Ac b)) (LQ (Ac (bif s.Kind==8 then true else s.Kind==7)) (Ac b))))):=kR
def Zf (b:Bool)(m:D.Model)(p:D.Proc)(w:List D.Trans)(k:Int)(J:St->Prop){c}(e:c=w.getD k.toNat default){f}(g:f=AT (p.Locs.getD c.To.toNat default)):((fc Eo N6 f78 [] (Ac b)).loop [1,1,0,1,0] J).goal (AjT m p w k) =
  (BB (decide (k<(↑w.length:Int))) (inX k w.length/\∃(y:Bool),VC 109 [.agg (Ae m),.agg (Ax c.S)] (Ac y)/\((true&&(!y)==false)=true->inX c.To p.Locs.length)/\∃(a:Bool),((true&&(!y)==false)=true->VC 108 [.agg f] (Ac a))/\((true&&(bif !y then true else a)==false)=true->inX c.To p.Locs.length)/\∃(d:Bool),((true&&(bif !y then true else a)==false)=true->VC 110 [.agg (Ae m),.agg f] (Ac d))/\BB (bif bif !y then true else a then true else d) (LQ (Ac false) (Ac b)) (J (AjT m p w (i64.wrap (k+(1:Int)))))) (LQ (Ac true) (Ac b))):=by subst e g;kernel_rfl
def Wv (r:List Int×Int)(m:D.Model)(l:List Nx)(ps:List D.Process)(out:List Int)(k:Int)(J:St->Prop){b}(d:b=m.Procs.getD (ps.getD k.toNat default).Type_.toNat default){c}(e:c=ps.getD k.toNat default):((fc Eo Mm f51 [] (.tup [Ad true r.1,Aa r.2])).loop [1,1,1,1,0,1,0] J).goal (AmJ m l ps out k) =
  (BB (decide (k<(↑ps.length:Int))) (inX k ps.length/\inX c.Type_ m.Procs.length/\inX c.Loc b.Locs.length/\∃(y:Bool),VC 78 [.agg (Ae m),.agg (A2 b),.agg (AT (b.Locs.getD c.Loc.toNat default))] (Ac y)/\∃(a:Bool),((true&&y==true)=true->VC 79 [Az false l,.fn (Fn.func (nat_lit 80)) [.tp [Aa k]]] (Ac a))/\BB (bif y then a else false) ((out.length+1)*8<=140737488355328/\J (An [(2,Az false l),(3,.bp 0 0),(10,.ow 1 0 (out.length+1)),(26,Av true ps),(27,Aa (↑ps.length:Int)),(28,Aa (i64.wrap (k+(1:Int))))] [.box (Ae m),.arr true 0 (out.length+1) 1 λ(i:Nat)=>bif i.blt out.length then[Aa (out.getD i 0)]else(λ(i:Nat)=>List.take 1 (List.drop (i*1) [Aa k])) (i-out.length)])) (J (AmJ m l ps out (i64.wrap (k+(1:Int)))))) (LQ (.tup [Ad true out,Aa 0]) (.tup [Ad true r.fst,Aa r.snd]))):=by subst d e;kernel_rfl
end Go.Proofs.YtedfjceonnoifaaGreatDoor
namespace Go.Proofs.YtedfjceonnoifaaGreatDoor
open Go.RowKit Go.Proofs.Tryz
open IntKind(i64)
def ixP {α:Type}(p:α->Bool):Nat->List α->Int
 | _,[]=>-1
 | k,x::r=>bif p x then(k:Int)else ixP p (k+1) r
def D9 {α:Type}{p:α->Bool}{k:Nat}{x:α}{r:List α}:ixP p k (x::r)=bif p x then(k:Int)else ixP p (k+1) r:=rfl
def EV {α:Type}{p:α->Bool}:∀{l:List α}{k:Nat},decide (ixP p k l>=0)=l.any p
 | [],_=>rfl
 | x::r,k=>by
  unfold ixP;rw[ArE];cases p x with
  | true=>simp
  | false=>rw[ApW,ArG];exact EV
def Ahs {g:FuncId}{l:List D.Expr}(p:D.Expr->Bool)(j:l.length<=4611686018427387904)(h:∀x∈l,Ah prog g [] [.agg (AE x)] [] (Ac (p x))):Ah prog 66 [] [AS true l,.fn (.func g) []] [] (Aa (ixP p 0 l)):=by
 refine Ap func66 (AkH _ g l) ?_;refine Aq (λgg st=>∃k:Nat,k<=l.length/\gg=l.length-k/\ixP p 0 l=ixP p k (l.drop k)/\st=Hu (AS true l) (.fn (.func g) []) l.length k) ⟨_,Up.of ⟨0,Ap3 _,rfl,rfl,rfl⟩⟩ ?_;rintro gg st ⟨k,m,rfl,a,rfl⟩;have c:(k:Int).toNat=k:=oM
 refine Aqh (Aht _ g l l.length k _) ⟨λe=>?_,λf=>?_⟩
 .have b:k<l.length:=by have:=AZ e;omega
  rw[c];rw[A5 (d:=default) b,D9]at a;refine⟨⟨oM,oM⟩,p (l.getD k default),h _ (As b),λi=>Bj ?_,λi=>⟨l.length-(k+1),oM,Up.of ⟨k+1,b,rfl,?_,by rw[Al oM];rfl⟩⟩⟩
  .rw[i,ApY]at a;exact a.symm
  .rw[i,ApW]at a;exact a
 .rw[Aqk (by have:=AW f;omega)]at a;exact Bj a.symm
def Wr {g:FuncId}{l:List D.Expr}(p:D.Expr->Bool)(a:l.length<=4611686018427387904)(h:∀x∈l,Ah prog g [] [.agg (AE x)] [] (Ac (p x))):Ah prog 37 [] [AS true l,.fn (.func g) []] [] (Ac (l.any p)) :=
 Ap func37 (AkT _ g l) ⟨_,Ahs p a h,AA EV⟩
def Ahj {g:FuncId}{l:List D.Proc}(p:D.Proc->Bool)(j:l.length<=4611686018427387904)(h:∀x∈l,Ah prog g [] [.agg (A2 x)] [] (Ac (p x))):Ah prog 68 [] [AD true l,.fn (.func g) []] [] (Aa (ixP p 0 l)):=by
 refine Ap func68 (AkC _ g l) ?_;refine Aq (λgg st=>∃k:Nat,k<=l.length/\gg=l.length-k/\ixP p 0 l=ixP p k (l.drop k)/\st=Hu (AD true l) (.fn (.func g) []) l.length k) ⟨_,Up.of ⟨0,Ap3 _,rfl,rfl,rfl⟩⟩ ?_;rintro gg st ⟨k,m,rfl,a,rfl⟩;have c:(k:Int).toNat=k:=oM
 refine Aqh (Ahk _ g l l.length k _) ⟨λe=>?_,λf=>?_⟩
 .have b:k<l.length:=by have:=AZ e;omega
  rw[c];rw[A5 (d:=default) b,D9]at a;refine⟨⟨oM,oM⟩,p (l.getD k default),h _ (As b),λi=>Bj ?_,λi=>⟨l.length-(k+1),oM,Up.of ⟨k+1,b,rfl,?_,by rw[Al oM];rfl⟩⟩⟩
  .rw[i,ApY]at a;exact a.symm
  .rw[i,ApW]at a;exact a
 .rw[Aqk (by have:=AW f;omega)]at a;exact Bj a.symm
def AhD {g:FuncId}{l:List D.Proc}(p:D.Proc->Bool)(a:l.length<=4611686018427387904)(h:∀x∈l,Ah prog g [] [.agg (A2 x)] [] (Ac (p x))):Ah prog 42 [] [AD true l,.fn (.func g) []] [] (Ac (l.any p)) :=
 Ap func42 (AkO _ g l) ⟨_,Ahj p a h,AA EV⟩
def Ahh {g:FuncId}{c:List VV}{l:List D.Proc}(p:D.Proc->Bool)(m:l.length<=4611686018427387904)(h:∀x∈l,Ah prog g [] [.agg (A2 x),.tp c] [] (Ac (p x))):Ah prog 68 [] [AD true l,.fn (.func g) [.tp c]] [] (Aa (ixP p 0 l)):=by
 refine Ap func68 (AkB _ g c l) ?_;refine Aq (λgg st=>∃k:Nat,k<=l.length/\gg=l.length-k/\ixP p 0 l=ixP p k (l.drop k)/\st=Hu (AD true l) (.fn (.func g) [.tp c]) l.length k) ⟨_,Up.of ⟨0,Ap3 _,rfl,rfl,rfl⟩⟩ ?_;rintro gg st ⟨k,n,rfl,a,rfl⟩;have e:(k:Int).toNat=k:=oM
 refine Aqh (Ahi _ g c l l.length k _) ⟨λf=>?_,λi=>?_⟩
 .have b:k<l.length:=by have:=AZ f;omega
  rw[e];rw[A5 (d:=default) b,D9]at a;refine⟨⟨oM,oM⟩,p (l.getD k default),h _ (As b),λj=>Bj ?_,λj=>⟨l.length-(k+1),oM,Up.of ⟨k+1,b,rfl,?_,by rw[Al oM];rfl⟩⟩⟩
  .rw[j,ApY]at a;exact a.symm
  .rw[j,ApW]at a;exact a
 .rw[Aqk (by have:=AW i;omega)]at a;exact Bj a.symm
def AhC {g:FuncId}{c:List VV}{l:List D.Proc}(p:D.Proc->Bool)(a:l.length<=4611686018427387904)(h:∀x∈l,Ah prog g [] [.agg (A2 x),.tp c] [] (Ac (p x))):Ah prog 42 [] [AD true l,.fn (.func g) [.tp c]] [] (Ac (l.any p)) :=
 Ap func42 (AkN _ g c l) ⟨_,Ahh p a h,AA EV⟩
def Aho {g:FuncId}{l:List D.Loc}(p:D.Loc->Bool)(j:l.length<=4611686018427387904)(h:∀x∈l,Ah prog g [] [.agg (AT x)] [] (Ac (p x))):Ah prog 67 [] [Cy true l,.fn (.func g) []] [] (Aa (ixP p 0 l)):=by
 refine Ap func67 (AkF _ g l) ?_;refine Aq (λgg st=>∃k:Nat,k<=l.length/\gg=l.length-k/\ixP p 0 l=ixP p k (l.drop k)/\st=Hu (Cy true l) (.fn (.func g) []) l.length k) ⟨_,Up.of ⟨0,Ap3 _,rfl,rfl,rfl⟩⟩ ?_;rintro gg st ⟨k,m,rfl,a,rfl⟩;have c:(k:Int).toNat=k:=oM
 refine Aqh (Ahp _ g l l.length k _) ⟨λe=>?_,λf=>?_⟩
 .have b:k<l.length:=by have:=AZ e;omega
  rw[c];rw[A5 (d:=default) b,D9]at a;refine⟨⟨oM,oM⟩,p (l.getD k default),h _ (As b),λi=>Bj ?_,λi=>⟨l.length-(k+1),oM,Up.of ⟨k+1,b,rfl,?_,by rw[Al oM];rfl⟩⟩⟩
  .rw[i,ApY]at a;exact a.symm
  .rw[i,ApW]at a;exact a
 .rw[Aqk (by have:=AW f;omega)]at a;exact Bj a.symm
def AhG {g:FuncId}{l:List D.Loc}(p:D.Loc->Bool)(a:l.length<=4611686018427387904)(h:∀x∈l,Ah prog g [] [.agg (AT x)] [] (Ac (p x))):Ah prog 40 [] [Cy true l,.fn (.func g) []] [] (Ac (l.any p)) :=
 Ap func40 (AkR _ g l) ⟨_,Aho p a h,AA EV⟩
def Wq {g:FuncId}{c:List VV}{l:List Nx}(p:Nx->Bool)(m:l.length<=4611686018427387904)(h:∀x∈l,Ah prog g [] [.agg (Bf x),.tp c] [] (Ac (p x))):Ah prog 83 [] [Az false l,.fn (.func g) [.tp c]] [] (Aa (ixP p 0 l)):=by
 refine Ap func83 (AkD _ g c l) ?_;refine Aq (λgg st=>∃k:Nat,k<=l.length/\gg=l.length-k/\ixP p 0 l=ixP p k (l.drop k)/\st=Hu (Az false l) (.fn (.func g) [.tp c]) l.length k) ⟨_,Up.of ⟨0,Ap3 _,rfl,rfl,rfl⟩⟩ ?_;rintro gg st ⟨k,n,rfl,a,rfl⟩;have e:(k:Int).toNat=k:=oM
 refine Aqh (Ahl _ g c l l.length k _) ⟨λf=>?_,λi=>?_⟩
 .have b:k<l.length:=by have:=AZ f;omega
  rw[e];rw[A5 (d:=default) b,D9]at a;refine⟨⟨oM,oM⟩,p (l.getD k default),h _ (As b),λj=>Bj ?_,λj=>⟨l.length-(k+1),oM,Up.of ⟨k+1,b,rfl,?_,by rw[Al oM];rfl⟩⟩⟩
  .rw[j,ApY]at a;exact a.symm
  .rw[j,ApW]at a;exact a
 .rw[Aqk (by have:=AW i;omega)]at a;exact Bj a.symm
def AhE {g:FuncId}{c:List VV}{l:List Nx}(p:Nx->Bool)(a:l.length<=4611686018427387904)(h:∀x∈l,Ah prog g [] [.agg (Bf x),.tp c] [] (Ac (p x))):Ah prog 79 [] [Az false l,.fn (.func g) [.tp c]] [] (Ac (l.any p)) :=
 Ap func79 (AkP _ g c l) ⟨_,Wq p a h,AA EV⟩
def Ahm {g:FuncId}{c d:List VV}{l:List Nx}(p:Nx->Bool)(m:l.length<=4611686018427387904)(h:∀x∈l,Ah prog g [] [.agg (Bf x),.tp c,.tp d] [] (Ac (p x))):Ah prog 83 [] [Az false l,.fn (.func g) [.tp c,.tp d]] [] (Aa (ixP p 0 l)):=by
 refine Ap func83 (AkE _ g c d l) ?_;refine Aq (λgg st=>∃k:Nat,k<=l.length/\gg=l.length-k/\ixP p 0 l=ixP p k (l.drop k)/\st=Hu (Az false l) (.fn (.func g) [.tp c,.tp d]) l.length k) ⟨_,Up.of ⟨0,Ap3 _,rfl,rfl,rfl⟩⟩ ?_;rintro gg st ⟨k,n,rfl,a,rfl⟩;have e:(k:Int).toNat=k:=oM
 refine Aqh (Ahn _ g c d l l.length k _) ⟨λf=>?_,λi=>?_⟩
 .have b:k<l.length:=by have:=AZ f;omega
  rw[e];rw[A5 (d:=default) b,D9]at a;refine⟨⟨oM,oM⟩,p (l.getD k default),h _ (As b),λj=>Bj ?_,λj=>⟨l.length-(k+1),oM,Up.of ⟨k+1,b,rfl,?_,by rw[Al oM];rfl⟩⟩⟩
  .rw[j,ApY]at a;exact a.symm
  .rw[j,ApW]at a;exact a
 .rw[Aqk (by have:=AW i;omega)]at a;exact Bj a.symm
def AhF {g:FuncId}{c d:List VV}{l:List Nx}(p:Nx->Bool)(a:l.length<=4611686018427387904)(h:∀x∈l,Ah prog g [] [.agg (Bf x),.tp c,.tp d] [] (Ac (p x))):Ah prog 79 [] [Az false l,.fn (.func g) [.tp c,.tp d]] [] (Ac (l.any p)) :=
 Ap func79 (AkQ _ g c d l) ⟨_,Ahm p a h,AA EV⟩
def Ahf {g:FuncId}{l:List D.Shape}(p:D.Shape->Bool)(j:l.length<=4611686018427387904)(h:∀x∈l,Ah prog g [] [.agg (BX x)] [] (Ac (p x))):Ah prog 158 [] [AJ true l,.fn (.func g) []] [] (Aa (ixP p 0 l)):=by
 refine Ap func158 (AkA _ g l) ?_;refine Aq (λgg st=>∃k:Nat,k<=l.length/\gg=l.length-k/\ixP p 0 l=ixP p k (l.drop k)/\st=Hu (AJ true l) (.fn (.func g) []) l.length k) ⟨_,Up.of ⟨0,Ap3 _,rfl,rfl,rfl⟩⟩ ?_;rintro gg st ⟨k,m,rfl,a,rfl⟩;have c:(k:Int).toNat=k:=oM
 refine Aqh (Ahg _ g l l.length k _) ⟨λe=>?_,λf=>?_⟩
 .have b:k<l.length:=by have:=AZ e;omega
  rw[c];rw[A5 (d:=default) b,D9]at a;refine⟨⟨oM,oM⟩,p (l.getD k default),h _ (As b),λi=>Bj ?_,λi=>⟨l.length-(k+1),oM,Up.of ⟨k+1,b,rfl,?_,by rw[Al oM];rfl⟩⟩⟩
  .rw[i,ApY]at a;exact a.symm
  .rw[i,ApW]at a;exact a
 .rw[Aqk (by have:=AW f;omega)]at a;exact Bj a.symm
def AhB {g:FuncId}{l:List D.Shape}(p:D.Shape->Bool)(a:l.length<=4611686018427387904)(h:∀x∈l,Ah prog g [] [.agg (BX x)] [] (Ac (p x))):Ah prog 130 [] [AJ true l,.fn (.func g) []] [] (Ac (l.any p)) :=
 Ap func130 (AkM _ g l) ⟨_,Ahf p a h,AA EV⟩
def Ahb {g:FuncId}{c:List VV}{l:List (List D.Trans)}(p:List D.Trans->Bool)(m:l.length<=4611686018427387904)(h:∀x∈l,Ah prog g [] [Ao true x,.tp c] [] (Ac (p x))):Ah prog 159 [] [Bg false l,.fn (.func g) [.tp c]] [] (Aa (ixP p 0 l)):=by
 refine Ap func159 (Aky _ g c l) ?_;refine Aq (λgg st=>∃k:Nat,k<=l.length/\gg=l.length-k/\ixP p 0 l=ixP p k (l.drop k)/\st=Hu (Bg false l) (.fn (.func g) [.tp c]) l.length k) ⟨_,Up.of ⟨0,Ap3 _,rfl,rfl,rfl⟩⟩ ?_;rintro gg st ⟨k,n,rfl,a,rfl⟩;have e:(k:Int).toNat=k:=oM
 refine Aqh (Ahc _ g c l l.length k _) ⟨λf=>?_,λi=>?_⟩
 .have b:k<l.length:=by have:=AZ f;omega
  rw[e];rw[A5 (d:=[]) b,D9]at a;refine⟨⟨oM,oM⟩,p (l.getD k []),h _ (As b),λj=>Bj ?_,λj=>⟨l.length-(k+1),oM,Up.of ⟨k+1,b,rfl,?_,by rw[Al oM];rfl⟩⟩⟩
  .rw[j,ApY]at a;exact a.symm
  .rw[j,ApW]at a;exact a
 .rw[Aqk (by have:=AW i;omega)]at a;exact Bj a.symm
def Ahz {g:FuncId}{c:List VV}{l:List (List D.Trans)}(p:List D.Trans->Bool)(a:l.length<=4611686018427387904)(h:∀x∈l,Ah prog g [] [Ao true x,.tp c] [] (Ac (p x))):Ah prog 133 [] [Bg false l,.fn (.func g) [.tp c]] [] (Ac (l.any p)) :=
 Ap func133 (AkK _ g c l) ⟨_,Ahb p a h,AA EV⟩
def Ahd {g:FuncId}{l:List D.Trans}(p:D.Trans->Bool)(j:l.length<=4611686018427387904)(h:∀x∈l,Ah prog g [] [.agg (Cn x)] [] (Ac (p x))):Ah prog 160 [] [Ao true l,.fn (.func g) []] [] (Aa (ixP p 0 l)):=by
 refine Ap func160 (Akz _ g l) ?_;refine Aq (λgg st=>∃k:Nat,k<=l.length/\gg=l.length-k/\ixP p 0 l=ixP p k (l.drop k)/\st=Hu (Ao true l) (.fn (.func g) []) l.length k) ⟨_,Up.of ⟨0,Ap3 _,rfl,rfl,rfl⟩⟩ ?_;rintro gg st ⟨k,m,rfl,a,rfl⟩;have c:(k:Int).toNat=k:=oM
 refine Aqh (Ahe _ g l l.length k _) ⟨λe=>?_,λf=>?_⟩
 .have b:k<l.length:=by have:=AZ e;omega
  rw[c];rw[A5 (d:=default) b,D9]at a;refine⟨⟨oM,oM⟩,p (l.getD k default),h _ (As b),λi=>Bj ?_,λi=>⟨l.length-(k+1),oM,Up.of ⟨k+1,b,rfl,?_,by rw[Al oM];rfl⟩⟩⟩
  .rw[i,ApY]at a;exact a.symm
  .rw[i,ApW]at a;exact a
 .rw[Aqk (by have:=AW f;omega)]at a;exact Bj a.symm
def AhA {g:FuncId}{l:List D.Trans}(p:D.Trans->Bool)(a:l.length<=4611686018427387904)(h:∀x∈l,Ah prog g [] [.agg (Cn x)] [] (Ac (p x))):Ah prog 135 [] [Ao true l,.fn (.func g) []] [] (Ac (l.any p)) :=
 Ap func135 (AkL _ g l) ⟨_,Ahd p a h,AA EV⟩
def Ahu {g:FuncId}{c:List VV}{l:List D.Dim}(p:D.Dim->Bool)(m:l.length<=4611686018427387904)(h:∀x∈l,Ah prog g [] [.agg (Lh x),.tp c] [] (Ac (p x))):Ah prog 156 [] [Bb true l,.fn (.func g) [.tp c]] [] (Aa (ixP p 0 l)):=by
 refine Ap func156 (AkI _ g c l) ?_;refine Aq (λgg st=>∃k:Nat,k<=l.length/\gg=l.length-k/\ixP p 0 l=ixP p k (l.drop k)/\st=Hu (Bb true l) (.fn (.func g) [.tp c]) l.length k) ⟨_,Up.of ⟨0,Ap3 _,rfl,rfl,rfl⟩⟩ ?_;rintro gg st ⟨k,n,rfl,a,rfl⟩;have e:(k:Int).toNat=k:=oM
 refine Aqh (Ahv _ g c l l.length k _) ⟨λf=>?_,λi=>?_⟩
 .have b:k<l.length:=by have:=AZ f;omega
  rw[e];rw[A5 (d:=default) b,D9]at a;refine⟨⟨oM,oM⟩,p (l.getD k default),h _ (As b),λj=>Bj ?_,λj=>⟨l.length-(k+1),oM,Up.of ⟨k+1,b,rfl,?_,by rw[Al oM];rfl⟩⟩⟩
  .rw[j,ApY]at a;exact a.symm
  .rw[j,ApW]at a;exact a
 .rw[Aqk (by have:=AW i;omega)]at a;exact Bj a.symm
def AhI {g:FuncId}{c:List VV}{l:List D.Dim}(p:D.Dim->Bool)(a:l.length<=4611686018427387904)(h:∀x∈l,Ah prog g [] [.agg (Lh x),.tp c] [] (Ac (p x))):Ah prog 126 [] [Bb true l,.fn (.func g) [.tp c]] [] (Ac (l.any p)) :=
 Ap func126 (AkU _ g c l) ⟨_,Ahu p a h,AA EV⟩
def Ahq {g:FuncId}{c:List VV}{l:List Int}(p:Int->Bool)(m:l.length<=4611686018427387904)(h:∀x∈l,Ah prog g [] [Aa x,.tp c] [] (Ac (p x))):Ah prog 157 [] [Ad true l,.fn (.func g) [.tp c]] [] (Aa (ixP p 0 l)):=by
 refine Ap func157 (AkG _ g c l) ?_;refine Aq (λgg st=>∃k:Nat,k<=l.length/\gg=l.length-k/\ixP p 0 l=ixP p k (l.drop k)/\st=Hu (Ad true l) (.fn (.func g) [.tp c]) l.length k) ⟨_,Up.of ⟨0,Ap3 _,rfl,rfl,rfl⟩⟩ ?_;rintro gg st ⟨k,n,rfl,a,rfl⟩;have e:(k:Int).toNat=k:=oM
 refine Aqh (Ahr _ g c l l.length k _) ⟨λf=>?_,λi=>?_⟩
 .have b:k<l.length:=by have:=AZ f;omega
  rw[e];rw[A5 (d:=0) b,D9]at a;refine⟨⟨oM,oM⟩,p (l.getD k 0),h _ (As b),λj=>Bj ?_,λj=>⟨l.length-(k+1),oM,Up.of ⟨k+1,b,rfl,?_,by rw[Al oM];rfl⟩⟩⟩
  .rw[j,ApY]at a;exact a.symm
  .rw[j,ApW]at a;exact a
 .rw[Aqk (by have:=AW i;omega)]at a;exact Bj a.symm
def AhH {g:FuncId}{c:List VV}{l:List Int}(p:Int->Bool)(a:l.length<=4611686018427387904)(h:∀x∈l,Ah prog g [] [Aa x,.tp c] [] (Ac (p x))):Ah prog 128 [] [Ad true l,.fn (.func g) [.tp c]] [] (Ac (l.any p)) :=
 Ap func128 (AkS _ g c l) ⟨_,Ahq p a h,AA EV⟩
def Un {k op p:Int}{i:Nat}(h:Fv k op i p=true)(h0:0<=k):p<k:=by
 unfold Fv at h;cases c:decide (i<BN op)with
 | true=>rw[c,ApY]at h;have:=Cd.1 h;omega
 | false=>rw[c,ApW]at h;have:=Aqb h;omega
def AhK {m:D.Model}{k:Int}(h:Em m k=true)(h0:0<=k):(AC m k).A<k/\(AC m k).B<k/\(AC m k).C<k:=by
 unfold Em at h;simp only[ApX]at h;obtain⟨⟨_,⟨a,hB⟩,b⟩,_⟩:=h;exact⟨Un a h0,Un hB h0,Un b h0⟩
section
variable {m : D.Model}
def Abx (j:∀i:Nat,i<m.Exprs.length->Em m i=true):∀(n:Nat)(x:Int),x<n->x<m.Exprs.length->Ah prog 125 [] [Aa x,.tp (Ae m),.tp (F5 125 (Ae m) (n+1))] [] (Ac (isO m n x))
 | 0,x,h0,_=>Ap func125 (Abb _ m x (F5 125 (Ae m) 0) rfl rfl rfl) ⟨λ_=>AA rfl,λh=>absurd (Aqr h) oM⟩
 | n+1,x,h0,h1=>by
  have IH:=Abx j n;refine Ap func125 (Abb _ m x (F5 125 (Ae m) (n+1)) rfl rfl rfl) ⟨λh=>AA ?_,λh=>?_⟩
  .unfold isO;rw[h,ApY]
  .have k:0<=x:=by have:=Aqr h;omega
   have f:=j x.toNat oM;rw[show((x.toNat:Nat):Int)=x by omega]at f;obtain⟨pA,pB,pC⟩:=AhK f k;have g:=Xj f;have l:isO m (n+1) x=AnI (isO m n) (AC m x):=by
    show(bif decide (x<0)then true else _)=_;rw[h,ApW]
   rw[l];have hv:(AC m x).Op=2->XO m x (AC m x).V:=λh=>JK (g.var h)
   change inX x m.Exprs.length/\_;refine⟨⟨k,h1⟩,?_⟩;change BB ((AC m x).Op==1) (BB ((AC m x).Op==1) _ _) (BB ((AC m x).Op==31) _ (BB ((AC m x).Op==2) (∃y:Bool,((true&&((AC m x).V.Scope==1)==true)=true->Ah _ _ _ [Bb true (AC m x).V.Dims,_] _ _)/\(leO [] []/\VV.le (Ac (bif(AC m x).V.Scope==1 then !y else false)) _))
    (∃y:Bool,(_->Ah _ _ _ [Aa (AC m x).A,_,_] _ _)/\∃o:Bool,(_->Ah _ _ _ [Aa (AC m x).B,_,_] _ _)/\∃p:Bool,(_->Ah _ _ _ [Aa (AC m x).C,_,_] _ _)/\(leO [] []/\VV.le (Ac (bif bif bif bif decide ((AC m x).Op>=3)then decide ((AC m x).Op<=24)else false then y else false then o else false then p else false)) _))))
   generalize AC m x=X at *;unfold AnI;refine⟨λa=>⟨λ_=>AA ?_,λb=>absurd (a.symm.trans b) sM⟩,λa=>⟨λb=>AA ?_,λb=>⟨λc=>?_,λc=>?_⟩⟩⟩
   .have a:X.Op=1:=by simpa using a
    simp[a]
   .have b:X.Op=31:=by simpa using b
    simp[b]
   .have c:X.Op=2:=by simpa using c
    have hv:=hv c;refine⟨X.V.Dims.any λd=>!isO m n d.I,λ_=>AhI _ (by have:=hv.dims;omega) λd hd=>?_,AA ?_⟩
    .obtain⟨_,q,d1⟩:=hv.dim d hd;exact Ap func127 (Aha _ m d (F5 125 (Ae m) (n+1))) ⟨isO m n d.I,IH _ oM oM,AA rfl⟩
    .rw[c];have e:(!(X.V.Dims.any λd=>!isO m n d.I))=X.V.Dims.all λd=>isO m n d.I:=by
      rw[List.all_eq_not_any_not]
     rw[e]
     by_cases hs:X.V.Scope=1<;>simp[hs]
   .have c:X.Op≠2:=by simpa using c
    have a:X.Op≠1:=by simpa using a
    have b:X.Op≠31:=by simpa using b
    refine⟨isO m n X.A,λ_=>IH _ oM oM,isO m n X.B,λ_=>IH _ oM oM,isO m n X.C,λ_=>IH _ oM oM,AA ?_⟩;simp only[Aqu a,Aqu b,Aqu c,Bool.or_self,ApW]
    by_cases h3:3<=X.Op<;>by_cases h4:X.Op<=24<;>simp[h3,h4]<;>cases isO m n X.A<;>cases isO m n X.B<;>rfl
def AhP {s:D.Stmt}(c:∀i:Nat,i<m.Exprs.length->Em m i=true)(hs:E7 m s):Ah prog 109 [] [.agg (Ae m),.agg (Ax s)] [] (Ac (QA m s)):=by
 have d:=hs.args;have a:∀x:Int,x<m.Exprs.length->Ah prog 125 [] [Aa x,.tp (Ae m),.tp (F5 125 (Ae m) (m.Exprs.length+1))] [] (Ac (OF m x)):=λx b=>Abx c m.Exprs.length x b b
 refine Ap func109 (Ag2 _ m s) ?_;refine AB.lay (i:=0) (j:=2) (m.Exprs.length+2) rfl rfl rfl rfl (λk o h=>?_) (λp hp=>?_) ?_
 .match k,h with
  | 0,h=>obtain rfl:=Aqi h;exact .inr ⟨_,rfl,rfl⟩
  | 1,h=>obtain rfl:=Aqi h;exact .inr ⟨_,rfl,rfl⟩
  | 2,_=>exact .inl rfl
  | k+3,h=>simp at h
 .simp only[AqI,List.not_mem_nil,or_false]at hp;rcases hp with rfl|rfl|rfl
  .exact .inr ⟨0,rfl,sM⟩
  .exact .inr ⟨1,rfl,sM⟩
  .exact .inr ⟨2,rfl,sM⟩
 .show AB _ Apn (Al2 m s (F5 125 (Ae m) (m.Exprs.length+1+1)));refine GM Aj Ak kR (AdP _ m s (F5 125 (Ae m) (m.Exprs.length+1))) ⟨λh=>?_,λh1=>⟨λh=>?_,λh2=>⟨λh=>?_,λh4=>AA ?_⟩⟩⟩
  .have h:s.Kind=1:=by simpa using h
   refine⟨_,a _ (hs.k1 h).2,AA ?_⟩;unfold QA;rw[AqH h]
  .have h:s.Kind=2:=by simpa using h
   refine⟨_,a _ (hs.v2 h).2.1,_,λ_=>a _ (hs.k2 h).2,AA ?_⟩;unfold QA;rw[Aqs oM,AqH h];cases OF m s.A<;>rfl
  .have h:s.Kind=4:=by simpa using h
   refine⟨s.Args.any λx=>!OF m x,AhH _ oM λx b=>?_,AA ?_⟩
   .exact Ap func129 (Ag9 _ m x (F5 125 (Ae m) (m.Exprs.length+1))) ⟨OF m x,a _ (hs.a4 h x b).2,AA rfl⟩
   .unfold QA;rw[Aqs oM,Aqs oM,AqH h,List.all_eq_not_any_not]
  .have h1:s.Kind≠1:=by simpa using h1
   have h2:s.Kind≠2:=by simpa using h2
   have h4:s.Kind≠4:=by simpa using h4
   unfold QA;rw[Aqs h1,Aqs h2,Aqs h4];show(bif decide (s.Kind=8)then true else decide (s.Kind=7))=_;cases decide (s.Kind=8)<;>rfl
def Sv (l:D.Loc):Ah prog 108 [] [.agg (AT l)] [] (Ac (G3 l)) :=
 Ap func108 (AdJ _ l) (AA (by unfold G3;cases l.Atomic<;>cases l.Dstep<;>cases l.Accept<;>cases l.Progress<;>rfl))
def WD {w:List D.Trans}(a:w.length<=1048576):Ah prog 134 [] [Ao true w,.tp [.fn (.func 132) []]] [] (Ac (w.any λt=>decide (t.S.Kind=6)&&decide (t.S.N<2))) :=
 Ap func134 (Ag6 _ w) ⟨_,AhA _ oM λt _=>Ap func132 (Ag7 _ t) (AA (by by_cases h:t.S.Kind=6<;>simp[h])),AA rfl⟩
def Wn {l:D.Loc}(e:m.Shapes.length<=1048576)(a:HR l):Ah prog 110 [] [.agg (Ae m),.agg (AT l)] [] (Ac (I3 m l)):=by
 have f:=a.Esc.1;refine Ap func110 (Zk _ m l) ⟨Py m,AhB _ oM λs _=>Ap func131 (Ag8 _ s) (AA (by by_cases h:s.Room=0<;>simp[h])),λh=>AA ?_,λh=>⟨oM,λ_ _=>rfl,AfS l,?_,AA ?_⟩⟩
 .unfold I3;rw[show Py m=false by simpa using h]<;>rfl
 .have b:=Ahz (g:=134) (c:=[.fn (.func 132) []]) (l:=Dg l) (λw=>w.any λt=>decide (t.S.Kind=6)&&decide (t.S.N<2)) (by unfold Dg;rw[AqA];omega) λw d=>WD (by
   rcases AqI.1 d with rfl|d
   .exact a.Out.1
   .exact(a.Esc.2 w d).1)
  refine Ah.le b trivial ⟨?_,lR,trivial⟩ trivial lR;show VV.le _ (.sl false (Dg l).length 1 λi=>[Ao true ((Dg l).getD i [])]);rw[show(Dg l).length=1+l.Esc.length by unfold Dg;rw[AqA];omega];refine AqY (.inl rfl) λi hi=>AL ?_
  cases i with
  | zero=>rfl
  | succ i =>
   rw[show Nat.blt (i+1) 1=false by cases i<;>rfl,ApW,show i+1-1=i by omega];rfl
 .unfold I3;rw[show Py m=true by simpa using h]<;>rfl
def Ze {p:D.Proc}{l:D.Loc}(r:∀i:Nat,i<m.Exprs.length->Em m i=true)(s:m.Shapes.length<=1048576)(hp:Hy p)(u:l.Out.length<=1048576)(b:∀t∈l.Out,E7 m t.S)(c:∀t∈l.Out,inP p.Locs.length t.To=true) :
  Ah prog 78 [] [.agg (Ae m),.agg (A2 p),.agg (AT l)] [] (Ac (Sz m p l)):=by
 have e:Sz m p l=(!(decide (l.Out.length=0)||(decide (0<l.Esc.length)||(G3 l||decide (0<=p.Provided))))&&l.Out.all λt=>QA m t.S&&(!G3 (p.Locs.getD t.To.toNat default)&&!I3 m (p.Locs.getD t.To.toNat default))):=rfl;generalize Sz m p l=R at e |-;refine Ap func78 (AdK R m p l) ⟨G3 l,λ_=>Sv l,λh=>AA ?_,λh=>?_⟩
 .rw[e];have:(decide (l.Out.length=0)||(decide (0<l.Esc.length)||(G3 l||decide (0<=p.Provided))))=true:=by
   by_cases h1:l.Out.length=0
   .simp[h1]
   .by_cases h2:0<l.Esc.length
    .simp[h2]
    .cases h3:G3 l with
     | true=>simp
     | false=>simp[h1,h2,h3]at h;simp[h]
  rw[this]<;>rfl
 .have:(decide (l.Out.length=0)||(decide (0<l.Esc.length)||(G3 l||decide (0<=p.Provided))))=false:=by
   by_cases h1:l.Out.length=0
   .simp[h1]at h
   .by_cases h2:0<l.Esc.length
    .simp[h2]at h
    .cases h3:G3 l with
     | true=>simp[h3]at h
     | false=>simp[h1,h2,h3]at h;simp[h1,h2,h]
  rw[this,Bool.not_false,AqX]at e;clear h this;generalize l.Out=w at u b c e |-;refine Aq (λgg st=>∃k:Nat,k<=w.length/\gg=w.length-k/\R=((w.drop k).all λt=>QA m t.S&&(!G3 (p.Locs.getD t.To.toNat default)&&!I3 m (p.Locs.getD t.To.toNat default)))/\st=AjT m p w k) ⟨_,Up.of ⟨0,Ap3 _,rfl,e,rfl⟩⟩ ?_;rintro gg st ⟨k,x,rfl,f,rfl⟩;have g:(k:Int).toNat=k:=oM
  refine Aqh (Zf R m p w k _ rfl rfl) ⟨λj=>?_,λn=>AA ?_⟩
  .have a:k<w.length:=by have:=AZ j;omega
   have q:=As (d:=(default:D.Trans)) a;rw[g];rw[A5 (d:=default) a,Aru]at f;have o:=Cd.1 (c _ q);have hs:=b _ q;generalize w.getD k default=t at f o hs |-;have v:HR (p.Locs.getD t.To.toNat default):=hp.Locs.2 _ (As oM);refine⟨⟨oM,oM⟩,QA m t.S,AhP r hs,λ_=>o,G3 (p.Locs.getD t.To.toNat default),λ_=>Sv _,λ_=>o,I3 m (p.Locs.getD t.To.toNat default),λ_=>Wn s v,λh=>AA ?_,λh=>⟨w.length-(k+1),oM,Up.of ⟨k+1,a,rfl,?_,by rw[Al oM]⟩⟩⟩
   .rw[f];revert h;cases QA m t.S<;>cases G3 (p.Locs.getD t.To.toNat default)<;>cases I3 m (p.Locs.getD t.To.toNat default)<;>simp
   .rw[f];revert h;cases QA m t.S<;>cases G3 (p.Locs.getD t.To.toNat default)<;>cases I3 m (p.Locs.getD t.To.toNat default)<;>simp
  .rw[f,Aqk (by have:=AW n;omega)]<;>rfl
end
section
variable {m : D.Model} {s:D.State}
def SQ (a:AI m):Ah prog 16 [] [.agg (Ae m)] [] (Aa (OZ m)):=by
 have d:=a.Exprs.1;have e:=a.Procs.1;have b:OZ m=bif decide ((CX m).1≠0)then(CX m).1 else bif WE m then 44 else 0:=rfl
 generalize OZ m=R at b |-;refine Ap func16 (AhN R m) ⟨CX m,Mf a,λh=>Bj ?_,λh=>⟨m.Exprs.any AmF,Wr _ oM λx _=>Ap func38 (AgX _ x) (AA rfl),
  m.Exprs.any Aiz,λ_=>Wr _ oM λx _=>Ap func35 (Ahy _ x) (AA ?_),
  m.Procs.any (Aba m),λ_=>AhC _ oM λp hp=>Ap func36 (Ag4 _ m p) ⟨⟨oM,by have:=List.length_pos_of_mem hp;omega⟩,AA ?_⟩,
  m.Procs.any Ajn,λ_=>AhD _ oM λp hp=>Ap func39 (AhL _ p) ⟨_,AhG (λl=>l.Atomic) (by have:=(a.Procs.2 p hp).Locs.1;omega) λl _=>Ap func41 (AhJ _ l) (AA rfl),AA rfl⟩,λh2=>Bj ?_,λh2=>Bj ?_⟩⟩
 .have h:(CX m).1≠0:=by simpa using h
  rw[b,Aqn h]<;>rfl
 .show(bif bif bif bif decide (x.Op=32)then true else decide (x.Op=36)then true else decide (x.Op=37)then true else decide (x.Op=38)then true else bif decide (x.Op=2)then decide (x.V.Scope=2)else false)=Aiz x;unfold Aiz;cases decide (x.Op=32)<;>cases decide (x.Op=36)<;>cases decide (x.Op=37)<;>cases decide (x.Op=38)<;>cases decide (x.Op=2)<;>rfl
 .unfold Aba;show(!decide _)=decide (¬_);simp
 all_goals
  have h:(CX m).1=0:=by simpa using h
  rw[b,Aqu (λc=>c h),ApW];revert h2;unfold WE;show(bif bif bif decide (0<=m.Claim)then true else _ then true else _ then true else _)=_->_;cases decide (0<=m.Claim)<;>cases m.Exprs.any Aiz<;>cases m.Procs.any (Aba m)<;>cases m.Exprs.any AmF<;>cases m.Procs.any Ajn<;>simp
end
section
variable {m : D.Model} {s:D.State}
def Gs.exprs (h:Gs m s):∀i:Nat,i<m.Exprs.length->Em m i=true:=Q6 (Sf (CB h.may).1)
def Mo (m:D.Model)(s:D.State)(l:List Nx)(i:Nat):Bool:=Sz m (Bd m (s.Procs.getD i default).Type_) ((Bd m (s.Procs.getD i default).Type_).Locs.getD (s.Procs.getD i default).Loc.toNat default)&&l.any λn=>decide (n.Move.Pid=i)
def E6 (m:D.Model)(s:D.State)(l:List Nx)(k:Nat):List Int:=((List.range k).filter λi=>Mo m s l i).map Int.ofNat
def XJ {l:List Nx}{k:Nat}:E6 m s l (k+1)=bif Mo m s l k then E6 m s l k++[(k:Int)]else E6 m s l k:=by
 unfold E6;rw[List.range_succ,List.filter_append,Are];cases h:Mo m s l k<;>simp[h]
def RC {l:List Nx}{k:Nat}:(E6 m s l k).length<=k:=by
 unfold E6;rw[AqS];have:=List.length_filter_le (λi=>Mo m s l i) (List.range k);simpa using this
def Wu (h:Gs m s)(z:OZ m=0){l:List Nx}(A:l.length<=4611686018427387904):Ah prog 51 [] [.agg (Ae m),.agg (Ag s),Az false l] [] (.tup [Ad true (Jk m s l),Aa 0]):=by
 have B:=h.fit.p;refine Ap func51 (Zm (Jk m s l,0) m s l rfl) ⟨OZ m,SQ h.wf,λj=>?_,λ_=>⟨B4 m s,Dx h.wf h.small (λh=>(EN h).clp),λj=>?_,λ_=>?_⟩⟩
 .rw[z]at j;simp at j
 .rw[h.check]at j;simp at j
 have C:Jk m s l=E6 m s l s.Procs.length:=rfl;rw[C];refine AB.own 2 10 1 (AO []) rfl ?_;refine Aq (λgg st=>∃k:Nat,k<=s.Procs.length/\gg=s.Procs.length-k/\st=AmJ m l s.Procs (E6 m s l k) k) ⟨_,Up.of ⟨0,Ap3 _,rfl,rfl⟩⟩ ?_;rintro gg st ⟨k,J,rfl,rfl⟩;have q:(k:Int).toNat=k:=oM
 have x:=RC (m:=m) (s:=s) (l:=l) (k:=k);refine Aqh (Wv _ m l s.Procs (E6 m s l k) k _ rfl rfl) ⟨λu=>?_,λv=>?_⟩
 .have c:k<s.Procs.length:=by have:=AZ u;omega
  rw[q];have o:=(h.pid (i:=(k:Int)) (t:=false) (a:=[]) ⟨oM,oM⟩).1;obtain⟨E,H,_⟩:=DE (h.fits.p _ (As (d:=default) c));have e:=o.ws (ws:=(DF (AiJ m s k)).Out) (Ap2 ..);have K:D7 (AiJ m s k)=Bd m (s.Procs.getD k default).Type_:=rfl;have I:DF (AiJ m s k)=(Bd m (s.Procs.getD k default).Type_).Locs.getD (s.Procs.getD k default).Loc.toNat default:=rfl;rw[show D7 (D.Env.mk m s k false [])=Bd m (s.Procs.getD k default).Type_ from rfl,I]at e;have hp:=h.wf.Procs.2 _ (As (d:=default) (show(s.Procs.getD k default).Type_.toNat<m.Procs.length by omega));have y:Mo m s l k=(Sz m (Bd m (s.Procs.getD k default).Type_) ((Bd m (s.Procs.getD k default).Type_).Locs.getD (s.Procs.getD k default).Loc.toNat default)&&l.any λn=>decide (n.Move.Pid=k)):=rfl;have b:=XJ (m:=m) (s:=s) (l:=l) (k:=k);refine⟨⟨oM,oM⟩,E,H,_,Ze (p:=Bd m (s.Procs.getD k default).Type_) h.exprs h.wf.Shapes.1 hp (Aqt e.len dZ) e.st e.to,l.any λn=>decide (n.Move.Pid=k),λ_=>AhE _ A λn _=>Ap func80 (AhM _ n k) (AA rfl),λg=>⟨oM,s.Procs.length-(k+1),oM,?_⟩,λg=>⟨s.Procs.length-(k+1),oM,Up.of ⟨k+1,c,rfl,?_⟩⟩⟩
  .have g:Mo m s l k=true:=(y.trans (BU _ _).symm).trans g;rw[g,ApY]at b;rw[Al oM];refine Up.mk (l':=[(2,Az false l),(3,.bp 0 0),(10,.ow 1 0 (E6 m s l (k+1)).length),(26,Av true s.Procs),(27,Aa s.Procs.length),(28,Aa ((k+1:Nat):Int))]) (hs':=[.box (Ae m),.arr true 0 (E6 m s l (k+1)).length 1 (AO (E6 m s l (k+1)))]) ?_ ?_ ⟨k+1,c,rfl,rfl⟩
   .rw[b,Ap5];exact AR _
   .rw[b,Ap5];refine⟨Ob.le_refl _,Aqm λi hi=>AL ?_,trivial⟩;exact BO (l:=E6 m s l k) (r:=[(k:Int)]) (f:=λw=>[Aa w]) (d:=0) (F:=AO (E6 m s l k)) (G:=λi=>(([Aa k]:List VV).drop (i*1)).take 1) (λi hi=>rfl) (λi hi=>by
     obtain rfl:i=0:=by simpa using hi
     rfl) (by simpa using hi)
  .have g:Mo m s l k=false:=(y.trans (BU _ _).symm).trans g;rw[g,ApW]at b;rw[b,Al oM]
 .obtain rfl:k=s.Procs.length:=by have:=AW v;omega
  exact⟨trivial,lR⟩
end
end Go.Proofs.YtedfjceonnoifaaGreatDoor
