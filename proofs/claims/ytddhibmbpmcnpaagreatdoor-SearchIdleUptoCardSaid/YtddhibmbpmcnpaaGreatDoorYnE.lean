/-
  Texts, joined: SeP, SoS, SoA, SpE, VjRnd, VjRng, VjRgs, VjIt, VjIt2, VjIt3, SpA, VjLay, PqS, SeS, SeA, SsS, VjSco, SsH, SeL, SlP, SeH, SpH, SpQ, SpV1, SpV2, VjCut, SpV3, SpV4, SpV5, SpV6, SpV7, PqA, PqH, PqX, PqV, PqW.
-/
import Derived.Test.YtddhibmbpmcnpaaGreatDoorYmD
import Derived.RangeFuncNested
import Derived.OrdersIn
import Derived.OwnWalkIn
import Derived.KernelRfl
set_option linter.defProp false
set_option maxRecDepth 100000
namespace Go.Proofs.YtddhibmbpmcnpaaGreatDoor
open Go.RowKit Go.Proofs.Tryz
open IntKind(i64)
structure Op where
 Mode:Int
 Bfs:Bool
 Reduce:Bool
 Fair:Bool
 Free:Bool
 States:Int
 Depth:Int
structure Fnd where
 Kind:Int
 What:Int
 Err:Int
 Trail:List Mv
 Cycle:Int
 States:Int
 Steps:Int
 N:Nat
def AcX:Fnd:=⟨0,0,0,[],0,0,0,0⟩
def HM (m:D.Model)(s:D.State):Bool:=decide (0<=m.Claim)&&decide (s.Claim=(A7 m m.Claim).Final)
def Jl (m:D.Model)(p:D.Process):Bool:=decide (p.Loc≠(A7 m p.Type_).Final)&&!((A7 m p.Type_).Locs.getD p.Loc.toNat default).End
def Iw (m:D.Model)(s:D.State):Bool:=decide ((CJ m s).length=0)&&s.Procs.any (Jl m)
def Cc (m:D.Model)(o:Op)(s:D.State):Int:=bif HM m s then 3 else bif Iw m s&&!o.Free then 2 else 0
def orU (x y:Int):Int:=IntKind.u64.wrap ((BitVec.ofInt IntKind.u64.bits x ||| BitVec.ofInt IntKind.u64.bits y).toNat:Int)
def Alp (x y:Int):Int:=IntKind.u64.wrap ((BitVec.ofInt IntKind.u64.bits x &&& BitVec.ofInt IntKind.u64.bits y).toNat:Int)
def ArU (x y:Int):Int:=IntKind.u64.wrap ((BitVec.ofInt IntKind.u64.bits x &&& ~~~BitVec.ofInt IntKind.u64.bits y).toNat:Int)
structure Sn where
 ks:List ByteArray
 bs:List Int
def Sn.mark (c:Sn)(n:Nat):Sn:=⟨c.ks,c.bs.set n (orU (c.bs.getD n 0) 1)⟩
def Sn.clear (c:Sn)(n:Nat):Sn:=⟨c.ks,c.bs.set n (ArU (c.bs.getD n 0) 1)⟩
def Sn.put (c:Sn)(t:ByteArray):Sn:=⟨c.ks++[t],c.bs++[0]⟩
def Ya (o:Op)(c:Sn)(pid:Int)(n:Nx):Bool :=
 decide (n.Move.Pid=pid)&&(decide (n.Err≠0)||(!FY c.ks (AU n.State)||(!o.Bfs&&decide (Alp (c.bs.getD (Ei c.ks (AU n.State)) 0) 1=0))))
def MD (o:Op)(c:Sn)(l:List Nx)(pid:Int):Bool:=l.any (Ya o c pid)
def Jx (o:Op)(c:Sn)(l:List Nx):List Int->List Nx
 | []=>l
 | p::r=>bif MD o c l p then l.filter λn=>decide (n.Move.Pid=p)else Jx o c l r
def DO (m:D.Model)(o:Op)(c:Sn)(s:D.State):List Nx :=
 bif !o.Reduce then(Cl m s).1 else Jx o c (Cl m s).1 (G8 m s (Cl m s).1)
structure Pf where
 n:Nat
 list:List Nx
 at_:Nat
 by_:Mv
instance : Inhabited Pf:=⟨⟨0,[],0,default⟩⟩
def FR (p:List Pf)(more:List Mv):List Mv:=p.tail.map Pf.by_++more
structure Wk where
 sn:Sn
 steps:Int
 path:List Pf
def EF (c:Sn)(steps:Int)(kind what err:Int)(trail:List Mv):Fnd:=⟨kind,what,err,trail,-1,c.ks.length,steps,c.ks.length⟩
def I5 (m:D.Model)(o:Op):Nat->Wk->Option (D.State×Mv)->Fnd
 | 0,_,_=>AcX
 | f+1,c,none =>
  match c.path.getLast? with
  | none=>EF c.sn c.steps 1 0 0 []
  | some fr =>
   bif decide (fr.at_=fr.list.length)then I5 m o f ⟨c.sn.clear fr.n,c.steps,c.path.dropLast⟩ none
   else bif decide ((fr.list.getD fr.at_ default).Err≠0)then EF c.sn (i64.wrap (c.steps+1)) 2 1 (fr.list.getD fr.at_ default).Err (FR c.path [(fr.list.getD fr.at_ default).Move])
   else I5 m o f ⟨c.sn,i64.wrap (c.steps+1),c.path.dropLast++[{fr with at_:=fr.at_+1}]⟩ (some ((fr.list.getD fr.at_ default).State,(fr.list.getD fr.at_ default).Move))
 | f+1,c,some (s,v) =>
  bif FY c.sn.ks (AU s)then I5 m o f c none
  else bif decide ((c.sn.ks.length:Int)=o.States)then EF c.sn c.steps 3 0 0 []
  else bif decide ((c.path.length:Int)=o.Depth)then⟨3,0,0,[],-1,c.sn.ks.length,c.steps,c.sn.ks.length+1⟩
  else bif decide (0<Cc m o s)then EF (c.sn.put (AU s)) c.steps 2 (Cc m o s) 0 (FR (c.path++[⟨c.sn.ks.length,[],0,v⟩]) [])
  else I5 m o f ⟨(c.sn.put (AU s)).mark c.sn.ks.length,c.steps,c.path++[⟨c.sn.ks.length,DO m o ((c.sn.put (AU s)).mark c.sn.ks.length) s,0,v⟩]⟩ none
structure Mt where
 s:D.State
 from_:Int
 by_:Mv
 deep:Int
instance : Inhabited Mt:=⟨⟨⟨[],[],[],0,0,0⟩,0,default,0⟩⟩
def bkP (l:List Mt):Nat->Int->List Mv
 | 0,_=>[]
 | f+1,n=>bif decide ((l.getD n.toNat default).from_>=0)then bkP l f (l.getD n.toNat default).from_++[(l.getD n.toNat default).by_]else[]
structure Bk where
 sn:Sn
 steps:Int
 l:List Mt
def Hi (m:D.Model)(o:Op)(n:Nat):List Nx->Bk->Fnd ⊕ Bk
 | [],c=>.inr c
 | x::r,c =>
  bif decide (x.Err≠0)then .inl (EF c.sn (i64.wrap (c.steps+1)) 2 1 x.Err (bkP c.l c.l.length n++[x.Move]))
  else bif FY c.sn.ks (AU x.State)then Hi m o n r ⟨c.sn,i64.wrap (c.steps+1),c.l⟩
  else bif decide (i64.wrap ((c.l.getD n default).deep+1)>=o.Depth)then .inl (EF c.sn (i64.wrap (c.steps+1)) 3 0 0 [])
  else bif decide ((c.sn.ks.length:Int)=o.States)then .inl (EF c.sn (i64.wrap (c.steps+1)) 3 0 0 [])
  else bif decide (0<Cc m o x.State)then .inl (EF (c.sn.put (AU x.State)) (i64.wrap (c.steps+1)) 2 (Cc m o x.State) 0 (bkP (c.l++[⟨x.State,n,x.Move,i64.wrap ((c.l.getD n default).deep+1)⟩]) (c.l.length+1) c.l.length))
  else Hi m o n r ⟨c.sn.put (AU x.State),i64.wrap (c.steps+1),c.l++[⟨x.State,n,x.Move,i64.wrap ((c.l.getD n default).deep+1)⟩]⟩
def R8 (m:D.Model)(o:Op):Nat->Nat->Bk->Fnd
 | 0,_,_=>AcX
 | f+1,n,c =>
  bif decide (n<c.l.length)then(match Hi m o n (DO m o c.sn (c.l.getD n default).s) c with
   | .inl r=>r
   | .inr c'=>R8 m o f (n+1) c')
  else EF c.sn c.steps 1 0 0 []
def L3 (m:D.Model)(o:Op)(F G:Nat):Fnd :=
 bif o.Bfs then(bif decide (0<Cc m o (AY m))then EF ⟨[AU (AY m)],[0]⟩ 0 2 (Cc m o (AY m)) 0 []else R8 m o G 0 ⟨⟨[AU (AY m)],[0]⟩,0,[⟨AY m,-1,default,0⟩]⟩)
 else I5 m o F ⟨⟨[],[]⟩,0,[]⟩ (some (AY m,default))
def Aqf:Nat:=11700000000000000000000
def SH (m:D.Model)(o:Op):Fnd:=L3 m o Aqf 20001
def Aks (x:D.Expr):Bool:=(decide (x.Op=32)||(decide (x.Op=36)||(decide (x.Op=37)||decide (x.Op=38))))||(decide (x.Op=2)&&decide (x.V.Scope=2))
def AoN (x:D.Expr):Bool:=decide (x.Op=35)
def Kx (m:D.Model)(p:D.Proc):Bool:=decide (p.Prio≠(m.Procs.getD 0 default).Prio)
def Sb (p:D.Proc):Bool:=p.Locs.any λl=>l.Atomic
def Pr (m:D.Model):Bool:=(decide (0<=m.Claim)||(m.Exprs.any Aks||m.Procs.any (Kx m)))||(m.Exprs.any AoN&&m.Procs.any Sb)
def O1 (m:D.Model):Int:=bif decide ((CO m).1≠0)then(CO m).1 else bif Pr m then 44 else 0
def C6 (m:D.Model)(o:Op):Int :=
 bif decide ((CO m).1≠0)then(CO m).1 else bif(decide (o.States<1)||decide (o.States > 20000))||(decide (o.Depth<1)||decide (o.Depth > 20000))then 42 else bif decide (o.Mode≠1)||o.Fair then 44 else bif o.Reduce then O1 m else 0
def C3 (m:D.Model)(o:Op):Fnd×Int:=bif decide (C6 m o≠0)then(AcX,C6 m o)else(SH m o,0)
def BJ (x:Int):VV:=.sc (.int .u64 x)
def Ct (ks:List ByteArray):Nat->List VV:=λi=>[AM (ks.getD i default)]
def Dw (bs:List Int):Nat->List VV:=λi=>[BJ (bs.getD i 0)]
def Cf (sl:List Nat):Nat->List VV:=λi=>[Aa (sl.getD i 0)]
def Bl (most:Int)(ks:List ByteArray)(bs:List Int)(sl:List Nat):List VV:=[Aa most,.sl false ks.length 1 (Ct ks),.sl false bs.length 1 (Dw bs),.sl false sl.length 1 (Cf sl)]
def Ih (most:Int)(ks:List ByteArray)(bs:List Int)(sl:List Nat):List VV:=[Aa most,.ow 1 0 ks.length,.ow 2 0 bs.length,.ow 3 0 sl.length]
def CK (most:Int)(ks:List ByteArray)(bs:List Int)(sl:List Nat):List Ob :=
 [.box (Ih most ks bs sl),.arr true 0 ks.length 1 (Ct ks),.arr true 0 bs.length 1 (Dw bs),.arr true 0 sl.length 1 (Cf sl)]
def ArQ:Shp:={α:=Int,enc:=λx=>([],BJ x)}
structure So where
 most:Int
 ks:List ByteArray
 bs:List Int
 sl:List Nat
def Al6:Shp:={α:=So,enc:=λx=>(CK x.most x.ks x.bs x.sl,.tup []),lend:=true}
def Al2:Shp:={α:=So×Int×Bool×Int,enc:=λx=>(CK x.1.most x.1.ks x.1.bs x.1.sl,.tup [Aa x.2.1,Ac x.2.2.1,Aa x.2.2.2]),lend:=true}
def Al5:Shp:={α:=So×Int,enc:=λx=>(CK x.1.most x.1.ks x.1.bs x.1.sl,Aa x.2),lend:=true}
def AqX:Shp:={α:=Int×Bool,enc:=λx=>([],.tup [Aa x.1,Ac x.2])}
def Aqo:Ann:={base:=4,keep:=λ_=>[]}
def ArG:Ann:={base:=5,keep:=λ_=>[]}
def MX:Ann:={keep:=fun
  | [0,1,0,1,1]=>[0,3,6,7]
  | _=>[]}
def JQ:Ann:={keep:=fun
  | [1]=>[0,1,5]
  | _=>[]}
def JR:Ann:={base:=4,keep:=fun
  | [0,1,1]=>[0,17,18,19]
  | _=>[]}
def AlT (k:ByteArray)(h:Int)(n i:Int):St:=An [(0,AM k),(3,BJ h),(6,Aa n),(7,Aa i)] []
def AoP (most:Int)(ks:List ByteArray)(bs:List Int)(sl:List Nat)(key:ByteArray)(i:VV):St:=An [(0,.tp (Bl most ks bs sl)),(1,AM key),(5,i)] []
def Yj (most:Int)(ks:List ByteArray)(bs:List Int)(sl0 sl:List Nat):List Ob :=
 [.box [Aa most,.ow 1 0 ks.length,.ow 2 0 bs.length,.ow 4 0 sl.length],.arr true 0 ks.length 1 (Ct ks),.arr true 0 bs.length 1 (Dw bs),.arr true 0 sl0.length 1 (Cf sl0),.arr true 0 sl.length 1 (Cf sl)]
def AqF (most:Int)(ks:List ByteArray)(bs:List Int)(sl0 sl:List Nat)(k:Int):St:=An [(0,.bp 0 0),(17,.ow 1 0 ks.length),(18,Aa ks.length),(19,Aa k)] (Yj most ks bs sl0 sl)
def Ada (most:Int):List Ob:=[.box [Aa most,.nl,.nl,.ow 1 0 16],.arr true 0 16 1 λ_=>[Aa 0]]
def HK (most:Int)(ks:List ByteArray)(bs:List Int)(sl:List Nat)(b:Int):List Ob :=
 [.box (Ih most ks bs sl),.arr true 0 ks.length 1 (Ct ks),.arr true 0 bs.length 1 (Dw bs),.arr true 0 sl.length 1 (Cf sl),.box [BJ b]]
def Apl:Shp:={α:=So×Int×Int,enc:=λx=>(HK x.1.most x.1.ks x.1.bs x.1.sl x.2.1,Aa x.2.2),lend:=true}
def GX (f:FuncId):Shp :=
 bif Nat.beq f 73||Nat.beq f 86||Nat.beq f 61||Nat.beq f 62 then ArQ
 else bif Nat.beq f 48||Nat.beq f 53 then SF
 else bif Nat.beq f 49 then Al6
 else bif Nat.beq f 24 then Al2
 else bif Nat.beq f 60 then Apl
 else bif Nat.beq f 31||Nat.beq f 33 then Al5
 else bif Nat.beq f 30 then AqX
 else Q6
def BG (x:Mv):List VV:=[Aa x.Pid,Aa x.Esc,Aa x.Way,Aa x.With,Aa x.WithEsc,Aa x.WithWay,Aa x.Claim]
def A3 (fz:Bool)(l:List Mv):VV:=.sl fz l.length 7 λi=>BG (l.getD i default)
def Cm (l:List Mv):Nat->List VV:=λi=>BG (l.getD i default)
def Bm (x:Nx):List VV:=[Aa x.Move.Pid,Aa x.Move.Esc,Aa x.Move.Way,Aa x.Move.With,Aa x.Move.WithEsc,Aa x.Move.WithWay,Aa x.Move.Claim,
 Ad true x.State.Globals,AL true x.State.Chans,Av true x.State.Procs,Aa x.State.Last,Aa x.State.Alone,Aa x.State.Claim,Aa x.Err,AM x.Text]
def AC (fz:Bool)(l:List Nx):VV:=.sl fz l.length 15 λi=>Bm (l.getD i default)
def Bj (l:List Nx):Nat->List VV:=λi=>Bm (l.getD i default)
instance : Inhabited Gn:=⟨(default,[])⟩
def Fo (g:Gn):List VV:=[AH true g.1.M.Globals,Ad true g.1.M.Init,AJ true g.1.M.Shapes,Ad true g.1.M.Chans,AE true g.1.M.Procs,Aa g.1.M.Claim,AS true g.1.M.Exprs,
 Ad true g.1.S.Globals,AL true g.1.S.Chans,Av true g.1.S.Procs,Aa g.1.S.Last,Aa g.1.S.Alone,Aa g.1.S.Claim,Aa g.1.Pid,Ac g.1.Timeout,Bu true g.1.Able,Br true g.2]
def B2 (fz:Bool)(l:List Gn):VV:=.sl fz l.length 17 λi=>Fo (l.getD i default)
def Js (l:List Gn):Nat->List VV:=λi=>Fo (l.getD i default)
abbrev Wc:Type:=Bool×Int
def DQ (w:Wc):List VV:=[Ac w.1,Aa w.2]
def CM (fz:Bool)(l:List Wc):VV:=.sl fz l.length 2 λi=>DQ (l.getD i default)
def Kt (l:List Wc):Nat->List VV:=λi=>DQ (l.getD i default)
def rnd (ro:Option Nat):Fence:={Fence.wide with round:=ro}
section
variable {P : Program} {T:TypeId->TE} {Sh:Shs} {N:Nat} {L:Ann} {Q:Exit->Act->World->Prop} {ops:Array Oper} {ro:Option Nat}
def Amo {row:String}{args:Array Value}{w:World}{R:Value->World->Prop}(h:Rows P row args w R):RowsIn (rnd ro) 0 P row args w R:=λc cs _ =>
 let ⟨v,w',r,s⟩:=h c cs
 ⟨v,w',r,(stepsIn_wide (P:=P)).2 s⟩
def Arj {o:Oper}{a:Act}{w:World}{K:Act->World->Prop}(b:∀c,o.op≠.defer c)(h:o.wp P a w K Q):o.wpIn (rnd ro) 0 P a w K Q:=by
 refine⟨λ_ _=>trivial,?_⟩;rw[Oper.semAt_eq _ _ _ b];unfold Oper.wp at h;generalize(execOp a.eval o).run P w=r at h |-;cases r with
 | ok n w' =>
  cases n with
  | enter f args=>exact⟨λh=>by simp[rnd,Fence.wide]at h,CallsIn.mono (callsIn_wide.2 h) λ_ _ h=>h⟩
  | row r args=>exact⟨λh=>by simp[rnd,Fence.wide]at h,Amo h⟩
  | round=>exact h.elim
  | _=>exact h
 | halt e w' =>
  cases e with
  | panic v=>exact h
  | _=>exact h.elim
def AcR {i:Nat}{a:Act}{w:World}{K:Act->World->Prop}(b:∀(i:Nat) o c,ops[i]?=some o->o.op≠.defer c)(f:¬LetsOut Q)(h:wpOp P ops Q i K a w):wpOpIn (rnd ro) 0 P ops Q i K a w:=by
 unfold wpOp at h;unfold wpOpIn;cases d:ops[i]? with
 | none=>rw[d]at h;exact h
 | some o =>
  rw[d]at h;simp only at h |-;split
  .rename_i e;rw[AsE e]at h;exact Arj (b i o · d) (h.resolve_right λh=>f h.2)
  .rename_i e;rw[Asv e]at h;exact⟨λ_ _=>trivial,h⟩
def Vp (b:∀(i:Nat) o c,ops[i]?=some o->o.op≠.defer c)(d:¬LetsOut Q):∀(is:List Nat)(a:Act)(w:World),wpOps P ops Q is a w->wpOpsIn (rnd ro) 0 P ops Q is a w
 | [],a,w,h=>h
 | i::is,a,w,h=>by
  rw[wpOps_cons]at h;rw[wpOpsIn_cons];exact wpOpIn_mono (λa w h=>Vp b d is a w h) (AcR b d h)
def Alo {md:Region.Mode}(b:∀(i:Nat) o c,ops[i]?=some o->o.op≠.defer c)(d:¬LetsOut Q):∀(fuel:Nat)(listed:Array Bool)(a:Act)(w:World),wpAny P md ops Q fuel listed a w->wpAnyIn (rnd ro) 0 P md ops Q fuel listed a w
 | 0,_,_,_,h=>h
 | fuel+1,_,_,_,h=>⟨h.1,λi hi=>wpOpIn_mono (λa w h=>Alo b d fuel _ a w h) (AcR b d (h.2 i hi))⟩
def KU (ops:Array Oper):Bool:=ops.toList.all λo=>match o.op with
 | .defer _=>false
 | _=>true
def VS (h:KU ops=true)(i:Nat)(o:Oper)(c:Call)(a:ops[i]?=some o):o.op≠.defer c:=λe=>by
 have:=AsD.1 h o (by have:=Array.mem_of_getElem? a;simpa using this);rw[e]at this;cases this
def Tx {st0:St}{E:AP}{w0:World}{φ0:Phi}{a:Act}(t:TOk P T)(q:P.follows .mixedOrders=true)(hB:Nt ops N=true)(y:KU ops=true){K:St->Prop}{id:Nat}{draw:Bool}
  (h:JU P T Sh draw ops 0 ops.toList st0 [] [] λb=>K (clr ops b)) (hrel:Rel N E st0 φ0 a w0) :
  (Code.region id ops draw).wpIn (rnd ro) 0 P (λe r w'=>e=.normal/\∃b φ',K b/\Rel N E b φ' r w'/\Ext w0 φ0 w' φ') a w0:=by
 obtain⟨O,u,z⟩:=EL ops.toList 0 st0 [] [] h;have m:=Ns hB;obtain⟨s,v⟩:=II (T:=T) (O:=O) (st0:=st0) ops.toList 0 sM (Ar9 _) z;have n:∀(j:Nat) o,ops[j]?=some o->Im draw T O ops st0 j o:=λj o=>s j o (Ar9 _)
 have d:=VS y;have x:¬LetsOut (λe r w'=>e=Exit.normal/\∃b φ',K b/\Rel N E b φ' r w'/\Ext w0 φ0 w' φ'):=λ⟨_,_,h,_⟩=>by cases h
 cases draw with
 | false =>
  refine wpIn_region (Vp d x _ _ _ ?_);rw[List.range_eq_range'];refine Rs t u m n (λD φ a w f g=>⟨rfl,_,φ,v,g.finish m n f,g.ext⟩) ops.size 0 φ0 a w0 oM ?_;have e:(λi=>decide (i<0))=λ_=>false:=by funext i;simp
  rw[e];exact RI.start hrel
 | true =>
  obtain⟨c,k⟩:=hrel.drew;refine wpIn_region_any q (Alo d x _ _ _ _ ?_);refine Aln rfl t u m n (w0:={w0 with drawn:=w0.drawn+1}) (φ0:=φ0) (λD φ a w f g=>⟨rfl,_,φ,v,g.finish m n f,k.trans g.ext⟩) ops.size _ φ0 a _ sM ?_ ?_ ?_
  .intro i o e hi f;have h0:(Array.replicate ops.size false).getD i false=false:=by simp[Array.getD]
   exact absurd (h0.symm.trans f) sM
  .have:=List.countP_le_length (p:=λi=>!(Array.replicate ops.size false).getD i false) (l:=List.range ops.size);simpa using this
  .have e:(λi=>(Array.replicate ops.size false).getD i false)=λ_=>false:=by funext i;simp[Array.getD]
   rw[e];exact RI.start c
def Ku (N:Nat):Code->Bool
 | .skip | .ret | .exit _=>true
 | .region _ ops _=>Nt ops N&&KU ops
 | .seq x y=>Ku N x&&Ku N y
 | .cond _ x y=>Ku N x&&Ku N y
 | .block _ c=>Ku N c
 | _=>false
def O9 (m:TOk P T)(l:P.follows .mixedOrders=true)(i:∀p,L.cut p=false):∀(c:Code),Ku N c=true->∀(p:List Nat)(K:Exit->St->Prop)(st:St),xc P T Sh N L p c K st->∀(E:AP) (φ:Phi) (a:Act) (w:World),Rel N E st φ a w ->
  c.wpIn (rnd ro) 0 P (λe n w'=>∃d φ',K e d/\Rel N E d φ' n w'/\Ext w φ w' φ') a w
 | .skip,_,p,K,st,h,E,φ,a,w,k=>wpIn_skip ⟨st,φ,h,k,Ext.refl _ _⟩
 | .exit id,_,p,K,st,h,E,φ,a,w,k=>wpIn_exit ⟨st,φ,h,k,Ext.refl _ _⟩
 | .ret,_,p,K,st,h,E,φ,a,w,k=>wpIn_ret ⟨st,φ,h,k,Ext.refl _ _⟩
 | .region id ops draw,hB,p,K,st,h,E,φ,a,w,k=>by
  simp only[Ku,Ar2]at hB;exact wpIn_mono (Tx (id:=id) (draw:=draw) m l hB.1 hB.2 (K:=λd=>K .normal d) h k) λe n w' ⟨r,d,φ',h1,h2,h3⟩=>⟨d,φ',by rw[r];exact h1,h2,h3⟩
 | .seq x y,hB,p,K,st,h,E,φ,a,w,k=>by
  simp only[Ku,Ar2]at hB;refine wpIn_seq (wpIn_mono (O9 m l i x hB.1 _ _ st h E φ a w k) ?_);rintro e n w' ⟨d,φ',h1,h2,h3⟩;cases e with
  | normal =>
   simp only[AeS]at h1;rw[i,Ar1]at h1;exact wpIn_mono (O9 m l i y hB.2 _ K d h1 E φ' n w' h2) λe s u ⟨st'',φ'',g1,z,A⟩=>⟨st'',φ'',g1,z,h3.trans A⟩
  | _=>exact⟨d,φ',h1,h2,h3⟩
 | .cond c x y,hB,p,K,st,h,E,φ,a,w,k=>by
  simp only[Ku,Ar2]at hB;have q:V w (E.up φ) (some φ) (st.val c) (a.eval c):=by
   cases c with
   | tmp t=>exact k.tm t
   | const v=>exact V.litC v
   | global g=>exact .dead
   | func f=>exact .fn rfl λj x B=>by simp at B
  simp only[xc]at h;split at h
  .rename_i b e;rw[e]at q;refine wpIn_cond (t:=b) q.sc_inv ?_;cases b with
   | true=>exact O9 m l i x hB.1 _ K st (h.1 rfl) E φ a w k
   | false=>exact O9 m l i y hB.2 _ K st (h.2 rfl) E φ a w k
  .exact h.elim
 | .block id c,hB,p,K,st,h,E,φ,a,w,k=>by
  refine wpIn_block (wpIn_mono (O9 m l i c hB _ _ st h E φ a w k) ?_);rintro e n w' ⟨d,φ',h1,h2,h3⟩;cases e with
  | exit j =>
   simp only[Exit.inBlock]
   by_cases o:j=id
   .subst o;simp only[KW,AsV,Ar3]at h1;rw[AsE rfl];exact⟨d,φ',h1,h2,h3⟩
   .have C:Nat.beq j id=false:=by
     cases F:Nat.beq j id with
     | true=>exact absurd (Ar5 F) o
     | false=>rfl
    simp only[KW,C,Ar1]at h1;rw[Asv o];exact⟨d,φ',h1,h2,h3⟩
  | _=>exact⟨d,φ',h1,h2,h3⟩
def Pw (N:Nat):Code->Bool
 | .skip=>true
 | .region _ ops _=>Nt ops N&&KU ops
 | .seq x y=>Pw N x&&Pw N y
 | _=>false
def VH (i:TOk P T)(f:P.follows .mixedOrders=true)(d:∀p,L.cut p=false):∀(c:Code),Pw N c=true->∀(p:List Nat)(K:Exit->St->Prop)(st:St),xc P T Sh N L p c K st->∀(E:AP) (φ:Phi) (a:Act) (w:World),Rel N E st φ a w ->
  c.wpIn (rnd ro) 0 P (λe j w'=>e=.normal/\∃b φ',K .normal b/\Rel N E b φ' j w'/\Ext w φ w' φ') a w
 | .skip,_,p,K,st,h,E,φ,a,w,g=>wpIn_skip ⟨rfl,st,φ,h,g,Ext.refl _ _⟩
 | .region id ops draw,hB,p,K,st,h,E,φ,a,w,g=>by
  simp only[Pw,Ar2]at hB;exact Tx (id:=id) (draw:=draw) i f hB.1 hB.2 (K:=λb=>K .normal b) h g
 | .seq x y,hB,p,K,st,h,E,φ,a,w,g=>by
  simp only[Pw,Ar2]at hB;refine wpIn_seq (wpIn_mono (VH i f d x hB.1 _ _ st h E φ a w g) ?_);rintro e j w' ⟨rfl,b,φ',h1,h2,h3⟩;simp only[AeS]at h1;rw[d,Ar1]at h1;exact wpIn_mono (VH i f d y hB.2 _ K b h1 E φ' j w' h2) λe k l ⟨m,st'',φ'',g1,n,o⟩=>⟨m,st'',φ'',g1,n,h3.trans o⟩
end
def AP.add (E:AP)(S:Nat->Prop):AP:=⟨λk=>E.fz k\/S k,λk=>E.br k\/S k,0,[]⟩
def U (S T:Nat->Prop):Nat->Prop:=λk=>S k\/T k
structure Chg (w:World) (S:Nat->Prop) (w':World) (S':Nat->Prop):Prop where
 os:w'.os=w.os
 tape:w'.tape=w.tape
 output:w'.output=w.output
 size:w.heap.size<=w'.heap.size
 block:∀k,k<w.heap.size->¬S k->w'.heap[k]?=w.heap[k]?
 new:∀k,S' k->S k\/w.heap.size<=k
 lt:∀k,S' k->k<w'.heap.size
structure Gd (E:AP) (S:Nat->Prop) (w:World):Prop where
 sub:∀k,E.br k->E.fz k
 ez:∀k,E.fz k->k<w.heap.size
 sz:∀k,S k->k<w.heap.size
 lib:CQ w
 lt:∀k,k∈ER->k<w.heap.size
 out:∀k,k∈ER->¬S k
section
variable {w w' w'':World} {E:AP} {S S' S'':Nat->Prop} {x:VV} {v:Value}
def Chg.trans (h:Chg w S w' S')(k:Chg w' S' w'' S''):Chg w S w'' S'' where
 os:=k.os.trans h.os
 tape:=k.tape.trans h.tape
 output:=k.output.trans h.output
 size:=Asz h.size k.size
 block:=λb a c=>(k.block b (AsC a h.size) λe=>by
  rcases h.new b e with e|e
  .exact c e
  .omega).trans (h.block b a c)
 new:=λb e=>by
  rcases k.new b e with e|e
  .exact h.new b e
  .exact .inr (Asz h.size e)
 lt:=k.lt
def Gd.chg (g:Gd E S w)(h:Chg w S w' S'):Gd E S' w' where
 sub:=g.sub
 ez:=λk a=>AsC (g.ez k a) h.size
 sz:=h.lt
 lib:=g.lib.congr λk a=>h.block k (g.lt k a) (g.out k a)
 lt:=λk a=>AsC (g.lt k a) h.size
 out:=λk a hs=>by
  rcases h.new k hs with e|e
  .exact g.out k a e
  .have:=g.lt k a;omega
end
def O3 (P:Program)(gf:FuncId)(hi:List Ob)(caps:List VV)(n:Nat)(xs:Nat->List VV):Prop :=
 ∀(E:AP)(S:Nat->Prop) (φ:Phi) (w:World) (lb:Array Value) (l:Nat),Gd E (U S (Own φ)) w->(∀k,S k->¬Own φ k)->HRel (E.add S) (Bq hi) φ w->(∀id,φ id≠none↔id<hi.length)->Dz w ((E.add S).up φ) (some φ) caps lb ->
 ∀(J:Nat->(Nat->Prop)->(Nat->Prop)->World->Prop) (R:(Nat->Prop)->(Nat->Prop)->World->Prop),J 0 S (Own φ) w ->
 (∀k S T T' a c,J k S T a->(∀b,S b->¬T b)->Chg a T c T'->J k S T' c)->(∀S T T' a c,R S T a->(∀b,S b->¬T b)->Chg a T c T'->R S T' c) ->
 (∀k S T a vs,k<n->J k S T a->(∀b,S b->¬T b)->Gd E (U S T) a->Dz a (E.add (U S T)) none (xs k) vs->YieldAt Fence.wide 0 P l vs a λe c =>
  (e=.returned (.bool true)/\∃S',J (k+1) S' T c/\Chg a S c S')\/(e=.returned (.bool false)/\∃S',R S' T c/\Chg a S c S')) ->
 CallsIn Fence.wide 0 P gf (#[.func (.yield l) #[] #[]]++lb) w λe w'=>(∃v,e=.returned v)/\((∃S' T',J n S' T' w'/\(∀b,S' b->¬T' b)/\Gd E (U S' T') w')\/∃S' T',R S' T' w')
def V0 (W:World)(S S':Nat->Prop):Prop:=∀k (o:Obj),S k->W.heap[k]?=some o->o.isCells=false->S' k
def ApF (J:(Nat->Prop)->World->Prop)(Ix:Code->(Nat->Prop)->World->Prop)(S:Nat->Prop)(W:World):Exit->Act->World->Prop
 | .normal,_,W'=>KeepsOthers W W'/\∃S',Chg W S W' S'/\V0 W S S'/\J S' W'
 | .ret,_,W'=>KeepsOthers W W'/\∃S',Chg W S W' S'/\V0 W S S'/\Ix .ret S' W'
 | _,_,_=>False
def JH {S:Nat->Prop}{W:World}{l:Nat}(a:Obj)(hs:S l)(b:∀k,S k->k<W.heap.size):Chg W S (W.putObj l a) S :=
 ⟨rfl,rfl,rfl,sM,λk _ c=>World.putObj_heap_other λe=>c (by rw[e];exact hs),λ_ h=>.inl h,λk d=>by simp;exact b k d⟩
def Chg.inU {w w':World}{S S' T:Nat->Prop}(h:Chg w S w' S')(c:∀k,T k->k<w.heap.size):Chg w (U S T) w' (U S' T) :=
 ⟨h.os,h.tape,h.output,h.size,λk a d=>h.block k a λe=>d (.inl e),λk a=>a.elim (λb=>(h.new k b).imp .inl id) λb=>.inl (.inr b),λk a=>a.elim (h.lt k) λb=>AsC (c k b) h.size⟩
def Ahh {P:Program}{g:Operand}{ps:Array Tmp}{assign body:Code}{Q:Exit->Act->World->Prop}{a:Act}{w:World}{E:AP}{S:Nat->Prop}{φ:Phi}
  {gf:Nat} {lb:Array Value} (hg:a.eval g=.func (.func gf) #[] lb) (eg:∀args w,(callFunc gf args).run P w=.ok (.enter gf args) w)
  {hi:List Ob} {caps:List VV} {n:Nat} {xs:Nat->List VV} (hit:O3 P gf hi caps n xs) (hps:∀k,(xs k).length=ps.size) (gd:Gd E (U S (Own φ)) w) (hdis:∀k,S k->¬Own φ k)
  (hH:HRel (E.add S) (Bq hi) φ w) (hφ:∀id,φ id≠none↔id<hi.length) (F:Dz w ((E.add S).up φ) (some φ) caps lb)
  (I:Nat->(Nat->Prop)->(Nat->Prop)->World->Prop) (Ix:Code->(Nat->Prop)->(Nat->Prop)->World->Prop)
  (hI1:∀k S T T' W W',I k S T W->(∀b,S b->¬T b)->Chg W T W' T'->I k S T' W')
  (hI2:∀k S T W l o o',I k S T W->Gd E (U S T) W->W.heap[l]?=some o->o.isCells=false->S l->I k S T (W.putObj l o'))
  (hIx1:∀c S T T' W W',Ix c S T W->(∀b,S b->¬T b)->Chg W T W' T'->Ix c S T' W')
  (hIx:∀c S T W l o o',Ix c S T W->W.heap[l]?=some o->o.isCells=false->S l->Ix c S T (W.putObj l o'))
  (h0:∀W,Below w.heap.size w W->(∀b,b=w.heap.size\/b=w.heap.size+1->b<W.heap.size)->I 0 (λk=>S k\/k=w.heap.size\/k=w.heap.size+1) (Own φ) W)
  (M:∀(l k:Nat)(S1 T1:Nat->Prop)(W:World)(vs:Array Value),k<n->I k S1 T1 W->(∀b,S1 b->¬T1 b)->Gd E (U S1 T1) W->Dz W (E.add (U S1 T1)) none (xs k) vs ->
   assign.wpIn (Fence.wide.inRound l) 0 P (Exit.then (λa₁ W1=>KeepsOthers W W1/\∃S2,Chg W S1 W1 S2/\V0 W S1 S2/\∀W2 r o,W2=W1.putObj r o->(∃o1,W1.heap[r]?=some (.loop o1))->S2 r->Gd E (U S2 T1) W1->Gd E (U S2 T1) W2->Chg W1 S2 W2 S2 ->
    body.wpIn (Fence.wide.inRound l) 0 P (ApF (λS W=>I (k+1) S T1 W) (λc S W=>Ix c S T1 W) S2 W2) a₁ W2) (λ_ _ _=>False)) {tmps:=(ps.zip vs).foldl (λt (p,v)=>t.setIfInBounds p v) a.tmps,defers:=[]} W)
  (hdone:∀(D:Nat)(S1 T1:Nat->Prop)(W:World),I n S1 T1 W->(∀b,S1 b->¬T1 b)->Gd E (U S1 T1) W->W.heap[D]?=some (.deferred (some []))->S1 D->w.heap.size<=D->Q .normal {a with defers:={target:=.collected D,args:=#[]}::a.defers} W)
  (hstop:∀(D:Nat)(S1 T1:Nat->Prop)(c:Code)(W:World),Ix c S1 T1 W->W.heap[D]?=some (.deferred (some []))->S1 D->w.heap.size<=D->c.wpIn Fence.wide 0 P Q {a with defers:={target:=.collected D,args:=#[]}::a.defers} W) :
  (Code.rangeFunc g ps assign body).wpIn Fence.wide 0 P Q a w:=by
 refine wpIn_rangeFunc ?_;intro fn hfn;obtain⟨rec,f⟩:∃rec:LoopState->Option Code->Loop,rec=λst pe=>{state:=st,pending:=pe,fn,tmps:=a.tmps,params:=ps,assign,body,defers:=w.heap.size}:=⟨_,rfl⟩
 obtain⟨W1,G⟩:∃W1,(w.alloc (.deferred (some []))).alloc (.loop (rec .ready none))=W1:=⟨_,rfl⟩;have hL1:W1.heap[w.heap.size+1]?=some (.loop (rec .ready none)):=by
  rw[<- G];have:=World.alloc_heap_new (w.alloc (.deferred (some []))) (.loop (rec .ready none));rwa [World.size_alloc]at this
 have hK1:W1.heap[w.heap.size]?=some (.deferred (some [])):=by
  rw[<- G];exact(Below.heap_alloc _ _ _ sM).trans (World.alloc_heap_new w _)
 have m:Below w.heap.size w W1:=by rw[<- G];exact((Below.refl _ w).alloc (Ar6 _) _).alloc sM _
 have hsz1:W1.heap.size=w.heap.size+1+1:=by rw[<- G];simp
 obtain⟨S0,s⟩:∃S0:Nat->Prop,S0=λk=>S k\/k=w.heap.size\/k=w.heap.size+1:=⟨_,rfl⟩
 have hdis0:∀k,S0 k->¬Own φ k:=λk d ho=>by
  rw[s]at d;have:=hH.lt ho;rcases d with h|rfl|rfl
  .exact hdis k h ho
  .omega
  .omega
 have hc1:Chg w (U S (Own φ)) W1 (U S0 (Own φ)):=⟨m.os,m.tape,m.output,m.size,λk d _=>m.block k d,λk d=>by
   rcases d with d|d
   .rw[s]at d;rcases d with h|rfl|rfl
    .exact .inl (.inl h)
    .exact .inr (Ar6 _)
    .exact .inr (AtF _)
   .exact .inl (.inr d),λk d=>by
  rcases d with d|d
  .rw[s]at d;rcases d with h|rfl|rfl
   .have:=gd.sz k (.inl h);omega
   .omega
   .omega
  .have:=gd.sz k (.inr d);omega⟩
 have hg1:=gd.chg hc1;have N:∀(A:Nat->Prop) k,k<w.heap.size->¬(A k\/S k)->W1.heap[k]?=w.heap[k]?/\¬(A k\/S0 k):=λA k d hn=>⟨m.block k d,λe=>by
  rcases e with e|e
  .exact hn (.inl e)
  .rw[s]at e;rcases e with h|rfl|rfl
   .exact hn (.inr h)
   .omega
   .omega⟩
 have hH1:HRel (E.add S0) (Bq hi) φ W1:=hH.over (λk d=>d.imp (gd.sub k) id) m.size (N _) (N _);have O:Dz W1 ((E.add S0).up φ) (some φ) caps lb:=⟨F.1,λj x hx=>(F.2 j x hx).over m.size (N _) (N _)⟩;have hI1':I 0 S0 (Own φ) W1:=by rw[s];exact h0 W1 m λb X=>oM
 refine⟨w.heap.size+1,[{target:=.collected w.heap.size,args:=#[]}],W1,{target:=.fn (.func gf) lb,args:=#[.func (.yield (w.heap.size+1)) #[] #[]]},W1,gf,
  #[.func (.yield (w.heap.size+1)) #[] #[]]++lb,W1,?_,?_,?_,?_,λh=>by simp[Fence.wide]at h,?_⟩
 .rw[<- G,f];exact run_enterLoop_outer _ _ _ _ _
 .simp only[resolve,hg];simp[go_sem]
 .intro f' _;trivial
 .simp[invoke,go_sem,eg]
 .have fin:∀(jump:Option Code)(W W3:World),w.heap.size+1<W.heap.size->W.heap[w.heap.size]?=some (.deferred (some []))->KeepsOthers (W.putObj (w.heap.size+1) (.loop {rec .ready none with state:=.busy})) W3 ->
    (Instr.endRound (w.heap.size+1) jump).run P W3=.ok (.bool jump.isNone) (W3.putObj (w.heap.size+1) (.loop (rec (if jump.isNone then .ready else .done) jump))) /\
    W3.heap[w.heap.size+1]?=some (.loop {rec .ready none with state:=.busy}) /\
    (W3.putObj (w.heap.size+1) (.loop (rec (if jump.isNone then .ready else .done) jump))).heap[w.heap.size+1]?=some (.loop (rec (if jump.isNone then .ready else .done) jump)) /\
    (W3.putObj (w.heap.size+1) (.loop (rec (if jump.isNone then .ready else .done) jump))).heap[w.heap.size]?=some (.deferred (some [])):=λjump W W3 hlt d y=>by
   have hl2:(W.putObj (w.heap.size+1) (.loop {rec .ready none with state:=.busy})).heap[w.heap.size+1]?=some (.loop {rec .ready none with state:=.busy}):=World.putObj_heap_same hlt;have hk2:(W.putObj (w.heap.size+1) (.loop {rec .ready none with state:=.busy})).heap[w.heap.size]?=some (.deferred (some [])):=(World.putObj_heap_other oM).trans d;have q:=y.same _ _ hl2 rfl;have:=run_endRound (P:=P) jump q;rw[f]at this |-;exact⟨this,by rw[f]at q;exact q,World.putObj_heap_same (Asb.1 q).1,(World.putObj_heap_other oM).trans (y.same _ _ hk2 rfl)⟩
  refine(hit E S0 φ W1 lb (w.heap.size+1) hg1 hdis0 hH1 hφ O
   (λk S1 T1 W=>I k S1 T1 W/\W.heap[w.heap.size+1]?=some (.loop (rec .ready none))/\W.heap[w.heap.size]?=some (.deferred (some []))/\S1 (w.heap.size+1)/\S1 w.heap.size)
   (λS1 T1 W=>∃c,Ix c S1 T1 W/\W.heap[w.heap.size+1]?=some (.loop (rec .done (some c)))/\W.heap[w.heap.size]?=some (.deferred (some []))/\S1 (w.heap.size+1)/\S1 w.heap.size)
   ⟨hI1',hL1,hK1,by rw[s];exact .inr (.inr rfl),by rw[s];exact .inr (.inl rfl)⟩
   (λk S1 T1 T2 w1 w2 h hd X=>⟨hI1 k S1 T1 T2 w1 w2 h.1 hd X,(X.block _ (Asb.1 h.2.1).1 (hd _ h.2.2.2.1)).trans h.2.1,(X.block _ (Asb.1 h.2.2.1).1 (hd _ h.2.2.2.2)).trans h.2.2.1,h.2.2.2⟩)
   (λS1 T1 T2 w1 w2 h hd X=>by
    obtain⟨c,h1,h2,h3,h4,h5⟩:=h;exact⟨c,hIx1 c S1 T1 T2 w1 w2 h1 hd X,(X.block _ (Asb.1 h2).1 (hd _ h4)).trans h2,(X.block _ (Asb.1 h3).1 (hd _ h5)).trans h3,h4,h5⟩) ?_).mono ?_
  ·
   rintro k S1 T1 W vs hlt ⟨hi,L,d,z,H⟩ hd hgW Y;have hlw:w.heap.size+1<W.heap.size:=(Asb.1 L).1;have hy:=run_yield (P:=P) (args:=vs) L (by rw[f];exact Y.1.trans (hps k));rw[f]at hy;refine⟨fn,_,assign,body,hy,roundIn_of_wpIn hfn (wpIn_mono (M (w.heap.size+1) k S1 T1 W vs hlt hi hd hgW Y) ?_)⟩;rintro e a1 Wa hp;cases e with
   | normal =>
    obtain⟨hba,S2,R,Z,hbody⟩:=hp;have hla:=hba.same _ _ L rfl;have hka:=hba.same _ _ d rfl;have J:w.heap.size+1<Wa.heap.size:=(Asb.1 hla).1;have u:=Z _ _ z L rfl;have hsd2:=Z _ _ H d rfl;have hTz:∀k,T1 k->k<W.heap.size:=λk d=>hgW.sz k (.inr d)
    have hgA:=hgW.chg (R.inU hTz);have B:=JH (S:=S2) (W:=Wa) (.loop {rec .ready none with state:=.busy}) u R.lt;have hTz2:∀k,T1 k->k<Wa.heap.size:=λk d=>hgA.sz k (.inr d)
    have hgP:=hgA.chg (B.inU hTz2);refine⟨_,run_beginRound hla (by rw[f]),?_⟩;refine wpIn_mono (hbody (Wa.putObj (w.heap.size+1) (.loop {rec .ready none with state:=.busy})) _ _ rfl ⟨_,hla⟩ u hgA hgP B) ?_;have hlP:(Wa.putObj (w.heap.size+1) (.loop {rec .ready none with state:=.busy})).heap[w.heap.size+1]?=some (.loop {rec .ready none with state:=.busy}):=World.putObj_heap_same J;have hkP:(Wa.putObj (w.heap.size+1) (.loop {rec .ready none with state:=.busy})).heap[w.heap.size]?=some (.deferred (some [])):=(World.putObj_heap_other oM).trans hka;rintro e a3 W3 hp;cases e with
    | normal =>
     obtain⟨y,S3,C,K,hi3⟩:=hp;obtain⟨hr,q,hl4,hk4⟩:=fin none Wa W3 J hka y;have i:=K _ _ u hlP rfl;have hcq:=JH (S:=S3) (W:=W3) (.loop (rec .ready none)) i C.lt;have hg3:=hgP.chg (C.inU λk d=>hgP.sz k (.inr d));exact⟨_,_,hr,.inl ⟨rfl,S3,⟨hI2 _ _ _ _ _ _ _ hi3 hg3 q rfl i,hl4,hk4,i,K _ _ hsd2 hkP rfl⟩,((R.trans B).trans C).trans hcq⟩⟩
    | ret =>
     obtain⟨y,S3,C,K,hi3⟩:=hp;obtain⟨hr,q,hl4,hk4⟩:=fin (some .ret) Wa W3 J hka y;have i:=K _ _ u hlP rfl;have hcq:=JH (S:=S3) (W:=W3) (.loop (rec .done (some .ret))) i C.lt;exact⟨_,_,hr,.inr ⟨rfl,S3,⟨.ret,hIx _ _ _ _ _ _ _ hi3 q rfl i,hl4,hk4,i,K _ _ hsd2 hkP rfl⟩,((R.trans B).trans C).trans hcq⟩⟩
    | _=>exact hp.elim
   | _=>exact hp.elim
  ·
   rintro e W2 ⟨⟨v,rfl⟩,(⟨S1,T1,⟨hi,L,d,z,H⟩,hd,V⟩ | ⟨S1,T1,c,hi,L,d,z,H⟩)⟩
   .have B:=JH (S:=S1) (W:=W2) (.loop {rec .ready none with state:=.exhausted}) z λk d=>V.sz k (.inl d)
    exact⟨none,_,by have:=run_endLoop (P:=P) L (by rw[f];simp);rw[f]at this;exact this,hdone _ S1 T1 _ (hI2 _ _ _ _ _ _ _ hi V L rfl z) hd (by have:=V.chg (B.inU λk d=>V.sz k (.inr d));rw[f]at this;exact this) ((World.putObj_heap_other oM).trans d) H (Ar6 _)⟩
   .exact⟨some c,_,by have:=run_endLoop (P:=P) L (by rw[f];simp);rw[f]at this;exact this,hstop _ S1 T1 c _ (hIx _ _ _ _ _ _ _ hi L rfl z) ((World.putObj_heap_other oM).trans d) H (Ar6 _)⟩
def rgL (nb:Nat):Ann:={keep:=λ_=>[],base:=nb}
def Rq (nb:Nat)(st:St):List Ob:=(Qd nb [] st).map (ES st (Qd nb [] st))
def rgK (nb:Nat)(l0:List (Nat×VV))(b:List Ob)(K:Exit->St->Prop):Exit->St->Prop
 | .normal,st=>bif okF nb [] st then(leO (Rq nb st) b/\True)else False
 | .ret,st=>bif okF nb [] st then K .ret (An l0 (Rq nb st))else False
 | _,_=>False
def AhK (nb:Nat):VV->Bool
 | .bp id _=>Nat.blt id nb
 | x=>x.mem
def WW (nb:Nat)(l:List (Nat×VV)):Bool:=l.all λp=>AhK nb p.2
section
variable {P : Program} {T:TypeId->TE} {Sh:Shs} {N:Nat} {E:AP} {w:World} {φ:Phi} {a:Act} {st:St}
def RF {nb t:Nat}:∀{l:List (Nat×VV)},WW nb l=true->AhK nb (Bs t l)=true
 | [],_=>rfl
 | (j,x)::l,h=>by
  unfold WW at h;rw[AtA,Ar2]at h;simp only[Bs];cases Nat.beq t j with
  | true=>exact h.1
  | false=>exact RF (l:=l) h.2
def V.stab {E':AP}{w':World}{φ':Phi}{nb:Nat}{x:VV}{v:Value}(h:V w (E.up φ) (some φ) x v)(e:AhK nb x=true)(hs:w.heap.size<=w'.heap.size)
  (g:∀k,k<w.heap.size->¬(E.up φ).fz k->w'.heap[k]?=w.heap[k]?/\¬(E'.up φ').fz k) (c:∀id p,id<nb->φ id=some p->∃p',φ' id=some p'/\PlK p p'):V w' (E'.up φ') (some φ') x v:=by
 have key:x.mem=true->V w' (E'.up φ') (some φ') x v:=λf=>by
  have h1:V w (E.up φ).hold none x v:=h.mem f rfl;have h2:V w' (E'.up φ').hold none x v:=h1.mono hs (λk c d=>g k c d) (λ_ _ d=>(d trivial).elim) trivial;exact h2.mem f rfl
 cases x with
 | bp id off =>
  obtain⟨b,h1,rfl⟩:=h.bp_inv;obtain⟨p',h2,h3⟩:=c id _ (Asl e) h1;simp only[PlK]at h3;subst h3;exact .bp h2
 | _=>exact key e
def LA {H:Nat->Ob}(h:HRel E H φ w){k:Nat}(i:Own φ k){o:Obj}(e:w.heap[k]?=some o):o.isCells=true:=by
 obtain⟨id,d⟩:=i;obtain⟨p,hp,d⟩:=A4.1 d;have:=h.ob id p hp;generalize H id=ob at this;cases ob with
 | box cs =>
  cases p with
  | box b =>
   obtain⟨c,ty,h1,_⟩:=this;simp only[PlB]at d;subst d;rw[e]at h1;cases h1;rfl
  | arr=>exact this.elim
 | arr fr g n sz f =>
  cases p with
  | box b=>exact this.elim
  | arr g' n' hd =>
   obtain⟨cap,rfl⟩:=d;obtain⟨_,_,c,ty,h1,_⟩:=this;rw[e]at h1;cases h1;rfl
 | kar g n sz q r f =>
  cases p with
  | box b=>exact this.elim
  | arr g' n' hd =>
   obtain⟨cap,rfl⟩:=d;obtain⟨_,_,⟨c,ty,h1,_⟩,_⟩:=this;rw[e]at h1;cases h1;rfl
 | gone g =>
  cases p with
  | box b=>exact this.elim
  | arr g' n' hd =>
   obtain⟨cap,rfl⟩:=d;obtain⟨_,h1⟩:=this;cases h1
def Ext.keeps {H:Nat->Ob}{w':World}{φ':Phi}(h:HRel E H φ w)(e:Ext w φ w' φ'):KeepsOthers w w' :=
 ⟨e.size,λk o b c=>(e.block k (Asb.1 b).1 λd=>by rw[LA h d b]at c;cases c).trans b⟩
def Aif {E:AP}{m:Option Phi}:∀(ps:List Nat)(xs:List VV)(vs:List Value)(l:List (Nat×VV)) (A:Array Value),ps.Nodup->(∀p,p∈ps->p<A.size)->xs.length=ps.length->vs.length=ps.length ->
  (∀(j:Nat) x,xs[j]?=some x->V w E m x (vs.getD j undef))->(∀t,V w E m (Bs t l) (A.getD t undef)) ->
  ∀t,V w E m (Bs t (ps.zip xs++l)) (((ps.zip vs).foldl (λt (p:Nat×Value)=>t.setIfInBounds p.1 p.2) A).getD t undef)
 | [],_,_,l,A,_,_,_,_,_,h,t=>by simpa using h t
 | p::ps,x::xs,v::vs,l,A,c,hp,h1,h2,hv,h,t=>by
  rw[At5]at c;have ih:=Aif ps xs vs ((p,x)::l) (A.setIfInBounds p v) c.2 (λq b=>by rw[Array.size_setIfInBounds];exact hp q (Asi _ b)) (by simpa using h1) (by simpa using h2) (λj x i=>by
   have:=hv (j+1) x i;simpa using this) (λt=>by
   simp only[Bs];cases b:Nat.beq t p with
   | true =>
    have:=Ar5 b;subst this;have d:=hp t (Ar8 ..);have h0:=hv 0 x rfl;have e:(A.setIfInBounds t v).getD t undef=v:=by simp[Array.getD,d]
    rw[e];simpa using h0
   | false =>
    have f:p≠t:=λe=>by subst e;simp at b
    rw[show(A.setIfInBounds p v).getD t undef=A.getD t undef by simp[Array.getElem?_setIfInBounds_ne f]];exact h t) t
  have e:Bs t ((p::ps).zip (x::xs)++l)=Bs t (ps.zip xs++(p,x)::l):=by
   have key:∀(L:List (Nat×VV)),(∀q,q∈L->q.1≠p)->Bs t ((p,x)::L++l)=Bs t (L++(p,x)::l):=by
    intro L
    induction L with
    | nil=>intro _;rfl
    | cons q L ih =>
     intro g;have b:=g q (Ar8 ..);have:=ih λq b=>g q (Asi _ b)
     simp only[Atz,Bs]at this |-;cases h1:Nat.beq t q.1 with
     | true =>
      have:=Ar5 h1;have h2:Nat.beq t p=false:=by
       cases h3:Nat.beq t p with
       | true=>exact absurd ((Ar5 h3).symm.trans this).symm b
       | false=>rfl
      rw[h2];rfl
     | false=>rw[Ar1,<- this,Ar1]
   exact key _ λq b e=>c.1 (by rw[<- e];exact(List.of_mem_zip b).1)
  rw[e];exact ih
def PM (N:Nat)(E:AP)(φ:Phi)(a:Act)(w:World)(l0:List (Nat×VV))(K0:List Ob->Prop)(S T:Nat->Prop)(W:World):Prop :=
 ∃hs φk,∃X:Nat->Prop,K0 hs/\(∀b,S b↔Own φk b\/X b)/\(∀b,X b->Own φ b\/w.heap.size<=b)/\(∀b,T b->Own φ b\/w.heap.size<=b) /\
  Rel N (E.add (U X T)) (An l0 hs) φk {a with defers:=[]} W/\Fr 0 w φ W φk
def fr0 {w w':World}{φ φ':Phi}(h1:w'.os=w.os)(h2:w'.tape=w.tape)(h3:w'.output=w.output)(h4:w.heap.size<=w'.heap.size)(h5:∀k,k<w.heap.size->¬Own φ k->w'.heap[k]?=w.heap[k]?)(h6:∀k,Own φ' k->Own φ k\/w.heap.size<=k):Fr 0 w φ w' φ' :=
 ⟨h1,h2,h3,h4,h5,h6,λ_ _ h _=>absurd h (AsQ _)⟩
def Rel.turn {E:AP}{st:St}{φ:Phi}{a:Act}{W:World}{l:Nat}(f:Obj)(h:Rel N E st φ a W)(h1:E.fz l)(h2:E.br l)(h3:l∉ER)(g:E.ds=[]):Rel N E st φ a (W.putObj l f):=by
 have b:∀k,k≠l->(W.putObj l f).heap[k]?=W.heap[k]?:=λk c=>World.putObj_heap_other c
 have:=h.over (E:=E) (w':=W.putObj l f) h.hp.sub sM (λk _ d=>⟨b k λe=>d (by rw[e];exact h1),d⟩) (λk _ d=>⟨b k λe=>d (by rw[e];exact h2),d⟩) (λk c=>by simpa using h.old.lt k c) (by rw[g];exact .nil (by simpa using h.df.2.1)) λk c=>b k λe=>h3 (by rw[<- e];exact c)
 rw[<- h.df.1]at this;exact this
section
variable {N : Nat} {E:AP} {φ:Phi} {a:Act} {w:World} {l0:List (Nat×VV)} {K0:List Ob->Prop} {S T:Nat->Prop} {W:World}
def PM.iter (i:∀k,E.br k->E.fz k)(j:∀k,k∈ER->k<w.heap.size/\¬Own φ k){T':Nat->Prop}{W':World}(h:PM N E φ a w l0 K0 S T W)(c:Chg W T W' T'):PM N E φ a w l0 K0 S T' W':=by
 obtain⟨hs,φk,X,h1,h2,h3,h4,h5,h6⟩:=h;have g:∀b,T' b->Own φ b\/w.heap.size<=b:=λb l=>(c.new b l).elim (h4 b) λh=>.inr (Asz h6.size h)
 have key:∀(A:Nat->Prop) k,k<W.heap.size->¬(A k\/U X T k)->W'.heap[k]?=W.heap[k]?/\¬(A k\/U X T' k):=λA k d f =>
  ⟨c.block k d λe=>f (.inr (.inr e)),λe=>by
   rcases e with e|e|e
   .exact f (.inl e)
   .exact f (.inr (.inl e))
   .rcases c.new k e with e|e
    .exact f (.inr (.inr e))
    .omega⟩
 have:=h5.over (E:=E.add (U X T')) (w':=W') (λk d=>d.imp (i k) λh=>h) c.size (key _) (key _) (λk d=>?_) (.nil ?_) λk d=>?_
 .exact⟨hs,φk,X,h1,h2,h3,g,this,fr0 (c.os.trans h6.os) (c.tape.trans h6.tape) (c.output.trans h6.output) (Asz h6.size c.size) (λk d f=>(c.block k (AsC d h6.size) λe=>(h4 k e).elim f λh=>oM).trans (h6.block k d f)) h6.new⟩
 .rcases d with d|d|d
  .exact AsC (h5.old.lt k (.inl d)) c.size
  .exact AsC (h5.old.lt k (.inr (.inl d))) c.size
  .exact c.lt k d
 .exact Asz h5.df.2.1 c.size
 .obtain⟨l1,l2⟩:=j k d;exact c.block k (AsC l1 h6.size) λe=>(h4 k e).elim l2 λh=>oM
def PM.own (h:PM N E φ a w l0 K0 S T W){l:Nat}(hs:S l):(Own φ l\/w.heap.size<=l):=by
 obtain⟨_,φk,X,_,h2,h3,_,h5,h6⟩:=h;rcases(h2 l).1 hs with h|h
 .exact h6.new l h
 .exact h3 l h
def PM.put (i:∀k,k∈ER->k<w.heap.size/\¬Own φ k){l:Nat}{o:Obj}(c:Obj)(h:PM N E φ a w l0 K0 S T W)(j:W.heap[l]?=some o)(m:o.isCells=false)(hs:S l):PM N E φ a w l0 K0 S T (W.putObj l c):=by
 have d:=h.own hs;obtain⟨hs',φk,X,h1,h2,h3,h4,h5,h6⟩:=h;have f:X l:=((h2 l).1 hs).resolve_left λh=>by have:=LA h5.hp h j;rw[m]at this;cases this
 refine⟨hs',φk,X,h1,h2,h3,h4,h5.turn c (.inr (.inl f)) (.inr (.inl f)) (λb=>?_) rfl,fr0 h6.os h6.tape h6.output (by simpa using h6.size) (λk b g=>(World.putObj_heap_other λe=>?_).trans (h6.block k b g)) h6.new⟩
 .obtain⟨l1,l2⟩:=i l b;exact d.elim l2 λh=>oM
 .subst e;exact d.elim g λh=>oM
end
end
def TF {N:Nat}{E:AP}{st:St}{φ:Phi}{a:Act}{w:World}{l0:List (Nat×VV)}{K0:List Ob->Prop}{S T:Nat->Prop}{W:World}(g:Rel N E st φ a w)(h:PM N E φ a w l0 K0 S T W){D:Nat}(l:W.heap[D]?=some (.deferred (some [])))(s:S D)(t:w.heap.size<=D) :
  ∃E' d φ',E.Le E'/\(∃hs,K0 hs/\d=An l0 hs)/\Rel N E' d φ' {a with defers:={target:=.collected D,args:=#[]}::a.defers} W/\Fr 0 w φ W φ':=by
 obtain⟨hs,φk,X,h1,h2,h3,h4,h5,h6⟩:=h;have m:X D:=((h2 D).1 s).resolve_left λh=>by have:=LA h5.hp h l;cases this
 obtain⟨i,n,Ds,d1,d2,o⟩:=g.df;rw[<- i]at d1;obtain⟨E',b⟩:∃E':AP,E'={E.add (U X T)with lo:=E.lo,ds:={target:=.collected D,args:=#[]}::a.defers}:=⟨_,rfl⟩;have p:=h5.over (E:=E') (w':=W) (λk f=>by subst b;exact h5.hp.sub k f) (Ar6 _) (λk _ j=>⟨rfl,by subst b;exact j⟩) (λk _ j=>⟨rfl,by subst b;exact j⟩) (λk f=>by subst b;exact h5.old.lt k f) ?_ λ_ _=>rfl
 .exact⟨E',_,φk,by subst b;exact⟨λ_ h=>.inl h,λ_ h=>.inl h,rfl⟩,⟨hs,h1,rfl⟩,by have e:E'.ds={target:=.collected D,args:=#[]}::a.defers:=(by rw[b]);rw[e]at p;exact p,h6⟩
 subst b;refine⟨Asz n h6.size,D::Ds,by show _::a.defers=_;rw[d1];rfl,At5.2 ⟨λu=>?_,d2⟩,λD' c=>?_⟩
 .have:=(Asb.1 (o D u).1).1;omega
 .rcases AsN.1 c with rfl|c
  .exact⟨l,.inr (.inl m),.inr (.inl m),λf=>by have:=g.old.lib.lt _ f;omega,Asz n t⟩
  .obtain⟨q,r,v,a4,x⟩:=o D' c;exact⟨(h6.block D' (Asb.1 q).1 λy=>g.hp.free D' y r).trans q,.inl r,.inl v,a4,x⟩
def AeZ {P:Program}{T:TypeId->TE}{N:Nat}{st:St}(hT:TOk P T)(hmx:P.follows .mixedOrders=true){lc:Code}{K:Exit->St->Prop}{p q:List Nat}(Sh:Shs){id tg:Nat}{ps:Array Tmp}{assign body:Code}(hlc:lc=.block id (.rangeFunc (.tmp tg) ps assign body))
  (hB:(Pw N assign&&Ku N body)=true) (hps:ps.toList.Nodup/\∀p,p∈ps.toList->p<N) {gf:Nat} (eg:∀args w,(callFunc gf args).run P w=.ok (.enter gf args) w) {hi:List Ob} {caps:List VV} {n:Nat} {xs:Nat->List VV} (hit:O3 P gf hi caps n xs)
  (hxs:∀k,(xs k).length=ps.size) (ic ii:List Nat) (h1:E8 st.nx ic=true) (h2:E8 st.nx ii=true) (h3:(ic.all λi=>!(ii.any (Nat.beq i)))=true)
  (l0:List (Nat×VV)) (nb:Nat) (s:Nat->List Ob) (_:∀k,(s k).length=nb) (hl0:WW nb l0=true) (ht:∀t,VV.le (I1 st ic (st.t t)) (Bs t l0)) (hh:leO (ic.map (ES st ic)) (s 0))
  (hg:VV.le (I1 st ii (st.t tg)) (.fn (.func gf) caps)) (hhi:leO (ii.map (ES st ii)) hi)
  (round:∀k,k<n->xc P T Sh N (rgL nb) q (.seq assign body) (rgK nb l0 (s (k+1)) K) (An (ps.toList.zip (xs k)++l0) (s k)))
  (done:K .normal (An l0 (s n))):Sat P N 0 p lc K st:=by
 subst hlc;refine⟨λE φ a w g=>(wpIn_wide (n:=0)).1 (wpIn_block ?_)⟩;have hE:=g.hp.sub;have hL:∀k,k∈ER->k<w.heap.size/\¬Own φ k:=λk d=>⟨g.old.lib.lt k d,g.old.lib.out k d⟩
 have hlen0:=(G3 hh).1;have R:=(G3 hhi).1;simp only[AsR]at hlen0 R;have u:∀k,Own (Di ii φ) k->Own φ k:=λk h=>Et.2 (.inr h)
 have Y:∀k,Own (Di ic φ) k->Own φ k:=λk h=>Et.2 (.inr h)
 have m:∀k,Hs ii φ k->Own φ k:=λk h=>Et.2 (.inl h)
 have I:∀k,Own (Di ic φ) k->Hs ii φ k:=λk h=>by
  obtain⟨j,i,M,f⟩:=Gp.1 h;have:=AsD.1 h3 i (AsK M);exact⟨i,VB (by simpa using this),f⟩
 have hdis:∀k,Hs ii φ k->¬Own (Di ii φ) k:=λk ⟨i,hi,f⟩ J=>by
  obtain⟨j,i',M,hb'⟩:=Gp.1 J;have:=g.hp.inj i i' k f hb';subst this;exact RQ hi j M
 have hfn:∃lb,a.eval (.tmp tg)=.func (.func gf) #[] lb/\Dz w ((E.add (Hs ii φ)).up (Di ii φ)) (some (Di ii φ)) caps lb:=by
  have hv:=hg _ _ _ _ (Fd (Gm (E':=E.add (Hs ii φ)) g.hp (λ_ h=>h) λ_ h=>h) 8 _ _ (g.tm tg));have e:a.eval (.tmp tg)=a.tmps.getD tg undef:=rfl;rw[e];generalize a.tmps.getD tg undef=v at hv |-;cases hv with
  | fn M Z=>exact⟨_,rfl,M,Z⟩
 obtain⟨lb,hlb,hcaps⟩:=hfn;have hHI:HRel (E.add (Hs ii φ)) (Bq hi) (Di ii φ) w:=(g.hp.lend (E':=E.add (Hs ii φ)) h2 (λ_ h=>h) (λ_ h=>h) (λk h=>h.imp (hE k) λh=>h) (H':=Bq (ii.map (ES st ii))) (λj id e=>by simp[Bq,e])).le hhi;have hφI:∀j,Di ii φ j≠none↔j<hi.length:=λj=>by rw[<- R];exact Gl h2 g.lv j
 have hgd:Gd E (U (Hs ii φ) (Own (Di ii φ))) w:=⟨hE,g.old.lt,λk d=>g.hp.lt (d.elim (m k) (u k)),g.old.lib.at',g.old.lib.lt,λk d h=>g.old.lib.out k d (h.elim (m k) (u k))⟩;refine Ahh (E:=E) (S:=Hs ii φ) (φ:=Di ii φ) hlb eg hit hxs hgd hdis hHI hφI hcaps (λk=>PM N E φ a w l0 (λhs=>hs=s k))
  (λc S T W=>c=.ret/\PM N E φ a w l0 (λhs=>K .ret (An l0 hs)) S T W) (λk S T T' W W' h _ c=>h.iter hE hL c) (λk S T W l o o' h _ hl J hs=>h.put hL o' hl J hs)
  (λc S T T' W W' ⟨hc,h⟩ _ hch=>⟨hc,h.iter hE hL hch⟩) (λc S T W l o o' ⟨hc,h⟩ hl J hs=>⟨hc,h.put hL o' hl J hs⟩) ?_ ?_ ?_ ?_
 ·
  intro W f O;obtain⟨φ0,hφ0⟩:∃φ0,Di ic φ=φ0:=⟨_,rfl⟩;obtain⟨X,hX⟩:∃X:Nat->Prop,X=λb=>(Hs ii φ b/\¬Own φ0 b)\/b=w.heap.size\/b=w.heap.size+1:=⟨_,rfl⟩
  have Q:Rel N (E.add (Hs ic φ)) (An l0 (s 0)) φ0 {a with defers:=[]} w:=by
   subst hφ0;refine⟨g.sz,⟨rfl,.nil (Ar9 _)⟩,⟨λk d=>d.elim (g.old.lt k) λh=>g.hp.lt (Et.2 (.inl h)),g.old.lib.at',g.old.lib.lt,λk d h=>g.old.lib.out k d (Y k h)⟩,λt=>?_,?_,λid z=>?_,λid z=>?_⟩
   .exact ht t _ _ _ _ (Fd (Gm (E':=E.add (Hs ic φ)) g.hp (λ_ h=>h) λ_ h=>h) 8 _ _ (g.tm t))
   .exact(g.hp.lend (E':=E.add (Hs ic φ)) h1 (λ_ h=>h) (λ_ h=>h) (λk h=>h.imp (hE k) λh=>h) (H':=Bq (ic.map (ES st ic))) (λj id e=>by simp[Bq,e])).le hh
   .have hid':(s 0).length<=id:=z;exact Ase λy=>by have:=(Gl h1 g.lv id).1 y;omega
   .have hid':id<(s 0).length:=z;exact(Gl h1 g.lv id).2 oM
  have key:∀(A:Nat->Prop) k,k<w.heap.size->¬(A k\/Hs ic φ k)->W.heap[k]?=w.heap[k]?/\¬(A k\/U X (Own (Di ii φ)) k):=λA k d y=>⟨f.block k d,λe=>by
   have hno:∀h:Own φ k,¬Own φ0 k->False:=λh h'=>by
    rcases(Et (ids:=ic)).1 h with h''|h''
    .exact y (.inr h'')
    .exact h' (by rw[<- hφ0];exact h'')
   rcases e with e|e|e
   .exact y (.inl e)
   .rw[hX]at e;rcases e with⟨M,Z⟩ | rfl | rfl
    .exact hno (m k M) Z
    .omega
    .omega
   .refine hno (u k e) λh=>hdis k (I k (by rw[hφ0];exact h)) e⟩
  have hR2:=Q.over (E:=E.add (U X (Own (Di ii φ)))) (w':=W) (λk d=>d.imp (hE k) λh=>h) f.size (key _) (key _) (λk d=>?_) (.nil (Ar9 _)) λk d=>f.block k (hL k d).1
  .refine⟨s 0,φ0,X,rfl,λb=>⟨λh=>?_,λh=>?_⟩,λb h=>?_,λb h=>.inl (u b h),hR2,fr0 f.os f.tape f.output f.size (λk d _=>f.block k d) λk h=>.inl (Y k (by rw[hφ0];exact h))⟩
   .rw[hX];rcases h with h|h|h
    .by_cases J:Own φ0 b
     .exact .inl J
     .exact .inr (.inl ⟨h,J⟩)
    .exact .inr (.inr (.inl h))
    .exact .inr (.inr (.inr h))
   .rw[hX]at h;rcases h with h|⟨h,_⟩|h
    .exact .inl (I b (by rw[hφ0];exact h))
    .exact .inl h
    .exact .inr h
   .rw[hX]at h;rcases h with⟨h,_⟩ | h | h
    .exact .inl (m b h)
    .exact .inr oM
    .exact .inr oM
  .rcases d with d|d|d
   .exact AsC (g.old.lt k d) f.size
   .rw[hX]at d;rcases d with⟨h,_⟩ | h | h
    .exact AsC (g.hp.lt (m k h)) f.size
    .exact O k (.inl h)
    .exact O k (.inr h)
   .exact AsC (g.hp.lt (u k d)) f.size
 ·
  rintro l k S1 T1 W vs d ⟨hs,φk,X,rfl,b1,b2,b3,Q,hF⟩ hd hgd1 hsay;rw[Ar2]at hB;have hr0:=round k d;simp only[xc]at hr0;have hup:∀{x:VV}{v:Value},V W (E.add (U S1 T1)) none x v->V W ((E.add (U X T1)).up φk) (some φk) x v:=λh=>h.held.less
   (λk d=>by
    rcases d with(d | d | d) | d
    .exact .inl d
    .exact .inr (.inl ((b1 k).2 (.inr d)))
    .exact .inr (.inr d)
    .exact .inr (.inl ((b1 k).2 (.inl d)))) λk d=>by
    rcases d with(d | d | d) | d
    .exact .inl d
    .exact .inr (.inl ((b1 k).2 (.inr d)))
    .exact .inr (.inr d)
    .exact .inr (.inl ((b1 k).2 (.inl d)))
  have hR1:Rel N (E.add (U X T1)) (An (ps.toList.zip (xs k)++l0) (s k)) φk {tmps:=(ps.zip vs).foldl (λt (p,v)=>t.setIfInBounds p v) a.tmps,defers:=[]} W:=by
   have e:(ps.zip vs).foldl (λ(t:Array Value) (p,v)=>t.setIfInBounds p v) a.tmps=(ps.toList.zip vs.toList).foldl (λt (p:Nat×Value)=>t.setIfInBounds p.1 p.2) a.tmps:=by
    rw[<- Array.foldl_toList,Array.toList_zip]
   refine⟨?_,⟨rfl,Q.df.2⟩,Q.old,λt=>?_,Q.hp,Q.fr,Q.lv⟩
   .show((ps.zip vs).foldl (λ(t:Array Value) (p,v)=>t.setIfInBounds p v) a.tmps).size=N;rw[e];have:∀(L:List (Nat×Value)) (A:Array Value),(L.foldl (λt (p:Nat×Value)=>t.setIfInBounds p.1 p.2) A).size=A.size:=by
     intro L
     induction L with
     | nil=>intro A;rfl
     | cons p L ih=>intro A;rw[List.foldl_cons,ih,Array.size_setIfInBounds]
    rw[this];exact Q.sz
   .show V W _ _ (Bs t _) (((ps.zip vs).foldl (λ(t:Array Value) (p,v)=>t.setIfInBounds p v) a.tmps).getD t undef);rw[e];refine Aif ps.toList (xs k) vs.toList l0 a.tmps hps.1 (λp hp=>by rw[show a.tmps.size=N from Q.sz];exact hps.2 p hp) (by simpa using hxs k) (by rw[Atm,Atm,hsay.1,hxs k]) (λj x hx=>?_) (λt=>Q.tm t) t;have:=hup (hsay.2 j x hx);simpa[AsM]using this
  have G:∀{st:St} {φ':Phi} {a':Act} {W':World},Rel N (E.add (U X T1)) st φ' a' W'->∀{r:Nat}{o:Obj},(Own φ' r\/X r)->W'.heap[r]?=some o->o.isCells=false->X r:=λh r o g J hc=>g.resolve_left λh'=>by
   have:=LA h.hp h' J;rw[hc]at this;cases this
  refine wpIn_mono (VH (ro:=some l) (L:=rgL nb) hT hmx (λ_=>rfl) assign hB.1 _ _ _ hr0 _ _ _ _ hR1) ?_;rintro e a1 W1 ⟨rfl,st1,φ1,g1,g2,C⟩
  .skip
   have g1:xc P T Sh N (rgL nb) (1::q) body (rgK nb l0 (s (k+1)) K) st1:=g1;refine⟨Ext.keeps hR1.hp C,λb=>Own φ1 b\/X b,⟨C.os,C.tape,C.output,C.size,λb f y=>C.block b f λh=>y ((b1 b).2 (.inl h)),λb f=>?_,λb f=>?_⟩,λb o f J hc=>.inr (G hR1 ((b1 b).1 f) J hc),?_⟩
   .rcases f with h|h
    .exact(C.new b h).imp (λh=>(b1 b).2 (.inl h)) λh=>h
    .exact .inl ((b1 b).2 (.inr h))
   .rcases f with h|h
    .exact g2.hp.lt h
    .exact g2.old.lt b (.inr (.inl h))
   rintro W2 r o2 rfl ⟨o1,hr1⟩ hr2 _ _ _;have hXr:X r:=G g2 hr2 hr1 rfl;have hwr:=b2 r hXr;have hrl:r∉ER:=λh=>by
    obtain⟨l1,l2⟩:=hL r h;exact hwr.elim l2 λh=>oM
   have g2':=g2.turn o2 (.inr (.inl hXr)) (.inr (.inl hXr)) hrl rfl;refine wpIn_mono (O9 (ro:=some l) (L:=rgL nb) hT hmx (λ_=>rfl) body hB.2 _ _ _ g1 _ _ _ _ g2') ?_;rintro e a3 W3 ⟨st3,φ3,f1,f2,H⟩;have hend:okF nb [] st3=true->∀(F:List Ob)(K1:List Ob->Prop),leO (Rq nb st3) F->K1 F->KeepsOthers (W1.putObj r o2) W3/\∃S',Chg (W1.putObj r o2) (λb=>Own φ1 b\/X b) W3 S'/\V0 (W1.putObj r o2) (λb=>Own φ1 b\/X b) S'/\PM N E φ a w l0 K1 S' T1 W3:=by
    intro B F K1 hle hK1;obtain⟨φ4,r4,f4⟩:=f2.forget B;have hl1:=(G3 hle).1;have hFt:∀b,b<W.heap.size->¬Own φk b->¬X b->W3.heap[b]?=W.heap[b]?:=λb f y hx=>by
     have h1:¬Own φ1 b:=λh=>(C.new b h).elim y λh=>oM
     have F:b<W1.heap.size:=AsC f C.size;have Z:(W1.putObj r o2).heap[b]?=W1.heap[b]?:=World.putObj_heap_other λe=>hx (by rw[e];exact hXr)
     exact((H.block b (by simpa using F) h1).trans Z).trans (C.block b f y)
    have O:W.heap.size<=W3.heap.size:=Asz C.size (by simpa using H.size);have hnew:∀b,Own φ4 b->Own φk b\/W.heap.size<=b:=λb f=>by
     rcases f4.new b f with h|h
     .rcases H.new b h with h|h
      .exact C.new b h
      .exact .inr (Asz C.size (by simpa using h))
     .exact .inr (Asz O h)
    refine⟨Ext.keeps g2'.hp H,λb=>Own φ4 b\/X b,⟨H.os,H.tape,H.output,H.size,λb f y=>H.block b f λh=>y (.inl h),λb f=>?_,λb f=>?_⟩,λb o f J hc=>.inr (G g2' f J hc),?_⟩
    .rcases f with h|h
     .rcases f4.new b h with h|h
      .exact(H.new b h).imp .inl λh=>h
      .exact .inr (Asz H.size h)
     .exact .inl (.inr h)
    .rcases f with h|h
     .exact r4.hp.lt h
     .exact r4.old.lt b (.inr (.inl h))
    refine⟨F,φ4,X,hK1,λ_=>Iff.rfl,b2,b3,⟨Q.sz,⟨rfl,.nil r4.df.2.1⟩,r4.old,λt=>?_,r4.hp.le hle,λid z=>r4.fr id ?_,λid z=>r4.lv id ?_⟩,?_⟩
    .refine(Q.tm t).stab (nb:=nb) (RF hl0) O (λb f y=>⟨hFt b f (λh=>y (.inr h)) λh=>y (.inl (.inr (.inl h))),λh=>?_⟩) λid p z hp=>?_
     .rcases h with h|h
      .exact y (.inl h)
      .exact(hnew b h).elim (λh=>y (.inr h)) λh=>oM
     .obtain⟨p1,M,k1⟩:=C.up id p hp;obtain⟨p2,Z,k2⟩:=H.up id p1 M;obtain⟨p3,e3,k3⟩:=f4.kind id p2 z Z;exact⟨p3,e3,(k1.kind.trans k2.kind).trans k3⟩
    .have:F.length<=id:=z;show(Rq nb st3).length<=id;omega
    .have:id<F.length:=z;show id<(Rq nb st3).length;omega
    .refine fr0 (H.os.trans (C.os.trans hF.os)) (H.tape.trans (C.tape.trans hF.tape)) (H.output.trans (C.output.trans hF.output)) (Asz hF.size O) (λb f y=>(hFt b (AsC f hF.size) (λh=>(hF.new b h).elim y λh=>oM) λh=>(b2 b h).elim y λh=>oM).trans (hF.block b f y)) λb f=>?_
     rcases hnew b f with h|h
     .exact hF.new b h
     .exact .inr (Asz hF.size h)
   cases e with
   | normal =>
    simp only[rgK]at f1;cases B:okF nb [] st3 with
    | false=>rw[B]at f1;exact f1.elim
    | true=>rw[B,Ar3]at f1;exact hend B _ _ f1.1 rfl
   | ret =>
    simp only[rgK]at f1;cases B:okF nb [] st3 with
    | false=>rw[B]at f1;exact f1.elim
    | true =>
     rw[B,Ar3]at f1;obtain⟨k1,S',k2,k3,k4⟩:=hend B _ (λhs=>K .ret (An l0 hs)) (CL _) f1;exact⟨k1,S',k2,k3,rfl,k4⟩
   | _=>exact f1.elim
 ·
  rintro D S1 T1 W h hd hgd1 hD hS hwD;obtain⟨E',st',φ',M,Z,e3,e4⟩:=TF g h hD hS hwD;exact⟨E',st',φ',M,by obtain⟨hs,rfl,rfl⟩:=Z;exact done,e3,e4⟩
 ·
  rintro D S1 T1 c W ⟨rfl,h⟩ hD hS hwD;obtain⟨E',st',φ',M,Z,e3,e4⟩:=TF g h hD hS hwD;exact wpIn_ret ⟨E',st',φ',M,by obtain⟨hs,h1,rfl⟩:=Z;exact h1,e3,e4⟩
def AiC:Code->Code
 | .block _ (.rangeFunc _ _ assign body)=>.seq assign body
 | _=>.skip
def Ctx.rg (c:Ctx)(rel:List Nat)(nb:Nat)(l0:List (Nat×VV))(b:List Ob):Ctx :=
 {c with L:=rgL nb,code:=AiC (DI rel c.code),p0:=[],K0:=rgK nb l0 b (c.k rel)}
def Ctx.after (c:Ctx)(rel:List Nat):Ctx:={c with code:=.skip,K0:=c.k rel}
def PI {P:Program}{g:FuncId}(h:HY P g)(args:Array Value)(w:World):(callFunc g args).run P w=.ok (.enter g args) w:=by
 obtain⟨fn,b,d,c⟩:=h;simp only[callFunc,Sem.run_bind,Sem.run_pure,Result.andThen_ok,run_program,b,c,d,AtY,if_false]
def Aar {c:Ctx}(m:TOk c.P c.T)(d:c.P.follows .mixedOrders=true){rel:List Nat}{st:St}(id tg:Nat)(ps:List Tmp)(assign body:Code)(l:c.sub rel=.block id (.rangeFunc (.tmp tg) ps.toArray assign body))(o:c.L.base=0)
  (hB:(Pw c.N assign&&Ku c.N body)=true) (e:ps.Nodup/\∀p,p∈ps->p<c.N) {gf:Nat} (eg:HY c.P gf) {hi:List Ob} {caps:List VV} {n:Nat} {xs:Nat->List VV} (f:O3 c.P gf hi caps n xs)
  (g:∀k,(xs k).length=ps.length) (ic ii:List Nat) (h1:E8 st.nx ic=true) (h2:E8 st.nx ii=true) (h3:(ic.all λi=>!(ii.any (Nat.beq i)))=true)
  (l0:List (Nat×VV)) (nb:Nat) (b:Nat->List Ob) (r:∀k,(b k).length=nb) (h:WW nb l0=true) (s:∀t,VV.le (I1 st ic (st.t t)) (Bs t l0)) (u:leO (ic.map (ES st ic)) (b 0))
  (hg:VV.le (I1 st ii (st.t tg)) (.fn (.func gf) caps)) (j:leO (ii.map (ES st ii)) hi)
  (round:∀k,k<n->(c.rg rel nb l0 (b (k+1))).goal (An (ps.zip (xs k)++l0) (b k))) (done:(c.after rel).goal (An l0 (b n))):AA c rel st:=by
 unfold AA;rw[o];refine AeZ (q:=[]) m d c.Sh l hB e (λargs w=>PI eg args w) f (λk=>by simpa using g k) ic ii h1 h2 h3 l0 nb b r h s u hg j (λk v=>?_) done;have x:AiC (DI rel c.code)=.seq assign body:=by
  have:DI rel c.code=.block id (.rangeFunc (.tmp tg) ps.toArray assign body):=l;rw[this];rfl
 have:=round k v;unfold Ctx.goal Ctx.rg at this;simp only[x]at this;exact this
def Dr (ops:Array Oper)(k:Nat):Array Oper:=(ops.toList.take k).toArray
def ArE:Option Nat->Operand
 | some d=>.tmp d
 | none=>.const undef
def Kp (o:Oper):Oper:={o with op:=.move (ArE o.dst),guard:=none}
def C9 (ops:Array Oper)(k:Nat):Array Oper:=((ops.toList.take k).map Kp++ops.toList.drop k).toArray
def Qb (ops:Array Oper):Bool:=ops.toList.all λo=>o.guard.isNone
section
variable {F : Fence} {n:Nat} {P:Program} {Q Q':Exit->Act->World->Prop} {ops:Array Oper}
def ArT {o:Oper}{a:Act}{w:World}{K:Act->World->Prop}(h:o.wpIn F n P a w K Q)(hp:∀ch a w,Q (.panic ch) a w->Q' (.panic ch) a w)(d:LetsOut Q->LetsOut Q'):o.wpIn F n P a w K Q':=by
 refine⟨h.1,?_⟩;have h:=h.2;generalize(o.semAt F.round a.eval).run P w=r at h |-;cases r with
 | ok x w' =>
  cases x with
  | enter f args=>exact⟨h.1,CallsIn.mono h.2 λe c b=>by cases e<;>first | exact b | exact hp _ _ _ b | exact d b⟩
  | round=>exact⟨h.1,RoundIn.mono h.2 λe c b=>by cases e<;>first | exact b | exact hp _ _ _ b | exact d b⟩
  | _=>exact h
 | halt e w' =>
  cases e with
  | panic v=>exact hp _ _ _ h
  | _=>exact h
def ApP {i:Nat}{a:Act}{w:World}{K:Act->World->Prop}(h:wpOpIn F n P ops Q i K a w)(hp:∀ch a w,Q (.panic ch) a w->Q' (.panic ch) a w)(d:LetsOut Q->LetsOut Q'):wpOpIn F n P ops Q' i K a w:=by
 unfold wpOpIn at h |-;cases c:ops[i]? with
 | none=>rw[c]at h;exact h
 | some o =>
  rw[c]at h;simp only at h |-;split
  .rename_i b;rw[AsE b]at h;exact ArT h hp d
  .rename_i b;rw[Asv b]at h;exact h
def AcQ (js:List Nat):∀(is:List Nat)(a:Act)(w:World),wpOpsIn F n P ops (Exit.then (wpOpsIn F n P ops Q js) Q) is a w->wpOpsIn F n P ops Q (is++js) a w
 | [],a,w,h=>h
 | i::is,a,w,h=>by
  rw[wpOpsIn_cons]at h;rw[Atz,wpOpsIn_cons];exact wpOpIn_mono (λa w h=>AcQ js is a w h) (ApP h (λ_ _ _ h=>h) λh=>h)
def AcP {A:Array Oper}(c:Qb A=true):∀(is:List Nat),(∀i,i∈is->i<A.size/\ops[i]?=A[i]?)->∀(a:Act)(w:World),wpOpsIn F n P A Q is a w->wpOpsIn F n P ops Q is a w
 | [],_,a,w,h=>h
 | i::is,hi,a,w,h=>by
  rw[wpOpsIn_cons]at h |-;obtain⟨h1,h2⟩:=hi i (Ar8 ..);have d:A[i]?=some A[i]:=by simp[h1]
  have hg:A[i].guard=none:=by
   have:=AsD.1 c A[i] sM;simpa using this
  have e:∀y,Region.wanted A[i] y=true:=λy=>by unfold Region.wanted;rw[hg]
  unfold wpOpIn at h |-;rw[d]at h;rw[h2,d];simp only[e,if_true]at h |-;exact Oper.wpIn_mono (λa w h=>AcP c is (λi b=>hi i (Asi _ b)) a w h) h
def AiM (a:Act)(d:Nat)(hd:d<a.tmps.size):a.put (some d) (a.tmps.getD d undef)=a:=by
 obtain⟨t,ds⟩:=a;simp only[Act.put]
 congr 1
 have b:d<t.size:=hd;simp[Array.getD,b,Array.setIfInBounds_def]
def UT {k i:Nat}:(C9 ops k)[i]?=if i<k then(ops[i]?).map Kp else ops[i]?:=by
 unfold C9;rw[List.getElem?_toArray]
 by_cases h:i<ops.size
 .by_cases a:i<k
  .rw[Asg (by simp;omega),AsA,As4,AsE a,AsE a,Array.getElem?_toList]
  .rw[Asy (by simp;omega),Asv a,AsP];simp only[AsR,As6,Atm,Array.getElem?_toList]
   congr 1
   omega
 .rw[AsS (by simp;omega),Array.getElem?_eq_none oM];split<;>rfl
def Xu {k N:Nat}(hd:∀(i:Nat) o d,ops[i]?=some o->o.dst=some d->d<N)(l:k<=ops.size):∀(m j:Nat)(a:Act)(w:World),a.tmps.size=N->j+m=k->wpOpsIn F n P (C9 ops k) Q (List.range' j m++List.range' k (ops.size-k)) a w->wpOpsIn F n P (C9 ops k) Q (List.range' k (ops.size-k)) a w
 | 0,j,a,w,_,_,h=>h
 | m+1,j,a,w,hs,hj,h=>by
  rw[List.range'_succ,Atz,wpOpsIn_cons]at h;have b:j<ops.size:=oM
  have f:(C9 ops k)[j]?=some (Kp ops[j]):=by
   rw[UT,AsE oM];simp[b]
  unfold wpOpIn at h;rw[f]at h;have p:∀(o:Oper) y,Region.wanted (Kp o) y=true:=λ_ _=>rfl
  simp only[p,if_true]at h;refine Xu hd l m (j+1) a w hs oM ?_;have h:=h.2;rw[Oper.semAt_eq _ _ _ (by intro c q;cases q)]at h;have key:∀o:Oper,ops[j]?=some o->(Kp o).uponIn F n P a (λa w=>wpOpsIn F n P (C9 ops k) Q (List.range' (j+1) m++List.range' k (ops.size-k)) a w) Q ((execOp a.eval (Kp o)).run P w)->wpOpsIn F n P (C9 ops k) Q (List.range' (j+1) m++List.range' k (ops.size-k)) a w:=by
   intro o f h;have g:=hd j o;obtain⟨dst,op,ty,pos,af,gd⟩:=o;cases dst with
   | none =>
    have e:(execOp a.eval (Kp ⟨none,op,ty,pos,af,gd⟩)).run P w=.ok (.value undef) w:=rfl;rw[e]at h;exact h
   | some d =>
    have e:(execOp a.eval (Kp ⟨some d,op,ty,pos,af,gd⟩)).run P w=.ok (.value (a.tmps.getD d undef)) w:=rfl;rw[e]at h;have h:wpOpsIn F n P (C9 ops k) Q (List.range' (j+1) m++List.range' k (ops.size-k)) (a.put (some d) (a.tmps.getD d undef)) w:=h;rw[AiM a d (by rw[hs];exact g d f rfl)]at h;exact h
  exact key ops[j] (by simp[b]) h
def WN {k:Nat}{t:Array Value}:yielded (C9 ops k) t=yielded ops t:=by
 funext j
 unfold yielded;have:((C9 ops k)[j]?).bind (·.dst)=(ops[j]?).bind (·.dst):=by
  rw[UT];split
  .cases ops[j]?<;>rfl
  .rfl
 rw[this]
def AcO {k:Nat}:∀(js:List Nat),(∀j,j∈js->k<=j)->∀(a:Act)(w:World),wpOpsIn F n P (C9 ops k) Q js a w->wpOpsIn F n P ops Q js a w
 | [],_,a,w,h=>h
 | j::js,c,a,w,h=>by
  rw[wpOpsIn_cons]at h |-;have e:(C9 ops k)[j]?=ops[j]?:=by rw[UT,Asv (Nat.not_lt.2 (c j (Ar8 ..)))]
  unfold wpOpIn at h |-;rw[e,WN]at h;have ih:=λ(a:Act)(w:World) h=>AcO js (λj h=>c j (Asi _ h)) a w h
  cases d:ops[j]? with
  | none=>rw[d]at h;exact ih _ _ h
  | some o =>
   rw[d]at h;simp only at h |-;split
   .rename_i b;rw[AsE b]at h;exact Oper.wpIn_mono ih h
   .rename_i b;rw[Asv b]at h;exact⟨h.1,ih _ _ h.2⟩
end
def Ag7 {P:Program}{Q:Exit->Act->World->Prop}{oc:Oper}{tf d:Nat}{j x2:Operand}{tys:Array TypeId}(f:oc.op=.call {callee:=.value (.tmp tf),args:=#[j,x2],argTypes:=tys})(hd:oc.dst=some d){a:Act}{w:World}{l:Nat}(m:a.tmps.getD tf undef=.func (.yield l) #[] #[])
  {K:Act->World->Prop} {R:Ending->World->Prop} (o:YieldAt Fence.wide 0 P l #[a.eval j,a.eval x2] w R) (p:∀e w',R e w'->∃b,e=.returned b/\K (a.put (some d) b) w'):oc.wpIn Fence.wide 0 P a w K Q:=by
 obtain⟨fn,tmps,assign,body,q,r⟩:=o;have i:a.eval (.tmp tf)=.func (.yield l) #[] #[]:=m;have g:(execOp a.eval oc).run P w=.ok (.round l fn tmps assign body) w:=by
  unfold execOp;rw[f];simp only[resolve,i,Deferred.ofValue,Sem.run_bind,Sem.run_pure,Result.andThen_ok,invoke,Array.empty_append,AtH,AsT,Ath];simpa using q
 refine⟨λ_ _=>trivial,?_⟩;rw[Oper.semAt_eq _ _ _ (by intro c k;rw[f]at k;cases k),g,Oper.uponIn_round];refine⟨λh=>by simp[Fence.wide]at h,r.mono λe w' s=>?_⟩;obtain⟨b,rfl,t⟩:=p e w' s;rw[hd];exact t
def AjK {P:Program}{T:TypeId->TE}{Sh:Shs}{N:Nat}{ops:Array Oper}{st0:St}{E:AP}{w0:World}{φ0:Phi}{a:Act}(m:TOk P T)(hB:(Nt ops N&&KU ops)=true){Q:Exit->Act->World->Prop}(p:¬LetsOut Q)
  {K:St->Prop} (h:JU P T Sh false ops 0 ops.toList st0 [] [] λb=>K (clr ops b)) (hrel:Rel N E st0 φ0 a w0) (c:∀st φ f w',K st->Rel N E st φ f w'->Ext w0 φ0 w' φ->Q .normal f w'):wpOpsIn Fence.wide 0 P ops Q (List.range' 0 ops.size) a w0:=by
 rw[Ar2]at hB;obtain⟨O,q,r⟩:=EL ops.toList 0 st0 [] [] h;have g:=Ns hB.1;obtain⟨d,s⟩:=II (T:=T) (O:=O) (st0:=st0) ops.toList 0 sM (Ar9 _) r;have k:∀(j:Nat) o,ops[j]?=some o->Im false T O ops st0 j o:=λj o=>d j o (Ar9 _)
 refine Vp (ro:=none) (VS hB.2) p _ _ _ (Rs m q g k (λD φ a w t l=>c _ φ a w s (l.finish g k t) l.ext) ops.size 0 φ0 a w0 oM ?_);have e:(λi=>decide (i<0))=λ_=>false:=by funext i;simp
 rw[e];exact RI.start hrel
def UC {P:Program}{T:TypeId->TE}{Sh:Shs}{N:Nat}(U:TOk P T){id k tf d:Nat}{ops:Array Oper}{oc:Oper}{V x2:Operand}{tys:Array TypeId}{Q:Exit->Act->World->Prop}(W:¬LetsOut Q)
  (c:(Nt (Dr ops k) N&&KU (Dr ops k))=true) (v:Qb (Dr ops k)=true) (g:(Nt (C9 ops (k+1)) N&&KU (C9 ops (k+1)))=true) (p:∀(i:Nat) o d,ops[i]?=some o->o.dst=some d->d<N)
  (q:ops[k]?=some oc) (x:oc.op=.call {callee:=.value (.tmp tf),args:=#[V,x2],argTypes:=tys}) (y:oc.guard=none) (hd:oc.dst=some d) {st:St} {E:AP} {φ:Phi} {a:Act} {w:World} {Y:St->Prop}
  (hx:JU P T Sh false (Dr ops k) 0 (Dr ops k).toList st [] [] λst1=>Y (clr (Dr ops k) st1)) (hr:Rel N E st φ a w)
  (hY:∀st1 φ1 f r,Y st1->Rel N E st1 φ1 f r->Ext w φ r φ1->∃l R,f.tmps.getD tf undef=.func (.yield l) #[] #[]/\YieldAt Fence.wide 0 P l #[f.eval V,f.eval x2] r R/\∀e t,R e t->∃b E2 st2 φ2,∃K3:St->Prop,e=.returned b/\Rel N E2 st2 φ2 (f.put (some d) b) t /\
   (JU P T Sh false (C9 ops (k+1)) 0 (C9 ops (k+1)).toList st2 [] [] λst3=>K3 (clr (C9 ops (k+1)) st3))/\∀st3 φ3 X z,K3 st3->Rel N E2 st3 φ3 X z->Ext t φ2 z φ3->Q .normal X z) :
  (Code.region id ops false).wpIn Fence.wide 0 P Q a w:=by
 have A:k<ops.size:=(Asb.1 q).1;have B:(Dr ops k).size=k:=by simp[Dr];omega
 have C:(C9 ops (k+1)).size=ops.size:=by simp[C9];omega
 refine wpIn_region ?_;have e1:List.range ops.size=List.range' 0 k++(k::List.range' (k+1) (ops.size-(k+1))):=by
  rw[<- List.range'_succ,List.range_eq_range',show ops.size-(k+1)+1=ops.size-k by omega];have:=List.range'_append_1 (s:=0) (m:=k) (n:=ops.size-k);rw[AsI]at this;rw[this]
  congr 1
  omega
 rw[e1];refine AcQ _ _ _ _ (AcP v _ (λi hi=>?_) _ _ ?_)
 .have G:i<k:=by simpa using hi
  refine⟨oM,?_⟩;unfold Dr;simp[G]
 have h1:wpOpsIn Fence.wide 0 P (Dr ops k) (Exit.then (wpOpsIn Fence.wide 0 P ops Q (k::List.range' (k+1) (ops.size-(k+1)))) Q) (List.range' 0 (Dr ops k).size) a w:=by
  obtain⟨O,hO,H⟩:=EL (Dr ops k).toList 0 st [] [] hx;rw[Ar2]at c;have Z:=Ns c.1;obtain⟨I,hK⟩:=II (T:=T) (O:=O) (st0:=st) (Dr ops k).toList 0 sM (Ar9 _) H;have hG:∀(j:Nat) o,(Dr ops k)[j]?=some o->Im false T O (Dr ops k) st j o:=λj o=>I j o (Ar9 _)
  have J:¬LetsOut (Exit.then (wpOpsIn Fence.wide 0 P ops Q (k::List.range' (k+1) (ops.size-(k+1)))) Q):=λh=>W h
  refine Vp (ro:=none) (VS c.2) J _ _ _ (Rs (E:=E) (w0:=w) (φ0:=φ) U hO Z hG (λD φ1 f r hD hI=>?_) (Dr ops k).size 0 φ a w oM ?_)
  .show wpOpsIn Fence.wide 0 P ops Q (k::List.range' (k+1) (ops.size-(k+1))) f r;have hrel:=hI.finish Z hG hD;obtain⟨l,R,hf,K,L⟩:=hY _ _ _ _ hK hrel hI.ext;rw[wpOpsIn_cons];unfold wpOpIn;rw[q];have hw:Region.wanted oc (yielded ops f.tmps)=true:=by unfold Region.wanted;rw[y]
   simp only[hw,if_true];refine Ag7 x hd hf K λe t he=>?_
   obtain⟨b,E2,st2,φ2,K3,rfl,u,M,S⟩:=L e t he;refine⟨b,rfl,AcO (k:=k+1) _ (λj hj=>by simp at hj;omega) _ _ ?_⟩;refine Xu (k:=k+1) (N:=N) p A (k+1) 0 _ _ u.sz oM ?_;have:=AjK U g W M u S;rw[C]at this;have e2:List.range' 0 ops.size=List.range' 0 (k+1)++List.range' (k+1) (ops.size-(k+1)):=by
    have:=List.range'_append_1 (s:=0) (m:=k+1) (n:=ops.size-(k+1));rw[AsI]at this;rw[this]
    congr 1
    omega
   rw[<- e2];exact this
  .have e:(λi=>decide (i<0))=λ_=>false:=by funext i;simp
   rw[e];exact RI.start hr
 rw[B]at h1;exact h1
def VV.memA:VV->Bool
 | .agg cs=>cs.all VV.mem
 | x=>x.mem
abbrev JT:=Option Nat->(Nat->Prop)->(Nat->Prop)->World->Prop
structure L1 (N:Nat) (E:AP) (J:JT) (k:Option Nat) (S:Nat->Prop) (st:St) (φ:Phi) (a:Act) (w:World):Prop where
 rel:Rel N (E.add S) st φ a w
 j:J k S (Own φ) w
 ls:∀b,b∈ER->¬S b
 sub:∀b,E.br b->E.fz b
def Ads (N:Nat)(E:AP)(J:JT)(K:Exit->Option Nat->St->Prop):Exit->Act->World->Prop:=λe a w=>∃k st S φ,K e k st/\L1 N E J k S st φ a w
structure Er (P:Program) (N:Nat) (E:AP) (J:JT) (c:Code) (K:Exit->Option Nat->St->Prop) (k:Option Nat) (st:St):Prop where
 h:∀S φ a w,L1 N E J k S st φ a w->c.wpIn Fence.wide 0 P (Ads N E J K) a w
def Ip (J:JT):Prop:=∀k S T T' c d,J k S T c->(∀b,S b->¬T b)->Chg c T d T'->J k S T' d
def AeT (K:Exit->Option Nat->St->Prop)(next:Option Nat->St->Prop):Exit->Option Nat->St->Prop
 | .normal,k,st=>next k st
 | e,k,st=>K e k st
def Alb (id:Nat)(K:Exit->Option Nat->St->Prop):Exit->Option Nat->St->Prop
 | .exit j,k,st=>if j=id then K .normal k st else K (.exit j) k st
 | e,k,st=>K e k st
section
variable {P : Program} {T:TypeId->TE} {Sh:Shs} {N:Nat} {L:Ann} {E:AP} {J:JT} {K:Exit->Option Nat->St->Prop} {k:Option Nat} {st:St} {S:Nat->Prop} {φ:Phi} {a:Act} {w:World}
def V.memA {E':AP}{m m':Option Phi}{x:VV}{v:Value}(h:V w E m x v)(c:x.memA=true)(e:∀b,E'.fz b->E.fz b):V w E' m' x v:=by
 have key:∀{x:VV}{v:Value},V w E m x v->x.mem=true->V w E' m' x v:=λh c=>(V.mem (E':={E with br:=E'.br}) (m':=m') h c rfl).less e λ_ h=>h
 cases x with
 | agg cs =>
  obtain⟨vs,rfl,h1,h2⟩:=h.agg_inv;refine .agg h1 λj y d=>key (h2 j y d) ?_
  exact AsD.1 c y (AsK d)
 | _=>exact key h c
def L1.apart (h:L1 N E J k S st φ a w):∀b,S b->¬Own φ b:=λb hs c=>h.rel.hp.free b c (.inr hs)
def AnO {w':World}{φ':Phi}(e:Ext w φ w' φ')(c:∀b,Own φ' b->b<w'.heap.size):Chg w (Own φ) w' (Own φ'):=⟨e.os,e.tape,e.output,e.size,e.block,e.new,c⟩
def Aqg {φ':Phi}(e:Fr 0 w φ w φ')(c:∀b,Own φ' b->b<w.heap.size):Chg w (Own φ) w (Own φ'):=⟨rfl,rfl,rfl,Ar6 _,λ_ _ _=>rfl,e.new,c⟩
def L1.ext (d:Ip J)(h:L1 N E J k S st φ a w){b:St}{φ':Phi}{c:Act}{w':World}(r:Rel N (E.add S) b φ' c w')(e:Ext w φ w' φ'):L1 N E J k S b φ' c w' :=
 ⟨r,d _ _ _ _ _ _ h.j h.apart (AnO e λ_ f=>r.hp.lt f),h.ls,h.sub⟩
def L1.forget (b:Ip J)(h:L1 N E J k S st φ a w){keep:List Nat}(c:okF 0 keep st=true):∃φ',L1 N E J k S (forget 0 keep st) φ' a w :=
 let ⟨φ',r,f⟩:=h.rel.forget c
 ⟨φ',r,b _ _ _ _ _ _ h.j h.apart (Aqg f λ_ d=>r.hp.lt d),h.ls,h.sub⟩
def L1.cv (c:Ip J)(h:L1 N E J k S st φ a w){b:St}(d:Cv st b):∃φ',L1 N E J k S b φ' a w :=
 let ⟨φ',r,e⟩:=d _ _ _ _ _ h.rel
 ⟨φ',h.ext c r e⟩
def Acz (g:Ip J)(i:TOk P T)(d:P.follows .mixedOrders=true){c:Code}(hB:Ku N c=true)(keep:List Nat){p:List Nat}(h:xc P T Sh N (rgL 0) p c (λe b=>bif okF 0 keep b then K e k (Go.Proofs.YtddhibmbpmcnpaaGreatDoor.forget 0 keep b)else False) st):Er P N E J c K k st :=
 ⟨λS φ a w hi=>by
  refine wpIn_mono (O9 (ro:=none) (L:=rgL 0) i d (λ_=>rfl) c hB _ _ _ h _ _ _ _ hi.rel) ?_;rintro e j w' ⟨b,φ',h1,h2,h3⟩;have h4:=hi.ext g h2 h3;cases f:okF 0 keep b with
  | false=>rw[f]at h1;exact h1.elim
  | true =>
   rw[f]at h1;obtain⟨φ'',h5⟩:=h4.forget g f;exact⟨k,_,S,φ'',h1,h5⟩⟩
def Np {x y:Code}(h:Er P N E J x (AeT K λk st=>Er P N E J y K k st) k st):Er P N E J (.seq x y) K k st :=
 ⟨λS φ a w hi=>by
  refine wpIn_seq (wpIn_mono (h.h S φ a w hi) ?_);rintro e c w' ⟨k',b,S',φ',h1,h2⟩;cases e with
  | normal=>exact h1.h _ _ _ _ h2
  | _=>exact⟨k',b,S',φ',h1,h2⟩⟩
def Jr {id:Nat}{c:Code}(h:Er P N E J c (Alb id K) k st):Er P N E J (.block id c) K k st :=
 ⟨λS φ a w hi=>by
  refine wpIn_block (wpIn_mono (h.h S φ a w hi) ?_);rintro e f w' ⟨k',b,S',φ',h1,h2⟩;cases e with
  | exit j =>
   simp only[Exit.inBlock];simp only[Alb]at h1
   by_cases d:j=id
   .rw[AsE d]at h1 |-;exact⟨k',b,S',φ',h1,h2⟩
   .rw[Asv d]at h1 |-;exact⟨k',b,S',φ',h1,h2⟩
  | _=>exact⟨k',b,S',φ',h1,h2⟩⟩
def AeX {t:Nat}{x y:Code}{b:Bool}(c:st.t t=.sc (.bool b))(h1:b=true->Er P N E J x K k st)(h2:b=false->Er P N E J y K k st):Er P N E J (.cond (.tmp t) x y) K k st :=
 ⟨λS φ a w hi=>by
  have hv:=hi.rel.tm t;rw[c]at hv;refine wpIn_cond (t:=b) hv.sc_inv ?_;cases b with
  | true=>exact(h1 rfl).h _ _ _ _ hi
  | false=>exact(h2 rfl).h _ _ _ _ hi⟩
def AeW (h:K .normal k st):Er P N E J .skip K k st:=⟨λS φ _ _ hi=>wpIn_skip ⟨k,st,S,φ,h,hi⟩⟩
def Aij (h:K .ret k st):Er P N E J .ret K k st:=⟨λS φ _ _ hi=>wpIn_ret ⟨k,st,S,φ,h,hi⟩⟩
def Er.cv (e:Ip J){c:Code}{b:St}(f:Cv st b)(h:Er P N E J c K k b):Er P N E J c K k st :=
 ⟨λS _ a w hi=>let ⟨φ',d⟩:=hi.cv e f;h.h S φ' a w d⟩
def Wj {c:Code}{Q:Exit->Act->World->Prop}(I:Nat->Act->World->Prop)(h0:∃g,I g a w)
  (round:∀g a w,I g a w->c.wpIn Fence.wide 0 P (Exit.then (λd w'=>∃b,b<g/\I b d w') Q) a w):(Code.loop c).wpIn Fence.wide 0 P Q a w :=
 wpIn_wide.2 (Iq I h0 λg a w h=>wpIn_wide.1 (round g a w h))
def Tt (m:Ip J){c:Code}(I:Nat->Option Nat->St->Prop)(h0:∃g,Up (I g k) st)
  (round:∀g k st,I g k st->Er P N E J c (AeT K λk' b=>∃d,d<g/\Up (I d k') b) k st):Er P N E J (.loop c) K k st :=
 ⟨λS φ a w hi=>by
  obtain⟨n,st0,f,i⟩:=h0;obtain⟨φ0,j⟩:=hi.cv m f;refine Wj (λg a w=>∃k st S φ,I g k st/\L1 N E J k S st φ a w) ⟨n,k,st0,S,φ0,i,j⟩ ?_;rintro g a w ⟨k,st,S,φ,h1,h2⟩;refine wpIn_mono ((round g k st h1).h S φ a w h2) ?_;rintro e p w' ⟨k',b,S',φ',h3,h4⟩;cases e with
  | normal =>
   obtain⟨d,l,st1,o,h5⟩:=h3;obtain⟨φ1,h6⟩:=h4.cv m o;exact⟨d,l,k',st1,S',φ1,h5,h6⟩
  | _=>exact⟨k',b,S',φ',h3,h4⟩⟩
def Ark (K:Act->World->Prop):Exit->Act->World->Prop:=λe a w=>e=.normal/\K a w
def AjP {K:Act->World->Prop}:¬LetsOut (Ark K):=λ⟨_,_,h,_⟩=>by cases h
def AfV {t d:Nat}{x:VV}{l:List (Nat×VV)}:Bs t ((d,x)::l)=bif Nat.beq t d then x else Bs t l:=rfl
def Aao (hJ:Ip J)(hT:TOk P T){id kk tf d i n:Nat}{ops:Array Oper}{oc:Oper}{M x2:Operand}{tys:Array TypeId}{l:Nat}{xs:Nat->List VV}
  (hY:∀k S T B vs,k<n->J (some k) S T B->(∀b,S b->¬T b)->Gd E (U S T) B->Dz B (E.add (U S T)) none (xs k) vs->YieldAt Fence.wide 0 P l vs B λe z =>
   (e=.returned (.bool true)/\∃S',J (some (k+1)) S' T z/\Chg B S z S')\/(e=.returned (.bool false)/\∃S',J none S' T z/\Chg B S z S'))
  (R:(Nt (Dr ops kk) N&&KU (Dr ops kk))=true) (hng:Qb (Dr ops kk)=true) (W:(Nt (C9 ops (kk+1)) N&&KU (C9 ops (kk+1)))=true) (I:∀(i:Nat) o d,ops[i]?=some o->o.dst=some d->d<N)
  (X:ops[kk]?=some oc) (hop:oc.op=.call {callee:=.value (.tmp tf),args:=#[M,x2],argTypes:=tys}) (hgd:oc.guard=none) (hd:oc.dst=some d) (hi:i<n) (keep keep2:List Nat)
  (h:xc P T Sh N (rgL 0) [] (.region id (Dr ops kk) false) (λ_ st1=>bif okF 0 keep st1 then(∃l1 m,Go.Proofs.YtddhibmbpmcnpaaGreatDoor.forget 0 keep st1=An l1 m/\Bs tf l1=.fn (.yield l) []/\xs i=[(An l1 m).val M,(An l1 m).val x2]/\(xs i).all VV.memA=true /\
   ∀b,xc P T Sh N (rgL 0) [] (.region id (C9 ops (kk+1)) false) (λ_ st3=>bif okF 0 keep2 st3 then K .normal (bif b then some (i+1)else none) (Go.Proofs.YtddhibmbpmcnpaaGreatDoor.forget 0 keep2 st3)else False) (An ((d,.sc (.bool b))::l1) m))else False) st) :
  Er P N E J (.region id ops false) K (some i) st :=
 ⟨λS φ a w s=>by
  have Z:∀{st3:St}{S':Nat->Prop} {φ2 φ3:Phi} {a2 a3:Act} {z w3:World} {st2:St} {k':Option Nat},L1 N E J k' S' st2 φ2 a2 z->(bif okF 0 keep2 st3 then K .normal k' (Go.Proofs.YtddhibmbpmcnpaaGreatDoor.forget 0 keep2 st3)else False)->Rel N (E.add S') st3 φ3 a3 w3->Ext z φ2 w3 φ3->Ads N E J K .normal a3 w3:=by
   intro st3 S' φ2 φ3 a2 a3 z w3 st2 k' h0 h1 r e;have h2:=h0.ext hJ r e;cases O:okF 0 keep2 st3 with
   | false=>rw[O]at h1;exact h1.elim
   | true =>
    rw[O]at h1;obtain⟨φ',h5⟩:=h2.forget hJ O;exact⟨k',_,S',φ',h1,h5⟩
  refine wpIn_mono (UC (Q:=Ark (Ads N E J K .normal)) (Y:=λst1=>bif okF 0 keep st1 then(∃l1 m,Go.Proofs.YtddhibmbpmcnpaaGreatDoor.forget 0 keep st1=An l1 m/\Bs tf l1=.fn (.yield l) []/\xs i=[(An l1 m).val M,(An l1 m).val x2]/\(xs i).all VV.memA=true /\
   ∀b,xc P T Sh N (rgL 0) [] (.region id (C9 ops (kk+1)) false) (λ_ st3=>bif okF 0 keep2 st3 then K .normal (bif b then some (i+1)else none) (Go.Proofs.YtddhibmbpmcnpaaGreatDoor.forget 0 keep2 st3)else False) (An ((d,.sc (.bool b))::l1) m))else False) hT AjP R hng W I X hop hgd hd h s.rel ?_) ?_
  .intro st1 φ1 F B hy1 hr1 he1;have h1:=s.ext hJ hr1 he1;cases O:okF 0 keep st1 with
   | false=>grind
   | true =>
    rw[O,Ar3]at hy1;obtain⟨l1,m,e1,e2,e3,e4,hx2⟩:=hy1;obtain⟨φf,G⟩:=h1.forget hJ O;rw[e1]at G;have p:=G.rel;have hop':∀x:Operand,V B ((E.add S).up φf) (some φf) ((An l1 m).val x) (F.eval x):=λx=>by
     cases x with
     | tmp t=>exact p.tm t
     | const v=>exact V.litC v
     | global g=>exact .dead
     | func f=>exact .fn rfl λj x hx=>by simp at hx
    have hm:∀x:Operand,((An l1 m).val x).memA=true->V B (E.add (U S (Own φf))) none ((An l1 m).val x) (F.eval x):=λx hx=>V.memA (hop' x) hx λb q=>by
     rcases q with q|q|q
     .exact .inl (.inl q)
     .exact .inl (.inr q)
     .exact .inr q
    rw[e3]at e4;simp only[AtA,List.all_nil,Bool.and_true,Ar2]at e4;have hfy:F.tmps.getD tf undef=.func (.yield l) #[] #[]:=by
     have hv:=p.tm tf;rw[show(An l1 m).t tf=.fn (.yield l) []from e2]at hv;generalize F.tmps.getD tf undef=v at hv |-;cases hv with
     | fn q1 q2 =>
      grind
    have hgd1:Gd E (U S (Own φf)) B:=⟨s.sub,λb q=>p.old.lt b (.inl q),λb q=>q.elim (λh=>p.old.lt b (.inr h)) λh=>p.hp.lt h,p.old.lib.at',p.old.lib.lt,λb q h=>h.elim (s.ls b q) (p.old.lib.out b q)⟩;have hsay:Dz B (E.add (U S (Own φf))) none (xs i) #[F.eval M,F.eval x2]:=by
     rw[e3];refine⟨rfl,λj y H=>?_⟩
     match j,H with
     | 0,H=>simp only[Asq,Ar4]at H;subst H;exact hm M e4.1
     | 1,H=>simp only[AsY,Asq,Ar4]at H;subst H;exact hm x2 e4.2
     | j+2,H=>simp at H
    refine⟨l,_,hfy,hY i S (Own φf) B #[F.eval M,F.eval x2] hi G.j G.apart hgd1 hsay,λe z he=>?_⟩
    .obtain⟨b,S',rfl,hj2,u⟩:∃b S',e=.returned (.bool b)/\J (bif b then some (i+1)else none) S' (Own φf) z/\Chg B S z S':=gD
     have key:∀(A:Nat->Prop) b,b<B.heap.size->¬(A b\/S b)->z.heap[b]?=B.heap[b]?/\¬(A b\/S' b):=λA b q hn=>⟨u.block b q λh=>hn (.inr h),λh=>by
      rcases h with h|h
      .exact hn (.inl h)
      .rcases u.new b h with h|h
       .exact hn (.inr h)
       .omega⟩
     have C:=p.over (E:=E.add S') (w':=z) (λb q=>q.imp (s.sub b) λh=>h) u.size (key _) (key _) (λb q=>q.elim (λh=>AsC (p.old.lt b (.inl h)) u.size) λh=>u.lt b h) (.nil (Asz p.df.2.1 u.size)) λb q=>u.block b (p.old.lib.lt b q) (s.ls b q)
     have hdl:d<F.tmps.size:=by rw[p.sz];exact I kk oc d X hd
     have hr3:Rel N (E.add S') (An ((d,.sc (.bool b))::l1) m) φf (F.put (some d) (.bool b)) z:=by
      refine⟨by simpa[Act.put]using p.sz,⟨p.df.1,C.df.2⟩,C.old,λt=>?_,C.hp,C.fr,C.lv⟩;show V z _ _ (Bs t ((d,.sc (.bool b))::l1)) _;rw[Nu F _ _ t gD,AfV]
      by_cases ht:t=d
      .subst ht;rw[AsV,Ar3,AsE rfl];exact .sc
      .have q:Nat.beq t d=false:=by grind[Ar5]
       rw[q,Ar1,Asv λh=>ht (Aso h).symm];exact C.tm t
     have h3:L1 N E J (bif b then some (i+1)else none) S' (An ((d,.sc (.bool b))::l1) m) φf (F.put (some d) (.bool b)) z:=⟨hr3,hj2,λc hc h=>(u.new c h).elim (s.ls c hc) λh=>by have:=p.old.lib.lt c hc;omega,s.sub⟩;exact⟨.bool b,E.add S',_,φf,λst3=>bif okF 0 keep2 st3 then K .normal (bif b then some (i+1)else none) (Go.Proofs.YtddhibmbpmcnpaaGreatDoor.forget 0 keep2 st3)else False,rfl,hr3,hx2 b,λst3 φ3 a3 w3 hst3 r e=>⟨rfl,Z h3 hst3 r e⟩⟩
  .rintro e a' w' ⟨rfl,h⟩;exact h⟩
def Ani {gf:FuncId}{fn:Func}{c:Code}(H:P.funcs[gf]?=some fn)(g:fn.body=some c)(r:fn.results=#[]){hi:List Ob}{caps:List VV}{n:Nat}{xs:Nat->List VV}(Z:caps.length+1<=fn.ntmps)
  (h:∀(l:Nat)(E:AP)(J:JT),Ip J->(∀k S T i vs,k<n->J (some k) S T i->(∀b,S b->¬T b)->Gd E (U S T) i->Dz i (E.add (U S T)) none (xs k) vs->YieldAt Fence.wide 0 P l vs i λe p =>
    (e=.returned (.bool true)/\∃S',J (some (k+1)) S' T p/\Chg i S p S')\/(e=.returned (.bool false)/\∃S',J none S' T p/\Chg i S p S')) ->
   Er P fn.ntmps E J c (λe k _=>(e=.normal\/e=.ret)/\(k=some n\/k=none)) (some 0) (St.init hi (.fn (.yield l) []::caps))):O3 P gf hi caps n xs:=by
 intro E S φ w lb l gd B I hφ f J R h0 z s M;obtain⟨JJ,m⟩:∃JJ:JT,JJ=λk=>match k with
  | some k=>J k
  | none=>R:=⟨_,rfl⟩
 have hs:Ip JJ:=by
  subst m;intro k S T T' i p;cases k with
  | none=>exact s S T T' i p
  | some k=>exact z k S T T' i p
 refine callsIn_of_wp H g trivial (wpIn_mono ((h l E JJ hs (by subst m;exact M)).h S φ _ w ⟨?_,by subst m;exact h0,λb g O=>gd.out b g (.inl O),gd.sub⟩) ?_) rfl
 .have Q:(#[Value.func (Fn.yield l) #[] #[]]++lb).size=(VV.fn (.yield l) []::caps).length:=by simp[f.1];omega
  refine⟨?_,⟨rfl,.nil (Ar9 _)⟩,⟨λk u=>u.elim (gd.ez k) λh=>gd.sz k (.inl h),gd.lib,gd.lt,λk u h=>gd.out k u (.inr h)⟩,λt=>?_,I,λid q=>?_,λid q=>(hφ id).2 q⟩
  .grind
  .show V w _ _ ((VV.fn (.yield l) []::caps).getD t .dead) _;cases t with
   | zero =>
    have e:(#[Value.func (Fn.yield l) #[] #[]]++lb++Array.replicate (fn.ntmps-(#[Value.func (Fn.yield l) #[] #[]]++lb).size) undef).getD 0 undef=.func (.yield l) #[] #[]:=by simp[Array.getElem?_append]
    rw[e];exact .fn rfl λj x W=>by simp at W
   | succ t =>
    rw[List.getD_cons_succ];cases A:caps[t]? with
    | none=>rw[Asj,A];exact .dead
    | some x =>
     have ht:t<lb.size:=gD
     rw[Asj,A];have:=f.2 t x A;simp_all[Array.getElem?_append]
  .have C:hi.length<=id:=q;grind
 .rintro e X w' ⟨k,st,S',φ',⟨Y,u⟩,d⟩;have y:Gd E (U S' (Own φ')) w':=⟨d.sub,λb g=>d.rel.old.lt b (.inl g),λb g=>g.elim (λh=>d.rel.old.lt b (.inr h)) λh=>d.rel.hp.lt h,d.rel.old.lib.at',d.rel.old.lib.lt,λb g h=>h.elim (d.ls b g) (d.rel.old.lib.out b g)⟩;have o:(∃v:Value,Ending.returned (.tuple #[])=.returned v)/\((∃S' T',J n S' T' w'/\(∀b,S' b->¬T' b)/\Gd E (U S' T') w')\/∃S' T',R S' T' w'):=by
   refine⟨⟨_,rfl⟩,?_⟩;have F:=d.j;subst m;rcases u with rfl|rfl
   .exact .inl ⟨S',_,F,d.apart,y⟩
   .exact .inr ⟨S',_,F⟩
  have G:(results fn X.tmps).run P w'=.ok (.tuple #[]) w':=by
   simp[results,r]
  rcases Y with rfl|rfl
  .exact⟨d.rel.df.1,_,G,o⟩
  .exact⟨d.rel.df.1,_,G,o⟩
end
def hdC:Nat->Code->Code
 | 0,.seq x _=>x
 | n+1,.seq x y=>.seq x (hdC n y)
 | _,c=>c
def tlC:Nat->Code->Code
 | 0,.seq _ y=>y
 | n+1,.seq _ y=>tlC n y
 | _,_=>.skip
def Ap0:Nat->Code->Bool
 | 0,.seq _ _=>true
 | n+1,.seq _ y=>Ap0 n y
 | _,_=>false
def Arh (k:Nat):Code->Code
 | .region id ops _=>.region id (Dr ops k) false
 | _=>.skip
def AqB (k:Nat):Code->Code
 | .region id ops _=>.region id (C9 ops (k+1)) false
 | _=>.skip
def kfI (keep:List Nat)(K:Exit->St->Prop):Exit->St->Prop:=λe st=>bif okF 0 keep st then K e (forget 0 keep st)else False
def Ctx.piece (c:Ctx)(code:Code)(keep:List Nat)(K:Exit->St->Prop):Ctx:={c with L:=rgL 0,code:=code,p0:=[],K0:=kfI keep K}
section
variable {c : Ctx} {E:AP} {J:JT} {K:Exit->Option Nat->St->Prop} {k:Option Nat} {st:St}
def Ra {P:Program}{T:TypeId->TE}{Sh:Shs}{N:Nat}(f:Ip J)(g:TOk P T)(d:P.follows .mixedOrders=true)(keep:List Nat):∀(n:Nat){code:Code}{p:List Nat}{st:St},Ap0 n code=true->Ku N (hdC n code)=true->xc P T Sh N (rgL 0) p (hdC n code) (kfI keep λe b=>AeT K (λk st=>Er P N E J (tlC n code) K k st) e k b) st->Er P N E J code K k st
 | 0,.seq x y,p,st,_,hB,h=>Np (Acz (p:=p) f g d hB keep h)
 | n+1,.seq x y,p,st,hl,hB,h=>by
  simp only[hdC,Ku,Ar2]at hB;simp only[hdC,xc]at h;refine⟨λS φ a w hi=>wpIn_seq (wpIn_mono (O9 (ro:=none) (L:=rgL 0) g d (λ_=>rfl) x hB.1 _ _ _ h _ _ _ _ hi.rel) ?_)⟩;rintro e l w' ⟨b,φ',h1,h2,h3⟩;have h4:=hi.ext f h2 h3;have m:∀e,e≠.normal->kfI keep (λe b=>AeT K (λk st=>Er P N E J (tlC n y) K k st) e k b) e b->Ads N E J K e l w':=by
   intro e o h5;unfold kfI at h5;cases i:okF 0 keep b with
   | false=>rw[i]at h5;exact h5.elim
   | true =>
    rw[i]at h5;obtain⟨φ'',h6⟩:=h4.forget f i;refine⟨k,_,S,φ'',?_,h6⟩;cases e with
    | normal=>exact(o rfl).elim
    | _=>exact h5
  cases e with
  | normal =>
   have j:xc P T Sh N (rgL 0) (1::p) (hdC n y) (kfI keep λe b=>AeT K (λk st=>Er P N E J (tlC n y) K k st) e k b) b:=h1;exact(Ra f g d keep n hl hB.2 j).h S φ' l w' h4
  | _=>exact m _ sM h1
def IQ (d:Ip J)(f:TOk c.P c.T)(a:c.P.follows .mixedOrders=true)(keep:List Nat)(n:Nat){code:Code}(g:Ap0 n code=true)(hB:Ku c.N (hdC n code)=true)(h:(c.piece (hdC n code) keep λe b=>AeT K (λk st=>Er c.P c.N E J (tlC n code) K k st) e k b).goal st):Er c.P c.N E J code K k st :=
 Ra d f a keep n g hB h
def Q9 (d:Ip J)(f:TOk c.P c.T)(a:c.P.follows .mixedOrders=true){code:Code}(hB:Ku c.N code=true)(keep:List Nat)(h:(c.piece code keep λe b=>K e k b).goal st):Er c.P c.N E J code K k st:=Acz d f a hB keep h
end
def AqW:Shp:={α:=D.Loc×Bool,enc:=λy=>([],.tup [.agg (AW y.1),Ac y.2])}
def AqU:Shp:={α:=Nx,enc:=λy=>([],.agg (Bm y))}
def Ao6:Shp:={α:=List Nx×Int,enc:=λy=>([],.tup [AC true y.1,Aa y.2])}
def Ape:Shp:={α:=List Gn,enc:=λy=>([],B2 true y)}
def AqV:Shp:={α:=Mv,enc:=λy=>([],.agg (BG y))}
def AqN:Shp:={α:=Wc,enc:=λy=>([],.agg (DQ y))}
def Ao1:Shp:={α:=List Wc,enc:=λy=>([],CM true y)}
def AqQ:Shp:={α:=D.State×Int,enc:=λy=>([],.tup [.agg (Ag y.1),Aa y.2])}
def Aq0:Shp:={α:=D.Model×D.State,enc:=λy=>([.box (Ae y.1),.box (Ag y.2)],.fn (.func 106) [.bp 0 0,.bp 1 0])}
def BT (f:FuncId):Shp :=
 bif Nat.beq f 77 then AqW else bif Nat.beq f 76 then Aq0 else  bif Nat.beq f 127||Nat.beq f 126 then Aoe else bif Nat.beq f 109 then AqU else bif Nat.beq f 125||Nat.beq f 108 then Ape else bif Nat.beq f 78||Nat.beq f 54 then Ao6 else bif Nat.beq f 79 then AqV else bif Nat.beq f 110 then AqN else bif Nat.beq f 80 then Ao1 else bif Nat.beq f 81 then Aoa else bif Nat.beq f 12 then AqQ else  bif Nat.beq f 16 then Q6 else AeK f
def GR:Ann:={keep:=fun
  | [0,1,0,1,1,1]=>[1,2,4,18,19,20]
  | [0,1,0,1,1,1,1]=>[1,2,4,33,34,35]
  | [0,1,1,0,0,1,1,0,0,1,0,1,1,1,1]=>[1,2,4,7,8,33,34,35,41,42]
  | _=>[]}
def N2:Ann:={keep:=fun
  | [0,1,1,1]=>[2,3,4,6,9,10]
  | [0,1,0,1,1,1,1,1,1,0,0,0,0,1,1,1]=>[2,3,4,6,9,10,13,16,52,53,54]
  | _=>[]}
def K7:Ann:={keep:=fun
  | [0,1,0,1,1,1,1,1,1]=>[2,4,5,6,7,60,61,62]
  | _=>[]}
def Sk:Ann:={keep:=fun
  | [0,1,0,1,1]=>[1,3,11,12]
  | _=>[]}
def K9:Ann:={keep:=fun
  | [0,1,0,1,1,1]=>[1,3,4,12,13,14]
  | [0,1,0,1,1,1,1,1]=>[1,4,7,39,40,41]
  | _=>[]}
def Ja:Ann:={keep:=fun
  | [0,1,0,1,1,1,1,1,1]=>[7,8,9,10,38,39,40]
  | [0,1,0,1,1,1,1,1,1,1]=>[8,9,58,59,60]
  | _=>[]}
def Fp:Ann:={keep:=fun
  | [0,1,0,1,1,1,1,1]=>[2,3,6,8,37,38,39]
  | [0,1,1,1,1,0,0,1,1,0,0,1,0,1,1,1,1,1]=>[2,3,6,8,9,37,38,39,58,59,60]
  | _=>[]}
def yV (l:Nat):VV:=.fn (.yield l) []
def QZ (l:Nat)(L:List Gn)(i:Int):St:=An [(0,yV l),(30,B2 true L),(31,Aa L.length),(32,Aa i)] []
def WY (l:Nat)(L:List Gn)(i:Int)(g:Gn)(j:Int):St:=An [(0,yV l),(30,B2 true L),(31,Aa L.length),(32,Aa i),(8,.bp 0 0),(37,Br true g.2),(38,Aa g.2.length),(39,Aa j)] [.box (Fo g)]
def AqG (l:Nat)(L:List Gn)(i:Int)(g:Gn)(j:Int)(w:Wy):St:=An [(0,yV l),(30,B2 true L),(31,Aa L.length),(32,Aa i),(8,.bp 0 0),(37,Br true g.2),(38,Aa g.2.length),(39,Aa j),(10,.bp 1 0)] [.box (Fo g),.box (Bf w)]
def lEy (l:Nat)(L:List Gn)(i:Int)(g:Gn)(j:Int)(w:Wy):List (Nat×VV):=[(0,yV l),(30,B2 true L),(31,Aa L.length),(32,Aa i),(8,.bp 0 0),(37,Br true g.2),(38,Aa g.2.length),(39,Aa j),(43,yV l),(45,.agg (Ai g.1)),(46,.agg (Bf w))]
def PC:Ob:=.box [.nl,.nl,.nl,Aa 0,Aa 0,Aa 0]
def Ak9 (g:List Int)(nc np:VV):Ob:=.box [Ad true g,nc,np,Aa 0,Aa (-1),Aa (-1)]
def Acu (m:D.Model)(l:List D.Chan)(k:Int):St:=An [(1,.bp 0 0),(2,.bp 1 0),(4,.bp 2 0),(18,Ad true m.Chans),(19,Aa m.Chans.length),(20,Aa k)] [.box (Ae m),PC,Ak9 m.Init (.ow 3 0 l.length) .nl,.arr true 0 l.length 2 (D7 l)]
def Acs (m:D.Model)(cs:List D.Chan)(ps:List D.Process)(k:Int):St:=An [(1,.bp 0 0),(2,.bp 1 0),(4,.bp 2 0),(33,AE true m.Procs),(34,Aa m.Procs.length),(35,Aa k)] [.box (Ae m),PC,Ak9 m.Init (.ow 3 0 cs.length) (.ow 4 0 ps.length),.arr true 0 cs.length 2 (D7 cs),.arr true 0 ps.length 4 (Db ps)]
def Tk (m:D.Model)(cs:List D.Chan)(ps:List D.Process)(k:Int)(p:D.Proc)(many j:Int):St:=An [(1,.bp 0 0),(2,.bp 1 0),(4,.bp 2 0),(7,Aa k),(8,.bp 5 0),(33,AE true m.Procs),(34,Aa m.Procs.length),(35,Aa k),(41,Aa many),(42,Aa j)] [.box (Ae m),PC,Ak9 m.Init (.ow 3 0 cs.length) (.ow 4 0 ps.length),.arr true 0 cs.length 2 (D7 cs),.arr true 0 ps.length 4 (Db ps),.box (AV p)]
def Aer (m:D.Model)(s:D.State)(pid:Int)(t:ByteArray)(n:Int):St:=An [(2,Aa pid),(3,.bp 0 0),(4,.bp 1 0),(6,.bp 2 0),(9,AM t),(10,Aa n)] [.box (Ae m),.box (Ag s),PC]
def Aco (m:D.Model)(s:D.State)(pid:Int)(t:ByteArray)(n:Int)(e:D.Env)(ws:List Wy)(i:Int):St:=An [(2,Aa pid),(3,.bp 0 0),(4,.bp 1 0),(6,.bp 2 0),(9,AM t),(10,Aa n),(13,.bp 3 0),(16,Ac false),(52,Br true ws),(53,Aa ws.length),(54,Aa i)] [.box (Ae m),.box (Ag s),PC,.box (Ai e)]
def Arr (e:D.Env)(w:Wy):List VV:=[Aa e.Pid,Aa w.Esc,Aa w.Way,Aa w.With,Aa w.WithEsc,Aa w.WithWay,Aa (-1),.nl,.nl,.nl,Aa 0,Aa 0,Aa 0,Aa 0,AM ByteArray.empty]
def Arq:List VV:=[Aa 0,Aa 0,Aa 0,Aa 0,Aa 0,Aa 0,Aa 0,.nl,.nl,.nl,Aa 0,Aa 0,Aa 0,Aa 0,AM ByteArray.empty]
def Og (e:D.Env)(w:Wy)(s:D.State)(t:ByteArray)(i:Int):St:=An [(2,.bp 0 0),(4,.bp 1 0),(5,.bp 2 0),(6,.bp 3 0),(7,AM t),(60,.ow 4 0 2),(61,Aa 2),(62,Aa i)] [.box (Ai e),.box Arq,.box (Arr e w),.box (Ag s),.arr true 0 2 1 (AO [e.Pid,w.With])]
def WZ (e:D.Env)(l:List Gn)(i:Int):St:=An [(1,.bp 0 0),(3,.ow 1 0 l.length),(11,Aa e.S.Procs.length),(12,Aa i)] [.box (Ai e),.arr true 0 l.length 17 (Js l)]
def Acr (e:D.Env)(L:List Gn)(most i:Int):St:=An [(1,.bp 0 0),(3,B2 true L),(4,Aa most),(12,B2 true L),(13,Aa L.length),(14,Aa i)] [.box (Ai e)]
def WX (e:D.Env)(L out:List Gn)(most i:Int):St:=An [(1,.bp 0 0),(4,Aa most),(7,.ow 1 0 out.length),(39,B2 true L),(40,Aa L.length),(41,Aa i)] [.box (Ai e),.arr true 0 out.length 17 (Js out)]
def AlV (e:D.Env)(out:List Wc)(some:Bool)(l:List D.Trans)(i:Int):St:=An [(7,.bp 0 0),(8,.ow 1 0 out.length),(9,Ac some),(10,Ao true l),(38,Ao true l),(39,Aa l.length),(40,Aa i)] [.box (Ai e),.arr true 0 out.length 2 (Kt out)]
def AlU (out:List Wc)(some:Bool)(l:List D.Trans)(i:Int):St:=An [(8,.ow 0 0 out.length),(9,Ac some),(58,Ao true l),(59,Aa l.length),(60,Aa i)] [.arr true 0 out.length 2 (Kt out)]
def Aet (m:D.Model)(s:D.State)(L:List Nx)(ws:List Wc)(out:List Nx)(c:Int):St:=An [(2,.bp 0 0),(3,.bp 1 0),(6,AC true L),(8,.ow 2 0 out.length),(37,CM true ws),(38,Aa ws.length),(39,Aa c)] [.box (Ae m),.box (Ag s),.arr true 0 out.length 15 (Bj out)]
def AhQ (m:D.Model)(s:D.State)(L:List Nx)(ws:List Wc)(out:List Nx)(c k:Int):St:=An [(2,.bp 0 0),(3,.bp 1 0),(6,AC true L),(8,.ow 2 0 out.length),(9,Aa c),(37,CM true ws),(38,Aa ws.length),(39,Aa c),(58,AC true L),(59,Aa L.length),(60,Aa k)] [.box (Ae m),.box (Ag s),.arr true 0 out.length 15 (Bj out)]
def Ik:Ann:={cut:=(λ| [1,0,1,1,1]=>true | _=>false),keep:=fun
  | [1,0,1,1,1]=>[7,18]
  | _=>[]}
def GI (g:FuncId)(c:List VV):Nat->List VV
 | 0=>[.dead]
 | k+1=>[.fn (.func g) [.tp c,.tp (GI g c k)]]
def laid (H:Nat->List VV):VV->VV
 | .bp id 0=>.tp (H id)
 | x=>x
section
variable {w : World} {E:AP} {φ:Phi} {hs:List Ob}
def Aa8 {c:List VV}{b:Nat}{vs:Array Value}{ty:TypeId}(a:w.heap[b]?=some (.cells vs ty (0,0)))(d:¬E.br b)(f:c.length<=vs.size)(h:∀j x,c[j]?=some x->V w E none x (vs.getD j undef)){m:Option Phi}:V w E m (.tp c) (.pointer (some ⟨b,0,none⟩)) :=
 .tp (λj=>vs.getD j undef) ((Asb.1 a).1) d (λj x e=>by
  have:=(Asa.1 e).1;rw[AsI];exact GD a oM) h
def AA.lay {c:Ctx}{rel:List Nat}{l:List (Nat×VV)}{g:FuncId}{i j:Nat}{ci:List VV}(n:Nat)(K:c.L.base=0)(hi:hs[i]?=some (.box ci))(Q:ci.all VV.mem=true)(Y:hs[j]?=some (.box [.fn (.func g) [.bp i 0,.bp j 0]]))
  (hm:∀k o,hs[k]?=some o->k=j\/∃cs,o=.box cs/\cs.all VV.mem=true) (M:∀p∈l,p.2.mem=true\/∃k,p.2=.bp k 0/\k<hs.length)
  (h:AA c rel (An (l.map λp=>(p.1,laid (λk=>bif Nat.beq k j then GI g ci n else match hs[k]? with
   | some (.box cs)=>cs
   | _=>[]) p.2)) [])):AA c rel (An l hs):=by
 refine⟨λE _ a w z=>?_⟩;rename_i φ;have R:∀k,Own φ k->¬E.br k:=λk d S=>z.hp.free k d (z.hp.sub k S)
 have u:∀k o,hs[k]?=some o->∃p,φ k=some p/\ObV w E φ o p:=λk o N=>by
  have d:k<hs.length:=(Asa.1 N).1;obtain⟨p,hp⟩:=Atw.1 (z.lv k d);have:=z.hp.ob k p hp;have e:(An l hs).H k=o:=by simp[An,Bq,N]
  rw[e]at this;exact⟨p,hp,this⟩
 have Z:∀{x:VV}{v:Value},x.mem=true->V w (E.up φ) (some φ) x v->V w (E.up λ_=>none) none x v:=λr hv =>
  (hv.mem (E':=(E.up φ)) (m':=none) r rfl).less (λk d=>d.imp (λh=>h) λ⟨id,h⟩=>by rcases h with h|⟨_,_,_,h⟩<;>cases h) λk d=>d.imp (λh=>h) λ⟨id,h⟩=>by rcases h with h|⟨_,_,_,h⟩<;>cases h
 have B:∀k,Own φ k->¬(E.up λ_=>none).br k:=λk d S=>S.elim (R k d) λ⟨id,h⟩=>by rcases h with h|⟨_,_,_,h⟩<;>cases h
 have plain:∀k cs,hs[k]?=some (.box cs)->cs.all VV.mem=true->∀b,φ k=some (.box b)->∀{m:Option Phi},V w (E.up λ_=>none) m (.tp cs) (.pointer (some ⟨b,0,none⟩)):=λk cs N T b K m=>by
  obtain⟨p,hp,hv⟩:=u k _ N;rw[K]at hp;cases hp;obtain⟨vs,ty,h1,h2⟩:=hv;exact Aa8 h1 (B b ⟨k,.inl K⟩) (by rw[h2.1];exact Ar6 _) λj x r=>Z (AsD.1 T x (AsK r)) (h2.2 j x r)
 have tow:∀n b,φ j=some (.box b)->∀{m:Option Phi},V w (E.up λ_=>none) m (.tp (GI g ci n)) (.pointer (some ⟨b,0,none⟩)):=by
  intro n
  induction n with
  | zero =>
   intro b s m;obtain⟨p,hp,hv⟩:=u j _ Y;rw[s]at hp;cases hp;obtain⟨vs,ty,h1,h2⟩:=hv;refine Aa8 h1 (B b ⟨j,.inl s⟩) (by rw[h2.1];exact Ar6 _) λk x r=>?_
   have:x=.dead:=by
    have:=AsK r;simpa[GI]using this
   subst this;exact .dead
  | succ n ih =>
   intro b s m;obtain⟨p,hp,hv⟩:=u j _ Y;rw[s]at hp;cases hp;obtain⟨vs,ty,h1,h2⟩:=hv;refine Aa8 h1 (B b ⟨j,.inl s⟩) (by rw[h2.1];exact Ar6 _) λk x r=>?_
   match k,r with
   | k+1,r=>simp[GI]at r
   | 0,r =>
    have e:x=.fn (.func g) [.tp ci,.tp (GI g ci n)]:=by
     have:some (VV.fn (.func g) [.tp ci,.tp (GI g ci n)])=some x:=r;exact(Aso this).symm
    subst e;have O:=h2.2 0 _ rfl;generalize vs.getD 0 undef=v at O;cases O with
    | fn a1 a2 =>
     refine .fn a1 λq y C=>?_
     obtain⟨bi,P,U⟩:=(a2 0 _ rfl).bp_inv;obtain⟨bj,e3,e4⟩:=(a2 1 _ rfl).bp_inv;rw[s]at e3;cases e3
     match q,C with
     | 0,C =>
      obtain rfl:VV.tp ci=y:=Aso C;rw[U];exact plain i ci hi Q bi P
     | 1,C =>
      obtain rfl:VV.tp (GI g ci n)=y:=Aso C;rw[e4];exact ih b s
     | q+2,C=>simp at C
 have F:∀(f:VV->VV)(t:Nat)(l:List (Nat×VV)),f .dead=.dead->Bs t (l.map λp=>(p.1,f p.2))=f (Bs t l):=by
  intro f t l O
  induction l with
  | nil=>exact O.symm
  | cons p l ih =>
   simp only[AsT,Bs];cases Nat.beq t p.1 with
   | true=>rfl
   | false=>exact ih
 have G:∀(t:Nat)(l:List (Nat×VV)),(∀p∈l,p.2.mem=true\/∃k,p.2=.bp k 0/\k<hs.length)->(Bs t l).mem=true\/∃k,Bs t l=.bp k 0/\k<hs.length:=by
  intro t l M
  induction l with
  | nil=>exact .inl rfl
  | cons p l ih =>
   simp only[Bs];cases Nat.beq t p.1 with
   | true=>exact M p (Ar8 ..)
   | false=>exact ih λq I=>M q (Asi _ I)
 have none_blk:∀{k:Nat},¬Own (λ_=>none) k:=λ⟨id,h⟩=>by rcases h with h|⟨_,_,_,h⟩<;>cases h
 have hrel:=h.h E (λ_=>none) a w ⟨z.sz,z.df,z.old.sub λk d=>(none_blk d).elim,λt=>?_,⟨z.hp.sub,λid p e=>(by cases e),λa b k ha _=>(none_blk ⟨a,ha⟩).elim,λk d=>(none_blk d).elim⟩,λ_ _=>rfl,λid A=>absurd A (AsQ id)⟩
 .refine As1 hrel λ_ _ _ ⟨E',W,φ',h0,h1,h2,h3⟩=>⟨E',W,φ',h0,h1,h2,Fr.trans ⟨rfl,rfl,rfl,Ar6 _,λ_ _ _=>rfl,λk d=>(none_blk d).elim,λid p A=>?_⟩ h3⟩
  rw[K]at A;exact absurd A (AsQ id)
 .show V w _ _ (Bs t (l.map _)) _;rw[F _ t l rfl];have X:V w _ _ (Bs t l) _:=z.tm t;rcases G t l M with r|⟨k,r,d⟩
  .have:∀H,laid H (Bs t l)=Bs t l:=λH=>by
    generalize Bs t l=x at r;cases x with
    | bp=>cases r
    | _=>rfl
   rw[this];have:=Z r X;exact this.held
  .rw[r]at X |-;obtain⟨b,P,U⟩:=X.bp_inv;rw[U];show V w _ _ (.tp (bif Nat.beq k j then GI g ci n else match hs[k]? with
    | some (.box cs)=>cs
    | _=>[])) _
   cases I:Nat.beq k j with
   | true =>
    obtain rfl:=Ar5 I;rw[Ar3];exact tow n b P
   | false =>
    rw[Ar1];rcases hm k _ (Asf d)with rfl|⟨cs,e,hc⟩
    .rw[AsV]at I;cases I
    .have J:hs[k]?=some (.box cs):=by rw[Asf d,e]
     rw[J];exact plain k cs J hc b P
end
def Dm (_:FuncId):Shp:=Q6
def EJ (f:FuncId):Shp :=
 bif Nat.beq f 70||Nat.beq f 72||Nat.beq f 71||Nat.beq f 87||Nat.beq f 162||Nat.beq f 163||Nat.beq f 164||Nat.beq f 160||Nat.beq f 161||Nat.beq f 20 then SF
 else bif Nat.beq f 55 then Aoc
 else bif Nat.beq f 41||Nat.beq f 46||Nat.beq f 44||Nat.beq f 83||Nat.beq f 134||Nat.beq f 137||Nat.beq f 139||Nat.beq f 130||Nat.beq f 132||Nat.beq f 112||Nat.beq f 114||Nat.beq f 113||Nat.beq f 129||Nat.beq f 82 then Q6
 else BT f
def Cy (o:Op):List VV:=[Aa o.Mode,Ac o.Bfs,Ac o.Reduce,Ac o.Fair,Ac o.Free,Aa o.States,Aa o.Depth]
def AD (f:Fnd):List VV:=[Aa f.Kind,Aa f.What,Aa f.Err,Aa 0,A3 true f.Trail,Aa f.Cycle,Aa f.States,Aa f.Steps]
def B1 (n:Int):List VV:=[Aa 0,Aa 0,Aa 0,Aa 0,.nl,Aa 0,Aa 0,Aa n]
def BM (m:D.Model)(o:Op)(c:Sn)(sl:List Nat)(n:Int):List VV :=
 [AH true m.Globals,Ad true m.Init,AJ true m.Shapes,Ad true m.Chans,AE true m.Procs,Aa m.Claim,AS true m.Exprs,
  Aa o.Mode,Ac o.Bfs,Ac o.Reduce,Ac o.Fair,Ac o.Free,Aa o.States,Aa o.Depth,.tp (Bl o.States c.ks c.bs sl),Aa 0,Aa 0,Aa 0,Aa 0,.nl,Aa 0,Aa 0,Aa n]
def EA (m:D.Model)(o:Op)(n:Int):List VV :=
 [AH true m.Globals,Ad true m.Init,AJ true m.Shapes,Ad true m.Chans,AE true m.Procs,Aa m.Claim,AS true m.Exprs,
  Aa o.Mode,Ac o.Bfs,Ac o.Reduce,Ac o.Fair,Ac o.Free,Aa o.States,Aa o.Depth,.bp 1 0,Aa 0,Aa 0,Aa 0,Aa 0,.nl,Aa 0,Aa 0,Aa n]
def NS (most:Int)(c:Sn)(sl:List Nat):List VV:=[Aa most,.ow 2 0 c.ks.length,.ow 3 0 c.bs.length,.ow 4 0 sl.length]
def J5 (m:D.Model)(o:Op)(c:Sn)(sl:List Nat)(n:Int):List Ob :=
 [.box (EA m o n),.box (NS o.States c sl),.arr true 0 c.ks.length 1 (Ct c.ks),.arr true 0 c.bs.length 1 (Dw c.bs),.arr true 0 sl.length 1 (Cf sl)]
def L8 (n:Nat):List Ob:=[.box (List.replicate 23 .dead),.box (List.replicate 4 .dead),.arr true 0 n 1 (λ_=>[.dead]),.arr true 0 n 1 (λ_=>[.dead]),.arr true 0 (slN n) 1 (λ_=>[.dead])]
def EB (f:Pf):List VV:=[Aa f.n,AC true f.list,Aa f.at_,Aa f.by_.Pid,Aa f.by_.Esc,Aa f.by_.Way,Aa f.by_.With,Aa f.by_.WithEsc,Aa f.by_.WithWay,Aa f.by_.Claim]
def HB (l:List Pf):Nat->List VV:=λi=>EB (l.getD i default)
def LL (fz:Bool)(l:List Pf):VV:=.sl fz l.length 10 λi=>EB (l.getD i default)
def IE (x:Mt):List VV:=[Ad true x.s.Globals,AL true x.s.Chans,Av true x.s.Procs,Aa x.s.Last,Aa x.s.Alone,Aa x.s.Claim,Aa x.from_,Aa x.by_.Pid,Aa x.by_.Esc,Aa x.by_.Way,Aa x.by_.With,Aa x.by_.WithEsc,Aa x.by_.WithWay,Aa x.by_.Claim,Aa x.deep]
def Vb (l:List Mt):Nat->List VV:=λi=>IE (l.getD i default)
def JE (fz:Bool)(l:List Mt):VV:=.sl fz l.length 15 λi=>IE (l.getD i default)
def GZ (l:List Nx):Nat->List VV:=λi=>bif Nat.blt i l.length then Bm (l.getD i default)else List.replicate 15 .dead
def Ao2:Shp:={α:=ByteArray,enc:=λy=>([],AM y)}
def Aq1:Shp:={α:=ByteArray×Int,enc:=λy=>([],.tup [AM y.1,Aa y.2])}
def Ao8:Shp:={α:=List Nx,enc:=λy=>([],AC true y)}
def Ao7:Shp:={α:=List Nx×Int,enc:=λy=>([.arr true 0 y.1.length 15 (Bj y.1)],.tup [.ow 0 0 y.1.length,Aa y.2])}
def Apj:Shp:={α:=List Nx×Nat×Int,enc:=λy=>([.arr true 0 y.2.1 15 (GZ y.1),.box [Aa y.2.2]],.ow 0 0 y.1.length),lend:=true}
def Apg:Shp:={α:=Fnd,enc:=λy=>(L8 y.N,.agg (AD y)),lend:=true}
def Apf:Shp:={α:=Fnd,enc:=λy=>([],.agg (AD y))}
def AqY:Shp:={α:=Fnd×Int,enc:=λy=>([],.tup [.agg (AD y.1),Aa y.2])}
def Apa:Shp:={α:=List Mv,enc:=λy=>([],A3 true y)}
def Ao3:Shp:={α:=List Mv,enc:=λy=>([.arr true 0 y.length 7 (Cm y)],.tup []),lend:=true}
def Ao9:Shp:={α:=Int,enc:=λy=>(Ada y,.tup [.bp 0 0,Aa 0])}
def Aob:Shp:={α:=D.Model,enc:=λy=>([],.agg (Ae y))}
def AqT:Shp:={α:=Op,enc:=λy=>([],.agg (Cy y))}
def AqZ:Shp:={α:=D.Expr,enc:=λy=>([],.agg (AG y))}
def Dp (f:FuncId):Shp :=
 bif Nat.beq f 25||Nat.beq f 75 then Ao2
 else bif Nat.beq f 50 then Aq1
 else bif Nat.beq f 26||Nat.beq f 11 then SF
 else bif Nat.beq f 56||Nat.beq f 5 then Q6
 else bif Nat.beq f 51||Nat.beq f 52 then Aof
 else bif Nat.beq f 28 then Ao8
 else bif Nat.beq f 57 then Apj
 else bif Nat.beq f 15||Nat.beq f 14 then Apg
 else bif Nat.beq f 27 then Apf
 else bif Nat.beq f 7 then AqY
 else bif Nat.beq f 32||Nat.beq f 29 then Apa
 else bif Nat.beq f 59 then Ao3
 else bif Nat.beq f 13 then Ao9
 else bif Nat.beq f 10 then Aob
 else bif Nat.beq f 6 then AqT
 else bif Nat.beq f 17||Nat.beq f 18 then AqZ
 else bif Nat.beq f 24||Nat.beq f 31||Nat.beq f 33||Nat.beq f 30||Nat.beq f 86||Nat.beq f 53 then GX f
 else EJ f
def Pi (f:FuncId):Shp:=bif Nat.beq f 54||Nat.beq f 78 then Ao7 else Dp f
def Tq (f:FuncId):Shp:=bif Nat.beq f 87 then SF else Q6
def Hq:Ann:={base:=5,cut:=(λ| [1,1,0,1]=>true | [1,1,1,1,1,1]=>true | _=>false),keep:=fun
  | [1]=>[0,3,4,5,6]
  | [1,1,0,1]=>[0,3,4,5,6]
  | [1,1,1,1,1,1]=>[0,3,4,5,6]
  | _=>[]}
def LY:Ann:={base:=5,keep:=fun
  | [0,1,0,1,1,1,1]=>[0,4,5,7]
  | [0,1,0,0,1,0,0,1,0,1,1,1,1]=>[0,4,5,7,48,49,50]
  | _=>[]}
def ET:Ann:={cut:=(λ| [1,1,1]=>true | _=>false),keep:=fun
  | [1,1,1]=>[0,3,5]
  | [0,1,0,1,1,1,1]=>[0,5,37,38,39]
  | _=>[]}
def OX:Ann:={keep:=fun
  | [0,1,0,1,1]=>[1,5,9,10,11]
  | _=>[]}
def Je:Ann:={cut:=(λ| [1,1,1]=>true | _=>false),keep:=fun
  | [1,1,1]=>[2,7]
  | [0,0,1,1]=>[0,1,2,7]
  | _=>[]}
def VX:Ann:={base:=1,keep:=fun
  | [0,1]=>[0,2,3]
  | _=>[]}
def LX:Ann:={base:=2,cut:=(λ| [1,1,1,1]=>true | _=>false),keep:=fun
  | [0,1,0,1,1,1]=>[0,1,5,6]
  | [1,1,1,1]=>[0,5]
  | _=>[]}
def LW:Ann:={cut:=(λ| [1,1,1,1,1,1]=>true | _=>false),keep:=fun
  | [1,1,1,1,1,1]=>[2,3,4,7,9]
  | _=>[]}
def Adn:Ann:={cut:=(λ| [1,1,1]=>true | _=>false),keep:=λ_=>[]}
def Z0 (m:D.Model)(o:Op)(c:Sn)(sl:List Nat)(n:Int)(s:D.State)(q:List Pf)(k:Nat)(v:Mv):St :=
 An [(0,.bp 0 0),(3,.bp 5 0),(4,.bp 6 0),(5,.ow 7 0 k),(6,.bp 8 0)] (J5 m o c sl n++[.box (Ag s),.box (B1 0),.arr true 0 q.length 10 (HB q),.box (BG v)])
def AlX (m:D.Model)(o:Op)(c:Sn)(sl:List Nat)(n:Int)(q:List Mt)(k:Int):St :=
 An [(0,.bp 0 0),(4,.bp 5 0),(5,.ow 6 0 q.length),(7,Aa k)] (J5 m o c sl n++[.box (B1 0),.arr true 0 q.length 15 (Vb q)])
def Z1 (m:D.Model)(o:Op)(c:Sn)(sl:List Nat)(n:Int)(q:List Mt)(k:Int)(l:List Nx)(j:Int):St :=
 An [(0,.bp 0 0),(4,.bp 5 0),(5,.ow 6 0 q.length),(7,Aa k),(48,AC true l),(49,Aa l.length),(50,Aa j)] (J5 m o c sl n++[.box (B1 0),.arr true 0 q.length 15 (Vb q)])
def AqC (w:List VV)(s:D.State)(l:List Nx):St:=An [(0,.tp w),(3,.bp 0 0),(5,.ow 1 0 l.length)] [.box (Ag s),.arr true 0 l.length 15 (Bj l)]
def AlR (w:List VV)(l:List Nx)(ps:List Int)(k:Int):St:=An [(0,.tp w),(5,.ow 0 0 l.length),(37,Ad true ps),(38,Aa ps.length),(39,Aa k)] [.arr true 0 l.length 15 (Bj l)]
def AqE (more:List Mv)(out:List Mv)(p:List Pf)(k:Int):St:=An [(1,A3 false more),(5,.ow 0 0 out.length),(9,LL false p),(10,Aa p.length),(11,Aa k)] [.arr true 0 out.length 7 (Cm out)]
def AqK (l:List Mt)(n:Int)(more out:List Mv):St:=An [(0,JE false l),(1,Aa n),(2,A3 false more),(7,.ow 0 0 out.length)] [.arr true 0 out.length 7 (Cm out)]
def AoQ (l:List Mv)(i j:Int):St:=An [(0,.ow 0 0 l.length),(2,Aa i),(3,Aa j)] [.arr true 0 l.length 7 (Cm l)]
def AhP (l:List Nx)(p i j:Int):St:=An [(0,.ow 0 0 l.length),(1,.fn (.func 58) [.bp 1 0]),(5,Aa i),(6,Aa j)] [.arr true 0 l.length 15 (Bj l),.box [Aa p]]
def AoV (l:List Nx)(p i:Int):St:=An [(0,.ow 0 0 l.length),(5,Aa i)] [.arr true 0 l.length 15 (Bj l),.box [Aa p]]
def Hp:Ann:={cut:=(λ| [1,0,1,1]=>true | _=>false),keep:=fun
  | [1,0,1,1]=>[2,3,4,5,19]
  | [0,1,0,1,1,1]=>[2,3,4,5,23,24,25]
  | _=>[]}
def Ac6:List (Nat×VV):=[(2,.bp 0 0),(3,.bp 1 0),(4,.bp 2 0),(5,.bp 3 0)]
def Yi (m:D.Model)(s:D.State):List Ob:=[.box (Ae m),.box (Ag s),.box [Ac false],.box [Aa 0]]
def Acn (m:D.Model)(s:D.State)(i:Int):St:=An [(2,.bp 0 0),(3,.bp 1 0),(4,.bp 2 0),(5,.bp 3 0),(23,Av true s.Procs),(24,Aa s.Procs.length),(25,Aa i)] [.box (Ae m),.box (Ag s),.box [Ac false],.box [Aa 0]]
def AlY (more out:List Mv):St:=An [(2,A3 false more),(7,.ow 0 0 out.length)] [.arr true 0 out.length 7 (Cm out)]
def AoU (n:Nat)(l:List Nx)(p:Int):St:=An [(0,.ow 0 0 n),(5,Aa l.length)] [.arr true 0 n 15 (GZ l),.box [Aa p]]
def Ctx.line (c:Ctx)(rel:List Nat)(K:Exit->St->Prop):Ctx:={c with L:=rgL 1,code:=DI rel c.code,p0:=[],K0:=K}
def Aom (J:VV->VV->VV->Ob->Nat->Prop)(F:Ob->Nat->Prop):Exit->St->Prop
 | .normal,st=>J (st.t 0) (st.t 2) (st.t 3) (st.H 0) st.nx
 | .exit 0,st=>F (st.H 0) st.nx
 | _,_=>False
def R0 (most:Int):List VV:=[Aa most,.ow 5 0 0,.ow 6 0 0,.ow 7 0 16]
def ArO (m:D.Model)(o:Op)(s:D.State):St:=An [(2,.bp 0 0),(3,.bp 1 0),(4,.bp 2 0),(7,.bp 3 0),(9,.bp 4 0)] [.box (Ae m),.box (Cy o),.box (B1 0),.box (Ag s),.box (R0 o.States),.arr true 0 0 1 (Ct []),.arr true 0 0 1 (Dw []),.arr true 0 16 1 (Cf (List.replicate 16 0))]
def Aia (f:FuncId):Shp :=
 bif Nat.beq f 9||Nat.beq f 16 then Q6
 else bif Nat.beq f 8 then Aob
 else Dp f
def At9 (J:Nat->Act->World->Prop)(Q:Exit->Act->World->Prop):Exit->Act->World->Prop
 | .goto l,a,w=>J l a w
 | e,a,w=>Q e a w
def SC {P:Program}{a:Act}{w:World}{Q:Exit->Act->World->Prop}{c:Code}{rest:Nat->Code}(J:Nat->Nat->Act->World->Prop)(q:∀l g a w,J l g a w->findLabel c l=some (rest l))
  (first:c.wp P (At9 (λl a w=>∃g,J l g a w) Q) a w) (pass:∀l g a w,J l g a w->(rest l).wp P (At9 (λl' m w'=>∃j,j<g/\J l' j m w') Q) a w):(Code.scope c).wp P Q a w:=by
 intro b k cs;have hg:∀l g a w,J l g a w->gotoIn l (.inScope c::k)=some (.code (rest l)::.inScope c::k):=λl g a w h=>by simp[gotoIn,q l g a w h]
 have key:∀g l a w,J l g a w->∃e m w',Q e m w'/\Arrives P (lone (b.at a (.code (rest l)::.inScope c::k)) cs w) b k cs e m w':=by
  intro n
  induction n using Nat.strongRecOn with
  | _ n ih =>
   intro l a w r;obtain⟨e,a₁,w₁,f,d⟩:=pass l n a w r b (.inScope c::k) cs;cases e with
   | normal=>exact⟨.normal,a₁,w₁,f,Steps.trans d (.one step_inScope)⟩
   | exit id=>exact⟨.exit id,a₁,w₁,f,λk' o=>d k' (by simp[exitTo,o])⟩
   | goto l' =>
    obtain⟨j,p,i⟩:=f;obtain⟨e₂,a₂,w₂,hq₂,harr₂⟩:=ih j p l' a₁ w₁ i;exact⟨e₂,a₂,w₂,hq₂,.of_steps (d _ (hg l' j a₁ w₁ i)) harr₂⟩
   | ret=>exact⟨_,a₁,w₁,f,d⟩
   | panic ch=>exact⟨_,a₁,w₁,f,d⟩
   | outgrown=>exact⟨_,a₁,w₁,f,d⟩
 obtain⟨e,a₁,w₁,f,d⟩:=first b (.inScope c::k) cs
 cases e with
 | normal=>exact⟨.normal,a₁,w₁,f,.head step_scope (Steps.trans d (.one step_inScope))⟩
 | exit id=>exact⟨.exit id,a₁,w₁,f,λk' o=>.head step_scope (d k' (by simp[exitTo,o]))⟩
 | goto l' =>
  obtain⟨j,i⟩:=f;obtain⟨e₂,a₂,w₂,hq₂,harr₂⟩:=key j l' a₁ w₁ i;exact⟨e₂,a₂,w₂,hq₂,.of_steps (.head step_scope (d _ (hg l' j a₁ w₁ i))) harr₂⟩
 | ret=>exact⟨_,a₁,w₁,f,.of_steps (.one step_scope) d⟩
 | panic ch=>exact⟨_,a₁,w₁,f,.of_steps (.one step_scope) d⟩
 | outgrown=>exact⟨_,a₁,w₁,f,.of_steps (.one step_scope) d⟩
def OB (b:Nat)(keep:List Nat)(J:Nat->St->Prop)(K:Exit->St->Prop):Exit->St->Prop
 | .goto l,st=>bif okF b keep st then J l (forget b keep st)else False
 | e,st=>K e st
section
variable {P : Program} {T:TypeId->TE} {N:Nat}
def Aap (u:TOk P T)(i:P.follows .mixedOrders=true){lc:Code}(c:Code)(rest:Nat->Code){K:Exit->St->Prop}{st:St}{p:List Nat}(Sh:Shs)(L:Ann)(keep:List Nat)(J:Nat->Nat->St->Prop)(n:lc=.scope c)(v:∀l g st,J l g st->findLabel c l=some (rest l)/\DT N (rest l)=true)(hB:DT N c=true)
  (first:xc P T Sh N L (0::p) c (OB L.base keep (λl b=>∃g,Up (J l g) b) K) st)
  (pass:∀l g st,J l g st->xc P T Sh N L ((l+1)::p) (rest l) (OB L.base keep (λl' b=>∃m,m<g/\Up (J l' m) b) K) st):Sat P N L.base p lc K st:=by
 subst n;refine⟨λE φ a w A=>?_⟩;have conv:∀(J1:Nat->St->Prop)(J2:Nat->Act->World->Prop)(E1:AP) (φ1:Phi) (o:World),E.Le E1->Fr L.base w φ o φ1->(∀l E' b φ' d w',E.Le E'->J1 l b->Rel N E' b φ' d w'->Fr L.base w φ w' φ'->J2 l d w')->∀e d w',(∃E' b φ',E1.Le E'/\OB L.base keep J1 K e b/\Rel N E' b φ' d w'/\Fr L.base o φ1 w' φ') ->
   At9 J2 (λe d w'=>∃E' b φ',E.Le E'/\K e b/\Rel N E' b φ' d w'/\Fr L.base w φ w' φ') e d w':=by
  rintro J1 J2 E1 φ1 o j k B e d w' ⟨E',b,φ',x,g1,y,z⟩;cases e with
  | goto l' =>
   simp only[OB]at g1;cases q:okF L.base keep b with
   | false=>rw[q]at g1;exact g1.elim
   | true =>
    rw[q]at g1;obtain⟨φ3,C,F⟩:=y.forget q;exact B l' E' _ φ3 _ _ (j.trans x) g1 C (k.trans (z.trans F))
  | _=>exact⟨E',b,φ',j.trans x,g1,y,k.trans z⟩
 refine SC (rest:=rest) (λl g d w'=>∃E' b φ',E.Le E'/\J l g b/\Rel N E' b φ' d w'/\Fr L.base w φ w' φ') (λl g d w' ⟨_,b,_,_,h,_⟩=>(v l g b h).1) ?_ ?_
 .exact As1 ((F9 u i c hB _ _ st first).h E φ a w A) (conv _ _ E φ w (.refl E) (Fr.refl _ _ _) λl E' b φ' d w' h0 ⟨g,st1,f,hg⟩ h2 h3=>let ⟨φ4,r,s⟩:=f _ _ _ _ _ h2;⟨g,E',st1,φ4,h0,hg,r,h3.trans (Ati s)⟩)
 .rintro l g d w' ⟨E',b,φ',h0,h1,h2,h3⟩;exact As1 ((F9 u i (rest l) (v l g b h1).2 _ _ b (pass l g b h1)).h E' φ' d w' h2) (conv _ _ E' φ' w' h0 h3 λl E'' b φ' d w' h0 ⟨m,t,st1,f,hg⟩ h2 h3=>let ⟨φ4,r,s⟩:=f _ _ _ _ _ h2;⟨m,t,E'',st1,φ4,h0,hg,r,h3.trans (Ati s)⟩)
end
def Ctx.firsts (c:Ctx)(rel:List Nat)(J:Nat->St->Prop):Ctx :=
 {c with code:=DI (rel++[0]) c.code,p0:=0::c.at rel,K0:=OB c.L.base (c.L.keep (c.at rel)) J (c.k rel)}
def Ctx.passes (c:Ctx)(rel:List Nat)(l:Nat)(J:Nat->St->Prop):Ctx :=
 {c with code:=(findLabel (DI (rel++[0]) c.code) l).getD .skip,p0:=(l+1)::c.at rel,K0:=OB c.L.base (c.L.keep (c.at rel)) J (c.k rel)}
def Aam {c:Ctx}(e:TOk c.P c.T)(b:c.P.follows .mixedOrders=true){rel:List Nat}{st:St}(J:Nat->Nat->St->Prop)(f:c.sub rel=.scope (DI (rel++[0]) c.code))(i:∀l g st,J l g st->(findLabel (DI (rel++[0]) c.code) l).isSome=true/\DT c.N ((findLabel (DI (rel++[0]) c.code) l).getD .skip)=true)
  (hB:DT c.N (DI (rel++[0]) c.code)=true) (first:A6 ((c.firsts rel λl a=>∃g,Up (J l g) a).goal st)) (pass:∀l g st,J l g st->A6 ((c.passes rel l λl' a=>∃d,d<g/\Up (J l' d) a).goal st)):AA c rel st :=
 Aap (L:=c.L) (p:=c.at rel) (K:=c.k rel) e b _ (λl=>(findLabel (DI (rel++[0]) c.code) l).getD .skip) c.Sh (c.L.keep (c.at rel)) J f (λl g st h=>by
  obtain⟨h1,h2⟩:=i l g st h;obtain⟨r,j⟩:=Option.isSome_iff_exists.1 h1;exact⟨by rw[j];rfl,h2⟩) hB first.out λl g st h=>(pass l g st h).out
def Am7 (r:D.Expr)(n:Int):(fc Dp AI f17 [] (.agg (AG r))).goal (St.init [] [Aa n]) =
  (LQ (VV.agg [Aa 1,Aa n,Aa (-1),Aa (-1),Aa (-1),Aa 0,Aa 0,Aa 0,Aa 0,VV.nl,VV.nl,VV.nl]) (VV.agg (AG r))):=kR
def Akh (r:D.Expr):(fc Dp AI f18 [] (.agg (AG r))).goal (St.init [] []) =
  (LQ (VV.agg [Aa 2,Aa 0,Aa (-1),Aa (-1),Aa (-1),Aa 0,Aa 0,Aa (-1),Aa (-1),VV.nl,VV.nl,VV.nl]) (VV.agg (AG r))):=kR
def Ac0 (r:D.Model)(b:Bool){g}(h:g=λ(i:Nat)=>λ(y:D.Expr)=>λ(a:D.Expr)=>λ(c:D.Expr)=>λ(d:D.Expr)=>λ(e:D.Expr)=>List.drop (i*12) [Aa y.Op,Aa y.N,Aa y.A,Aa y.B,Aa y.C,Aa y.V.Scope,Aa y.V.Slot,Aa y.V.Who,Aa y.V.Type_,Bi true y.V.Dims,Ad true y.Args,Ad true y.Match,Aa a.Op,Aa a.N,Aa a.A,Aa a.B,Aa a.C,Aa a.V.Scope,Aa a.V.Slot,Aa a.V.Who,Aa a.V.Type_,Bi true a.V.Dims,Ad true a.Args,Ad true a.Match,Aa 9,Aa 0,Aa 1,Aa 0,Aa (-1),Aa 0,Aa 0,Aa 0,Aa 0,VV.nl,VV.nl,VV.nl,Aa c.Op,Aa c.N,Aa c.A,Aa c.B,Aa c.C,Aa c.V.Scope,Aa c.V.Slot,Aa c.V.Who,Aa c.V.Type_,Bi true c.V.Dims,Ad true c.Args,Ad true c.Match,Aa d.Op,Aa d.N,Aa d.A,Aa d.B,Aa d.C,Aa d.V.Scope,Aa d.V.Slot,Aa d.V.Who,Aa d.V.Type_,Bi true d.V.Dims,Ad true d.Args,Ad true d.Match,Aa e.Op,Aa e.N,Aa e.A,Aa e.B,Aa e.C,Aa e.V.Scope,Aa e.V.Slot,Aa e.V.Who,Aa e.V.Type_,Bi true e.V.Dims,Ad true e.Args,Ad true e.Match,Aa 13,Aa 0,Aa 4,Aa 5,Aa (-1),Aa 0,Aa 0,Aa 0,Aa 0,VV.nl,VV.nl,VV.nl]){j}(k:j=[[(VV.sl true 1 9 λ(i:Nat)=>List.take 9 (List.drop (i*9) [Aa 2,Aa 3,Aa 2,Aa 0,VV.nl,VV.nl,AM ByteArray.empty,Aa 2,Aa 0]),[3]),(VV.nl,[]),(zf,[]),(zf,[]),(zf,[]),(zf,[]),(zf,[])],[(VV.nl,[]),(VV.nl,[]),(zf,[]),(zf,[]),(zf,[]),(zf,[]),(zf,[])],[(VV.sl true 1 9 λ(i:Nat)=>List.take 9 (List.drop (i*9) [Aa 3,Aa 6,Aa (-1),Aa 0,VV.nl,VV.nl,AM ByteArray.empty,Aa 1,Aa 0]),[4]),(VV.nl,[]),(zf,[]),(zf,[]),(zf,[]),(zf,[]),(zf,[])]]){l}(m:l=[[(VV.sl true 1 9 λ(i:Nat)=>List.take 9 (List.drop (i*9) [Aa 2,Aa 3,Aa 2,Aa 0,VV.nl,VV.nl,AM ByteArray.empty,Aa 1,Aa 0]),[1]),(VV.nl,[]),(zf,[]),(zf,[]),(zf,[]),(zf,[]),(zf,[])],[(VV.nl,[]),(VV.nl,[]),(zf,[]),(zf,[]),(zf,[]),(zf,[]),(zf,[])]]){f}(n:f=(λ(x:VV×List Nat)=>x.fst)){o}(p:o=(λ(r:List (VV×List Nat))=>List.flatMap (λ(x:VV×List Nat)=>x.snd) r)):(fc Dp AI f10 [] (.agg (Ae r))).goal (St.init [] [Ac b]) =
  (BB b (∃(y:D.Expr),VC 17 [Aa 1] (.agg (AG y))/\∃(a:D.Expr),VC 18 [] (.agg (AG a))/\∃(c:D.Expr),VC 18 [] (.agg (AG c))/\∃(d:D.Expr),VC 18 [] (.agg (AG d))/\∃(e:D.Expr),VC 17 [Aa 2] (.agg (AG e))/\LQ (.agg [.sl true 1 2 λ(i:Nat)=>List.take 2 (List.drop (i*2) [Aa 8,Ac false]),.sl true 1 1 λ(i:Nat)=>List.take 1 (List.drop (i*1) [Aa 0]),.nl,.nl,.sl true 1 10 λ(i:Nat)=>List.map f ([[(zs,[]),(z8,[]),(.nl,[]),(.nl,[]),(.sl true 3 7 λ(i:Nat)=>List.map f (j.getD i []),5::List.flatMap o j),(z8,[]),(Aa 1,[]),(Aa 2,[]),(Aa 1,[]),(Aa (-1),[])]].getD i []),Aa (-1),.sl true 7 12 λ(i:Nat)=>List.take 12 (g i y a c d e)]) (.agg (Ae r))) (∃(y:D.Expr),VC 17 [Aa 1] (.agg (AG y))/\∃(a:D.Expr),VC 18 [] (.agg (AG a))/\∃(c:D.Expr),VC 18 [] (.agg (AG c))/\∃(d:D.Expr),VC 18 [] (.agg (AG d))/\∃(e:D.Expr),VC 17 [Aa 2] (.agg (AG e))/\LQ (.agg [.sl true 1 2 λ(i:Nat)=>List.take 2 (List.drop (i*2) [Aa 8,Ac false]),.sl true 1 1 λ(i:Nat)=>List.take 1 (List.drop (i*1) [Aa 0]),.nl,.nl,.sl true 1 10 λ(i:Nat)=>List.map f ([[(zs,[]),(z8,[]),(.nl,[]),(.nl,[]),(.sl true 2 7 λ(i:Nat)=>List.map f (l.getD i []),2::List.flatMap o l),(z8,[]),(Aa 1,[]),(Aa 2,[]),(Aa 1,[]),(Aa (-1),[])]].getD i []),Aa (-1),.sl true 7 12 λ(i:Nat)=>List.take 12 (g i y a c d e)]) (.agg (Ae r)))):=by subst h k m n p;kernel_rfl
def AjV (b:Bool){e}(f:e=λ(y:D.Model)=>[VV.agg (Ae y),VV.agg [Aa 1,Ac false,Ac false,Ac false,Ac false,Aa 100,Aa 100]]):(fc Dp AI f5 [] (Ac b)).goal (St.init [] []) =
  (∃(y:D.Model),VC 10 [Ac false] (.agg (Ae y))/\∃(c:Fnd×Int),VC 7 (e y) (.tup [.agg (AD c.fst),Aa c.snd])/\∃(y:D.Model),VC 10 [Ac true] (.agg (Ae y))/\∃(a:Fnd×Int),VC 7 (e y) (.tup [.agg (AD a.fst),Aa a.snd])/\∃(y:D.Model),VC 10 [Ac true] (.agg (Ae y))/\∃(d:Fnd×Int),VC 7 [.agg (Ae y),.agg [Aa 1,Ac true,Ac false,Ac false,Ac false,Aa 100,Aa 100]] (.tup [.agg (AD d.fst),Aa d.snd])/\LQ (Ac (bif bif bif bif bif bif bif bif bif c.snd==0 then c.fst.Kind==1 else false then c.fst.Cycle==(-1:Int)else false then a.snd==0 else false then a.fst.Kind==2 else false then a.fst.What==1 else false then a.fst.Err==50 else false then d.snd==0 else false then d.fst.Kind==2 else false then(↑d.fst.Trail.length:Int)==3 else false)) (Ac b)):=by subst f;kernel_rfl
def AlA (r o:Op):(fc Dp AI f6 [] (.agg (Cy r))).goal (St.init [] [.agg (Cy o)]) =
  (BB (decide (o.States > 400)) (LQ (VV.agg [Aa o.Mode,Ac o.Bfs,Ac o.Reduce,Ac o.Fair,Ac o.Free,Aa 400,Aa o.Depth]) (VV.agg (Cy r))) (LQ (VV.agg (Cy o)) (VV.agg (Cy r)))):=kR
def Z5 (r m:D.Model)(b:Bool){a}(c:a=[AH true m.Globals,Ad true m.Init,AJ true m.Shapes,Ad true m.Chans,VV.sl true (m.Procs.length+1) 10 λ(i:Nat)=>bif i.blt m.Procs.length then AV (m.Procs.getD i default)else(λ(i:Nat)=>(List.map (λ(x:List VV×List Nat)=>x.fst) [([AM (⟨#[(110:UInt8),(101:UInt8),(118:UInt8),(101:UInt8),(114:UInt8)]⟩:ByteArray),Aa 0,VV.nl,VV.nl,VV.sl true 2 7 λ(i:Nat)=>List.map (λ(x:VV×List Nat)=>x.fst) ([[(VV.sl true 1 9 λ(i:Nat)=>List.take 9 (List.drop (i*9) [Aa 8,Aa (-1),Aa (-1),Aa 0,VV.nl,VV.nl,AM ByteArray.empty,Aa 0,Aa 0]),[4]),(VV.nl,[]),(zf,[]),(zf,[]),(zf,[]),(zf,[]),(zf,[])],[(VV.nl,[]),(VV.nl,[]),(zf,[]),(zf,[]),(zf,[]),(zf,[]),(zf,[])]].getD i []),Aa 0,Aa 1,Aa 0,Aa 1,Aa (-1)],List.flatMap (λ(x:VV×List Nat)=>x.snd) [(AM (⟨#[(110:UInt8),(101:UInt8),(118:UInt8),(101:UInt8),(114:UInt8)]⟩:ByteArray),[]),(z8,[]),(VV.nl,[]),(VV.nl,[]),(VV.sl true 2 7 λ(i:Nat)=>List.map (λ(x:VV×List Nat)=>x.fst) ([[(VV.sl true 1 9 λ(i:Nat)=>List.take 9 (List.drop (i*9) [Aa 8,Aa (-1),Aa (-1),Aa 0,VV.nl,VV.nl,AM ByteArray.empty,Aa 0,Aa 0]),[4]),(VV.nl,[]),(zf,[]),(zf,[]),(zf,[]),(zf,[]),(zf,[])],[(VV.nl,[]),(VV.nl,[]),(zf,[]),(zf,[]),(zf,[]),(zf,[]),(zf,[])]].getD i []),5::List.flatMap (λ(r:List (VV×List Nat))=>List.flatMap (λ(x:VV×List Nat)=>x.snd) r) [[(VV.sl true 1 9 λ(i:Nat)=>List.take 9 (List.drop (i*9) [Aa 8,Aa (-1),Aa (-1),Aa 0,VV.nl,VV.nl,AM ByteArray.empty,Aa 0,Aa 0]),[4]),(VV.nl,[]),(zf,[]),(zf,[]),(zf,[]),(zf,[]),(zf,[])],[(VV.nl,[]),(VV.nl,[]),(zf,[]),(zf,[]),(zf,[]),(zf,[]),(zf,[])]]),(z8,[]),(Aa 1,[]),(z8,[]),(Aa 1,[]),(Aa (-1),[])])]).getD i []) (i-m.Procs.length),Aa (↑m.Procs.length:Int),AS true m.Exprs]):(fc Aia AI f8 [] (.agg (Ae r))).goal (St.init [] [.agg (Ae m),Ac b]) =
  (m.Procs.length*136<=140737488355328/\(∀(i:Nat),i<m.Procs.length->((λ(i:Nat)=>AV (m.Procs.getD i default)) i).all VV.mem1=true)/\BB b (inX (0:Int) 2/\False/\(m.Procs.length+1)*136<=140737488355328/\LQ (.agg a) (.agg (Ae r))) ((m.Procs.length+1)*136<=140737488355328/\LQ (.agg a) (.agg (Ae r)))):=by subst c;kernel_rfl
def Ae2 (b:Bool)(m:D.Model)(o:Op){f}(g:f=λ(a:Op)=>[Aa a.Mode,Ac a.Bfs,Ac false,Ac a.Fair,Ac a.Free,Aa a.States,Aa a.Depth]):(fc Aia AI f3 [] (Ac b)).goal (St.init [] [.agg (Ae m),.agg (Cy o)]) =
  (∃(y:Bool),VC 5 [] (Ac y)/\∃(a:Op),VC 6 [.agg (Cy o)] (.agg (Cy a))/\∃(c:Fnd×Int),VC 7 [.agg (Ae m),.agg (f a)] (.tup [.agg (AD c.fst),Aa c.snd])/\BB (bif bif c.snd != 0 then true else decide (m.Claim>=0)then true else decide ((↑m.Procs.length:Int)>=16)) (LQ (Ac y) (Ac b)) (∃(e:D.Model),VC 8 [.agg (Ae m),Ac false] (.agg (Ae e))/\∃(d:Fnd×Int),VC 7 [.agg (Ae e),.agg (f a)] (.tup [.agg (AD d.fst),Aa d.snd])/\BB (d.snd != 0) (LQ (Ac false) (Ac b)) (BB (bif c.fst.Kind==3 then true else d.fst.Kind==3) (LQ (Ac y) (Ac b)) (LQ (Ac (bif bif bif bif y then c.fst.Kind==d.fst.Kind else false then c.fst.What==d.fst.What else false then c.fst.Err==d.fst.Err else false then(↑c.fst.Trail.length:Int)==(↑d.fst.Trail.length:Int)else false)) (Ac b))))):=by subst g;kernel_rfl
end Go.Proofs.YtddhibmbpmcnpaaGreatDoor
namespace Go.Proofs.YtddhibmbpmcnpaaGreatDoor
open Go.RowKit Go.Proofs.Tryz
open IntKind(i64)
def AfH (n:Int):D.Expr:=⟨1,n,-1,-1,-1,⟨0,0,0,0,[]⟩,[],[]⟩
def Pv:D.Expr:=⟨2,0,-1,-1,-1,⟨0,0,-1,-1,[]⟩,[],[]⟩
def frL (k a b to:Int):D.Loc:=⟨[⟨⟨k,a,b,0,[],[],ByteArray.empty⟩,to,0⟩],[],false,false,false,false,false⟩
def frN:D.Loc:=⟨[],[],false,false,false,false,false⟩
def frP (l:List D.Loc):D.Proc:=⟨ByteArray.empty,0,[],[],l,0,1,2,1,-1⟩
def frX:List D.Expr:=[AfH 1,Pv,⟨9,0,1,0,-1,⟨0,0,0,0,[]⟩,[],[]⟩,Pv,Pv,AfH 2,⟨13,0,4,5,-1,⟨0,0,0,0,[]⟩,[],[]⟩]
def frM (b:Bool):D.Model:=⟨[⟨8,false⟩],[0],[],[],[frP (bif b then[frL 2 3 2 2,frN,frL 3 6 (-1) 1]else[frL 2 3 2 1,frN])],-1,frX⟩
def frO (b:Bool):Op:=⟨1,b,false,false,false,100,100⟩
def ArY:((C3 (frM false) (frO false)).2=0/\(C3 (frM false) (frO false)).1.Kind=1)/\(C3 (frM false) (frO false)).1.Cycle=-1:=by decide +kernel
def ArX:((C3 (frM true) (frO false)).2=0/\(C3 (frM true) (frO false)).1.Kind=2)/\(C3 (frM true) (frO false)).1.What=1/\(C3 (frM true) (frO false)).1.Err=50:=by decide +kernel
def ArW:((C3 (frM true) (frO true)).2=0/\(C3 (frM true) (frO true)).1.Kind=2)/\(C3 (frM true) (frO true)).1.Trail.length=3:=by decide +kernel
def FC {α:Type}{P:α->Prop}:([]:List α).length<=1048576/\∀y∈([]:List α),P y:=⟨Ar9 _,λ_ a=>absurd a List.not_mem_nil⟩
def ZB {k a b to:Int}(h1:Ev.wInt .i64 k)(h2:Ev.wInt .i64 a)(h3:Ev.wInt .i64 b)(h4:Ev.wInt .i64 to):GV (frL k a b to):=by
 refine⟨⟨by simp[frL],λy c=>?_⟩,FC,trivial,trivial,trivial,trivial,trivial⟩;obtain rfl:=Asp.1 c;exact⟨⟨h1,h2,h3,rfl,FC,FC,Ar9 _⟩,h4,rfl⟩
def Ahk:GV frN:=⟨FC,FC,trivial,trivial,trivial,trivial,trivial⟩
def ArI {x:D.Expr}(h1:Ev.wInt .i64 x.Op)(h2:Ev.wInt .i64 x.N)(h3:Ev.wInt .i64 x.A)(h4:Ev.wInt .i64 x.B)(h5:Ev.wInt .i64 x.C)(h6:Kd x.V)(h7:x.Args=[])(a:x.Match=[]):Lg x:=⟨h1,h2,h3,h4,h5,h6,by rw[h7];exact FC,by rw[a];exact FC⟩
def Aoy:∀x∈frX,Lg x:=λx a=>by
 simp only[frX,AsN,List.mem_nil_iff,or_false]at a;rcases a with rfl|rfl|rfl|rfl|rfl|rfl|rfl<;>exact ArI rfl rfl rfl rfl rfl ⟨rfl,rfl,rfl,rfl,FC⟩ rfl rfl
def Aoz {l:List D.Loc}(h:l.length<=1048576/\∀y∈l,GV y):Hk (frP l):=⟨Ar9 _,rfl,FC,FC,h,rfl,rfl,rfl,rfl,rfl⟩
def ZA {b:Bool}:AF (frM b):=by
 refine⟨⟨by simp[frM],λy a=>?_⟩,⟨by simp[frM],λy a=>?_⟩,FC,FC,⟨by simp[frM],λy a=>?_⟩,rfl,⟨by simp[frM,frX],Aoy⟩⟩
 .obtain rfl:=Asp.1 a;exact⟨rfl,trivial⟩
 .obtain rfl:=Asp.1 a;exact rfl
 .obtain rfl:=Asp.1 a;refine Aoz ?_;cases b with
  | true =>
   refine⟨sM,λy a=>?_⟩;simp only[Ar3,AsN,List.mem_nil_iff,or_false]at a;rcases a with rfl|rfl|rfl
   .exact ZB rfl rfl rfl rfl
   .exact Ahk
   .exact ZB rfl rfl rfl rfl
  | false =>
   refine⟨sM,λy a=>?_⟩;simp only[Ar1,AsN,List.mem_nil_iff,or_false]at a;rcases a with rfl|rfl
   .exact ZB rfl rfl rfl rfl
   .exact Ahk
def FZ (o:Op):Op:=bif decide (o.States > 400)then{o with States:=400}else o
def AbF (r:ByteArray×Int)(m:D.Model)(s:D.State):(fc Dp AI f50 [] (.tup [AM r.1,Aa r.2])).goal (St.init [] [.agg (Ae m),.agg (Ag s)]) =
  (∃(y:Int),VC 74 [VV.agg (Ae m),VV.agg (Ag s)] (Aa y)/\BB (y != 0) (LQ (VV.tup [AM (⟨#[]⟩:ByteArray),Aa y]) (VV.tup [AM r.fst,Aa r.snd])) (∃(y:ByteArray),VC 75 [VV.agg (Ag s)] (AM y)/\LQ (VV.tup [AM y,Aa 0]) (VV.tup [AM r.fst,Aa r.snd]))):=kR
def Ags (b:Bool)(e:Int)(m:D.Model)(s:D.State):(fc Dp AI f51 [] (.tup [Ac b,Aa e])).goal (St.init [] [.agg (Ae m),.agg (Ag s)]) =
  (∃(y:Int),VC 74 [VV.agg (Ae m),VV.agg (Ag s)] (Aa y)/\BB (y != 0) (LQ (VV.tup [Ac false,Aa y]) (VV.tup [Ac b,Aa e])) (((true&&decide (m.Claim>=0)==true)=true->inX m.Claim m.Procs.length)/\LQ (VV.tup [Ac (bif decide (m.Claim>=0)then s.Claim==(m.Procs.getD m.Claim.toNat default).Final else false),Aa 0]) (VV.tup [Ac b,Aa e]))):=kR
def AhA (t:ByteArray)(m:D.Model)(o:Op)(c:Sn)(sl:List Nat)(n:Int)(s:D.State):(fc Dp AI f25 [] (AM t)).goal (St.init [] [.tp (BM m o c sl n),.agg (Ag s)]) =
  (∃(y:ByteArray×Int),VC 50 [VV.agg (Ae m),VV.agg (Ag s)] (VV.tup [AM y.fst,Aa y.snd])/\LQ (AM y.fst) (AM t)):=kR
def AdV (r:Int)(m:D.Model)(o:Op)(c:Sn)(sl:List Nat)(n:Int)(s:D.State):(fc Dp AI f26 [] (Aa r)).goal (St.init [] [.tp (BM m o c sl n),.agg (Ag s)]) =
  (∃(y:Bool×Int),VC 51 [VV.agg (Ae m),VV.agg (Ag s)] (VV.tup (DQ y))/\BB y.fst (LQ (Aa 3) (Aa r)) (∃(y:Bool×Int),VC 52 [VV.agg (Ae m),VV.agg (Ag s)] (VV.tup (DQ y))/\BB (bif y.fst then !o.Free else false) (LQ (Aa 2) (Aa r)) (LQ (Aa 0) (Aa r)))):=kR
def AkE (r:Fnd)(m:D.Model)(o:Op)(c:Sn)(sl:List Nat)(n:Int)(k w e:Int)(t:List Mv):(fc Dp AI f27 [] (.agg (AD r))).goal (St.init [] [.tp (BM m o c sl n),Aa k,Aa w,Aa e,A3 true t]) =
  (∃(y:Int),VC 53 [VV.tp (Bl o.States c.ks c.bs sl)] (Aa y)/\LQ (VV.agg [Aa k,Aa w,Aa e,Aa 0,A3 true t,Aa (-1),Aa y,Aa n]) (VV.agg (AD r))):=kR
def Af0 (b:Bool)(w:List VV)(l:List Nx)(p:Int):(fc Dp AI f56 [] (Ac b)).goal (St.init [] [.tp w,AC false l,Aa p]) =
  (∃(y:Bool),VC 83 [AC false l,VV.fn (Fn.func (nat_lit 85)) [VV.tp [Aa p],VV.tp [VV.tp w]]] (Ac y)/\LQ (Ac y) (Ac b)):=kR
def Af1 (b:Bool)(m:D.Model)(o:Op)(c:Sn)(sl:List Nat)(n:Int)(x:Nx)(p:Int):(fc Dp AI f85 [] (Ac b)).goal (St.init [] [.agg (Bm x),.tp [Aa p],.tp [.tp (BM m o c sl n)]]) =
  (BB (x.Move.Pid != p) (LQ (Ac false) (Ac b)) (BB (x.Err != 0) (LQ (Ac true) (Ac b)) (∃(y:ByteArray),VC 25 [VV.tp (BM m o c sl n),VV.agg (Ag x.State)] (AM y)/\∃(a:Int×Bool),VC 30 [VV.tp (Bl o.States c.ks c.bs sl),AM y] (VV.tup [Aa a.fst,Ac a.snd])/\∃(y:Int),((true&&(!a.snd)==false&&(!o.Bfs)==true)=true->VC 86 [VV.tp (Bl o.States c.ks c.bs sl),Aa a.fst] (BJ y))/\LQ (Ac (bif !a.snd then true else bif !o.Bfs then IntKind.u64.wrap (↑(BitVec.ofInt IntKind.u64.bits y &&& BitVec.ofInt IntKind.u64.bits (1:Int)).toNat:Int)==0 else false)) (Ac b)))):=kR
def Z2 (r:List Nx)(m:D.Model)(o:Op)(c:Sn)(sl:List Nat)(n:Int)(s:D.State):(fc Dp ET f28 [] (AC true r)).goal (St.init [] [.tp (BM m o c sl n),.agg (Ag s)]) =
  (∃(y:List Nx×Int),VC 54 [VV.agg (Ae m),VV.agg (Ag s)] (VV.tup [AC true y.fst,Aa y.snd])/\BB (!o.Reduce) (LQ (AC true y.fst) (AC true r)) (AA (fc Dp ET f28 [] (AC true r)) [1,1,1] (An [(0,VV.tp (BM m o c sl n)),(3,VV.bp 0 0),(5,AC true y.fst)] [Ob.box (Ag s)]))):=kR
def Z3 (r:List Nx)(m:D.Model)(o:Op)(c:Sn)(sl:List Nat)(n:Int)(s:D.State):(fc Pi ET f28 [] (AC true r)).goal (St.init [] [.tp (BM m o c sl n),.agg (Ag s)]) =
  (∃(y:List Nx×Int),Ah prog 54 [] [VV.agg (Ae m),VV.agg (Ag s)] [Ob.arr true 0 y.fst.length 15 (Bj y.fst)] (VV.tup [VV.ow 0 0 y.fst.length,Aa y.snd])/\BB (!o.Reduce) (LQ (AC true y.fst) (AC true r)) (AA (fc Pi ET f28 [] (AC true r)) [1,1,1] (An [(0,VV.tp (BM m o c sl n)),(3,VV.bp 0 0),(5,VV.ow 1 0 y.fst.length)] [Ob.box (Ag s),Ob.arr true 0 y.fst.length 15 (Bj y.fst)]))):=kR
def W8 (r:List Nx)(m:D.Model)(o:Op)(c:Sn)(sl:List Nat)(n:Int)(s:D.State)(l:List Nx):((fc Pi ET f28 [] (AC true r)).cut [1,1,1]).goal (AqC (BM m o c sl n) s l) =
  (∃(y:List Int×Int),VC 55 [VV.agg (Ae m),VV.agg (Ag s),AC false l] (VV.tup [Ad true y.fst,Aa y.snd])/\AA ((fc Pi ET f28 [] (AC true r)).cut [1,1,1]) [1,0,1,0] (An [(0,VV.tp (BM m o c sl n)),(5,VV.ow 0 0 l.length),(37,Ad true y.fst),(38,Aa (↑y.fst.length:Int)),(39,Aa 0)] [Ob.arr true 0 l.length 15 (Bj l)])):=kR
def W0 (r:List Nx)(w:List VV)(l:List Nx)(ps:List Int)(k:Int)(J:St->Prop):((fc Pi ET f28 [] (AC true r)).loop [1,1,1,1,0,1,0] J).goal (AlR w l ps k) =
  (BB (decide (k<(↑ps.length:Int))) (inX k ps.length/\∃(y:Bool),VC 56 [VV.tp w,AC false l,Aa (ps.getD k.toNat 0)] (Ac y)/\BB y (∃(y:List Nx×Nat×Int),Ah prog 57 [Ob.arr true 0 l.length 15 (Bj l),Ob.box [Aa (ps.getD k.toNat 0)]] [VV.ow 0 0 l.length,VV.fn (Fn.func (nat_lit 58)) [VV.bp 1 0]] [Ob.arr true 0 y.snd.fst 15 (GZ y.fst),Ob.box [Aa y.snd.snd]] (VV.ow 0 0 y.fst.length)/\LQ (VV.sl true y.fst.length 15 (GZ y.fst)) (AC true r)) (J (An [(0,VV.tp w),(5,VV.ow 0 0 l.length),(37,Ad true ps),(38,Aa (↑ps.length:Int)),(39,Aa (i64.wrap (k+(1:Int))))] [Ob.arr true 0 l.length 15 (Bj l)]))) (LQ (AC true l) (AC true r))):=kR
def AhS (b:Bool)(x:Nx)(p:Int):(fc Dp AI f58 [] (Ac b)).goal (St.init [] [.agg (Bm x),.tp [Aa p]]) =
  (LQ (Ac (x.Move.Pid != p)) (Ac b)):=kR
def AnM (r:List Nx×Int)(m:D.Model)(s:D.State){a}(b:a=[Ob.arr true 0 r.fst.length 15 (Bj r.fst)]):(BR prog tb Pi Adn false f54 [.arr true 0 r.1.length 15 (Bj r.1)] (.tup [.ow 0 0 r.1.length,Aa r.2])).goal (St.init [] [.agg (Ae m),.agg (Ag s)]) =
  (∃(y:List Nx×Int),Ah prog 78 [] [.agg (Ae m),.agg (Ag s)] [.arr true 0 y.fst.length 15 (Bj y.fst)] (.tup [.ow 0 0 y.fst.length,Aa y.snd])/\BB (bif y.snd != 0 then true else decide (m.Claim<0)) (leO [.arr true 0 y.fst.length 15 (Bj y.fst)] a/\(VV.tup [.ow 0 0 y.fst.length,Aa y.snd]).le (.tup [.ow 0 0 r.fst.length,Aa r.snd])) (AA (BR prog tb Pi Adn false f54 a (.tup [.ow 0 0 r.fst.length,Aa r.snd])) [1,1,1] (An [] []))):=by subst b;kernel_rfl
def AfN (r:List Mv)(p:List Pf)(more:List Mv){a}(b:a=(↑p.length:Int)):(fc Dp OX f32 [] (A3 true r)).goal (St.init [] [LL false p,A3 false more]) =
  (((0:Int)<=(1:Int)/\(1:Int)<=a/\a<=a)/\AA (fc Dp OX f32 [] (A3 true r)) [1,1,0,1,0] (An [(1,A3 false more),(5,.nl),(9,.sl false (a-(1:Int)).toNat 10 λ(i:Nat)=>HB p (Int.toNat (1:Int)+i)),(10,Aa (↑(a-(1:Int)).toNat:Int)),(11,Aa 0)] [])):=by subst b;kernel_rfl
def Aa0 (r:List Mv)(p:List Pf)(more out:List Mv)(k:Int)(J:St->Prop):((fc Dp OX f32 [] (A3 true r)).loop [1,1,0,1,0] J).goal (AqE more out p k) =
  (BB (decide (k<(↑p.length:Int))) (inX k p.length/\(out.length+1)*56<=140737488355328/\J (An [(1,A3 false more),(5,VV.ow 0 0 (out.length+1)),(9,LL false p),(10,Aa (↑p.length:Int)),(11,Aa (i64.wrap (k+(1:Int))))] [Ob.arr true 0 (out.length+1) 7 λ(i:Nat)=>bif i.blt out.length then BG (out.getD i default)else(λ(i:Nat)=>List.take 7 (List.drop (i*7) (BG (p.getD k.toNat default).by_))) (i-out.length)])) ((out.length+more.length)*56<=140737488355328/\(∀(i:Nat),i<more.length->(Cm more i).all VV.mem1=true)/\LQ (VV.sl true (out.length+more.length) 7 λ(i:Nat)=>bif i.blt out.length then Cm out i else Cm more (i-out.length)) (A3 true r))):=kR
def Ali (r:List Mv)(l:List Mt)(n:Int)(more:List Mv):(fc Dp Je f29 [] (A3 true r)).goal (St.init [] [JE false l,Aa n,A3 false more]) =
  (AA (fc Dp Je f29 [] (A3 true r)) [1,1,0,0] (An [(0,JE false l),(1,Aa n),(2,A3 false more),(7,VV.nl)] [])):=kR
def AgY (r:List Mv)(l:List Mt)(n:Int)(more out:List Mv)(J:St->Prop){a}(b:a=l.getD n.toNat default):((fc Dp Je f29 [] (A3 true r)).loop [1,1,0,0] J).goal (AqK l n more out) =
  (inX n l.length/\BB (decide (a.from_>=0)) (inX n l.length/\(out.length+1)*56<=140737488355328/\inX n l.length/\J (An [(0,JE false l),(1,Aa a.from_),(2,A3 false more),(7,.ow 0 0 (out.length+1))] [.arr true 0 (out.length+1) 7 λ(i:Nat)=>bif i.blt out.length then BG (out.getD i default)else(λ(i:Nat)=>List.take 7 (List.drop (i*7) (BG a.by_))) (i-out.length)])) (AA (fc Dp Je f29 [] (A3 true r)) [1,1,1] (AlY more out))):=by subst b;kernel_rfl
def AnL (hs':List Ob)(r:VV)(l:List Nx)(p:Int):(BR prog tb Tq LX false f57 hs' (r)).goal (St.init [.arr true 0 l.length 15 (Bj l),.box [Aa p]] [.ow 0 0 l.length,.fn (.func 58) [.bp 1 0]]) =
  (∃(y:Int),VC 87 [AC false l,VV.fn (Fn.func (nat_lit 58)) [VV.tp [Aa p]]] (Aa y)/\BB (y==(-1:Int)) (leO [Ob.arr true 0 l.length 15 (Bj l),Ob.box [Aa p]] hs'/\(VV.ow 0 0 l.length).le r) (AA (BR prog tb Tq LX false f57 hs' r) [1,1,1,0,1,0] (AhP l p y (i64.wrap (y+(1:Int)))))):=kR
def AkR (hs':List Ob)(r:VV)(l:List Nx)(p i j:Int)(J:St->Prop):((BR prog tb Tq LX false f57 hs' (r)).loop [1,1,1,0,1,0] J).goal (AhP l p i j) =
  (BB (decide (j<(↑l.length:Int))) (inX j l.length/\∃(y:Bool),VC 58 [VV.agg (Bm (l.getD j.toNat default)),VV.tp [Aa p]] (Ac y)/\BB (!y) (inX i l.length/\J (An [(0,VV.ow 0 0 l.length),(1,VV.fn (Fn.func (nat_lit 58)) [VV.bp 1 0]),(5,Aa (i64.wrap (i+(1:Int)))),(6,Aa (i64.wrap (j+(1:Int))))] [Ob.arr true 0 l.length 15 λ(j_1:Nat)=>bif j_1.beq i.toNat then Bm (l.getD j.toNat default)else Bm (l.getD j_1 default),Ob.box [Aa p]])) (J (AhP l p i (i64.wrap (j+(1:Int)))))) (AA (BR prog tb Tq LX false f57 hs' r) [1,1,1,1] (AoV l p i))):=kR
def Aan (r:Int)(m:D.Model)(o:Op):(fc Dp AI f11 [] (Aa r)).goal (St.init [] [.agg (Ae m),.agg (Cy o)]) =
  (∃(y:Int×Int×Int),VC 19 [VV.agg (Ae m)] (Mj y)/\BB (y.fst != 0) (LQ (Aa y.fst) (Aa r)) (BB (bif bif bif decide (o.States<1)then true else decide (o.States > 20000)then true else decide (o.Depth<1)then true else decide (o.Depth > 20000)) (LQ (Aa 42) (Aa r)) (BB (bif o.Mode != 1 then true else o.Fair) (LQ (Aa 44) (Aa r)) (BB o.Reduce (∃(y:Int),VC 20 [VV.agg (Ae m)] (Aa y)/\LQ (Aa y) (Aa r)) (LQ (Aa 0) (Aa r)))))):=kR
def AeQ (r:Fnd×Int)(m:D.Model)(o:Op){a}(d:a=VV.tup [VV.agg (AD r.fst),Aa r.snd]){b}(e:b=B1 (0:Int)):(fc Dp LW f7 [] (.tup [.agg (AD r.1),Aa r.2])).goal (St.init [] [.agg (Ae m),.agg (Cy o)]) =
  (∃(y:Int),VC 11 [.agg (Ae m),.agg (Cy o)] (Aa y)/\BB (y != 0) (LQ (.tup [.agg b,Aa y]) a) (∃(y:D.State×Int),VC 12 [.agg (Ae m)] (.tup [.agg (Ag y.fst),Aa y.snd])/\BB (y.snd != 0) (LQ (.tup [.agg b,Aa y.snd]) a) (∃(c:Int),Ah prog 13 [] [Aa o.States] (Ada c) (.tup [.bp 0 0,Aa 0])/\BB false (LQ (.tup [.agg b,Aa 0]) a) (AA (fc Dp LW f7 [] a) [1,1,1,1,1,1] (An [(2,.bp 0 0),(3,.bp 1 0),(4,.bp 2 0),(7,.bp 3 0),(9,.bp 4 0)] [.box (Ae m),.box (Cy o),.box b,.box (Ag y.fst),.box [Aa c,.nl,.nl,.ow 5 0 16],.arr true 0 16 1 λ(_:Nat)=>[Aa 0]]))))):=by subst d e;kernel_rfl
def Aak (r:Fnd×Int)(m:D.Model)(o:Op)(s:D.State){a}(b:a=[Ob.box (EA m o (0:Int)),Ob.box [Aa o.States,VV.ow 2 0 0,VV.ow 3 0 0,VV.ow 4 0 16],Ob.arr true 0 0 1 (Ct []),Ob.arr true 0 0 1 (Dw []),Ob.arr true 0 16 1 (Cf (List.replicate 16 0))]){c}(d:c=VV.tup [VV.agg (AD r.fst),Aa r.snd]):((fc Dp LW f7 [] (.tup [.agg (AD r.1),Aa r.2])).cut [1,1,1,1,1,1]).goal (ArO m o s) =
  (BB o.Bfs (∃(y:Fnd),Ah prog 14 a [.bp 0 0,.agg (Ag s)] (L8 y.N) (.agg (AD y))/\LQ (.tup [.agg (AD y),Aa 0]) c) (∃(y:Fnd),Ah prog 15 a [.bp 0 0,.agg (Ag s)] (L8 y.N) (.agg (AD y))/\LQ (.tup [.agg (AD y),Aa 0]) c)):=by subst b d;kernel_rfl
def AnK (hs':List Ob)(r:Fnd)(m:D.Model)(o:Op)(c:Sn)(sl:List Nat)(n:Int)(s:D.State):(fc Dp Hq f15 hs' (.agg (AD r))).goal (St.init (J5 m o c sl n) [.bp 0 0,.agg (Ag s)]) =
  (AA (fc Dp Hq f15 hs' (VV.agg (AD r))) [1] (An [(0,VV.bp 0 0),(3,VV.bp 5 0),(4,VV.bp 6 0),(5,VV.dead),(6,VV.dead)] [Ob.box (EA m o n),Ob.box (NS o.States c sl),Ob.arr true 0 c.ks.length 1 (Ct c.ks),Ob.arr true 0 c.bs.length 1 (Dw c.bs),Ob.arr true 0 sl.length 1 (Cf sl),Ob.box (Ag s),Ob.box (B1 (0:Int))])):=kR
def AkM (hs':List Ob)(r:Fnd)(m:D.Model)(o:Op)(c:Sn)(sl:List Nat)(n:Int)(s:D.State)(J:Nat->St->Prop):((fc Dp Hq f15 hs' (.agg (AD r))).firsts [1] J).goal (An [(0,.bp 0 0),(3,.bp 5 0),(4,.bp 6 0),(5,.dead),(6,.dead)] (J5 m o c sl n++[.box (Ag s),.box (B1 0)])) =
  (AA ((fc Dp Hq f15 hs' (VV.agg (AD r))).firsts [1] J) [1,1] (An [(0,VV.bp 0 0),(3,VV.bp 5 0),(4,VV.bp 6 0),(5,VV.nl),(6,VV.bp 7 0)] [Ob.box (EA m o n),Ob.box (NS o.States c sl),Ob.arr true 0 c.ks.length 1 (Ct c.ks),Ob.arr true 0 c.bs.length 1 (Dw c.bs),Ob.arr true 0 sl.length 1 (Cf sl),Ob.box (Ag s),Ob.box (B1 (0:Int)),Ob.box [Aa 0,Aa 0,Aa 0,Aa 0,Aa 0,Aa 0,Aa 0]])):=kR
def AkN (hs':List Ob)(r:Fnd)(m:D.Model)(o:Op)(c:Sn)(sl:List Nat)(n:Int)(s:D.State)(q:List Pf)(k:Nat)(v:Mv)(J:Nat->St->Prop){l}(p:l=λ(a:So×Int×Bool×Int)=>λ(i:Nat)=>bif i.blt k then EB (q.getD i default)else(λ(i:Nat)=>List.take 10 (List.drop (i*10) (Aa a.snd.fst::VV.nl::Aa 0::BG v))) (i-k)){t}(u:t=λ(a:So×Int×Bool×Int)=>[Ob.box (EA m o n),Ob.box [Aa a.fst.most,VV.ow 2 0 a.fst.ks.length,VV.ow 3 0 a.fst.bs.length,VV.ow 4 0 a.fst.sl.length],Ob.arr true 0 a.fst.ks.length 1 (Ct a.fst.ks),Ob.arr true 0 a.fst.bs.length 1 (Dw a.fst.bs),Ob.arr true 0 a.fst.sl.length 1 (Cf a.fst.sl)]){f}(w:f=i64.wrap ((↑(k+1):Int)-(1:Int))){g}(x:g=VV.agg (AD r)){z}(A:z=(fc Dp Hq f15 hs' g).passes [1] 0 J){e}(B:e=Ag s):((fc Dp Hq f15 hs' (.agg (AD r))).passes [1] 0 J).goal (Z0 m o c sl n s q k v) =
  (∃(y:ByteArray),VC 25 [.tp (BM m o c sl n),.agg e] (AM y)/\∃(a:So×Int×Bool×Int),Ah prog 24 (CK o.States c.ks c.bs sl) [.bp 0 0,AM y] (CK a.fst.most a.fst.ks a.fst.bs a.fst.sl) (.tup (Aa a.snd.fst::DQ a.snd.snd))/\BB (bif a.snd.snd.snd != 0 then true else bif a.snd.snd.fst then(↑k:Int)==o.Depth else false) (∃(y:Fnd),VC 27 [.tp (AH true m.Globals::Ad true m.Init::AJ true m.Shapes::Ad true m.Chans::AE true m.Procs::Aa m.Claim::AS true m.Exprs::Aa o.Mode::Ac o.Bfs::Ac o.Reduce::Ac o.Fair::Ac o.Free::Aa o.States::Aa o.Depth::.tp (Bl a.fst.most a.fst.ks a.fst.bs a.fst.sl)::B1 n),Aa 3,Aa 0,Aa 0,.nl] (.agg (AD y))/\BB (a.snd.snd.snd==0) (leO (t a) hs'/\(VV.agg [Aa y.Kind,Aa y.What,Aa y.Err,Aa 0,A3 true y.Trail,Aa y.Cycle,Aa (i64.wrap (y.States-(1:Int))),Aa y.Steps]).le g) (leO (t a) hs'/\(VV.agg (AD y)).le g)) (BB a.snd.snd.fst (∃(y:So×Int),Ah prog 31 (CK a.fst.most a.fst.ks a.fst.bs a.fst.sl) [.bp 0 0,Aa a.snd.fst,BJ (1:Int)] (CK y.fst.most y.fst.ks y.fst.bs y.fst.sl) (Aa y.snd)/\(k+1)*96<=140737488355328/\∃(d:Int),VC 26 [.tp (AH true m.Globals::Ad true m.Init::AJ true m.Shapes::Ad true m.Chans::AE true m.Procs::Aa m.Claim::AS true m.Exprs::Aa o.Mode::Ac o.Bfs::Ac o.Reduce::Ac o.Fair::Ac o.Free::Aa o.States::Aa o.Depth::.tp (Bl y.fst.most y.fst.ks y.fst.bs y.fst.sl)::B1 n),.agg e] (Aa d)/\BB (decide (d > 0)) (∃(b:List Mv),VC 32 [.sl false (k+1) 10 λ(i:Nat)=>bif i.blt k then EB (q.getD i default)else(λ(i:Nat)=>List.take 10 (List.drop (i*10) (Aa a.snd.fst::.nl::Aa 0::BG v))) (i-k),.nl] (A3 true b)/\∃(h:Fnd),VC 27 [.tp (AH true m.Globals::Ad true m.Init::AJ true m.Shapes::Ad true m.Chans::AE true m.Procs::Aa m.Claim::AS true m.Exprs::Aa o.Mode::Ac o.Bfs::Ac o.Reduce::Ac o.Fair::Ac o.Free::Aa o.States::Aa o.Depth::.tp (Bl y.fst.most y.fst.ks y.fst.bs y.fst.sl)::B1 n),Aa 2,Aa d,Aa 0,A3 true b] (.agg (AD h))/\leO [.box (EA m o n),.box [Aa y.fst.most,.ow 2 0 y.fst.ks.length,.ow 3 0 y.fst.bs.length,.ow 4 0 y.fst.sl.length],.arr true 0 y.fst.ks.length 1 (Ct y.fst.ks),.arr true 0 y.fst.bs.length 1 (Dw y.fst.bs),.arr true 0 y.fst.sl.length 1 (Cf y.fst.sl)] hs'/\(VV.agg (AD h)).le g) (∃(b:List Nx),VC 28 [.tp (AH true m.Globals::Ad true m.Init::AJ true m.Shapes::Ad true m.Chans::AE true m.Procs::Aa m.Claim::AS true m.Exprs::Aa o.Mode::Ac o.Bfs::Ac o.Reduce::Ac o.Fair::Ac o.Free::Aa o.States::Aa o.Depth::.tp (Bl y.fst.most y.fst.ks y.fst.bs y.fst.sl)::B1 n),.agg e] (AC true b)/\inX f (k+1)/\AA z [1,1,1,1] (An [(0,.bp 0 0),(3,.bp 5 0),(4,.bp 6 0),(5,.ow 7 0 (k+1)),(6,.bp 8 0)] [.box (EA m o n),.box [Aa y.fst.most,.ow 2 0 y.fst.ks.length,.ow 3 0 y.fst.bs.length,.ow 4 0 y.fst.sl.length],.arr true 0 y.fst.ks.length 1 (Ct y.fst.ks),.arr true 0 y.fst.bs.length 1 (Dw y.fst.bs),.arr true 0 y.fst.sl.length 1 (Cf y.fst.sl),.box e,.box (B1 (0:Int)),.arr true 0 (k+1) 10 λ(j:Nat)=>bif j.beq f.toNat then bif Nat.beq 1 10 then[AC true b]else List.take 1 ((l a) f.toNat)++[AC true b]++List.drop 2 ((l a) f.toNat)else(l a) j,.box (BG v)]))) (AA z [1,1,1,1] (An [(0,.bp 0 0),(3,.bp 5 0),(4,.bp 6 0),(5,.ow 7 0 k),(6,.bp 8 0)] [.box (EA m o n),.box [Aa a.fst.most,.ow 2 0 a.fst.ks.length,.ow 3 0 a.fst.bs.length,.ow 4 0 a.fst.sl.length],.arr true 0 a.fst.ks.length 1 (Ct a.fst.ks),.arr true 0 a.fst.bs.length 1 (Dw a.fst.bs),.arr true 0 a.fst.sl.length 1 (Cf a.fst.sl),.box e,.box (B1 (0:Int)),.arr true 0 q.length 10 (HB q),.box (BG v)])))):=by subst p u w x A B;kernel_rfl
def YG (hs':List Ob)(r:Fnd)(m:D.Model)(o:Op)(c:Sn)(sl:List Nat)(n:Int)(s:D.State)(q:List Pf)(k:Nat)(v:Mv)(J:Nat->St->Prop){a}(g:a=q.getD (i64.wrap ((↑k:Int)-(1:Int))).toNat default){b}(h:b=a.list.getD (↑a.at_:Int).toNat default){d}(l:d=i64.wrap ((↑k:Int)-(1:Int))){f}(p:f=i64.wrap (n+(1:Int))){t}(u:t=i64.wrap ((↑a.at_:Int)+(1:Int))):((fc Dp Hq f15 hs' (.agg (AD r))).passes [1] 1 J).goal (Z0 m o c sl n s q k v) =
  (BB ((↑k:Int)==0) (∃(y:Fnd),VC 27 [.tp (BM m o c sl n),Aa 1,Aa 0,Aa 0,.nl] (.agg (AD y))/\leO (J5 m o c sl n) hs'/\(VV.agg (AD y)).le (.agg (AD r))) (inX d k/\BB ((↑a.at_:Int)==(↑a.list.length:Int)) (∃(y:So×Int),Ah prog 33 (CK o.States c.ks c.bs sl) [.bp 0 0,Aa (↑a.n:Int),BJ (1:Int)] (CK y.fst.most y.fst.ks y.fst.bs y.fst.sl) (Aa y.snd)/\((0:Int)<=i64.wrap ((↑k:Int)-(1:Int))/\i64.wrap ((↑k:Int)-(1:Int))<=(↑k:Int))/\J 1 (An [(0,.bp 0 0),(3,.bp 5 0),(4,.bp 6 0),(5,.ow 7 0 d.toNat),(6,.bp 8 0)] [.box (EA m o n),.box [Aa y.fst.most,.ow 2 0 y.fst.ks.length,.ow 3 0 y.fst.bs.length,.ow 4 0 y.fst.sl.length],.arr true 0 y.fst.ks.length 1 (Ct y.fst.ks),.arr true 0 y.fst.bs.length 1 (Dw y.fst.bs),.arr true 0 y.fst.sl.length 1 (Cf y.fst.sl),.box (Ag s),.box (B1 (0:Int)),.arr true 0 q.length 10 (HB q),.box (BG v)])) (inX (↑a.at_:Int) a.list.length/\BB (b.Err != 0) (∃(y:List Mv),VC 32 [.sl false k 10 λ(j:Nat)=>bif j.beq d.toNat then Aa (↑a.n:Int)::AC true a.list::Aa t::BG a.by_ else EB (q.getD j default),.sl false 1 7 λ(i:Nat)=>List.take 7 (List.drop (i*7) (BG b.Move))] (A3 true y)/\∃(e:Fnd),VC 27 [.tp (BM m o c sl f),Aa 2,Aa 1,Aa b.Err,A3 true y] (.agg (AD e))/\leO (J5 m o c sl f) hs'/\(VV.agg (AD e)).le (.agg (AD r))) (J 0 (An [(0,.bp 0 0),(3,.bp 5 0),(4,.bp 6 0),(5,.ow 7 0 k),(6,.bp 8 0)] [.box (EA m o f),.box (NS o.States c sl),.arr true 0 c.ks.length 1 (Ct c.ks),.arr true 0 c.bs.length 1 (Dw c.bs),.arr true 0 sl.length 1 (Cf sl),.box (Ag b.State),.box (B1 (0:Int)),.arr true 0 q.length 10 λ(j:Nat)=>bif j.beq d.toNat then Aa (↑a.n:Int)::AC true a.list::Aa t::BG a.by_ else EB (q.getD j default),.box (BG b.Move)]))))):=by subst g h l p u;kernel_rfl
def AnS (hs':List Ob)(r:Fnd)(m:D.Model)(o:Op)(c:Sn)(sl:List Nat)(n:Int)(s:D.State){d}(e:d=λ(a:So×Int×Bool×Int)=>AH true m.Globals::Ad true m.Init::AJ true m.Shapes::Ad true m.Chans::AE true m.Procs::Aa m.Claim::AS true m.Exprs::Aa o.Mode::Ac o.Bfs::Ac o.Reduce::Ac o.Fair::Ac o.Free::Aa o.States::Aa o.Depth::VV.tp (Bl a.fst.most a.fst.ks a.fst.bs a.fst.sl)::B1 n){f}(g:f=λ(a:So×Int×Bool×Int)=>[Aa a.fst.most,VV.ow 2 0 a.fst.ks.length,VV.ow 3 0 a.fst.bs.length,VV.ow 4 0 a.fst.sl.length]):(fc Dp LY f14 hs' (.agg (AD r))).goal (St.init (J5 m o c sl n) [.bp 0 0,.agg (Ag s)]) =
  (∃(y:ByteArray),VC 25 [.tp (BM m o c sl n),.agg (Ag s)] (AM y)/\∃(a:So×Int×Bool×Int),Ah prog 24 (CK o.States c.ks c.bs sl) [.bp 0 0,AM y] (CK a.fst.most a.fst.ks a.fst.bs a.fst.sl) (.tup (Aa a.snd.fst::DQ a.snd.snd))/\∃(y:Int),VC 26 [.tp (d a),.agg (Ag s)] (Aa y)/\BB (decide (y > 0)) (∃(b:Fnd),VC 27 [.tp (d a),Aa 2,Aa y,Aa 0,.nl] (.agg (AD b))/\leO [.box (EA m o n),.box (f a),.arr true 0 a.fst.ks.length 1 (Ct a.fst.ks),.arr true 0 a.fst.bs.length 1 (Dw a.fst.bs),.arr true 0 a.fst.sl.length 1 (Cf a.fst.sl)] hs'/\(VV.agg (AD b)).le (.agg (AD r))) (AA (fc Dp LY f14 hs' (.agg (AD r))) [1,1,1,1,0,1,0] (An [(0,.bp 0 0),(4,.bp 5 0),(5,.ow 6 0 1),(7,Aa 0)] [.box (EA m o n),.box (f a),.arr true 0 a.fst.ks.length 1 (Ct a.fst.ks),.arr true 0 a.fst.bs.length 1 (Dw a.fst.bs),.arr true 0 a.fst.sl.length 1 (Cf a.fst.sl),.box (B1 (0:Int)),.arr true 0 1 15 λ(i:Nat)=>List.take 15 (List.drop (i*15) [Ad true s.Globals,AL true s.Chans,Av true s.Procs,Aa s.Last,Aa s.Alone,Aa s.Claim,Aa (-1),Aa 0,Aa 0,Aa 0,Aa 0,Aa 0,Aa 0,Aa 0,Aa 0])]))):=by subst e g;kernel_rfl
def Alf (hs':List Ob)(r:Fnd)(m:D.Model)(o:Op)(c:Sn)(sl:List Nat)(n:Int)(q:List Mt)(k:Int)(J:St->Prop):((fc Dp LY f14 hs' (.agg (AD r))).loop [1,1,1,1,0,1,0] J).goal (AlX m o c sl n q k) =
  (BB (decide (k<(↑q.length:Int))) (inX k q.length/\∃(y:List Nx),VC 28 [VV.tp (BM m o c sl n),VV.agg (Ag (q.getD k.toNat default).s)] (AC true y)/\AA ((fc Dp LY f14 hs' (VV.agg (AD r))).loop [1,1,1,1,0,1,0] J) [1,0,0,1,0] (Z1 m o c sl n q k y (0:Int))) (∃(y:Fnd),VC 27 [VV.tp (BM m o c sl n),Aa 1,Aa 0,Aa 0,VV.nl] (VV.agg (AD y))/\leO (J5 m o c sl n) hs'/\(VV.agg (AD y)).le (VV.agg (AD r)))):=kR
def Ale (hs':List Ob)(r:Fnd)(m:D.Model)(o:Op)(c:Sn)(sl:List Nat)(n:Int)(q:List Mt)(k:Int)(l:List Nx)(j:Int)(J J2:St->Prop){s}(t:s=λ(a:So×Int×Bool×Int)=>AH true m.Globals::Ad true m.Init::AJ true m.Shapes::Ad true m.Chans::AE true m.Procs::Aa m.Claim::AS true m.Exprs::Aa o.Mode::Ac o.Bfs::Ac o.Reduce::Ac o.Fair::Ac o.Free::Aa o.States::Aa o.Depth::VV.tp (Bl a.fst.most a.fst.ks a.fst.bs a.fst.sl)::B1 (i64.wrap (n+(1:Int)))){u}(v:u=(λ(i:Nat)=>List.take 15 (List.drop (i*15) [Ad true (l.getD j.toNat default).State.Globals,AL true (l.getD j.toNat default).State.Chans,Av true (l.getD j.toNat default).State.Procs,Aa (l.getD j.toNat default).State.Last,Aa (l.getD j.toNat default).State.Alone,Aa (l.getD j.toNat default).State.Claim,Aa k,Aa (l.getD j.toNat default).Move.Pid,Aa (l.getD j.toNat default).Move.Esc,Aa (l.getD j.toNat default).Move.Way,Aa (l.getD j.toNat default).Move.With,Aa (l.getD j.toNat default).Move.WithEsc,Aa (l.getD j.toNat default).Move.WithWay,Aa (l.getD j.toNat default).Move.Claim,Aa (i64.wrap ((q.getD k.toNat default).deep+(1:Int)))]))){w}(x:w=λ(a:So×Int×Bool×Int)=>[Ob.box (EA m o (i64.wrap (n+(1:Int)))),Ob.box [Aa a.fst.most,VV.ow 2 0 a.fst.ks.length,VV.ow 3 0 a.fst.bs.length,VV.ow 4 0 a.fst.sl.length],Ob.arr true 0 a.fst.ks.length 1 (Ct a.fst.ks),Ob.arr true 0 a.fst.bs.length 1 (Dw a.fst.bs),Ob.arr true 0 a.fst.sl.length 1 (Cf a.fst.sl)]){d}(z:d=i64.wrap (n+(1:Int))){e}(A:e=l.getD j.toNat default){g}(B:g=VV.agg (AD r)){f}(C:f=(q.length+1)):(((fc Dp LY f14 hs' (.agg (AD r))).loop [1,1,1,1,0,1,0] J).loop [1,0,0,1,0] J2).goal (Z1 m o c sl n q k l j) =
  (BB (decide (j<(↑l.length:Int))) (inX j l.length/\BB (e.Err != 0) (∃(y:List Mv),VC 29 [JE false q,Aa k,.sl false 1 7 λ(i:Nat)=>List.take 7 (List.drop (i*7) (BG e.Move))] (A3 true y)/\∃(b:Fnd),VC 27 [.tp (BM m o c sl d),Aa 2,Aa 1,Aa e.Err,A3 true y] (.agg (AD b))/\leO (J5 m o c sl d) hs'/\(VV.agg (AD b)).le g) (∃(y:ByteArray),VC 25 [.tp (BM m o c sl d),.agg (Ag e.State)] (AM y)/\∃(b:Int×Bool),VC 30 [.tp (Bl o.States c.ks c.bs sl),AM y] (.tup [Aa b.fst,Ac b.snd])/\BB b.snd (J2 (Z1 m o c sl d q k l (i64.wrap (j+(1:Int))))) (inX k q.length/\BB (decide (i64.wrap ((q.getD k.toNat default).deep+(1:Int))>=o.Depth)) (∃(y:Fnd),VC 27 [.tp (BM m o c sl d),Aa 3,Aa 0,Aa 0,.nl] (.agg (AD y))/\leO (J5 m o c sl d) hs'/\(VV.agg (AD y)).le g) (∃(a:So×Int×Bool×Int),Ah prog 24 (CK o.States c.ks c.bs sl) [.bp 0 0,AM y] (CK a.fst.most a.fst.ks a.fst.bs a.fst.sl) (.tup (Aa a.snd.fst::DQ a.snd.snd))/\BB (a.snd.snd.snd != 0) (∃(y:Fnd),VC 27 [.tp (s a),Aa 3,Aa 0,Aa 0,.nl] (.agg (AD y))/\leO (w a) hs'/\(VV.agg (AD y)).le g) (inX k q.length/\f*168<=140737488355328/\∃(y:Int),VC 26 [.tp (s a),.agg (Ag e.State)] (Aa y)/\BB (decide (y > 0)) (∃(h:List Mv),VC 29 [.sl false f 15 λ(i:Nat)=>bif i.blt q.length then IE (q.getD i default)else u (i-q.length),Aa (i64.wrap ((↑f:Int)-(1:Int))),.nl] (A3 true h)/\∃(p:Fnd),VC 27 [.tp (s a),Aa 2,Aa y,Aa 0,A3 true h] (.agg (AD p))/\leO (w a) hs'/\(VV.agg (AD p)).le g) (J2 (An [(0,.bp 0 0),(4,.bp 5 0),(5,.ow 6 0 f),(7,Aa k),(48,AC true l),(49,Aa (↑l.length:Int)),(50,Aa (i64.wrap (j+(1:Int))))] [.box (EA m o d),.box [Aa a.fst.most,.ow 2 0 a.fst.ks.length,.ow 3 0 a.fst.bs.length,.ow 4 0 a.fst.sl.length],.arr true 0 a.fst.ks.length 1 (Ct a.fst.ks),.arr true 0 a.fst.bs.length 1 (Dw a.fst.bs),.arr true 0 a.fst.sl.length 1 (Cf a.fst.sl),.box (B1 (0:Int)),.arr true 0 f 15 λ(i:Nat)=>bif i.blt q.length then IE (q.getD i default)else u (i-q.length)]))))))) (J (AlX m o c sl n q (i64.wrap (k+(1:Int)))))):=by subst t v x z A B C;kernel_rfl
def AlP (b:Bool)(r:Int)(m:D.Model)(s:D.State):(fc BT Hp f52 [] (.tup [Ac b,Aa r])).goal (St.init [] [.agg (Ae m),.agg (Ag s)]) =
  (∃(y:Int),VC 74 [VV.agg (Ae m),VV.agg (Ag s)] (Aa y)/\BB (y != 0) (LQ (VV.tup [Ac false,Aa y]) (VV.tup [Ac b,Aa r])) (∃(y:D.Model×D.State),Ah prog 76 [] [VV.agg (Ae m),VV.agg (Ag s)] [Ob.box (Ae y.fst),Ob.box (Ag y.snd)] (VV.fn (Fn.func (nat_lit 106)) [VV.bp 0 0,VV.bp 1 0])/\AA (fc BT Hp f52 [] (VV.tup [Ac b,Aa r])) [1,1,0,1] (An [(2,VV.bp 0 0),(3,VV.bp 1 0),(4,VV.bp 2 0),(5,VV.bp 3 0),(19,VV.fn (Fn.func (nat_lit 106)) [VV.bp 4 0,VV.bp 5 0])] [Ob.box (Ae m),Ob.box (Ag s),Ob.box [Ac false],Ob.box [Aa 0],Ob.box (Ae y.fst),Ob.box (Ag y.snd)]))):=kR
def WQ (b:Bool)(r:Int)(m:D.Model)(s:D.State)(e:D.Env)(w:Wy)(hs2:List Ob):((fc BT Hp f52 [] (.tup [Ac b,Aa r])).rg [1,1,0,1] 4 Ac6 hs2).goal (An ([(20,.agg (Ai e)),(21,.agg (Bf w))]++Ac6) (Yi m s)) =
  (LQ (VV.tup [Ac false,Aa 0]) (VV.tup [Ac b,Aa r])):=kR
def AhH (b:Bool)(r:Int)(m:D.Model)(s:D.State):((fc BT Hp f52 [] (.tup [Ac b,Aa r])).after [1,1,0,1]).goal (An Ac6 (Yi m s)) =
  (AA (fc BT Hp f52 [] (VV.tup [Ac b,Aa r])) [1,1,1,0,1,0] (Acn m s (0:Int))):=kR
def AhG (b:Bool)(r:Int)(m:D.Model)(s:D.State)(i:Int)(J:St->Prop){a}(c:a=s.Procs.getD i.toNat default):((fc BT Hp f52 [] (.tup [Ac b,Aa r])).loop [1,1,1,0,1,0] J).goal (Acn m s i) =
  (BB (decide (i<(↑s.Procs.length:Int))) (inX i s.Procs.length/\∃(y:D.Loc×Bool),VC 77 [.agg (Ae m),.agg (Ag s),Aa i] (.tup [.agg (AW y.fst),Ac y.snd])/\inX a.Type_ m.Procs.length/\BB (bif a.Loc != (m.Procs.getD a.Type_.toNat default).Final then !y.fst.End else false) (LQ (.tup [Ac true,Aa 0]) (.tup [Ac b,Aa r])) (J (Acn m s (i64.wrap (i+(1:Int)))))) (LQ (.tup [Ac false,Aa 0]) (.tup [Ac b,Aa r]))):=by subst c;kernel_rfl
def AiF (l:List Mv)(J:VV->VV->VV->Ob->Nat->Prop)(F:Ob->Nat->Prop):(Ctx.line (fc Dp VX f59 [] (.tup [])) [0] (Aom J F)).goal (St.init [.arr true 0 l.length 7 (Cm l)] [.ow 0 0 l.length]) =
  (J (VV.ow 0 0 l.length) (Aa 0) (Aa (i64.wrap ((↑l.length:Int)-(1:Int)))) (Ob.arr true 0 l.length 7 (Cm l)) 1):=kR
def AiE (l:List Mv)(i j:Int)(J:VV->VV->VV->Ob->Nat->Prop)(F:Ob->Nat->Prop):(Ctx.line (fc Dp VX f59 [] (.tup [])) [1,0,0] (Aom J F)).goal (AoQ l i j) =
  (BB (decide (i<j)) (inX j l.length/\inX i l.length/\inX i l.length/\inX j l.length/\J (VV.ow 0 0 l.length) (Aa (i64.wrap (i+(1:Int)))) (Aa (i64.wrap (j-(1:Int)))) (Ob.arr true 0 l.length 7 λ(j_1:Nat)=>bif j_1.beq j.toNat then BG (l.getD i.toNat default)else(λ(j_2:Nat)=>bif j_2.beq i.toNat then BG (l.getD j.toNat default)else BG (l.getD j_2 default)) j_1) 1) (F (Ob.arr true 0 l.length 7 (Cm l)) 1)):=kR
def AgX (r:List Mv)(more out:List Mv):((fc Dp Je f29 [] (A3 true r)).cut [1,1,1,1]).goal (AlY more out) =
  ((out.length+more.length)*56<=140737488355328/\(∀(i:Nat),i<more.length->(Cm more i).all VV.mem1=true)/\LQ (VV.sl true (out.length+more.length) 7 λ(i:Nat)=>bif i.blt out.length then Cm out i else Cm more (i-out.length)) (A3 true r)):=kR
def AkQ (hs':List Ob)(r:VV)(n:Nat)(l:List Nx)(p:Int):((BR prog tb Tq LX false f57 hs' (r)).cut [1,1,1,1,1]).goal (AoU n l p) =
  (((0:Int)<=(↑l.length:Int)/\(↑l.length:Int)<=(↑n:Int))/\leO [Ob.arr true 0 n 15 (GZ l),Ob.box [Aa p]] hs'/\(VV.ow 0 0 (↑l.length:Int).toNat).le r):=kR
end Go.Proofs.YtddhibmbpmcnpaaGreatDoor
namespace Go.Proofs.YtddhibmbpmcnpaaGreatDoor
open Go.RowKit Go.Proofs.Tryz
open IntKind(i64)
def Aib (r:D.State)(e:Int)(m:D.Model){a}(b:a=[VV.nl,VV.nl,VV.nl,Aa 0,Aa 0,Aa 0]):(fc BT GR f12 [] (.tup [.agg (Ag r),Aa e])).goal (St.init [] [.agg (Ae m)]) =
  (∃(y:Bool),VC 21 [.agg (Ae m)] (Ac y)/\BB (!y) (LQ (.tup [.agg a,Aa 40]) (.tup [.agg (Ag r),Aa e])) (∃(y:List Int),VC 22 [Ad true m.Init] (Ad true y)/\AA (fc BT GR f12 [] (.tup [.agg (Ag r),Aa e])) [1,1,1,0,1,0] (An [(1,.bp 0 0),(2,.bp 1 0),(4,.bp 2 0),(18,Ad true m.Chans),(19,Aa (↑m.Chans.length:Int)),(20,Aa 0)] [.box (Ae m),.box a,.box [Ad true y,.nl,.nl,Aa 0,Aa (-1),Aa (-1)]]))):=by subst b;kernel_rfl
def AmA (r:D.Loc×Bool)(m:D.Model)(s:D.State)(pid:Int){z1}(a:z1=s.Procs.getD pid.toNat default){z2}(b:z2=VV.tup [VV.agg (AW r.fst),Ac r.snd]):(fc BT AI f77 [] (.tup [.agg (AW r.1),Ac r.2])).goal (St.init [] [.agg (Ae m),.agg (Ag s),Aa pid]) =
  (BB (bif decide (pid<0)then true else decide (pid>=(↑s.Procs.length:Int))) (LQ (.tup [.agg [.nl,.nl,Ac false,Ac false,Ac false,Ac false,Ac false],Ac false]) z2) (inX pid s.Procs.length/\inX z1.Type_ m.Procs.length/\inX pid s.Procs.length/\inX z1.Loc (m.Procs.getD z1.Type_.toNat default).Locs.length/\LQ (.tup [.agg (AW ((m.Procs.getD z1.Type_.toNat default).Locs.getD z1.Loc.toNat default)),Ac true]) z2)):=by subst a b;kernel_rfl
def Al0 (r:D.State×ByteArray×Int)(m:D.Model)(s:D.State)(pid:Int):(fc BT N2 f127 [] (.tup [.agg (Ag r.1),AM r.2.1,Aa r.2.2])).goal (St.init [] [.agg (Ae m),.agg (Ag s),Aa pid]) =
  (AA (fc BT N2 f127 [] (VV.tup [VV.agg (Ag r.fst),AM r.snd.fst,Aa r.snd.snd])) [1,1,1,0] (Aer m s pid (⟨#[]⟩:ByteArray) (0:Int))):=kR
def AhR (r:Nx)(e:D.Env)(w:Wy){c}(d:c=[Aa e.Pid,Aa w.Esc,Aa w.Way,Aa w.With,Aa w.WithEsc,Aa w.WithWay,Aa (-1),VV.nl,VV.nl,VV.nl,Aa 0,Aa 0,Aa 0,Aa 0,AM ByteArray.empty]){f}(g:f=[Aa 0,Aa 0,Aa 0,Aa 0,Aa 0,Aa 0,Aa 0,VV.nl,VV.nl,VV.nl,Aa 0,Aa 0,Aa 0,Aa 0,AM ByteArray.empty]){b}(h:b=VV.agg (Bm r)):(fc BT K7 f109 [] (.agg (Bm r))).goal (St.init [] [.agg (Ai e),.agg (Bf w)]) =
  (∃(y:D.State×ByteArray×Int),VC 126 [.agg (Ai e),.agg (Bf w)] (.tup [.agg (Ag y.fst),AM y.snd.fst,Aa y.snd.snd])/\BB (y.snd.snd==0) (∃(a:D.State×ByteArray×Int),VC 127 [.agg (Ae e.M),.agg (Ag y.fst),Aa e.Pid] (.tup [.agg (Ag a.fst),AM a.snd.fst,Aa a.snd.snd])/\(↑(y.snd.fst.size+a.snd.fst.size):Int)<=(9223372036854775807:Int)/\BB (a.snd.snd != 0) (LQ (.agg [Aa e.Pid,Aa w.Esc,Aa w.Way,Aa w.With,Aa w.WithEsc,Aa w.WithWay,Aa (-1),.nl,.nl,.nl,Aa 0,Aa 0,Aa 0,Aa a.snd.snd,AM ByteArray.empty]) b) (AA (fc BT K7 f109 [] b) [1,1,1,1,1,1,0,1,0] (An [(2,.bp 0 0),(4,.bp 1 0),(5,.bp 2 0),(6,.bp 3 0),(7,AM (y.snd.fst++a.snd.fst)),(60,.ow 4 0 2),(61,Aa (↑2:Int)),(62,Aa 0)] [.box (Ai e),.box f,.box c,.box [Ad true a.fst.Globals,AL true a.fst.Chans,Av true a.fst.Procs,Aa a.fst.Last,Aa (-1),Aa a.fst.Claim],.arr true 0 2 1 λ(i:Nat)=>List.take 1 (List.drop (i*1) [Aa e.Pid,Aa w.With])]))) (BB (y.snd.snd != 0) (LQ (.agg [Aa e.Pid,Aa w.Esc,Aa w.Way,Aa w.With,Aa w.WithEsc,Aa w.WithWay,Aa (-1),.nl,.nl,.nl,Aa 0,Aa 0,Aa 0,Aa y.snd.snd,AM ByteArray.empty]) b) (AA (fc BT K7 f109 [] b) [1,1,1,1,1,1,0,1,0] (An [(2,.bp 0 0),(4,.bp 1 0),(5,.bp 2 0),(6,.bp 3 0),(7,AM y.snd.fst),(60,.ow 4 0 2),(61,Aa (↑2:Int)),(62,Aa 0)] [.box (Ai e),.box f,.box c,.box [Ad true y.fst.Globals,AL true y.fst.Chans,Av true y.fst.Procs,Aa y.fst.Last,Aa (-1),Aa y.fst.Claim],.arr true 0 2 1 λ(i:Nat)=>List.take 1 (List.drop (i*1) [Aa e.Pid,Aa w.With])])))):=by subst d g h;kernel_rfl
def Ail (r:List Gn)(e:D.Env):(fc BT Sk f125 [] (B2 true r)).goal (St.init [] [.agg (Ai e)]) =
  (AA (fc BT Sk f125 [] (B2 true r)) [1,1,0,1,0] (An [(1,VV.bp 0 0),(3,VV.nl),(11,Aa (↑e.S.Procs.length:Int)),(12,Aa 0)] [Ob.box (Ai e)])):=kR
def Akq (r:List Gn)(e:D.Env):(fc BT K9 f108 [] (B2 true r)).goal (St.init [] [.agg (Ai e)]) =
  (∃(y:List Gn),VC 125 [VV.agg (Ai e)] (B2 true y)/\AA (fc BT K9 f108 [] (B2 true r)) [1,1,1,0,1,0] (Acr e y (0:Int) (0:Int))):=kR
def AkS (r:Mv)(c:Int):(fc BT AI f79 [] (.agg (BG r))).goal (St.init [] [Aa c]) =
  (LQ (VV.agg [Aa (-1),Aa (-1),Aa (-1),Aa (-1),Aa (-1),Aa (-1),Aa c]) (VV.agg (BG r))):=kR
def AgK (r:Wc)(e:D.Env)(s:D.Stmt){a}(b:a=VV.agg (DQ r)):(fc BT AI f110 [] (.agg (DQ r))).goal (St.init [] [.agg (Ai e),.agg (Ax s)]) =
  (BB (s.Kind==1) (∃(y:Int×Int),VC 128 [.agg (Ai e),Aa s.A] (vII y)/\LQ (.agg [Ac (bif y.fst != 0 then true else y.snd != 0),Aa y.snd]) a) (BB (s.Kind==3) (∃(y:Int×Int),VC 128 [.agg (Ai e),Aa s.A] (vII y)/\BB (bif y.snd==0 then y.fst==0 else false) (LQ (.agg [Ac true,Aa 50]) a) (LQ (.agg [Ac true,Aa y.snd]) a)) (LQ (.agg [Ac (s.Kind==8),Aa 0]) a))):=by subst b;kernel_rfl
def AgC (r:List Wc)(m:D.Model)(s:D.State){a}(b:a=(m.Procs.getD m.Claim.toNat default).Locs.getD s.Claim.toNat default):(fc BT Ja f80 [] (CM true r)).goal (St.init [] [.agg (Ae m),.agg (Ag s)]) =
  (∃(y:List Bool×Int),VC 107 [.agg (Ae m),.agg (Ag s)] (.tup [Bu true y.fst,Aa y.snd])/\inX m.Claim m.Procs.length/\inX s.Claim (m.Procs.getD m.Claim.toNat default).Locs.length/\AA (fc BT Ja f80 [] (CM true r)) [1,1,1,1,1,1,0,1,0] (An [(7,.bp 0 0),(8,.nl),(9,Ac false),(10,Ao true a.Out),(38,Ao true a.Out),(39,Aa (↑a.Out.length:Int)),(40,Aa 0)] [.box [AH true m.Globals,Ad true m.Init,AJ true m.Shapes,Ad true m.Chans,AE true m.Procs,Aa m.Claim,AS true m.Exprs,Ad true s.Globals,AL true s.Chans,Av true s.Procs,Aa s.Last,Aa s.Alone,Aa s.Claim,Aa (-1),Ac false,Bu true y.fst]])):=by subst b;kernel_rfl
def AbU (r:List Nx×Int)(m:D.Model)(s:D.State){b}(c:b=[VV.agg (Ae m),VV.agg (Ag s)]){d}(e:d=fc BT Fp f54 [] (VV.tup [AC true r.fst,Aa r.snd])):(fc BT Fp f54 [] (.tup [AC true r.1,Aa r.2])).goal (St.init [] [.agg (Ae m),.agg (Ag s)]) =
  (∃(y:List Nx×Int),VC 78 b (.tup [AC true y.fst,Aa y.snd])/\BB (bif y.snd != 0 then true else decide (m.Claim<0)) (LQ (.tup [AC true y.fst,Aa y.snd]) (.tup [AC true r.fst,Aa r.snd])) (BB ((↑y.fst.length:Int)==0) (∃(y:Mv),VC 79 [Aa (-1)] (.agg (BG y))/\∃(a:List Wc),VC 80 b (CM true a)/\AA d [1,1,1,1,1,0,1,0] (An [(2,.bp 0 0),(3,.bp 1 0),(6,.ow 2 0 1),(8,.nl),(37,CM true a),(38,Aa (↑a.length:Int)),(39,Aa 0)] [.box (Ae m),.box (Ag s),.arr true 0 1 15 λ(i:Nat)=>List.take 15 (List.drop (i*15) [Aa y.Pid,Aa y.Esc,Aa y.Way,Aa y.With,Aa y.WithEsc,Aa y.WithWay,Aa y.Claim,Ad true s.Globals,AL true s.Chans,Av true s.Procs,Aa s.Last,Aa s.Alone,Aa s.Claim,Aa 0,AM ByteArray.empty])])) (∃(a:List Wc),VC 80 b (CM true a)/\AA d [1,1,1,1,1,0,1,0] (An [(2,.bp 0 0),(3,.bp 1 0),(6,AC true y.fst),(8,.nl),(37,CM true a),(38,Aa (↑a.length:Int)),(39,Aa 0)] [.box (Ae m),.box (Ag s)])))):=by subst c e;kernel_rfl
def AnA (m:D.Model)(s:D.State)(l:Nat)(K:Exit->St->Prop):((fc BT AI f106 [] (.tup [])).piece (hdC 3 ((fc BT AI f106 [] (.tup [])).sub [])) [0,30,31,32] K).goal (St.init [.box (Ae m),.box (Ag s)] [yV l,.bp 0 0,.bp 1 0]) =
  (∃(y:List Bool×Int),VC 107 [VV.agg (Ae m),VV.agg (Ag s)] (VV.tup [Bu true y.fst,Aa y.snd])/\∃(a:List Gn),VC 108 [VV.agg [AH true m.Globals,Ad true m.Init,AJ true m.Shapes,Ad true m.Chans,AE true m.Procs,Aa m.Claim,AS true m.Exprs,Ad true s.Globals,AL true s.Chans,Av true s.Procs,Aa s.Last,Aa s.Alone,Aa s.Claim,Aa 0,Ac false,Bu true y.fst]] (B2 true a)/\BB ((↑a.length:Int)==0) (∃(b:List Gn),VC 108 [VV.agg [AH true m.Globals,Ad true m.Init,AJ true m.Shapes,Ad true m.Chans,AE true m.Procs,Aa m.Claim,AS true m.Exprs,Ad true s.Globals,AL true s.Chans,Av true s.Procs,Aa s.Last,Aa s.Alone,Aa s.Claim,Aa 0,Ac true,Bu true y.fst]] (B2 true b)/\K Exit.normal (QZ l b (0:Int))) (K Exit.normal (QZ l a (0:Int)))):=kR
def AnH (l:Nat)(L:List Gn)(i:Int)(K:Exit->St->Prop):((fc BT AI f106 [] (.tup [])).piece (hdC 1 ((fc BT AI f106 [] (.tup [])).sub [1,1,1,1,0,0])) [0,30,31,32] K).goal (QZ l L i) =
  (BB (decide (i<(↑L.length:Int))) (K Exit.normal (QZ l L i)) (K (Exit.exit 0) (QZ l L i))):=kR
def AnG (l:Nat)(L:List Gn)(i:Int)(K:Exit->St->Prop):((fc BT AI f106 [] (.tup [])).piece (hdC 1 ((fc BT AI f106 [] (.tup [])).sub [1,1,1,1,0,0,1,1,0,0])) [0,30,31,32,8,37,38,39] K).goal (QZ l L i) =
  (inX i L.length/\K Exit.normal (WY l L i (L.getD i.toNat default) (0:Int))):=kR
def AnF (l:Nat)(L:List Gn)(i:Int)(g:Gn)(j:Int)(K:Exit->St->Prop):((fc BT AI f106 [] (.tup [])).piece (hdC 1 ((fc BT AI f106 [] (.tup [])).sub [1,1,1,1,0,0,1,1,0,0,1,1,0,0])) [0,30,31,32,8,37,38,39] K).goal (WY l L i g j) =
  (BB (decide (j<(↑g.snd.length:Int))) (K Exit.normal (WY l L i g j)) (K (Exit.exit 2) (WY l L i g j))):=kR
def AnE (l:Nat)(L:List Gn)(i:Int)(g:Gn)(j:Int)(K:Exit->St->Prop):((fc BT AI f106 [] (.tup [])).piece (hdC 0 ((fc BT AI f106 [] (.tup [])).sub [1,1,1,1,0,0,1,1,0,0,1,1,0,0,1,1,0,0])) [0,30,31,32,8,37,38,39,10] K).goal (WY l L i g j) =
  (inX j g.snd.length/\K Exit.normal (AqG l L i g j (g.snd.getD j.toNat default))):=kR
def AnD (l:Nat)(L:List Gn)(i:Int)(g:Gn)(j:Int)(w:Wy)(K:Exit->St->Prop):((fc BT AI f106 [] (.tup [])).piece (Arh 4 ((fc BT AI f106 [] (.tup [])).sub [1,1,1,1,0,0,1,1,0,0,1,1,0,0,1,1,0,0,1,0])) [0,30,31,32,8,37,38,39,43,45,46] K).goal (AqG l L i g j w) =
  (K Exit.normal (An [(0,VV.fn (Fn.yield l) []),(30,B2 true L),(31,Aa (↑L.length:Int)),(32,Aa i),(8,VV.bp 0 0),(37,Br true g.snd),(38,Aa (↑g.snd.length:Int)),(39,Aa j),(43,VV.fn (Fn.yield l) []),(45,VV.agg (Ai g.fst)),(46,VV.agg (Bf w))] [Ob.box (Fo g)])):=kR
def AnC (l:Nat)(L:List Gn)(i:Int)(g:Gn)(j:Int)(w:Wy)(b:Bool)(K:Exit->St->Prop):((fc BT AI f106 [] (.tup [])).piece (AqB 4 ((fc BT AI f106 [] (.tup [])).sub [1,1,1,1,0,0,1,1,0,0,1,1,0,0,1,1,0,0,1,0])) [0,30,31,32,8,37,38,39,48] K).goal (An ((47,Ac b)::lEy l L i g j w) [.box (Fo g)]) =
  (K Exit.normal (An [(0,VV.fn (Fn.yield l) []),(30,B2 true L),(31,Aa (↑L.length:Int)),(32,Aa i),(8,VV.bp 0 0),(37,Br true g.snd),(38,Aa (↑g.snd.length:Int)),(39,Aa j),(48,Ac !b)] [Ob.box (Fo g)])):=kR
def AnB (l:Nat)(L:List Gn)(i:Int)(g:Gn)(j:Int)(K:Exit->St->Prop):((fc BT AI f106 [] (.tup [])).piece ((fc BT AI f106 [] (.tup [])).sub [1,1,1,1,0,0,1,1,0,0,1,1,0,0,1,1,1]) [0,30,31,32,8,37,38,39] K).goal (WY l L i g j) =
  (K Exit.normal (WY l L i g (i64.wrap (j+(1:Int))))):=kR
def Anz (l:Nat)(L:List Gn)(i:Int)(K:Exit->St->Prop):((fc BT AI f106 [] (.tup [])).piece ((fc BT AI f106 [] (.tup [])).sub [1,1,1,1,0,0,1,1,1]) [0,30,31,32] K).goal (QZ l L i) =
  (K Exit.normal (QZ l L (i64.wrap (i+(1:Int))))):=kR
def AeP (r:D.State)(e:Int)(m:D.Model)(l:List D.Chan)(k:Int)(J:St->Prop){a}(b:a=[VV.nl,VV.nl,VV.nl,Aa 0,Aa 0,Aa 0]):((fc BT GR f12 [] (.tup [.agg (Ag r),Aa e])).loop [1,1,1,0,1,0] J).goal (Acu m l k) =
  (BB (decide (k<(↑m.Chans.length:Int))) (inX k m.Chans.length/\(l.length+1)*32<=140737488355328/\J (An [(1,.bp 0 0),(2,.bp 1 0),(4,.bp 2 0),(18,Ad true m.Chans),(19,Aa (↑m.Chans.length:Int)),(20,Aa (i64.wrap (k+(1:Int))))] [.box (Ae m),.box a,.box [Ad true m.Init,.ow 3 0 (l.length+1),.nl,Aa 0,Aa (-1),Aa (-1)],.arr true 0 (l.length+1) 2 λ(i:Nat)=>bif i.blt l.length then Ay (l.getD i default)else(λ(i:Nat)=>List.take 2 (List.drop (i*2) [Aa (m.Chans.getD k.toNat 0),.nl])) (i-l.length)])) (AA (fc BT GR f12 [] (.tup [.agg (Ag r),Aa e])) [1,1,1,1,0,1,0] (An [(1,.bp 0 0),(2,.bp 1 0),(4,.bp 2 0),(33,AE true m.Procs),(34,Aa (↑m.Procs.length:Int)),(35,Aa 0)] [.box (Ae m),.box a,.box [Ad true m.Init,.ow 3 0 l.length,.nl,Aa 0,Aa (-1),Aa (-1)],.arr true 0 l.length 2 (D7 l)]))):=by subst b;kernel_rfl
def AeO (r:D.State)(e:Int)(m:D.Model)(cs:List D.Chan)(ps:List D.Process)(k:Int)(J:St->Prop){z1}(a:z1=VV.tup [VV.agg (Ag r),Aa e]):((fc BT GR f12 [] (.tup [.agg (Ag r),Aa e])).loop [1,1,1,1,0,1,0] J).goal (Acs m cs ps k) =
  (BB (decide (k<(↑m.Procs.length:Int))) (inX k m.Procs.length/\AA ((fc BT GR f12 [] z1).loop [1,1,1,1,0,1,0] J) [1,1,0,0,1,1,0] (Tk m cs ps k (m.Procs.getD k.toNat default) (m.Procs.getD k.toNat default).Active (0:Int))) (BB (decide (m.Claim>=0)) (inX m.Claim m.Procs.length/\LQ (.tup [.agg [Ad true m.Init,AL true cs,Av true ps,Aa 0,Aa (-1),Aa (m.Procs.getD m.Claim.toNat default).Start],Aa 0]) z1) (LQ (.tup [.agg [Ad true m.Init,AL true cs,Av true ps,Aa 0,Aa (-1),Aa (-1)],Aa 0]) z1))):=by subst a;kernel_rfl
def AeN (r:D.State)(e:Int)(m:D.Model)(cs:List D.Chan)(ps:List D.Process)(k:Int)(p:D.Proc)(many j:Int)(J J2:St->Prop):(((fc BT GR f12 [] (.tup [.agg (Ag r),Aa e])).loop [1,1,1,1,0,1,0] J).loop [1,1,0,0,1,1,0] J2).goal (Tk m cs ps k p many j) =
  (BB (decide (j<many)) (((0:Int)<=p.Params/\p.Params<=p.Params/\p.Params*(↑8:Int)<=140737488355328)/\∃(y:D.Process),VC 23 [VV.agg (Ae m),Aa k,VV.sl false p.Params.toNat 1 λ(_:Nat)=>((((fc BT GR f12 [] (VV.tup [VV.agg (Ag r),Aa e])).loop [1,1,1,1,0,1,0] J).loop [1,1,0,0,1,1,0] J2).T 2).zero] (VV.agg (Aw y))/\(ps.length+1)*48<=140737488355328/\J2 (An [(1,VV.bp 0 0),(2,VV.bp 1 0),(4,VV.bp 2 0),(7,Aa k),(8,VV.bp 5 0),(33,AE true m.Procs),(34,Aa (↑m.Procs.length:Int)),(35,Aa k),(41,Aa many),(42,Aa (i64.wrap (j+(1:Int))))] [Ob.box (Ae m),Ob.box [VV.nl,VV.nl,VV.nl,Aa 0,Aa 0,Aa 0],Ob.box [Ad true m.Init,VV.ow 3 0 cs.length,VV.ow 4 0 (ps.length+1),Aa 0,Aa (-1),Aa (-1)],Ob.arr true 0 cs.length 2 (D7 cs),Ob.arr true 0 (ps.length+1) 4 λ(i:Nat)=>bif i.blt ps.length then Aw (ps.getD i default)else(λ(i:Nat)=>List.take 4 (List.drop (i*4) (Aw y))) (i-ps.length),Ob.box (AV p)])) (J (Acs m cs ps (i64.wrap (k+(1:Int)))))):=kR
def AhY (r:D.State×ByteArray×Int)(m:D.Model)(s:D.State)(pid:Int)(t:ByteArray)(n:Int)(J:St->Prop){b}(c:b=[AH true m.Globals,Ad true m.Init,AJ true m.Shapes,Ad true m.Chans,AE true m.Procs,Aa m.Claim,AS true m.Exprs,Ad true s.Globals,AL true s.Chans,Av true s.Procs,Aa s.Last,Aa s.Alone,Aa s.Claim,Aa pid,Ac false,VV.nl]){a}(d:a=VV.tup [VV.agg (Ag r.fst),AM r.snd.fst,Aa r.snd.snd]){e}(f:e=[VV.nl,VV.nl,VV.nl,Aa 0,Aa 0,Aa 0]):((fc BT N2 f127 [] (.tup [.agg (Ag r.1),AM r.2.1,Aa r.2.2])).loop [1,1,1,0] J).goal (Aer m s pid t n) =
  (∃(y:D.Loc×Bool),VC 77 [.agg (Ae m),.agg (Ag s),Aa pid] (.tup [.agg (AW y.fst),Ac y.snd])/\BB (bif !y.snd then true else !y.fst.Dstep) (LQ (.tup [.agg (Ag s),AM t,Aa 0]) a) (BB (n==200) (LQ (.tup [.agg e,AM (⟨#[]⟩:ByteArray),Aa 53]) a) (∃(y:List Wy×Int),VC 152 [.agg b] (.tup [Br true y.fst,Aa y.snd])/\AA ((fc BT N2 f127 [] a).loop [1,1,1,0] J) [0,0,1,1,1,1,1,1,0,1,0] (An [(2,Aa pid),(3,.bp 0 0),(4,.bp 1 0),(6,.bp 2 0),(9,AM t),(10,Aa n),(13,.bp 3 0),(16,Ac false),(52,Br true y.fst),(53,Aa (↑y.fst.length:Int)),(54,Aa 0)] [.box (Ae m),.box (Ag s),.box e,.box b])))):=by subst c d f;kernel_rfl
def AhX (r:D.State×ByteArray×Int)(m:D.Model)(s:D.State)(pid:Int)(t:ByteArray)(n:Int)(e:D.Env)(ws:List Wy)(i:Int)(J J2:St->Prop){a}(b:a=LQ (VV.tup [VV.agg [VV.nl,VV.nl,VV.nl,Aa 0,Aa 0,Aa 0],AM (⟨#[]⟩:ByteArray),Aa 53]) (VV.tup [VV.agg (Ag r.fst),AM r.snd.fst,Aa r.snd.snd])):(((fc BT N2 f127 [] (.tup [.agg (Ag r.1),AM r.2.1,Aa r.2.2])).loop [1,1,1,0] J).loop [0,0,1,1,1,1,1,1,0,1,0] J2).goal (Aco m s pid t n e ws i) =
  (BB (decide (i<(↑ws.length:Int))) (inX i ws.length/\BB (decide ((ws.getD i.toNat default).With>=0)) (J2 (Aco m s pid t n e ws (i64.wrap (i+(1:Int))))) (∃(y:D.State×ByteArray×Int),VC 126 [.agg (Ai e),.agg (Bf (ws.getD i.toNat default))] (.tup [.agg (Ag y.fst),AM y.snd.fst,Aa y.snd.snd])/\BB (y.snd.snd != 0) (LQ (.tup [.agg [.nl,.nl,.nl,Aa 0,Aa 0,Aa 0],AM (⟨#[]⟩:ByteArray),Aa y.snd.snd]) (.tup [.agg (Ag r.fst),AM r.snd.fst,Aa r.snd.snd])) ((↑(t.size+y.snd.fst.size):Int)<=(9223372036854775807:Int)/\BB false a (J (Aer m y.fst pid (t++y.snd.fst) (i64.wrap (n+(1:Int)))))))) (BB true a (J (Aer m s pid t (i64.wrap (n+(1:Int))))))):=by subst b;kernel_rfl
def Aew (r:Nx)(e:D.Env)(w:Wy)(s:D.State)(t:ByteArray)(i:Int)(J:St->Prop):((fc BT K7 f109 [] (.agg (Bm r))).loop [1,1,1,1,1,1,0,1,0] J).goal (Og e w s t i) =
  (BB (decide (i<2)) (inX i 2/\∃(y:D.Loc×Bool),VC 77 [VV.agg (Ae e.M),VV.agg (Ag s),Aa ([e.Pid,w.With].getD i.toNat 0)] (VV.tup [VV.agg (AW y.fst),Ac y.snd])/\BB (bif y.snd then y.fst.Atomic else false) (J (An [(2,VV.bp 0 0),(4,VV.bp 1 0),(5,VV.bp 2 0),(6,VV.bp 3 0),(7,AM t),(60,VV.ow 4 0 2),(61,Aa 2),(62,Aa (i64.wrap (i+(1:Int))))] [Ob.box (Ai e),Ob.box [Aa 0,Aa 0,Aa 0,Aa 0,Aa 0,Aa 0,Aa 0,VV.nl,VV.nl,VV.nl,Aa 0,Aa 0,Aa 0,Aa 0,AM ByteArray.empty],Ob.box [Aa e.Pid,Aa w.Esc,Aa w.Way,Aa w.With,Aa w.WithEsc,Aa w.WithWay,Aa (-1),VV.nl,VV.nl,VV.nl,Aa 0,Aa 0,Aa 0,Aa 0,AM ByteArray.empty],Ob.box [Ad true s.Globals,AL true s.Chans,Av true s.Procs,Aa s.Last,Aa ([e.Pid,w.With].getD i.toNat 0),Aa s.Claim],Ob.arr true 0 2 1 (AO [e.Pid,w.With])])) (J (Og e w s t (i64.wrap (i+(1:Int)))))) (LQ (VV.agg [Aa e.Pid,Aa w.Esc,Aa w.Way,Aa w.With,Aa w.WithEsc,Aa w.WithWay,Aa (-1),Ad true s.Globals,AL true s.Chans,Av true s.Procs,Aa s.Last,Aa s.Alone,Aa s.Claim,Aa 0,AM t]) (VV.agg (Bm r)))):=kR
def Ae5 (r:List Gn)(e:D.Env)(l:List Gn)(i:Int)(J:St->Prop):((fc BT Sk f125 [] (B2 true r)).loop [1,1,0,1,0] J).goal (WZ e l i) =
  (BB (decide (i<(↑e.S.Procs.length:Int))) (∃(y:List Wy×Int),VC 152 [VV.agg [AH true e.M.Globals,Ad true e.M.Init,AJ true e.M.Shapes,Ad true e.M.Chans,AE true e.M.Procs,Aa e.M.Claim,AS true e.M.Exprs,Ad true e.S.Globals,AL true e.S.Chans,Av true e.S.Procs,Aa e.S.Last,Aa e.S.Alone,Aa e.S.Claim,Aa i,Ac e.Timeout,Bu true e.Able]] (VV.tup [Br true y.fst,Aa y.snd])/\BB (decide ((↑y.fst.length:Int) > 0)) ((l.length+1)*312<=140737488355328/\J (An [(1,VV.bp 0 0),(3,VV.ow 1 0 (l.length+1)),(11,Aa (↑e.S.Procs.length:Int)),(12,Aa (i64.wrap (i+(1:Int))))] [Ob.box (Ai e),Ob.arr true 0 (l.length+1) 17 λ(i_1:Nat)=>bif i_1.blt l.length then Fo (l.getD i_1 default)else(λ(i_2:Nat)=>List.take 17 (List.drop (i_2*17) [AH true e.M.Globals,Ad true e.M.Init,AJ true e.M.Shapes,Ad true e.M.Chans,AE true e.M.Procs,Aa e.M.Claim,AS true e.M.Exprs,Ad true e.S.Globals,AL true e.S.Chans,Av true e.S.Procs,Aa e.S.Last,Aa e.S.Alone,Aa e.S.Claim,Aa i,Ac e.Timeout,Bu true e.Able,Br true y.fst])) (i_1-l.length)])) (J (WZ e l (i64.wrap (i+(1:Int)))))) (LQ (B2 true l) (B2 true r))):=kR
def Agj (r:List Gn)(e:D.Env)(L:List Gn)(most i:Int)(J:St->Prop){a}(b:a=L.getD i.toNat default):((fc BT K9 f108 [] (B2 true r)).loop [1,1,1,0,1,0] J).goal (Acr e L most i) =
  (BB (decide (i<(↑L.length:Int))) (inX i L.length/\BB (a.fst.Pid==e.S.Alone) (LQ (.sl true 1 17 λ(i_1:Nat)=>List.take 17 (List.drop (i_1*17) (Fo a))) (B2 true r)) (inX a.fst.Pid e.S.Procs.length/\J (Acr e L (bif true then max most (e.S.Procs.getD a.fst.Pid.toNat default).Prio else min most (e.S.Procs.getD a.fst.Pid.toNat default).Prio) (i64.wrap (i+(1:Int)))))) (AA (fc BT K9 f108 [] (B2 true r)) [1,1,1,1,1,0,1,0] (An [(1,.bp 0 0),(4,Aa most),(7,.nl),(39,B2 true L),(40,Aa (↑L.length:Int)),(41,Aa 0)] [.box (Ai e)]))):=by subst b;kernel_rfl
def Agi (r:List Gn)(e:D.Env)(L out:List Gn)(most i:Int)(J:St->Prop){a}(b:a=L.getD i.toNat default):((fc BT K9 f108 [] (B2 true r)).loop [1,1,1,1,1,0,1,0] J).goal (WX e L out most i) =
  (BB (decide (i<(↑L.length:Int))) (inX i L.length/\inX a.fst.Pid e.S.Procs.length/\BB ((e.S.Procs.getD a.fst.Pid.toNat default).Prio==most) ((out.length+1)*312<=140737488355328/\J (An [(1,.bp 0 0),(4,Aa most),(7,.ow 1 0 (out.length+1)),(39,B2 true L),(40,Aa (↑L.length:Int)),(41,Aa (i64.wrap (i+(1:Int))))] [.box (Ai e),.arr true 0 (out.length+1) 17 λ(i_1:Nat)=>bif i_1.blt out.length then Fo (out.getD i_1 default)else(λ(i_2:Nat)=>List.take 17 (List.drop (i_2*17) (Fo a))) (i_1-out.length)])) (J (WX e L out most (i64.wrap (i+(1:Int)))))) (LQ (B2 true out) (B2 true r))):=by subst b;kernel_rfl
def AbJ (r:List Wc)(_:D.Model)(_:D.State)(e:D.Env)(out:List Wc)(some:Bool)(l:List D.Trans)(i:Int)(J:St->Prop):((fc BT Ja f80 [] (CM true r)).loop [1,1,1,1,1,1,0,1,0] J).goal (AlV e out some l i) =
  (BB (decide (i<(↑l.length:Int))) (inX i l.length/\∃(y:Bool×Int),VC 110 [VV.agg (Ai e),VV.agg (Ax (l.getD i.toNat default).S)] (VV.agg (DQ y))/\(out.length+1)*16<=140737488355328/\J (An [(7,VV.bp 0 0),(8,VV.ow 1 0 (out.length+1)),(9,Ac (bif some then true else y.fst)),(10,Ao true l),(38,Ao true l),(39,Aa (↑l.length:Int)),(40,Aa (i64.wrap (i+(1:Int))))] [Ob.box (Ai e),Ob.arr true 0 (out.length+1) 2 λ(i:Nat)=>bif i.blt out.length then DQ (out.getD i default)else(λ(i:Nat)=>List.take 2 (List.drop (i*2) (DQ y))) (i-out.length)])) (AA (fc BT Ja f80 [] (CM true r)) [1,1,1,1,1,1,1,0,1,0] (AlU out some l (0:Int)))):=kR
def AbI (r:List Wc)(out:List Wc)(some:Bool)(l:List D.Trans)(i:Int)(J:St->Prop):((fc BT Ja f80 [] (CM true r)).loop [1,1,1,1,1,1,1,0,1,0] J).goal (AlU out some l i) =
  (BB (decide (i<(↑l.length:Int))) (inX i l.length/\BB (bif(l.getD i.toNat default).S.Kind==7 then !some else false) (inX i out.length/\J (An [(8,VV.ow 0 0 out.length),(9,Ac some),(58,Ao true l),(59,Aa (↑l.length:Int)),(60,Aa (i64.wrap (i+(1:Int))))] [Ob.arr true 0 out.length 2 λ(j:Nat)=>bif j.beq i.toNat then[Ac true,Aa (out.getD i.toNat default).snd]else DQ (out.getD j default)])) (J (AlU out some l (i64.wrap (i+(1:Int)))))) (LQ (CM true out) (CM true r))):=kR
def YR (r:List Nx×Int)(m:D.Model)(s:D.State)(L:List Nx)(ws:List Wc)(out:List Nx)(c:Int)(J:St->Prop){a}(b:a=ws.getD c.toNat default):((fc BT Fp f54 [] (.tup [AC true r.1,Aa r.2])).loop [1,1,1,1,1,0,1,0] J).goal (Aet m s L ws out c) =
  (BB (decide (c<(↑ws.length:Int))) (inX c ws.length/\BB (!a.fst) (J (Aet m s L ws out (i64.wrap (c+(1:Int))))) (BB (a.snd != 0) (∃(y:Mv),VC 79 [Aa c] (.agg (BG y))/\(out.length+1)*176<=140737488355328/\J (An [(2,.bp 0 0),(3,.bp 1 0),(6,AC true L),(8,.ow 2 0 (out.length+1)),(37,CM true ws),(38,Aa (↑ws.length:Int)),(39,Aa (i64.wrap (c+(1:Int))))] [.box (Ae m),.box (Ag s),.arr true 0 (out.length+1) 15 λ(i:Nat)=>bif i.blt out.length then Bm (out.getD i default)else(λ(i:Nat)=>List.take 15 (List.drop (i*15) [Aa y.Pid,Aa y.Esc,Aa y.Way,Aa y.With,Aa y.WithEsc,Aa y.WithWay,Aa y.Claim,.nl,.nl,.nl,Aa 0,Aa 0,Aa 0,Aa a.snd,AM ByteArray.empty])) (i-out.length)])) (AA ((fc BT Fp f54 [] (.tup [AC true r.fst,Aa r.snd])).loop [1,1,1,1,1,0,1,0] J) [1,1,0,0,1,1,1,1,0] (AhQ m s L ws out c (0:Int))))) (LQ (.tup [AC true out,Aa 0]) (.tup [AC true r.fst,Aa r.snd]))):=by subst b;kernel_rfl
def YQ (r:List Nx×Int)(m:D.Model)(s:D.State)(L:List Nx)(ws:List Wc)(out:List Nx)(c k:Int)(J J2:St->Prop){a}(d:a=L.getD k.toNat default){e}(f:e=[(2,VV.bp 0 0),(3,VV.bp 1 0),(6,AC true L),(8,VV.ow 2 0 (out.length+1)),(9,Aa c),(37,CM true ws),(38,Aa (↑ws.length:Int)),(39,Aa c),(58,AC true L),(59,Aa (↑L.length:Int)),(60,Aa (i64.wrap (k+(1:Int))))]){b}(g:b=m.Procs.getD m.Claim.toNat default):(((fc BT Fp f54 [] (.tup [AC true r.1,Aa r.2])).loop [1,1,1,1,1,0,1,0] J).loop [1,1,0,0,1,1,1,1,0] J2).goal (AhQ m s L ws out c k) =
  (BB (decide (k<(↑L.length:Int))) (inX k L.length/\BB (a.Err==0) (∃(y:D.State),VC 81 [.agg (Ag a.State)] (.agg (Ag y))/\inX m.Claim m.Procs.length/\inX s.Claim b.Locs.length/\inX c (b.Locs.getD s.Claim.toNat default).Out.length/\(out.length+1)*176<=140737488355328/\J2 (An e [.box (Ae m),.box (Ag s),.arr true 0 (out.length+1) 15 λ(i:Nat)=>bif i.blt out.length then Bm (out.getD i default)else(λ(i:Nat)=>List.take 15 (List.drop (i*15) [Aa a.Move.Pid,Aa a.Move.Esc,Aa a.Move.Way,Aa a.Move.With,Aa a.Move.WithEsc,Aa a.Move.WithWay,Aa c,Ad true y.Globals,AL true y.Chans,Av true y.Procs,Aa y.Last,Aa y.Alone,Aa ((b.Locs.getD s.Claim.toNat default).Out.getD c.toNat default).To,Aa a.Err,AM a.Text])) (i-out.length)])) ((out.length+1)*176<=140737488355328/\J2 (An e [.box (Ae m),.box (Ag s),.arr true 0 (out.length+1) 15 λ(i:Nat)=>bif i.blt out.length then Bm (out.getD i default)else(λ(i:Nat)=>List.take 15 (List.drop (i*15) [Aa a.Move.Pid,Aa a.Move.Esc,Aa a.Move.Way,Aa a.Move.With,Aa a.Move.WithEsc,Aa a.Move.WithWay,Aa c,Ad true a.State.Globals,AL true a.State.Chans,Av true a.State.Procs,Aa a.State.Last,Aa a.State.Alone,Aa a.State.Claim,Aa a.Err,AM a.Text])) (i-out.length)]))) (J (Aet m s L ws out (i64.wrap (c+(1:Int)))))):=by subst d f g;kernel_rfl
def Amm (r:List Nx×Int)(m:D.Model)(s:D.State){a}(b:a=[Ob.arr true 0 r.fst.length 15 (Bj r.fst)]):(BR prog tb BT Ik false f78 [.arr true 0 r.1.length 15 (Bj r.1)] (.tup [.ow 0 0 r.1.length,Aa r.2])).goal (St.init [] [.agg (Ae m),.agg (Ag s)]) =
  (∃(y:Int),VC 74 [.agg (Ae m),.agg (Ag s)] (Aa y)/\BB (y != 0) (leO [] a/\(VV.tup [.nl,Aa y]).le (.tup [.ow 0 0 r.fst.length,Aa r.snd])) (∃(y:D.Model×D.State),Ah prog 76 [] [.agg (Ae m),.agg (Ag s)] [.box (Ae y.fst),.box (Ag y.snd)] (.fn (Fn.func (nat_lit 106)) [.bp 0 0,.bp 1 0])/\AA (BR prog tb BT Ik false f78 a (.tup [.ow 0 0 r.fst.length,Aa r.snd])) [1,1,1,0,1] (An [(7,.bp 0 0),(18,.fn (Fn.func (nat_lit 106)) [.bp 1 0,.bp 2 0])] [.box [.nl],.box (Ae y.fst),.box (Ag y.snd)]))):=by subst b;kernel_rfl
def Air (r:List Nx×Int)(e:D.Env)(w:Wy)(l l2:List Nx):((BR prog tb BT Ik false f78 [.arr true 0 r.1.length 15 (Bj r.1)] (.tup [.ow 0 0 r.1.length,Aa r.2])).rg [1,1,1,0,1] 2 [(7,.bp 0 0)] [.box [.ow 1 0 l2.length],.arr true 0 l2.length 15 (Bj l2)]).goal (An [(19,.agg (Ai e)),(20,.agg (Bf w)),(7,.bp 0 0)] [.box [.ow 1 0 l.length],.arr true 0 l.length 15 (Bj l)]) =
  (∃(y:Nx),VC 109 [VV.agg (Ai e),VV.agg (Bf w)] (VV.agg (Bm y))/\(l.length+1)*176<=140737488355328/\leO [Ob.box [VV.ow 1 0 (l.length+1)],Ob.arr true 0 (l.length+1) 15 λ(i:Nat)=>bif i.blt l.length then Bm (l.getD i default)else(λ(i:Nat)=>List.take 15 (List.drop (i*15) (Bm y))) (i-l.length)] [Ob.box [VV.ow 1 0 l2.length],Ob.arr true 0 l2.length 15 (Bj l2)]/\True):=kR
def Aiq (r:List Nx×Int)(l:List Nx):((BR prog tb BT Ik false f78 [.arr true 0 r.1.length 15 (Bj r.1)] (.tup [.ow 0 0 r.1.length,Aa r.2])).after [1,1,1,0,1]).goal (An [(7,.bp 0 0)] [.box [.ow 1 0 l.length],.arr true 0 l.length 15 (Bj l)]) =
  (leO [Ob.arr true 0 l.length 15 (Bj l)] [Ob.arr true 0 r.fst.length 15 (Bj r.fst)]/\(VV.tup [VV.ow 0 0 l.length,Aa 0]).le (VV.tup [VV.ow 0 0 r.fst.length,Aa r.snd])):=kR
def Anr (m:D.Model)(s:D.State){z1}(a:z1=VV.fn (Fn.func (nat_lit 106)) [VV.bp 0 0,VV.bp 1 0]):(BR prog tb BT AI false f76 [.box (Ae m),.box (Ag s)] (.fn (.func 106) [.bp 0 0,.bp 1 0])).goal (St.init [] [.agg (Ae m),.agg (Ag s)]) =
  (leO [.box (Ae m),.box (Ag s)] [.box (Ae m),.box (Ag s)]/\z1.le z1):=by subst a;kernel_rfl
end Go.Proofs.YtddhibmbpmcnpaaGreatDoor
namespace Go.Proofs.YtddhibmbpmcnpaaGreatDoor
open Go.RowKit Go.Proofs.Tryz
open IntKind(i64)
def Ly:∀(l r:List Gn),CG (l++r)=CG l++CG r
 | [],_=>rfl
 | g::l,r=>by
  show g.2.map (λw=>(g.1,w))++CG (l++r)=(g.2.map (λw=>(g.1,w))++CG l)++CG r;rw[Ly l r,As0]
def NC (L:List Gn)(i:Nat):Nat:=(CG (L.take i)).length
def Am5 {L:List Gn}:NC L L.length=(CG L).length:=by unfold NC;rw[AsZ]
def Mm {L:List Gn}{i:Nat}(hi:i<L.length):L.take (i+1)=L.take i++[L.getD i default]:=by
 rw[List.take_add_one];simp[List.getD,hi]
def AjO {L:List Gn}{i:Nat}(hi:i<L.length):NC L (i+1)=NC L i+(L.getD i default).2.length:=by
 unfold NC;rw[Mm hi,Ly];simp[CG]
def AmY {L:List Gn}{i j:Nat}(hi:i<L.length)(a:j<(L.getD i default).2.length):NC L i+j<(CG L).length/\(CG L).getD (NC L i+j) default=((L.getD i default).1,(L.getD i default).2.getD j default):=by
 have e:CG L=CG (L.take i)++((L.getD i default).2.map (λw=>((L.getD i default).1,w))++CG (L.drop (i+1))):=by
  have h1:L=L.take (i+1)++L.drop (i+1):=(List.take_append_drop (i+1) L).symm;have h2:CG L=CG (L.take (i+1))++CG (L.drop (i+1)):=by rw[<- Ly,<- h1]
  rw[h2,Mm hi,Ly];simp[CG]
 have b:NC L i+j<(CG L).length:=by
  rw[e];simp only[Ar7,AsR];unfold NC;omega
 refine⟨b,?_⟩;rw[Asj,e,Asy (by unfold NC;omega),show NC L i+j-(CG (L.take i)).length=j by unfold NC;omega,Asg (by simpa using a)];generalize(L.getD i default)=g at a;rw[AsA,Asf a,Asj,Asf a];rfl
section
variable {m : D.Model} {s:D.State} {e:D.Env} {w:Wy}
def AjZ:VV.le (.agg [.nl,.nl,Ac false,Ac false,Ac false,Ac false,Ac false]) (.agg (AW default)):=As9 ⟨AsB,AsB,lR,lR,lR,lR,lR,trivial⟩
def Rn {pid:Int}(h:Gs m s):Ah prog 77 [] [.agg (Ae m),.agg (Ag s),Aa pid] [] (.tup [.agg (AW (B0 m s pid).1),Ac (B0 m s pid).2]):=by
 have c:B0 m s pid=bif decide (pid<0)||decide ((s.Procs.length:Int)<=pid)then(default,false)else((E0 m (s.Procs.getD pid.toNat default).Type_).getD (s.Procs.getD pid.toNat default).Loc.toNat default,true):=rfl
 generalize B0 m s pid=r at c;refine Ap func77 (AmA r m s pid rfl rfl) ⟨λb=>?_,λb=>?_⟩
 .rw[Ce]at b;simp only[AtQ]at b;rw[b,Ar3]at c;subst c;exact⟨trivial,Atv ⟨AjZ,lR,trivial⟩⟩
 .rw[Ce]at b;simp only[AtQ]at b;rw[b,Ar1]at c;subst c;simp only[Ass,AsF]at b;have hp:0<=pid/\pid<s.Procs.length:=oM
  have f:=(h.pid (t:=false) (a:=[]) hp).1.facts;exact⟨hp,f.1,hp,f.2,trivial,lR⟩
def AkC {pid:Int}{b:Bool}:leL [AH true m.Globals,Ad true m.Init,AJ true m.Shapes,Ad true m.Chans,AE true m.Procs,Aa m.Claim,AS true m.Exprs,Ad true s.Globals,AL true s.Chans,Av true s.Procs,Aa s.Last,Aa s.Alone,Aa s.Claim,Aa pid,Ac b,.nl] (Ai ⟨m,s,pid,b,[]⟩) :=
 ⟨lR,lR,lR,lR,lR,lR,lR,lR,lR,lR,lR,lR,lR,lR,lR,AsB,trivial⟩
def Uh {α:Type}{p:α->Bool}:∀{l:List α}{i:Nat},(∀j,j<i->∀x,l[j]?=some x->p x=false)->l.find? p=(l.drop i).find? p
 | l,0,_=>by rw[List.drop_zero]
 | [],i+1,_=>sM
 | x::l,i+1,h=>by
  rw[List.find?_cons,h 0 oM x rfl,List.drop_succ_cons];exact Uh λj b y a=>h (j+1) oM y a
def Vx {r:D.State×ByteArray×Int}{c:Int}(h:(BK,noT,c)=r):VV.le (.tup [.agg [.nl,.nl,.nl,Aa 0,Aa 0,Aa 0],AM (⟨#[]⟩:ByteArray),Aa c]) (.tup [.agg (Ag r.1),AM r.2.1,Aa r.2.2]):=by
 subst h;exact RJ
def AhW {pid:Int}(h:Gs m s):Ah prog 127 [] [.agg (Ae m),.agg (Ag s),Aa pid] [] (.tup [.agg (Ag (onS m pid 200 s noT).1),AM (onS m pid 200 s noT).2.1,Aa (onS m pid 200 s noT).2.2]):=by
 generalize c:onS m pid 200 s noT=r;refine Ap func127 (Al0 r m s pid) ?_;change AA _ _ (Aer m s pid noT 0);refine Aq (λg st=>∃(n:Nat)(b:D.State)(t:ByteArray),n<=200/\g=200-n/\Gs m b/\t.size<=n*67108864/\onS m pid (200-n) b t=r/\st=Aer m b pid t n) ⟨_,Up.of ⟨0,s,noT,Ar9 _,rfl,h,Ar9 _,c,rfl⟩⟩ ?_;clear c h;rintro g st ⟨n,b,t,T,rfl,h,U,c,rfl⟩;refine Asm (AhY r m b pid t n _ rfl rfl rfl) ⟨B0 m b pid,Rn h,λf=>?_,λf=>⟨λo=>?_,λo=>?_⟩⟩
 .rw[Ce]at f;cases E:200-n with
  | zero =>
   rw[E]at c;have F:onS m pid 0 b t=bif !(B0 m b pid).2||!(B0 m b pid).1.Dstep then(b,t,0)else(BK,noT,53):=rfl
   rw[F,f,Ar3]at c;subst c;exact⟨trivial,lR⟩
  | succ k =>
   rw[E,KC,f,Ar3]at c;subst c;exact⟨trivial,lR⟩
 .have z:n=200:=by simp at o;omega
  subst z;rw[Ce]at f;have F:onS m pid 0 b t=bif !(B0 m b pid).2||!(B0 m b pid).1.Dstep then(b,t,0)else(BK,noT,53):=rfl
  rw[Nat.sub_self,F,f,Ar1]at c;exact⟨trivial,Vx c⟩
 .have z:n<200:=by simp at o;omega
  obtain⟨k,E⟩:∃k,200-n=k+1:=⟨200-n-1,oM⟩;rw[Ce]at f;rw[E,KC,f,Ar1]at c;simp only[Ass,At8]at f;obtain⟨v,H⟩:=h.pid (t:=false) (a:=[]) (Lw f.1);have O:=Qr v.ok.wf v.small;rw[M4 H]at c O;refine⟨(Bz ⟨m,b,pid,false,[]⟩,0),O.le trivial ⟨As9 AkC,trivial⟩ trivial lR,?_⟩;refine AA.le (AR _) (l':=[(2,Aa pid),(3,.bp 0 0),(4,.bp 1 0),(6,.bp 2 0),(9,AM t),(10,Aa n),(13,.bp 3 0),(16,Ac false),(52,Br true (Bz ⟨m,b,pid,false,[]⟩)),(53,Aa (Bz ⟨m,b,pid,false,[]⟩).length),(54,Aa 0)])
   (hs':=[.box (Ae m),.box (Ag b),PC,.box (Ai ⟨m,b,pid,false,[]⟩)]) ⟨Ob.le_refl _,Ob.le_refl _,Ob.le_refl _,Ob.le_box AkC,trivial⟩ ?_
  have A:=Lx v;change AA _ _ (Aco m b pid t n ⟨m,b,pid,false,[]⟩ (Bz ⟨m,b,pid,false,[]⟩) 0);have q:∀w∈Bz ⟨m,b,pid,false,[]⟩,Ah prog 126 [] [.agg (Ai ⟨m,b,pid,false,[]⟩),.agg (Bf w)] [] (.tup [.agg (Ag (goP ⟨m,b,pid,false,[]⟩ w).1),AM (goP ⟨m,b,pid,false,[]⟩ w).2.1,Aa (goP ⟨m,b,pid,false,[]⟩ w).2.2])/\((goP ⟨m,b,pid,false,[]⟩ w).2.2=0->Gs m (goP ⟨m,b,pid,false,[]⟩ w).1)/\(goP ⟨m,b,pid,false,[]⟩ w).2.1.size<=67108864:=λw u =>
   ⟨Akf v H u,λI=>Uc v u I,Qe v u⟩
  generalize V:Bz ⟨m,b,pid,false,[]⟩=ws at c A q;generalize W:goP ⟨m,b,pid,false,[]⟩=G at c q;refine Aq (λg st=>∃i:Nat,i<=ws.length/\g=ws.length-i/\(∀j,j<i->∀x,ws[j]?=some x->decide (x.With<0)=false)/\st=Aco m b pid t n ⟨m,b,pid,false,[]⟩ ws i) ⟨_,Up.of ⟨0,Ar9 _,rfl,λj P=>absurd P (AsQ _),rfl⟩⟩ ?_;rintro g st ⟨i,hi,rfl,R,rfl⟩;have J:=Uh (p:=λw:Wy=>decide (w.With<0)) R;simp only at c;rw[J]at c;refine Asm (AhX r m b pid t n ⟨m,b,pid,false,[]⟩ ws i _ _ rfl) ⟨λK=>?_,λL=>⟨λ_=>?_,λh=>by cases h⟩⟩
  .have l:i<ws.length:=by have:=A0 K;omega
   have M:(i:Int).toNat=i:=oM
   rw[M];have Q:ws[i]?=some (ws.getD i default):=by simp[List.getD,l]
   have N:ws.drop i=ws.getD i default::ws.drop (i+1):=by simp_all
   obtain⟨g1,S,X⟩:=q _ (As (d:=default) l);refine⟨⟨oM,oM⟩,λhv=>?_,λhv=>?_⟩
   .refine⟨ws.length-(i+1),oM,Up.of ⟨i+1,oM,rfl,λj P x H=>?_,by rw[Al oM]⟩⟩;grind
   .have B:decide ((ws.getD i default).With<0)=true:=by simp at hv |-;omega
    rw[N,List.find?_cons,B]at c;refine⟨G (ws.getD i default),g1,λy=>?_,λy=>⟨?_,⟨λh=>(by cases h),λ_=>?_⟩⟩⟩
    .rw[A2]at y;change(bif decide ((G (ws.getD i default)).2.2≠0)then _ else _)=r at c;rw[y,Ar3]at c;exact⟨trivial,Vx c⟩
    .omega
    .rw[A2]at y;change(bif decide ((G (ws.getD i default)).2.2≠0)then _ else _)=r at c;rw[y,Ar1]at c;have I:(G (ws.getD i default)).2.2=0:=by simpa using y
     refine⟨200-(n+1),oM,Up.of ⟨n+1,(G (ws.getD i default)).1,t++(G (ws.getD i default)).2.1,oM,rfl,S I,?_,?_,by rw[Al oM]⟩⟩
     .grind
     grind
  .have C:ws.length<=i:=by have:=A1 L;omega
   rw[Asr C]at c;exact⟨trivial,Vx c⟩
end
section
variable {m : D.Model} {s:D.State} {e:D.Env} {w:Wy}
def Ac3 {a b c d f g:Int}{err:Int}:VV.le (.agg [Aa a,Aa b,Aa c,Aa d,Aa f,Aa g,Aa (-1),.nl,.nl,.nl,Aa 0,Aa 0,Aa 0,Aa err,AM ByteArray.empty]) (.agg (Bm ⟨⟨a,b,c,d,f,g,-1⟩,BK,err,noT⟩)) :=
 As9 ⟨lR,lR,lR,lR,lR,lR,lR,AsB,AsB,AsB,lR,lR,lR,lR,lR,trivial⟩
def Aiv {a b:Int}(F:Nat->List VV)(h0:F 0=[Aa a])(h1:F 1=[Aa b]):∀i,i<2->leL (F i) (AO [a,b] i)
 | 0,_=>AN h0
 | 1,_=>AN h1
def alL (m:D.Model)(s:D.State)(l:List Int):D.State:=l.foldl (C7 m) s
def Alr:∀{l:List Int}{s:D.State},Gs m s->Gs m (alL m s l)
 | [],_,h=>h
 | _::l,_,h=>Alr (l:=l) (N4 h)
def Alq {l:List Int}{k:Nat}(h:k<l.length):alL m s (l.take (k+1))=C7 m (alL m s (l.take k)) (l.getD k 0):=by
 have:l.take (k+1)=l.take k++[l.getD k 0]:=by simp_all
 rw[this];unfold alL;grind
def Aeu {t:ByteArray}(h:Gs e.M s):AA (fc BT K7 f109 [] (.agg (Bm ⟨G1 e w,C7 e.M (C7 e.M s e.Pid) w.With,0,t⟩))) [1,1,1,1,1,1,0,1,0] (Og e w s t 0):=by
 have i:Og e w s t 0=Og e w (alL e.M s ([e.Pid,w.With].take 0)) t ((0:Nat):Int):=rfl;rw[i];refine Ar 2 (λk=>Og e w (alL e.M s ([e.Pid,w.With].take k)) t k) (λ_=>True) trivial ?_;intro k j _ J next
 have hg:=Alr (l:=[e.Pid,w.With].take k) h;have b:=λ(h:k<2)=>Alq (m:=e.M) (s:=s) (l:=[e.Pid,w.With]) (k:=k) h
 refine Asm (Aew _ e w _ t k J) ⟨λd=>?_,λf=>?_⟩
 .have a:k<2:=by have:=A0 d;omega
  have g:(k:Int).toNat=k:=oM
  rw[g];have hs2:=b a;generalize alL e.M s ([e.Pid,w.With].take k)=s1 at hg hs2;refine⟨⟨oM,oM⟩,B0 e.M s1 ([e.Pid,w.With].getD k 0),Rn hg,λc=>next _ a trivial (Up.of ?_),λc=>next _ a trivial (Up.of ?_)⟩
  .rw[B3]at c;unfold C7 at hs2;rw[c,Ar3]at hs2;rw[hs2,Al oM]<;>rfl
  .rw[B3]at c;unfold C7 at hs2;rw[c,Ar1]at hs2;rw[hs2,Al oM]
 .obtain rfl:k=2:=by have:=A1 f;omega
  exact⟨trivial,lR⟩
def Aev (h:CZ e)(j:F5 e=0)(c:w∈Bz e):Ah prog 109 [] [.agg (Ai e),.agg (Bf w)] [] (.agg (Bm (Fx e w))):=by
 generalize g:Fx e w=r;refine Ap func109 (AhR r e w rfl rfl rfl) ⟨goP e w,Akf h j c,λh1=>?_,λh1=>?_⟩
 .have i:(goP e w).2.2=0:=by simpa using h1
  have d:=Uc h c i;obtain⟨a,b⟩:=Qa (pid:=e.Pid) (k:=200) (t:=noT) d;have f:Fx e w=bif decide ((onS e.M e.Pid 200 (goP e w).1 noT).2.2≠0)then⟨G1 e w,BK,(onS e.M e.Pid 200 (goP e w).1 noT).2.2,noT⟩
   else⟨G1 e w,C7 e.M (C7 e.M {(onS e.M e.Pid 200 (goP e w).1 noT).1 with Alone:=-1} e.Pid) w.With,0,(goP e w).2.1++(onS e.M e.Pid 200 (goP e w).1 noT).2.1⟩:=by
   unfold Fx;grind
  have l:=Qe h c;have n:noT.size=0:=rfl;rw[g]at f;refine⟨onS e.M e.Pid 200 (goP e w).1 noT,AhW d,oM,λh2=>?_,λh2=>?_⟩
  .rw[A2]at h2;rw[h2,Ar3]at f;subst f;exact⟨trivial,Ac3⟩
  .rw[A2]at h2;rw[h2,Ar1]at f;subst f;refine AA.le (hs':=[.box (Ai e),.box Arq,.box (Arr e w),.box (Ag {(onS e.M e.Pid 200 (goP e w).1 noT).1 with Alone:=-1}),.arr true 0 2 1 (AO [e.Pid,w.With])]) (AR _) ⟨Ob.le_refl _,Ob.le_refl _,Ob.le_refl _,Ob.le_refl _,Asw (Aiv _ rfl rfl),trivial⟩ ?_;exact Aeu (VG (a (by simpa using h2)))
 .have i:(goP e w).2.2≠0:=by simpa using h1
  unfold Fx at g;rw[Asx i,Ar3]at g;subst g;exact⟨λ_=>⟨trivial,Ac3⟩,λh2=>absurd (by simpa using h2) i⟩
def AiA {out:List Gn}{x:Gn}{G:Nat->List VV}(a:G 0=Fo x){i:Nat}(hi:i<out.length+1):(bif i.blt out.length then Js out i else G (i-out.length))=Js (out++[x]) i :=
 BW (f:=Fo) (d:=default) (l:=out) (r:=[x]) (F:=Js out) (λ_ _=>rfl) gD (by simp;omega)
def Aga {k:Nat}:Ex e (k+1)=Ex e k++JA e k:=rfl
def Ae4 (h:Gs e.M e.S):Ah prog 125 [] [.agg (Ai e)] [] (B2 true (Ex e e.S.Procs.length)):=by
 have hp:=h.fits.pl;refine Ap func125 (Ail _ e) ?_;refine AA.own 1 3 17 (Js []) rfl ?_;change AA _ _ (WZ e (Ex e 0) ((0:Nat):Int));refine Ar e.S.Procs.length (λk=>WZ e (Ex e k) k) (λ_=>True) trivial ?_;intro k o _ J next
 have g:=OF (e:=e) (n:=k);have a:=Aga (e:=e) (k:=k);refine Asm (Ae5 _ e (Ex e k) k J) ⟨λc=>?_,λd=>?_⟩
 .have b:k<e.S.Procs.length:=by have:=A0 c;omega
  unfold JA at a;refine⟨ED (BA e k),Qr (e:=BA e k) h.wf h.small,λl=>?_,λl=>?_⟩
  .rw[Asx gD,Ar3]at a;have f:e.S.Procs.length<=16:=hp;refine⟨oM,next _ b trivial ?_⟩;rw[a,Al oM];refine Up.mk (hs':=[.box (Ai e),.arr true 0 ((Ex e k).length+1) 17 (Js (Ex e k++[(BA e k,(ED (BA e k)).1)]))]) (AR _) ⟨Ob.le_refl _,Asw λi hi=>AN (AiA (x:=(BA e k,(ED (BA e k)).1)) (G:=λj=>List.take 17 (List.drop (j*17) (Fo (BA e k,(ED (BA e k)).1)))) rfl hi),trivial⟩ ?_;unfold WZ;grind
  .rw[Asu gD,Ar1,Atf]at a;refine next _ b trivial (Up.of ?_)
   grind[Al]
 .obtain rfl:k=e.S.Procs.length:=by have:=A1 d;omega
  exact⟨trivial,lR⟩
def Aa1 {most:Int}{g:Gn}{r:List Gn}:HH e most (g::r)=bif decide (g.1.Pid=e.S.Alone)then(some g,most)else HH e (max most (F3 e g)) r:=rfl
def Uf (h:Gs e.M e.S):Ah prog 108 [] [.agg (Ai e)] [] (B2 true (DP e)):=by
 have hp:e.S.Procs.length<=16:=h.fits.pl;have v:=OF (e:=e) (n:=e.S.Procs.length);have b:∀g∈Ex e e.S.Procs.length,inX g.1.Pid e.S.Procs.length:=λg hg=>by
  obtain⟨i,hi,rfl⟩:=Ub hg;exact⟨by show(0:Int)<=i;omega,by show(i:Int)<_;omega⟩
 have f:∀r:Option Gn×Int,HH e 0 (Ex e e.S.Procs.length)=r->DP e=match r with | (some g,_)=>[g] | (none,most)=>(Ex e e.S.Procs.length).filter λg=>decide (F3 e g=most):=λr B=>by
  unfold DP;rw[B]<;>rfl
 generalize DP e=out at f;refine Ap func108 (Akq out e) ⟨Ex e e.S.Procs.length,Ae4 h,?_⟩;generalize Ex e e.S.Procs.length=L at v b f;refine Aq (λg st=>∃(k:Nat)(most:Int),k<=L.length/\g=L.length-k/\HH e most (L.drop k)=HH e 0 L/\st=Acr e L most k) ⟨_,Up.of ⟨0,0,Ar9 _,rfl,rfl,rfl⟩⟩ ?_;rintro g st ⟨k,most,C,rfl,t,rfl⟩;refine Asm (Agj out e L most k _ rfl) ⟨λl=>?_,λo=>?_⟩
 .have a:k<L.length:=by have:=A0 l;omega
  have q:(k:Int).toNat=k:=oM
  rw[q];rw[A9 (d:=default) a,Aa1]at t;refine⟨⟨oM,oM⟩,λA=>?_,λA=>⟨b _ (As a),L.length-(k+1),oM,Up.of ⟨k+1,max most (F3 e (L.getD k default)),oM,rfl,?_,?_⟩⟩⟩
  .rw[Asx (by simpa using A),Ar3]at t;have f:=f _ t.symm;subst f;refine⟨trivial,As2 (.inl rfl) λj E=>AN ?_⟩;obtain rfl:j=0:=oM
   rfl
  .grind
  .rw[Al oM]<;>rfl
 .obtain rfl:k=L.length:=by have:=A1 o;omega
  rw[AtS]at t;have f:out=L.filter λg=>decide (F3 e g=most):=f _ t.symm
  have F:([]:List Gn)=(L.take 0).filter λg=>decide (F3 e g=most):=rfl
  refine AA.own 2 7 17 (Js []) rfl ?_;change AA _ _ (WX e L ((L.take 0).filter λg=>decide (F3 e g=most)) most ((0:Nat):Int));refine Ar L.length (λk=>WX e L ((L.take k).filter λg=>decide (F3 e g=most)) most k) (λ_=>True) trivial ?_;intro k C _ J next
  have y:((L.take k).filter λg=>decide (F3 e g=most)).length<=L.length:=gD;refine Asm (Agi out e L _ most k J rfl) ⟨λl=>?_,λo=>?_⟩
  .have a:k<L.length:=by have:=A0 l;omega
   have q:(k:Int).toNat=k:=oM
   rw[q];have c:((L.take (k+1)).filter λg=>decide (F3 e g=most))=((L.take k).filter λg=>decide (F3 e g=most))++([L.getD k default].filter λg=>decide (F3 e g=most)):=by rw[Mm a,List.filter_append]
   generalize((L.take k).filter λg=>decide (F3 e g=most))=acc at y c;refine⟨⟨oM,oM⟩,b _ (As a),λz=>⟨oM,next _ a trivial ?_⟩,λz=>next _ a trivial (Up.of ?_)⟩
   .have u:decide (F3 e (L.getD k default)=most)=true:=by
     have:(e.S.Procs.getD (L.getD k default).1.Pid.toNat default).Prio=most:=by simpa using z
     exact Asx this
    rw[List.filter_cons_of_pos (p:=λg=>decide (F3 e g=most)) u,List.filter_nil]at c;rw[c,Al oM];refine Up.mk (hs':=[.box (Ai e),.arr true 0 (acc.length+1) 17 (Js (acc++[L.getD k default]))]) (AR _) ⟨Ob.le_refl _,Asw λi hi=>AN (AiA (x:=L.getD k default) (G:=λj=>List.take 17 (List.drop (j*17) (Fo (L.getD k default)))) rfl hi),trivial⟩ ?_;unfold WX;grind
   .have u:¬decide (F3 e (L.getD k default)=most)=true:=by
     have:¬(e.S.Procs.getD (L.getD k default).1.Pid.toNat default).Prio=most:=by simpa using z
     exact λh=>this (Asd h)
    grind[List.filter_cons_of_neg,Atf,Al]
  .obtain rfl:k=L.length:=by have:=A1 o;omega
   rw[AsZ,<- f];exact⟨trivial,lR⟩
end
def XW:Code->Array Oper
 | .region _ ops _=>ops
 | _=>#[]
def isR:Code->Bool
 | .region _ _ false=>true
 | _=>false
def ArD (N:Nat)(ops:Array Oper):Bool:=ops.toList.all λo=>match o.dst with
 | some d=>Nat.blt d N
 | none=>true
def AnJ {N:Nat}{ops:Array Oper}(h:ArD N ops=true)(i:Nat)(o:Oper)(d:Nat)(a:ops[i]?=some o)(hd:o.dst=some d):d<N:=by
 have b:o∈ops.toList:=by
  rw[<- Array.getElem?_toList]at a;exact AsK a
 have:=AsD.1 h o b;rw[hd]at this;exact Asl this
def Anf (l':List (Nat×VV))(hs:List Ob)(l:List (Nat×VV)):Sx (An (l++l') hs) (An l hs):=by
 refine⟨λt=>?_,λ_=>Ob.le_refl _,rfl⟩;show VV.le (Bs t (l++l')) (Bs t l)
 induction l with
 | nil=>exact λ_ _ _ _ _=>.dead
 | cons p l ih =>
  obtain⟨j,x⟩:=p;simp only[Atz,Bs];grind[VV.le_refl]
section
variable {c : Ctx} {E:AP} {J:JT} {K:Exit->Option Nat->St->Prop} {k:Option Nat} {st:St}
def Er.forget (d:Ip J){code:Code}(keep:List Nat)(f:okF 0 keep st=true)(h:Er c.P c.N E J code K k (Go.Proofs.YtddhibmbpmcnpaaGreatDoor.forget 0 keep st)):Er c.P c.N E J code K k st :=
 ⟨λS _ a w hi=>let ⟨φ',b⟩:=hi.forget d f;h.h S φ' a w b⟩
def Xw (y:Ip J)(z:TOk c.P c.T){code:Code}(v:isR code=true)(kk tf d:Nat){i n:Nat}{oc:Oper}(x x2:Operand){tys:Array TypeId}{l:Nat}{xs:Nat->List VV}
  (A:∀k S T f vs,k<n->J (some k) S T f->(∀b,S b->¬T b)->Gd E (U S T) f->Dz f (E.add (U S T)) none (xs k) vs->YieldAt Fence.wide 0 c.P l vs f λe p =>
   (e=.returned (.bool true)/\∃S',J (some (k+1)) S' T p/\Chg f S p S')\/(e=.returned (.bool false)/\∃S',J none S' T p/\Chg f S p S'))
  (g:(Nt (Dr (XW code) kk) c.N&&KU (Dr (XW code) kk))=true) (q:Qb (Dr (XW code) kk)=true) (j:(Nt (C9 (XW code) (kk+1)) c.N&&KU (C9 (XW code) (kk+1)))=true) (o:ArD c.N (XW code)=true)
  (r:(XW code)[kk]?=some oc) (t:oc.op=.call {callee:=.value (.tmp tf),args:=#[x,x2],argTypes:=tys}) (u:oc.guard=none) (hd:oc.dst=some d) (hi:i<n) (keep keep2:List Nat)
  (h:(c.piece (Arh kk code) keep λ_ st1=>∃l1 a,st1=An l1 a/\Bs tf l1=.fn (.yield l) []/\xs i=[(An l1 a).val x,(An l1 a).val x2]/\(xs i).all VV.memA=true /\
   ∀b,(c.piece (AqB kk code) keep2 λ_ st3=>K .normal (bif b then some (i+1)else none) st3).goal (An ((d,.sc (.bool b))::l1) a)).goal st) :
  Er c.P c.N E J code K (some i) st:=by
 cases code with
 | region id ops b =>
  cases b with
  | false=>exact Aao (ops:=ops) y z A g q j (AnJ o) r t u hd hi keep keep2 h
  | true=>cases v
 | _=>cases v
end
section
variable {m : D.Model} {s:D.State} {e:D.Env} {w:Wy}
noncomputable def cEv:Ctx:=fc BT AI f106 [] (.tup [])
def ArA:tlC 3 (cEv.sub [])=.block 0 (.loop (cEv.sub [1,1,1,1,0,0])):=kR
def Arz:tlC 1 (cEv.sub [1,1,1,1,0,0])=.seq (.block 1 (cEv.sub [1,1,1,1,0,0,1,1,0,0])) (cEv.sub [1,1,1,1,0,0,1,1,1]):=kR
def Ary:tlC 1 (cEv.sub [1,1,1,1,0,0,1,1,0,0])=.block 2 (.loop (cEv.sub [1,1,1,1,0,0,1,1,0,0,1,1,0,0])):=kR
def Arx:tlC 1 (cEv.sub [1,1,1,1,0,0,1,1,0,0,1,1,0,0])=.seq (.block 3 (cEv.sub [1,1,1,1,0,0,1,1,0,0,1,1,0,0,1,1,0,0])) (cEv.sub [1,1,1,1,0,0,1,1,0,0,1,1,0,0,1,1,1]):=kR
def Arw:tlC 0 (cEv.sub [1,1,1,1,0,0,1,1,0,0,1,1,0,0,1,1,0,0])=.seq (cEv.sub [1,1,1,1,0,0,1,1,0,0,1,1,0,0,1,1,0,0,1,0]) (.cond (.tmp 48) .ret .skip):=kR
def ArB:∃oc tys,(XW (cEv.sub [1,1,1,1,0,0,1,1,0,0,1,1,0,0,1,1,0,0,1,0]))[4]?=some oc/\oc.op=.call {callee:=.value (.tmp 43),args:=#[.tmp 45,.tmp 46],argTypes:=tys}/\oc.guard=none/\oc.dst=some 47:=⟨_,_,rfl,rfl,rfl,rfl⟩
def V5 (m:D.Model)(s:D.State)(k:Nat):List VV:=[.agg (Ai ((CJ m s).getD k default).1),.agg (Bf ((CJ m s).getD k default).2)]
def Y5 (h:Gs m s):EI m s=Df m s s.Procs.length:=by
 unfold EI;rw[h.check]<;>rfl
def RW (h:Gs m s):O3 prog 106 [.box (Ae m),.box (Ag s)] [.bp 0 0,.bp 1 0] (CJ m s).length (V5 m s):=by
 refine Ani (c:=cEv.sub []) func106 kR rfl dZ ?_;intro l E J f B;have q:∀t a,Gs (D.Env.mk m s 0 t a).M (D.Env.mk m s 0 t a).S:=λ_ _=>h
 have r:Fm m s=bif decide (0<(DP ⟨m,s,0,false,Df m s s.Procs.length⟩).length)then DP ⟨m,s,0,false,Df m s s.Procs.length⟩else DP ⟨m,s,0,true,Df m s s.Procs.length⟩:=by
  unfold Fm;rw[Y5 h]
 have u:CJ m s=CG (Fm m s):=rfl;have v:=RT h;have n:∀g∈Fm m s,g.2.length<=16778240:=λg hg=>by
  obtain⟨i,t,hi,rfl⟩:=MJ h hg;exact Lx (h.pid (i:=i) (t:=t) (a:=Df m s s.Procs.length) ⟨oM,oM⟩).1
 have key:Er cEv.P cEv.N E J (tlC 3 (cEv.sub [])) (λe k _=>(e=.normal\/e=.ret)/\(k=some (CJ m s).length\/k=none)) (some 0) (QZ l (Fm m s) 0):=by
  have o:∀k,V5 m s k=[.agg (Ai ((CJ m s).getD k default).1),.agg (Bf ((CJ m s).getD k default).2)]:=λ_=>rfl
  generalize V5 m s=xs at B o;rw[u]at B o |-;generalize Fm m s=L at B v n o;clear r u;rw[ArA];refine Jr (Tt f (λg k st=>∃i,i<=L.length/\g=L.length-i/\k=some (NC L i)/\st=QZ l L i) ⟨_,Up.of ⟨0,Ar9 _,rfl,rfl,rfl⟩⟩ ?_);rintro g k st ⟨i,hi,rfl,rfl,rfl⟩;refine IQ (c:=cEv) f Aj Ak [0,30,31,32] 1 kR kR ((AnH l L i _).mpr ⟨λC=>?_,λF=>?_⟩)
  .have p:i<L.length:=by have:=A0 C;omega
   have G:(i:Int).toNat=i:=oM
   have H:=n _ (As (d:=default) p);have x:=λj=>AmY (L:=L) (i:=i) (j:=j) p
   have y:=AjO p;show Er cEv.P cEv.N E J (tlC 1 (cEv.sub [1,1,1,1,0,0])) _ _ _;rw[Arz];refine Np (Jr (IQ (c:=cEv) f Aj Ak [0,30,31,32,8,37,38,39] 1 kR kR ((AnG l L i _).mpr ⟨⟨oM,oM⟩,?_⟩)));rw[G];generalize L.getD i default=gn at H x y;show Er cEv.P cEv.N E J (tlC 1 (cEv.sub [1,1,1,1,0,0,1,1,0,0])) _ _ _;rw[Ary];refine Jr (Tt f (λg k st=>∃j,j<=gn.2.length/\g=gn.2.length-j/\k=some (NC L i+j)/\st=WY l L i gn j) ⟨_,Up.of ⟨0,Ar9 _,rfl,rfl,rfl⟩⟩ ?_);rintro g k st ⟨j,Y,rfl,rfl,rfl⟩;refine IQ (c:=cEv) f Aj Ak [0,30,31,32,8,37,38,39] 1 kR kR ((AnF l L i gn j _).mpr ⟨λI=>?_,λO=>?_⟩)
   .have z:j<gn.2.length:=by have:=A0 I;omega
    have Q:(j:Int).toNat=j:=oM
    obtain⟨R,T⟩:=x j z;show Er cEv.P cEv.N E J (tlC 1 (cEv.sub [1,1,1,1,0,0,1,1,0,0,1,1,0,0])) _ _ _;rw[Arx];refine Np (Jr (IQ (c:=cEv) f Aj Ak [0,30,31,32,8,37,38,39,10] 0 kR kR ((AnE l L i gn j _).mpr ⟨⟨oM,oM⟩,?_⟩)));rw[Q];show Er cEv.P cEv.N E J (tlC 0 (cEv.sub [1,1,1,1,0,0,1,1,0,0,1,1,0,0,1,1,0,0])) _ _ _;rw[Arw];obtain⟨oc,tys,U,V,W,X⟩:=ArB;refine Np (Xw (c:=cEv) f Aj kR 4 43 47 (.tmp 45) (.tmp 46) B kR kR kR kR U V W X R [0,30,31,32,8,37,38,39,43,45,46] [0,30,31,32,8,37,38,39,48] ((AnD l L i gn j _ _).mpr ⟨_,_,rfl,rfl,?_,?_,λb=>(AnC l L i gn j _ b _).mpr ?_⟩))
    .rw[o,T]<;>rfl
    .rw[o]<;>rfl
    .refine AeX (t:=48) (b:=!b) rfl (λA=>?_) λA=>?_
     .obtain rfl:b=false:=by simpa using A
      exact Aij ⟨.inr rfl,.inr rfl⟩
     .obtain rfl:b=true:=by simpa using A
      refine AeW ?_;show Er cEv.P cEv.N E J (cEv.sub [1,1,1,1,0,0,1,1,0,0,1,1,0,0,1,1,1]) _ _ _;refine Er.cv f (Anf [(48,Ac !true)] _ [(0,yV l),(30,B2 true L),(31,Aa L.length),(32,Aa i),(8,.bp 0 0),(37,Br true gn.2),(38,Aa gn.2.length),(39,Aa j)]).cv ?_;refine Q9 (c:=cEv) f Aj Ak kR [0,30,31,32,8,37,38,39] ((AnB l L i gn j _).mpr ?_);refine⟨gn.2.length-(j+1),oM,Up.of ⟨j+1,oM,rfl,rfl,?_⟩⟩;rw[Al oM]
   .obtain rfl:j=gn.2.length:=by have:=A1 O;omega
    show Er cEv.P cEv.N E J (cEv.sub [1,1,1,1,0,0,1,1,1]) _ _ _;refine Er.forget (c:=cEv) f [0,30,31,32] rfl ?_;change Er cEv.P cEv.N E J (cEv.sub [1,1,1,1,0,0,1,1,1]) _ _ (QZ l L i);refine Q9 (c:=cEv) f Aj Ak kR [0,30,31,32] ((Anz l L i _).mpr ?_);refine⟨L.length-(i+1),oM,Up.of ⟨i+1,oM,rfl,by rw[y],?_⟩⟩;rw[Al oM]
  .obtain rfl:i=L.length:=by have:=A1 F;omega
   refine⟨.inl rfl,.inl ?_⟩;rw[Am5]
 refine IQ (c:=cEv) f Aj Ak [0,30,31,32] 3 kR kR ((AnA m s l _).mpr ⟨(Df m s s.Procs.length,0),Uz h.wf h.small h.check,DP ⟨m,s,0,false,Df m s s.Procs.length⟩,Uf (q _ _),λA=>⟨DP ⟨m,s,0,true,Df m s s.Procs.length⟩,Uf (q _ _),?_⟩,λA=>?_⟩)
 .rw[Asu gD,Ar1]at r;rw[r]at key;exact key
 .rw[Asx gD,Ar3]at r;rw[r]at key;exact key
end
def rfI:Code->Nat
 | .block i _=>i
 | _=>0
def rfA:Code->Code
 | .block _ (.rangeFunc _ _ a _)=>a
 | _=>.skip
def rfB:Code->Code
 | .block _ (.rangeFunc _ _ _ b)=>b
 | _=>.skip
def TD {c:Ctx}(o:TOk c.P c.T)(d:c.P.follows .mixedOrders=true){rel:List Nat}{st:St}(id tg:Nat)(ps:List Tmp)(assign body:Code)(q:c.sub rel=.block id (.rangeFunc (.tmp tg) ps.toArray assign body))(r:c.L.base=0)
  (hB:(Pw c.N assign&&Ku c.N body)=true) (f:ps.Nodup/\∀p,p∈ps->p<c.N) {gf:Nat} (eg:HY c.P gf) {hi:List Ob} {caps:List VV} {n:Nat} {xs:Nat->List VV} (g:O3 c.P gf hi caps n xs)
  (h:∀k,(xs k).length=ps.length) (ic ii:List Nat) (h1:E8 st.nx ic=true) (h2:E8 st.nx ii=true) (h3:(ic.all λi=>!(ii.any (Nat.beq i)))=true)
  (b:List (Nat×VV)) (nb:Nat) (a:Nat->List Ob) (u:∀k,(a k).length=nb) (j:WW nb b=true) (v:∀t,VV.le (I1 st ic (st.t t)) (Bs t b)) (x:leO (ic.map (ES st ic)) (a 0))
  (hg:VV.le (I1 st ii (st.t tg)) (.fn (.func gf) caps)) (l:leO (ii.map (ES st ii)) hi)
  (round:∀k,k<n->A6 ((c.rg rel nb b (a (k+1))).goal (An (ps.zip (xs k)++b) (a k)))) (done:A6 ((c.after rel).goal (An b (a n)))):AA c rel st :=
 Aar o d id tg ps assign body q r hB f eg g h ic ii h1 h2 h3 b nb a u j v x hg l (λk y=>(round k y).out) done.out
def LD (x:VV):VV.le x .dead:=λ_ _ _ _ _=>.dead
def Jk {α:Type}{l:List α}{k:Nat}{d:α}(h:k<l.length):l.take (k+1)=l.take k++[l.getD k d]:=by
 rw[List.take_add_one];simp[List.getD,h]
def AqL:[19,20].Nodup/\∀p,p∈[19,20]->p<(f78).ntmps:=dZ
section
variable {m : D.Model} {s:D.State} {e:D.Env} {w:Wy}
def RV:Ah prog 76 [] [.agg (Ae m),.agg (Ag s)] [.box (Ae m),.box (Ag s)] (.fn (.func 106) [.bp 0 0,.bp 1 0]) :=
 Ap func76 (Anr m s rfl) ⟨CL _,lR⟩
def ApD {out:List Nx}{x:Nx}{G:Nat->List VV}(a:G 0=Bm x){i:Nat}(hi:i<out.length+1):(bif i.blt out.length then Bj out i else G (i-out.length))=Bj (out++[x]) i :=
 BW (f:=Bm) (d:=default) (l:=out) (r:=[x]) (F:=Bj out) (λ_ _=>rfl) (λj b=>by
  obtain rfl:j=0:=by simpa using b
  exact a) (by simp;omega)
noncomputable abbrev ssC (L:List Nx):Ctx:=BR prog tb BT Ik false f78 [.arr true 0 (L,(0:Int)).1.length 15 (Bj (L,(0:Int)).1)] (.tup [.ow 0 0 (L,(0:Int)).1.length,Aa (L,(0:Int)).2])
def Af7 (l:List Nx):List Ob:=[.box [.ow 1 0 l.length],.arr true 0 l.length 15 (Bj l)]
def AhT (L l l2:List Nx):((ssC L).rg [1,1,1,0,1] 2 [(7,.bp 0 0)] (Af7 l2)).goal (An ([19,20].zip [.agg (Ai e),.agg (Bf w)]++[(7,.bp 0 0)]) (Af7 l)) =
  ((ssC L).rg [1,1,1,0,1] 2 [(7,.bp 0 0)] [.box [.ow 1 0 l2.length],.arr true 0 l2.length 15 (Bj l2)]).goal (An [(19,.agg (Ai e)),(20,.agg (Bf w)),(7,.bp 0 0)] [.box [.ow 1 0 l.length],.arr true 0 l.length 15 (Bj l)]):=kR
def AoW {L l:List Nx}{x:Nx}(h:Ah prog 109 [] [.agg (Ai e),.agg (Bf w)] [] (.agg (Bm x)))(a:l.length<=285230080):A6 (((ssC L).rg [1,1,1,0,1] 2 [(7,.bp 0 0)] (Af7 (l++[x]))).goal (An ([19,20].zip [.agg (Ai e),.agg (Bf w)]++[(7,.bp 0 0)]) (Af7 l))):=by
 refine Asm ((AhT L l (l++[x])).trans (Air (L,0) e w l (l++[x]))) ⟨x,h,oM,?_,trivial⟩;rw[Ar7];exact⟨Ob.le_refl _,Asw λi hi=>AN (ApD (x:=x) (G:=λi=>List.take 15 (List.drop (i*15) (Bm x))) rfl hi),trivial⟩
def AlZ {L l:List Nx}(a:l=L):A6 (((ssC L).after [1,1,1,0,1]).goal (An [(7,.bp 0 0)] (Af7 l))):=by
 subst a;exact Asm (Aiq (l,0) l) ⟨CL _,lR⟩
def Pe (h:Gs m s):Ah prog 78 [] [.agg (Ae m),.agg (Ag s)] [.arr true 0 (BZ m s).1.length 15 (Bj (BZ m s).1)] (.tup [.ow 0 0 (BZ m s).1.length,Aa (BZ m s).2]):=by
 have o:BZ m s=((CJ m s).map λp=>Fx p.1 p.2,0):=by
  unfold BZ;rw[h.check]<;>rfl
 have f:=Uk h;have b:∀k,k<(CJ m s).length->Ah prog 109 [] (V5 m s k) [] (.agg (Bm (Fx ((CJ m s).getD k default).1 ((CJ m s).getD k default).2))):=λk i=>by
  obtain⟨_,_,h3,h4,h5⟩:=OI h (As (d:=default) i);exact Aev h3 h4 h5
 refine Ap func78 (Amm (BZ m s) m s rfl) ⟨BH m s,DS h.wf h.small (λh=>(CI h).clp),λh1=>?_,λ_=>⟨(m,s),RV,?_⟩⟩
 .rw[h.check]at h1;cases h1
 rw[o];refine AA.cv (AtP 0 0 15 (Bj []) rfl rfl) ?_;have c:=RW h;have a:∀k,V5 m s k=[.agg (Ai ((CJ m s).getD k default).1),.agg (Bf ((CJ m s).getD k default).2)]:=λ_=>rfl
 generalize V5 m s=xs at c b a;generalize CJ m s=L at c b a f;refine TD Aj Ak (rfI ((fc BT Ik f78 [] (.tup [.nl,.nl])).sub [1,1,1,0,1])) 18 [19,20] (rfA ((fc BT Ik f78 [] (.tup [.nl,.nl])).sub [1,1,1,0,1])) (rfB ((fc BT Ik f78 [] (.tup [.nl,.nl])).sub [1,1,1,0,1])) kR rfl kR AqL
  ⟨_,func106,rfl,rfl⟩ c (λk=>by rw[a]<;>rfl) [0,3] [1,2] rfl rfl rfl [(7,.bp 0 0)] 2 (λk=>Af7 ((L.take k).map λp=>Fx p.1 p.2)) (λ_=>rfl) rfl (λt=>?_) ?_ ?_ ?_ (λk i=>?_) ?_
 .show VV.le (I1 _ _ (Bs t [(7,.bp 0 0),(18,_)])) (Bs t [(7,.bp 0 0)]);simp only[Bs];cases Nat.beq t 7 with
  | true=>exact lR
  | false=>exact LD _
 .exact CL _
 .exact lR
 .exact CL _
 .have g:=b k i;rw[a]at g |-;have j:(L.take (k+1)).map (λp=>Fx p.1 p.2)=(L.take k).map (λp=>Fx p.1 p.2)++[Fx (L.getD k default).1 (L.getD k default).2]:=by
   rw[Jk (d:=default) i,As7]<;>rfl
  have n:((L.take k).map (λp=>Fx p.1 p.2)).length=k:=by simp;omega
  rw[j];generalize(L.take k).map (λp=>Fx p.1 p.2)=l at n;exact AoW g oM
 .exact AlZ (by rw[AsZ])
def ZV (h:Gs m s):Ah prog 78 [] [.agg (Ae m),.agg (Ag s)] [] (.tup [AC true (BZ m s).1,Aa (BZ m s).2]):=by
 have h1:Ah prog 78 [] [.agg (Ae m),.agg (Ag s)] [.gone 1] (.tup [AC true (BZ m s).1,Aa (BZ m s).2]):=(Pe h).sel [0] kR kR;exact h1.pick [] rfl λj a=>absurd a (AsQ j)
end
def Ah.froz {P:Program}{f:FuncId}{xs:List VV}{c:List Ob}{r r2:VV}{ids:List Nat}(k:Nat)(h:Ah P f [] xs c r)(hp:Fj (Bq c) k r=some (r2,ids))(o:r2.memA=true):Ah P f [] xs [] r2:=by
 refine⟨h.callable,λw E φ vs q t hφ d=>(h.call w E φ vs q t hφ d).mono ?_⟩;rintro e w' ⟨v,φ',rfl,h1,h2,h3,h4⟩;have h5:=GA (ids:=ids) h1 _ r r2 v ids h4 hp λ_ h=>h
 have h6:V w' (E.up (BU ids φ')) (some (BU ids φ')) r2 v:=V.held (V.unhold h5);have a:∀{b:Nat},¬Own (λ_=>none:Phi) b:=λ{b} h=>by
  obtain⟨id,g⟩:=h;obtain⟨p,hp,_⟩:=A4.1 g;cases hp
 refine⟨v,λ_=>none,rfl,⟨h1.sub,λ_ _ e=>(by cases e),λi j k hi _=>absurd ⟨i,hi⟩ a,λk l=>absurd l a⟩,⟨h2.os,h2.tape,h2.output,h2.size,h2.block,λk l=>absurd l a,λid p n=>absurd n (AsQ _)⟩,λid=>⟨λh=>absurd rfl h,λh=>absurd h (AsQ _)⟩,V.memA h6 o ?_⟩;exact λb g=>g.elim .inl λh=>absurd h a
section
variable {m : D.Model} {s:D.State} {e:D.Env} {w:Wy}
def AbL (a:Fit s):Ah prog 81 [] [.agg (Ag s)] [] (.agg (Ag s)):=(OJ a).froz (ids:=[0,1]) 6 kR kR
def QS {c:Int}:Ah prog 79 [] [Aa c] [] (.agg (BG (DC c))) :=
 Ap func79 (AkS (DC c) c) ⟨trivial,lR⟩
def AbT (c:AF e.M)(hs:BO e.S){t:D.Stmt}:Ah prog 110 [] [.agg (Ai e),.agg (Ax t)] [] (.agg (DQ (DF e t))):=by
 have a:DF e t=if t.Kind=1 then(decide ((Bh e t.A).1≠0)||decide ((Bh e t.A).2≠0),(Bh e t.A).2)else if t.Kind=3 then(true,bif decide ((Bh e t.A).2=0)&&decide ((Bh e t.A).1=0)then 50 else(Bh e t.A).2)else(decide (t.Kind=8),0):=rfl
 have b:=HO c hs t.A;generalize DF e t=r at a;generalize Bh e t.A=y at a b;refine Ap func110 (AgK r e t rfl) ⟨λh1=>⟨y,b,?_⟩,λh1=>⟨λh2=>⟨y,b,λh3=>?_,λh3=>?_⟩,λh2=>?_⟩⟩
 .rw[AsE (by simpa using h1)]at a;subst a;refine⟨trivial,As3 ?_⟩;rw[Ce,A2,A2]<;>rfl
 .rw[Asv (by simpa using h1),AsE (by simpa using h2)]at a;rw[B3]at h3;rw[show(decide (y.2=0)&&decide (y.1=0))=true by simpa using h3,Ar3]at a;subst a;exact⟨trivial,lR⟩
 .rw[Asv (by simpa using h1),AsE (by simpa using h2)]at a;rw[B3]at h3;rw[show(decide (y.2=0)&&decide (y.1=0))=false by simpa using h3,Ar1]at a;subst a;exact⟨trivial,lR⟩
 .rw[Asv (by simpa using h1),Asv (by simpa using h2)]at a;subst a;refine⟨trivial,As3 ?_⟩;rw[show(t.Kind==8)=decide (t.Kind=8)by rw[AsU];simp]<;>rfl
def ApA {out:List Wc}{x:Wc}{G:Nat->List VV}(a:G 0=DQ x){i:Nat}(hi:i<out.length+1):(bif i.blt out.length then Kt out i else G (i-out.length))=Kt (out++[x]) i :=
 BW (f:=DQ) (d:=default) (l:=out) (r:=[x]) (F:=Kt out) (λ_ _=>rfl) (λj b=>by
  obtain rfl:j=0:=by simpa using b
  exact a) (by simp;omega)
def PG (m:D.Model)(s:D.State)(k i:Nat):Wc:=bif Nat.blt i k then Ir m s i else DF (Cj m s) ((Au m s).getD i default).S
def GH (m:D.Model)(s:D.State)(k:Nat):List Wc:=(List.range (Au m s).length).map (PG m s k)
def IJ {k:Nat}:(GH m s k).length=(Au m s).length:=by simp[GH]
def Qx {k j:Nat}(a:j<(Au m s).length):(GH m s k).getD j default=PG m s k j:=by
 simp[GH,List.getD,a]
def ZC:GH m s 0=(Au m s).map λt=>DF (Cj m s) t.S:=by
 refine List.ext_getElem (by simp[GH]) λi h1 h2=>?_
 have hi:i<(Au m s).length:=by simpa[GH]using h1
 simp only[GH,List.getElem_map,List.getElem_range];show PG m s 0 i=_;unfold PG;rw[show Nat.blt i 0=false from rfl,Ar1];simp[List.getD,hi]
def AdX:GH m s (Au m s).length=Eh m s:=by
 refine AtT λi hi=>?_
 unfold PG;rw[DH (As8.1 hi)]
def S5 {k:Nat}:PG m s k k=DF (Cj m s) ((Au m s).getD k default).S:=by
 unfold PG;rw[EG (Ar6 _)]
def S4 {k j:Nat}(h:j≠k):PG m s (k+1) j=PG m s k j:=by
 unfold PG;rcases AsL j k with a|a
 .rw[DH a,DH oM]
 .rw[EG a,EG oM]
def Wp {k:Nat}:PG m s (k+1) k=Ir m s k:=by unfold PG;rw[DH (Ata _)]
def R4 (h:Gs m s)(n:0<=m.Claim):Ah prog 80 [] [.agg (Ae m),.agg (Ag s)] [] (CM true (Eh m s)):=by
 obtain⟨r,u,v⟩:=NV h n;obtain⟨A,B,C⟩:=NU h n;have hd:=λt=>AbT (e:=Cj m s) (t:=t) h.wf h.small
 refine Ap func80 (AgC (Eh m s) m s rfl) ⟨(EI m s,0),by rw[Y5 h];exact Uz h.wf h.small h.check,⟨n,r⟩,⟨u,v⟩,?_⟩;refine AA.own 1 8 2 (Kt []) rfl ?_;change AA _ _ (AlV (Cj m s) (((Au m s).take 0).map λt=>DF (Cj m s) t.S) (((Au m s).take 0).any λt=>(DF (Cj m s) t.S).1) (Au m s) ((0:Nat):Int));refine Ar (Au m s).length (λk=>AlV (Cj m s) (((Au m s).take k).map λt=>DF (Cj m s) t.S) (((Au m s).take k).any λt=>(DF (Cj m s) t.S).1) (Au m s) k) (λ_=>True) trivial ?_;intro k y _ J next
 have z:(((Au m s).take k).map λt=>DF (Cj m s) t.S).length=k:=by simp;omega
 refine Asm (AbJ (Eh m s) m s (Cj m s) _ _ (Au m s) k J) ⟨λb=>?_,λc=>?_⟩
 .have a:k<(Au m s).length:=by have:=A0 b;omega
  have d:(k:Int).toNat=k:=oM
  rw[d];have o:(Au m s).take (k+1)=(Au m s).take k++[(Au m s).getD k default]:=Jk a;refine⟨⟨oM,oM⟩,DF (Cj m s) ((Au m s).getD k default).S,hd _,oM,next _ a trivial ?_⟩;rw[o,As7,List.any_append,AsT,Ath,AtK,List.any_nil,Bool.or_false,Al oM];refine Up.mk (l':=[(7,.bp 0 0),(8,.ow 1 0 ((((Au m s).take k).map λt=>DF (Cj m s) t.S).length+1)),(9,Ac ((((Au m s).take k).any λt=>(DF (Cj m s) t.S).1)||(DF (Cj m s) ((Au m s).getD k default).S).1)),(10,Ao true (Au m s)),(38,Ao true (Au m s)),(39,Aa (Au m s).length),(40,Aa ((k+1:Nat):Int))])
   (hs':=[.box (Ai (Cj m s)),.arr true 0 ((((Au m s).take k).map λt=>DF (Cj m s) t.S).length+1) 2 (Kt ((((Au m s).take k).map λt=>DF (Cj m s) t.S)++[DF (Cj m s) ((Au m s).getD k default).S]))])
   ⟨⟨rfl,lR⟩,⟨rfl,lR⟩,⟨rfl,As3 (by rw[Ce])⟩,⟨rfl,lR⟩,⟨rfl,lR⟩,⟨rfl,lR⟩,⟨rfl,lR⟩,trivial⟩ ⟨Ob.le_refl _,Asw λi hi=>AN (ApA (x:=DF (Cj m s) ((Au m s).getD k default).S) (G:=λi=>List.take 2 (List.drop (i*2) (DQ (DF (Cj m s) ((Au m s).getD k default).S)))) rfl hi),trivial⟩ ?_
  unfold AlV;rw[Ar7]<;>rfl
 .obtain rfl:k=(Au m s).length:=by have:=A1 c;omega
  rw[AsZ,<- ZC];have p:((Au m s).any λt=>(DF (Cj m s) t.S).1)=IP m s:=rfl;rw[p];refine Ar (Au m s).length (λk=>AlU (GH m s k) (IP m s) (Au m s) k) (λ_=>True) trivial ?_;intro k y _ J next
  refine Asm (AbI (Eh m s) (GH m s k) (IP m s) (Au m s) k J) ⟨λb=>?_,λc=>?_⟩
  .have a:k<(Au m s).length:=by have:=A0 b;omega
   have d:(k:Int).toNat=k:=oM
   rw[d];have l:Ir m s k=bif decide (((Au m s).getD k default).S.Kind=7)&&!IP m s then(true,(DF (Cj m s) ((Au m s).getD k default).S).2)else DF (Cj m s) ((Au m s).getD k default).S:=rfl
   refine⟨⟨oM,oM⟩,λf=>⟨⟨oM,by rw[IJ];omega⟩,next _ a trivial ?_⟩,λf=>next _ a trivial (Up.of ?_)⟩
   .rw[B3,show((((Au m s).getD k default).S.Kind==7)&&!IP m s)=(decide (((Au m s).getD k default).S.Kind=7)&&!IP m s)by rw[show(((Au m s).getD k default).S.Kind==7)=decide (((Au m s).getD k default).S.Kind=7)by rw[AsU];simp]]at f;rw[f,Ar3]at l;rw[Al oM,Qx a,S5];refine Up.mk (l':=[(8,.ow 0 0 (GH m s (k+1)).length),(9,Ac (IP m s)),(58,Ao true (Au m s)),(59,Aa (Au m s).length),(60,Aa ((k+1:Nat):Int))]) (hs':=[.arr true 0 (GH m s (k+1)).length 2 (Kt (GH m s (k+1)))]) ?_ ?_ rfl
    .rw[IJ,IJ];exact AR _
    .rw[IJ,IJ];refine⟨Asw λj g=>AN ?_,trivial⟩;show _=DQ ((GH m s (k+1)).getD j default);rw[Qx g,Qx g];cases q:j.beq k with
     | true =>
      have:=Ar5 q;subst this;rw[Ar3,Wp,l]<;>rfl
     | false=>rw[Ar1,S4 (by rintro rfl;simp at q)]
   .rw[B3,show((((Au m s).getD k default).S.Kind==7)&&!IP m s)=(decide (((Au m s).getD k default).S.Kind=7)&&!IP m s)by rw[show(((Au m s).getD k default).S.Kind==7)=decide (((Au m s).getD k default).S.Kind=7)by rw[AsU];simp]]at f;rw[f,Ar1]at l;have:GH m s (k+1)=GH m s k:=AtT λj _=>by
     by_cases g:j=k
     .subst g;rw[Wp,S5,l]
     .exact S4 g
    rw[this,Al oM]
  .obtain rfl:k=(Au m s).length:=by have:=A1 c;omega
   rw[AdX];exact⟨trivial,lR⟩
end
section
variable {m : D.Model} {s:D.State} {e:D.Env} {w:Wy}
def ApE {out:List Nx}{x:Nx}{G:Nat->List VV}(a:leL (G 0) (Bm x)){i:Nat}(hi:i<out.length+1):leL (bif i.blt out.length then Bm (out.getD i default)else G (i-out.length)) (Bj (out++[x]) i):=by
 rcases AsL i out.length with h|h
 .rw[DH h];refine AN ?_;show _=Bm ((out++[x]).getD i default);simp[Asg h]
 .rw[EG h];obtain rfl:i=out.length:=oM
  show leL _ (Bm ((out++[x]).getD out.length default));have:(out++[x]).getD out.length default=x:=by simp
  rw[this,Nat.sub_self];exact a
def AaX {k:Nat}:D9 m s (k+1)=D9 m s k++KE m s k:=rfl
def N8:(Eh m s).length=(Au m s).length:=by simp[Eh]
def Ahn {k:Nat}(h:k<(Au m s).length):(Eh m s).getD k default=Ir m s k:=by simp[Eh,List.getD,h]
def AcH {l:Nat->List (Nat×VV)}{J:St->Prop}{out:List Nx}{x:Nx}{G:Nat->List VV}(a:leL (G 0) (Bm x))
  (h:J (An (l (out++[x]).length) [.box (Ae m),.box (Ag s),.arr true 0 (out++[x]).length 15 (Bj (out++[x]))])) :
  Up J (An (l (out.length+1)) [.box (Ae m),.box (Ag s),.arr true 0 (out.length+1) 15 λi=>bif i.blt out.length then Bm (out.getD i default)else G (i-out.length)]):=by
 rw[show(out++[x]).length=out.length+1 by simp]at h;exact Up.mk (hs':=[.box (Ae m),.box (Ag s),.arr true 0 (out.length+1) 15 (Bj (out++[x]))]) (AR _) ⟨Ob.le_refl _,Ob.le_refl _,Asw λi hi=>ApE (x:=x) (G:=G) a hi,trivial⟩ h
def Pz (h:Gs m s)(y:0<=m.Claim):AA (fc BT Fp f54 [] (.tup [AC true (D9 m s (Au m s).length,(0:Int)).1,Aa (D9 m s (Au m s).length,(0:Int)).2])) [1,1,1,1,1,0,1,0] (Aet m s (E7 m s) (Eh m s) [] 0):=by
 obtain⟨O,P,Q⟩:=NV h y;obtain⟨R,V,W⟩:=NU h y;obtain⟨S,r2⟩:=AcD h;have B:=λk z=>(Ov h y (k:=k) z).1
 change AA _ _ (Aet m s (E7 m s) (Eh m s) (D9 m s 0) ((0:Nat):Int));refine Ar (Au m s).length (λk=>Aet m s (E7 m s) (Eh m s) (D9 m s k) k) (λ_=>True) trivial ?_;intro k z _ J next
 have C:=B k z;refine Asm (YR _ m s (E7 m s) (Eh m s) (D9 m s k) k J rfl) ⟨λE=>?_,λF=>?_⟩
 .have c:k<(Au m s).length:=by have:=A0 E;rw[N8]at this;omega
  have H:(k:Int).toNat=k:=oM
  have g:KE m s k=bif !(Ir m s k).1 then[]else bif decide ((Ir m s k).2≠0)then[⟨DC k,BK,(Ir m s k).2,noT⟩]else(E7 m s).map (GG k ((Au m s).getD k default).To):=rfl
  have a:=AaX (m:=m) (s:=s) (k:=k);rw[H,Ahn c];generalize KE m s k=nk at g a;generalize D9 m s (k+1)=nk1 at a next
  generalize D9 m s k=out at C a;have f:out.length<=292075601920:=by have:=Ask 285230080 z;have:=Ask 285230080 R;omega
  refine⟨⟨oM,by rw[N8];omega⟩,λA=>next _ c trivial (Up.of ?_),λA=>⟨λf=>⟨DC k,QS,oM,next _ c trivial ?_⟩,λf=>?_⟩⟩
  .rw[A,Ar3]at g;rw[a,g,Atf,Al oM]
  .rw[A,Ar1,show decide ((Ir m s k).2≠0)=true by simpa using f,Ar3]at g;rw[Al oM];refine AcH (x:=⟨DC k,BK,(Ir m s k).2,noT⟩) (l:=λn=>[(2,.bp 0 0),(3,.bp 1 0),(6,AC true (E7 m s)),(8,.ow 2 0 n),(37,CM true (Eh m s)),(38,Aa (Eh m s).length),(39,Aa ((k+1:Nat):Int))]) (G:=λi=>List.take 15 (List.drop (i*15) [Aa (DC k).Pid,Aa (DC k).Esc,Aa (DC k).Way,Aa (DC k).With,Aa (DC k).WithEsc,Aa (DC k).WithWay,Aa (DC k).Claim,VV.nl,VV.nl,VV.nl,Aa 0,Aa 0,Aa 0,Aa (Ir m s k).2,AM ByteArray.empty])) ?_ ?_
   .exact⟨lR,lR,lR,lR,lR,lR,lR,AsB,AsB,AsB,lR,lR,lR,lR,lR,trivial⟩
   .rw[a,g]<;>rfl
  .rw[A,Ar1,show decide ((Ir m s k).2≠0)=false by simpa using f,Ar1]at g;have key:nk1=out++((E7 m s).take (E7 m s).length).map (GG k ((Au m s).getD k default).To):=by rw[AsZ,a,g]
   generalize E7 m s=L at S r2 key next
   clear g a;have T:out=out++(L.take 0).map (GG k ((Au m s).getD k default).To):=sM
   have I:AhQ m s L (Eh m s) out k 0=AhQ m s L (Eh m s) (out++(L.take 0).map (GG k ((Au m s).getD k default).To)) k ((0:Nat):Int):=by rw[<- T]<;>rfl
   rw[I];refine Ar L.length (λi=>AhQ m s L (Eh m s) (out++(L.take i).map (GG k ((Au m s).getD k default).To)) k i) (λ_=>True) trivial ?_;intro i hi _ J2 next2;have K:(out++(L.take i).map (GG k ((Au m s).getD k default).To)).length<=292075601920+285230080:=by simp;omega
   refine Asm (YQ _ m s L (Eh m s) (out++(L.take i).map (GG k ((Au m s).getD k default).To)) k i J J2 rfl rfl rfl) ⟨λo=>?_,λp=>?_⟩
   .have b:i<L.length:=by have:=A0 o;omega
    have q:(i:Int).toNat=i:=oM
    rw[q];have M:=next2;have r:(L.take (i+1)).map (GG k ((Au m s).getD k default).To)=(L.take i).map (GG k ((Au m s).getD k default).To)++[GG k ((Au m s).getD k default).To (L.getD i default)]:=by rw[Jk (d:=default) b,As7]<;>rfl
    have t:=r2 _ (As (d:=default) b);rw[r,<- As0]at next2;clear M r;have j:GG k ((Au m s).getD k default).To (L.getD i default)=bif decide ((L.getD i default).Err=0)then⟨{(L.getD i default).Move with Claim:=k},{(L.getD i default).State with Claim:=((Au m s).getD k default).To},(L.getD i default).Err,(L.getD i default).Text⟩else⟨{(L.getD i default).Move with Claim:=k},(L.getD i default).State,(L.getD i default).Err,(L.getD i default).Text⟩:=rfl
    generalize GG k ((Au m s).getD k default).To (L.getD i default)=x at j next2;generalize out++(L.take i).map (GG k ((Au m s).getD k default).To)=u at K next2;generalize L.getD i default=n at t j;have fin:∀(G:Nat->List VV),leL (G 0) (Bm x)->J2 (An [(2,.bp 0 0),(3,.bp 1 0),(6,AC true L),(8,.ow 2 0 (u.length+1)),(9,Aa k),(37,CM true (Eh m s)),(38,Aa (Eh m s).length),(39,Aa k),(58,AC true L),(59,Aa L.length),(60,Aa ((i+1:Nat):Int))]
      [.box (Ae m),.box (Ag s),.arr true 0 (u.length+1) 15 λi=>bif i.blt u.length then Bm (u.getD i default)else G (i-u.length)]):=λG U=>next2 _ b trivial (AcH (x:=x) (l:=λn=>[(2,.bp 0 0),(3,.bp 1 0),(6,AC true L),(8,.ow 2 0 n),(9,Aa k),(37,CM true (Eh m s)),(38,Aa (Eh m s).length),(39,Aa k),(58,AC true L),(59,Aa L.length),(60,Aa ((i+1:Nat):Int))]) (G:=G) U rfl)
    rw[Al oM];refine⟨⟨oM,oM⟩,λN=>?_,λN=>⟨oM,fin (λi=>List.take 15 (List.drop (i*15) [Aa n.Move.Pid,Aa n.Move.Esc,Aa n.Move.Way,Aa n.Move.With,Aa n.Move.WithEsc,Aa n.Move.WithWay,Aa k,Ad true n.State.Globals,AL true n.State.Chans,Av true n.State.Procs,Aa n.State.Last,Aa n.State.Alone,Aa n.State.Claim,Aa n.Err,AM n.Text])) ?_⟩⟩
    .have v:n.Err=0:=by simpa using N
     rw[Asx v,Ar3]at j;refine⟨n.State,AbL (t.gs v).fit,⟨y,O⟩,⟨P,Q⟩,⟨oM,by show(k:Int)<(Au m s).length;omega⟩,oM,fin (λi=>List.take 15 (List.drop (i*15) [Aa n.Move.Pid,Aa n.Move.Esc,Aa n.Move.Way,Aa n.Move.With,Aa n.Move.WithEsc,Aa n.Move.WithWay,Aa k,Ad true n.State.Globals,AL true n.State.Chans,Av true n.State.Procs,Aa n.State.Last,Aa n.State.Alone,Aa ((Au m s).getD k default).To,Aa n.Err,AM n.Text])) ?_⟩;rw[j];exact AN rfl
    .rw[Asu (by simpa using N),Ar1]at j;rw[j];exact AN rfl
   .obtain rfl:i=L.length:=by have:=A1 p;omega
    rw[<- key,Al oM];exact next _ c trivial (Up.of rfl)
 .obtain rfl:k=(Au m s).length:=by have:=A1 F;rw[N8]at this;omega
  exact⟨trivial,lR⟩
def YJ (h:Gs m s):Ah prog 54 [] [.agg (Ae m),.agg (Ag s)] [] (.tup [AC true (Cl m s).1,Aa (Cl m s).2]):=by
 have c:Cl m s=bif decide ((BZ m s).2≠0)||decide (m.Claim<0)then BZ m s else(D9 m s (Au m s).length,0):=rfl
 refine Ap func54 (AbU (Cl m s) m s rfl rfl) ⟨BZ m s,ZV h,λa=>?_,λa=>?_⟩
 .rw[Ce,A2]at a;rw[a,Ar3]at c;rw[c];exact⟨trivial,lR⟩
 .rw[Ce,A2]at a;rw[a,Ar1]at c;simp only[Ass,AsF]at a;have d:0<=m.Claim:=oM
  rw[c];refine⟨λf=>⟨DC (-1),QS,Eh m s,R4 h d,?_⟩,λf=>⟨Eh m s,R4 h d,?_⟩⟩
  .have g:E7 m s=[⟨DC (-1),s,0,noT⟩]:=by
    unfold E7;rw[Asu (by have:((BZ m s).1.length:Int)=0:=(by simpa using f);omega),Ar1]
   have b:=Pz h d;rw[g]at b;generalize Eh m s=ws at b;have h0:∀(F:Nat->List VV),F 0=Bm ⟨DC (-1),s,0,noT⟩->∀i,i<1->leL (F i) (Bj [⟨DC (-1),s,0,noT⟩] i):=λF j i hi=>by
    obtain rfl:i=0:=oM
    exact AN j
   refine AA.le (hs':=[.box (Ae m),.box (Ag s),.arr true 0 1 15 (Bj [⟨DC (-1),s,0,noT⟩])]) (AR _) ⟨Ob.le_refl _,Ob.le_refl _,Asw (h0 _ rfl),trivial⟩ ?_;refine AA.cv (Cv.pub (k:=2) (id:=2) rfl rfl) ?_;refine AA.forget [2,3,6,8,37,38,39] kR ?_;have l:Go.Proofs.YtddhibmbpmcnpaaGreatDoor.forget 0 [2,3,6,8,37,38,39] (An ([(2,VV.bp 0 0),(3,.bp 1 0),(6,.ow 2 0 1),(8,.nl),(37,CM true ws),(38,Aa ws.length),(39,Aa 0)].set 2 (6,.sl true 1 15 (Bj [⟨DC (-1),s,0,noT⟩]))) ([Ob.box (Ae m),.box (Ag s),.arr true 0 1 15 (Bj [⟨DC (-1),s,0,noT⟩])].set 2 (.gone (0+1))))=An [(2,.bp 0 0),(3,.bp 1 0),(6,AC true [⟨DC (-1),s,0,noT⟩]),(8,.nl),(37,CM true ws),(38,Aa ws.length),(39,Aa 0)] [.box (Ae m),.box (Ag s)]:=kR
   show AA _ _ (Go.Proofs.YtddhibmbpmcnpaaGreatDoor.forget 0 [2,3,6,8,37,38,39] _);refine Eq.mpr (congrArg (AA _ _) l) ?_;exact AA.own 3 8 15 (Bj []) rfl b
  .have g:E7 m s=(BZ m s).1:=by
    unfold E7;rw[Asx (by have:((BZ m s).1.length:Int)≠0:=(by simpa using f);omega),Ar3]
   have b:=Pz h d;rw[g]at b;exact AA.own 3 8 15 (Bj []) rfl b
end
section
variable {m : D.Model} {s:D.State} {e:D.Env} {w:Wy}
def AcC {α:Type}{f:α->List VV}{d:α}{out:List α}{x:α}{G:Nat->List VV}(a:leL (G 0) (f x)){i:Nat}(hi:i<out.length+1):leL (bif i.blt out.length then f (out.getD i d)else G (i-out.length)) (f ((out++[x]).getD i d)):=by
 rcases AsL i out.length with h|h
 .rw[DH h];refine AN ?_;simp[Asg h]
 .rw[EG h];obtain rfl:i=out.length:=oM
  have:(out++[x]).getD out.length d=x:=by simp
  rw[this,Nat.sub_self];exact a
def Amr (n:Nat):leL [VV.sl false n 1 λ_=>[Aa 0]] [Ad false (List.replicate n 0)]:=by
 refine AN ?_;have:(λi=>[Aa ((List.replicate n (0:Int)).getD i 0)])=λ_=>[Aa 0]:=by
  funext i
  have:(List.replicate n (0:Int)).getD i 0=0:=by
   simp only[Asj,List.getElem?_replicate];split<;>rfl
  rw[this]
 unfold Ad;rw[List.length_replicate,this]
def Abt (z:AF m)(h:DU m=true):Ah prog 12 [] [.agg (Ae m)] [] (.tup [.agg (Ag (AY m)),Aa 0]):=by
 have I:∀k:Nat,k<m.Procs.length->DE (A7 m k)=true:=λk y=>(Ea (Cg h).2.1 k y).1
 have R:m.Chans.length<=1048576:=z.Chans.1;have K:=λk y=>Ac1 h (k:=k) y
 refine Ap func12 (Aib (AY m) 0 m rfl) ⟨DU m,RC z,λg=>(by rw[h]at g;cases g),λ_=>⟨m.Init,AbN (by have:=z.Init.1;omega),?_⟩⟩;refine AA.cv (AtP 2 1 2 (D7 []) rfl rfl) ?_;change AA _ _ (Acu m ((m.Chans.take 0).map λc=>⟨c,[]⟩) ((0:Nat):Int));refine Ar m.Chans.length (λk=>Acu m ((m.Chans.take k).map λc=>⟨c,[]⟩) k) (λ_=>True) trivial ?_;intro k y _ J next
 have A:((m.Chans.take k).map λc=>(⟨c,[]⟩:D.Chan)).length=k:=by simp;omega
 refine Asm (AeP _ 0 m ((m.Chans.take k).map λc=>⟨c,[]⟩) k J rfl) ⟨λo=>?_,λq=>?_⟩
 .have a:k<m.Chans.length:=by have:=A0 o;omega
  have B:(k:Int).toNat=k:=oM
  rw[B];have L:(m.Chans.take (k+1)).map (λc=>(⟨c,[]⟩:D.Chan))=(m.Chans.take k).map (λc=>⟨c,[]⟩)++[⟨m.Chans.getD k 0,[]⟩]:=by rw[Jk (d:=(0:Int)) a,As7]<;>rfl
  refine⟨⟨oM,oM⟩,oM,next _ a trivial ?_⟩;rw[L,Al oM];generalize(m.Chans.take k).map (λc=>(⟨c,[]⟩:D.Chan))=out at A;refine Up.mk (hs':=[.box (Ae m),PC,Ak9 m.Init (.ow 3 0 (out.length+1)) .nl,.arr true 0 (out.length+1) 2 (D7 (out++[(⟨m.Chans.getD k 0,[]⟩:D.Chan)]))]) (AR _) ⟨Ob.le_refl _,Ob.le_refl _,Ob.le_refl _,Asw λi hi=>AcC (f:=Ay) (d:=default) (x:=⟨m.Chans.getD k 0,[]⟩) (G:=λi=>List.take 2 (List.drop (i*2) [Aa (m.Chans.getD k 0),VV.nl])) ⟨lR,AsB,trivial⟩ hi,trivial⟩ ?_;unfold Acu;rw[Ar7]<;>rfl
 .obtain rfl:k=m.Chans.length:=by have:=A1 q;omega
  rw[AsZ];have r:(AY m).Chans=m.Chans.map λc=>⟨c,[]⟩:=rfl
  have C:(AY m).Procs=Ci m m.Procs.length:=rfl;refine AA.cv (AtP 2 2 4 (Db []) rfl rfl) ?_;generalize W:m.Chans.map (λc=>(⟨c,[]⟩:D.Chan))=cs at r A;change AA _ _ (Acs m cs (Ci m 0) ((0:Nat):Int));refine Ar m.Procs.length (λk=>Acs m cs (Ci m k) k) (λ_=>True) trivial ?_;intro k y _ J next
  have t:=K k y;refine Asm (AeO (AY m) 0 m cs (Ci m k) k J rfl) ⟨λo=>?_,λq=>?_⟩
  .have a:k<m.Procs.length:=by have:=A0 o;omega
   have B:(k:Int).toNat=k:=oM
   have S:DE (A7 m k)=true:=I k a;have M:m.Procs.getD (k:Int).toNat default=A7 m k:=rfl;have n:=S;unfold DE at n;simp only[Ar2,Asc]at n;have X:=n.1.1.1.1.1.1.1.1;have Y:=n.1.1.1.1.1.1.1.2;have T:=n.1.1.1.1.1.2;have Z:=n.1.1.1.1.2;have a4:=n.1.1.1.2;have a5:=n.1.1.2;have U:=z.Procs.1;have E:=Ts (args:=List.replicate (A7 m k).Params.toNat 0) z (typ:=k) ⟨oM,oM⟩ (by simp;omega) (by simp;omega) (by simp;omega);have l:Ci m (k+1)=Ci m k++List.replicate (A7 m k).Active.toNat (Gw m k (List.replicate (A7 m k).Params.toNat 0)):=rfl;rw[M];refine⟨⟨oM,oM⟩,?_⟩;generalize Gw m k (List.replicate (A7 m k).Params.toNat 0)=b at E l;generalize A7 m k=p at *;generalize Ci m (k+1)=ps1 at l next
   generalize Ci m k=ps at l t;have V:Tk m cs ps k p p.Active 0=Tk m cs (ps++List.replicate 0 b) k p p.Active ((0:Nat):Int):=by rw[List.replicate_zero,Atf]<;>rfl
   rw[V];refine Ar p.Active.toNat (λj=>Tk m cs (ps++List.replicate j b) k p p.Active j) (λ_=>True) trivial ?_;intro j hj _ J2 next2;have N:(ps++List.replicate j b).length=ps.length+j:=sM
   refine Asm (AeN _ 0 m cs (ps++List.replicate j b) k p p.Active j J J2) ⟨λF=>?_,λH=>?_⟩
   .have u:j<p.Active.toNat:=by have:=A0 F;omega
    have O:ps++List.replicate (j+1) b=(ps++List.replicate j b)++[b]:=by rw[List.replicate_succ',As0]
    have P:=(Amr p.Params.toNat).1;refine⟨⟨T,AtD _,oM⟩,b,E.le trivial ⟨lR,lR,P,trivial⟩ trivial lR,oM,next2 _ u trivial ?_⟩;rw[O,Al oM];generalize ps++List.replicate j b=Q at N;refine Up.mk (hs':=[.box (Ae m),PC,Ak9 m.Init (.ow 3 0 cs.length) (.ow 4 0 (Q.length+1)),.arr true 0 cs.length 2 (D7 cs),.arr true 0 (Q.length+1) 4 (Db (Q++[b])),.box (AV p)]) (AR _) ⟨Ob.le_refl _,Ob.le_refl _,Ob.le_refl _,Ob.le_refl _,Asw λi hi=>AcC (f:=Aw) (d:=default) (x:=b) (G:=λi=>List.take 4 (List.drop (i*4) (Aw b))) (Bt _) hi,Ob.le_refl _,trivial⟩ ?_;unfold Tk;rw[Ar7]<;>rfl
   .obtain rfl:j=p.Active.toNat:=by have:=A1 H;omega
    rw[<- l];refine next _ a trivial (Up.of ?_)
    rw[Al oM]
  .obtain rfl:k=m.Procs.length:=by have:=A1 q;omega
   refine⟨λg=>⟨?_,trivial,?_⟩,λg=>⟨trivial,?_⟩⟩
   .have:=Asd g;exact⟨oM,(CI h).clp⟩
   .have g:0<=m.Claim:=Asd g;have v:(AY m).Claim=(A7 m m.Claim).Start:=by
     unfold AY;rw[Asx g]<;>rfl
    refine As3 ?_;show _=VV.tup [.agg [Ad true (AY m).Globals,AL true (AY m).Chans,Av true (AY m).Procs,Aa (AY m).Last,Aa (AY m).Alone,Aa (AY m).Claim],Aa 0];rw[v,r,C]<;>rfl
   .have g:¬0<=m.Claim:=Asn g;have v:(AY m).Claim=-1:=by
     unfold AY;rw[Asu g]<;>rfl
    refine As3 ?_;show _=VV.tup [.agg [Ad true (AY m).Globals,AL true (AY m).Chans,Av true (AY m).Procs,Aa (AY m).Last,Aa (AY m).Alone,Aa (AY m).Claim],Aa 0];rw[v,r,C]<;>rfl
end
def OW:Ann:={keep:=fun
  | [0,1,0,1,1]=>[3,4,29,30,31]
  | _=>[]}
def MY:Ann:={keep:=fun
  | [0,1,0,1,1,1,1]=>[2,3,10,26,27,28]
  | _=>[]}
def BN:Ann:={keep:=fun
  | [0,1,0,1]=>[0,1,7,8]
  | _=>[]}
def H3 (t f:VV)(n k:Int):St:=An [(0,t),(1,f),(7,Aa n),(8,Aa k)] []
def Ars:List Nat:=[1,1,1]
def Sl:Ann:={cut:=(λ| [1,1,1]=>true | _=>false),keep:=fun
  | [1,1,1]=>[2,3,5]
  | _=>[]}
def AlS (m:D.Model)(p:D.Proc)(w:List D.Trans)(k:Int):St:=An [(3,.bp 0 0),(4,.bp 1 0),(29,Ao true w),(30,Aa w.length),(31,Aa k)] [.box (Ae m),.box (AV p)]
def AoR (m:D.Model)(l:List Nx)(ps:List D.Process)(out:List Int)(k:Int):St:=An [(2,AC false l),(3,.bp 0 0),(10,.ow 1 0 out.length),(26,Av true ps),(27,Aa ps.length),(28,Aa k)] [.box (Ae m),.arr true 0 out.length 1 (AO out)]
def An7 (m:D.Model)(s:D.Stmt)(c:List VV):St:=An [(2,.tp (Ae m)),(3,.tp (Ax s)),(5,.tp c)] []
def Ajq (b:Bool)(x:D.Expr):(fc EJ AI f39 [] (Ac b)).goal (St.init [] [.agg (AG x)]) =
  (LQ (Ac (bif bif bif bif x.Op==32 then true else x.Op==36 then true else x.Op==37 then true else x.Op==38 then true else bif x.Op==2 then x.V.Scope==2 else false)) (Ac b)):=kR
def AiW (b:Bool)(m:D.Model)(p:D.Proc):(fc EJ AI f40 [] (Ac b)).goal (St.init [] [.agg (AV p),.tp (Ae m)]) =
  (inX (0:Int) m.Procs.length/\LQ (Ac (p.Prio != (m.Procs.getD (Int.toNat (0:Int)) default).Prio)) (Ac b)):=kR
def AiP (b:Bool)(x:D.Expr):(fc EJ AI f42 [] (Ac b)).goal (St.init [] [.agg (AG x)]) =
  (LQ (Ac (x.Op==35)) (Ac b)):=kR
def AjD (b:Bool)(p:D.Proc):(fc EJ AI f43 [] (Ac b)).goal (St.init [] [.agg (AV p)]) =
  (∃(y:Bool),VC 44 [CN true p.Locs,VV.fn (Fn.func (nat_lit 45)) []] (Ac y)/\LQ (Ac y) (Ac b)):=kR
def AjB (b:Bool)(l:D.Loc):(fc EJ AI f45 [] (Ac b)).goal (St.init [] [.agg (AW l)]) =
  (LQ (Ac l.Atomic) (Ac b)):=kR
def AjF (r:Int)(m:D.Model):(fc EJ AI f20 [] (Aa r)).goal (St.init [] [.agg (Ae m)]) =
  (∃(y:Int×Int×Int),VC 19 [VV.agg (Ae m)] (Mj y)/\BB (y.fst != 0) (LQ (Aa y.fst) (Aa r)) (∃(y:Bool),VC 41 [AS true m.Exprs,VV.fn (Fn.func (nat_lit 42)) []] (Ac y)/\∃(a:Bool),((true&&decide (m.Claim>=0)==false)=true->VC 41 [AS true m.Exprs,VV.fn (Fn.func (nat_lit 39)) []] (Ac a))/\∃(b:Bool),((true&&(bif decide (m.Claim>=0)then true else a)==false)=true->VC 46 [AE true m.Procs,VV.fn (Fn.func (nat_lit 40)) [tpM m]] (Ac b))/\∃(c:Bool),((true&&(bif bif decide (m.Claim>=0)then true else a then true else b)==false&&y==true)=true->VC 46 [AE true m.Procs,VV.fn (Fn.func (nat_lit 43)) []] (Ac c))/\BB (bif bif bif decide (m.Claim>=0)then true else a then true else b then true else bif y then c else false) (LQ (Aa 44) (Aa r)) (LQ (Aa 0) (Aa r)))):=kR
def Afo (b:Bool)(l:D.Loc):(fc EJ AI f112 [] (Ac b)).goal (St.init [] [.agg (AW l)]) =
  (LQ (Ac (bif bif bif l.Atomic then true else l.Dstep then true else l.Accept then true else l.Progress)) (Ac b)):=kR
def AaM (b:Bool)(m:D.Model)(l:D.Loc):(fc EJ AI f114 [] (Ac b)).goal (St.init [] [.agg (Ae m),.agg (AW l)]) =
  (∃(y:Bool),VC 134 [AJ true m.Shapes,VV.fn (Fn.func (nat_lit 135)) []] (Ac y)/\BB (!y) (LQ (Ac false) (Ac b)) ((1+l.Esc.length)*24<=140737488355328/\(∀(i:Nat),i<l.Esc.length->((λ(i:Nat)=>[Ao true (l.Esc.getD i [])]) i).all VV.mem1=true)/\∃(y:Bool),VC 137 [VV.sl false (1+l.Esc.length) 1 λ(i:Nat)=>bif i.blt 1 then(λ(i:Nat)=>List.take 1 (List.drop (i*1) [Ao true l.Out])) i else[Ao true (l.Esc.getD (i-1) [])],VV.fn (Fn.func (nat_lit 138)) [VV.tp [VV.fn (Fn.func (nat_lit 136)) []]]] (Ac y)/\LQ (Ac y) (Ac b))):=kR
def Ai0 (b:Bool)(s:D.Shape):(fc EJ AI f135 [] (Ac b)).goal (St.init [] [.agg (B7 s)]) =
  (LQ (Ac (s.Room==0)) (Ac b)):=kR
def AiZ (b:Bool)(t:D.Trans):(fc EJ AI f136 [] (Ac b)).goal (St.init [] [.agg (CA t)]) =
  (LQ (Ac (bif t.S.Kind==6 then decide (t.S.N<2)else false)) (Ac b)):=kR
def AiY (b:Bool)(w:List D.Trans):(fc EJ AI f138 [] (Ac b)).goal (St.init [] [Ao true w,.tp [.fn (.func 136) []]]) =
  (∃(y:Bool),VC 139 [Ao true w,VV.fn (Fn.func (nat_lit 136)) []] (Ac y)/\LQ (Ac y) (Ac b)):=kR
def AcJ (b:Bool)(m:D.Model)(x:Int)(c:List VV){z1}(g:z1=BB ((m.Exprs.getD x.toNat default).Op==2) (∃(y:Bool),((true&&((m.Exprs.getD x.toNat default).V.Scope==1)==true)=true->VC 130 [Bi true (m.Exprs.getD x.toNat default).V.Dims,VV.fn (Fn.func (nat_lit 131)) [VV.tp [VV.fn (Fn.func (nat_lit 129)) [tpM m,VV.tp c]]]] (Ac y))/\LQ (Ac (bif(m.Exprs.getD x.toNat default).V.Scope==1 then !y else false)) (Ac b)) (∃(y:Bool),((true&&(bif decide ((m.Exprs.getD x.toNat default).Op>=3)then decide ((m.Exprs.getD x.toNat default).Op<=24)else false)==true)=true->VC 129 [Aa (m.Exprs.getD x.toNat default).A,tpM m,VV.tp c] (Ac y))/\∃(a:Bool),((true&&(bif bif decide ((m.Exprs.getD x.toNat default).Op>=3)then decide ((m.Exprs.getD x.toNat default).Op<=24)else false then y else false)==true)=true->VC 129 [Aa (m.Exprs.getD x.toNat default).B,tpM m,VV.tp c] (Ac a))/\∃(d:Bool),((true&&(bif bif bif decide ((m.Exprs.getD x.toNat default).Op>=3)then decide ((m.Exprs.getD x.toNat default).Op<=24)else false then y else false then a else false)==true)=true->VC 129 [Aa (m.Exprs.getD x.toNat default).C,tpM m,VV.tp c] (Ac d))/\LQ (Ac (bif bif bif bif decide ((m.Exprs.getD x.toNat default).Op>=3)then decide ((m.Exprs.getD x.toNat default).Op<=24)else false then y else false then a else false then d else false)) (Ac b))){e}(h:e=m.Exprs.getD x.toNat default){f}(i:f=LQ (Ac true) (Ac b)):(fc EJ AI f129 [] (Ac b)).goal (St.init [] [Aa x,.tp (Ae m),.tp [.fn (.func 129) [.tp (Ae m),.tp c]]]) =
  (BB (decide (x<0)) f (inX x m.Exprs.length/\BB (e.Op==1) (BB (e.Op==1) f z1) (BB (e.Op==31) f z1))):=by subst g h i;kernel_rfl
def Ai2 (b:Bool)(m:D.Model)(d:D.Dim)(c:List VV):(fc EJ AI f131 [] (Ac b)).goal (St.init [] [.agg (LK d),.tp [.fn (.func 129) [.tp (Ae m),.tp c]]]) =
  (∃(y:Bool),VC 129 [Aa d.I,tpM m,VV.tp c] (Ac y)/\LQ (Ac !y) (Ac b)):=kR
def Ai1 (b:Bool)(m:D.Model)(x:Int)(c:List VV):(fc EJ AI f133 [] (Ac b)).goal (St.init [] [Aa x,.tp [.fn (.func 129) [.tp (Ae m),.tp c]]]) =
  (∃(y:Bool),VC 129 [Aa x,tpM m,VV.tp c] (Ac y)/\LQ (Ac !y) (Ac b)):=kR
def AiU (b:Bool)(m:D.Model)(s:D.Stmt):(fc EJ Sl f113 [] (Ac b)).goal (St.init [] [.agg (Ae m),.agg (Ax s)]) =
  (AA (fc EJ Sl f113 [] (Ac b)) [1,1,1] (An [(2,VV.bp 0 0),(3,VV.bp 1 0),(5,VV.bp 2 0)] [Ob.box (Ae m),Ob.box (Ax s),Ob.box [VV.fn (Fn.func (nat_lit 129)) [VV.bp 0 0,VV.bp 2 0]]])):=kR
def Afp (b:Bool)(m:D.Model)(p:D.Proc)(l:D.Loc):(fc EJ OW f82 [] (Ac b)).goal (St.init [] [.agg (Ae m),.agg (AV p),.agg (AW l)]) =
  (∃(y:Bool),((true&&(bif(↑l.Out.length:Int)==0 then true else decide ((↑l.Esc.length:Int) > 0))==false)=true->VC 112 [VV.agg (AW l)] (Ac y))/\BB (bif bif bif(↑l.Out.length:Int)==0 then true else decide ((↑l.Esc.length:Int) > 0)then true else y then true else decide (p.Provided>=0)) (LQ (Ac false) (Ac b)) (AA (fc EJ OW f82 [] (Ac b)) [1,1,0,1,0] (AlS m p l.Out (0:Int)))):=kR
def AaO (r:List Int×Int)(m:D.Model)(s:D.State)(l:List Nx){a}(b:a=[Ad true r.fst,Aa r.snd]):(fc EJ MY f55 [] (.tup [Ad true r.1,Aa r.2])).goal (St.init [] [.agg (Ae m),.agg (Ag s),AC false l]) =
  (∃(y:Int),VC 20 [.agg (Ae m)] (Aa y)/\BB (y != 0) (LQ (.tup [.nl,Aa y]) (.tup a)) (∃(y:Int),VC 74 [.agg (Ae m),.agg (Ag s)] (Aa y)/\BB (y != 0) (LQ (.tup [.nl,Aa y]) (.tup a)) (AA (fc EJ MY f55 [] (.tup a)) [1,1,1,1,0,1,0] (An [(2,AC false l),(3,.bp 0 0),(10,.nl),(26,Av true s.Procs),(27,Aa (↑s.Procs.length:Int)),(28,Aa 0)] [.box (Ae m)])))):=by subst b;kernel_rfl
def AjE (b:Bool)(n:Nx)(i:Int):(fc EJ AI f84 [] (Ac b)).goal (St.init [] [.agg (Bm n),.tp [Aa i]]) =
  (LQ (Ac (n.Move.Pid==i)) (Ac b)):=kR
def AmW (b:Bool)(g:FuncId)(l:List D.Expr):(fc EJ AI f41 [] (Ac b)).goal (St.init [] [AS true l,.fn (.func g) []]) =
  (∃(y:Int),VC 70 [AS true l,VV.fn (Fn.func g) []] (Aa y)/\LQ (Ac (decide (y>=0))) (Ac b)):=kR
def AmR (b:Bool)(g:FuncId)(l:List D.Proc):(fc EJ AI f46 [] (Ac b)).goal (St.init [] [AE true l,.fn (.func g) []]) =
  (∃(y:Int),VC 72 [AE true l,VV.fn (Fn.func g) []] (Aa y)/\LQ (Ac (decide (y>=0))) (Ac b)):=kR
def AmQ (b:Bool)(g:FuncId)(c:List VV)(l:List D.Proc):(fc EJ AI f46 [] (Ac b)).goal (St.init [] [AE true l,.fn (.func g) [.tp c]]) =
  (∃(y:Int),VC 72 [AE true l,VV.fn (Fn.func g) [VV.tp c]] (Aa y)/\LQ (Ac (decide (y>=0))) (Ac b)):=kR
def AmU (b:Bool)(g:FuncId)(l:List D.Loc):(fc EJ AI f44 [] (Ac b)).goal (St.init [] [CN true l,.fn (.func g) []]) =
  (∃(y:Int),VC 71 [CN true l,VV.fn (Fn.func g) []] (Aa y)/\LQ (Ac (decide (y>=0))) (Ac b)):=kR
def AmS (b:Bool)(g:FuncId)(c:List VV)(l:List Nx):(fc EJ AI f83 [] (Ac b)).goal (St.init [] [AC false l,.fn (.func g) [.tp c]]) =
  (∃(y:Int),VC 87 [AC false l,VV.fn (Fn.func g) [VV.tp c]] (Aa y)/\LQ (Ac (decide (y>=0))) (Ac b)):=kR
def AmT (b:Bool)(g:FuncId)(c d:List VV)(l:List Nx):(fc EJ AI f83 [] (Ac b)).goal (St.init [] [AC false l,.fn (.func g) [.tp c,.tp d]]) =
  (∃(y:Int),VC 87 [AC false l,VV.fn (Fn.func g) [VV.tp c,VV.tp d]] (Aa y)/\LQ (Ac (decide (y>=0))) (Ac b)):=kR
def AmP (b:Bool)(g:FuncId)(l:List D.Shape):(fc EJ AI f134 [] (Ac b)).goal (St.init [] [AJ true l,.fn (.func g) []]) =
  (∃(y:Int),VC 162 [AJ true l,VV.fn (Fn.func g) []] (Aa y)/\LQ (Ac (decide (y>=0))) (Ac b)):=kR
def AmN (b:Bool)(g:FuncId)(c:List VV)(l:List (List D.Trans)):(fc EJ AI f137 [] (Ac b)).goal (St.init [] [Bn false l,.fn (.func g) [.tp c]]) =
  (∃(y:Int),VC 163 [Bn false l,VV.fn (Fn.func g) [VV.tp c]] (Aa y)/\LQ (Ac (decide (y>=0))) (Ac b)):=kR
def AmO (b:Bool)(g:FuncId)(l:List D.Trans):(fc EJ AI f139 [] (Ac b)).goal (St.init [] [Ao true l,.fn (.func g) []]) =
  (∃(y:Int),VC 164 [Ao true l,VV.fn (Fn.func g) []] (Aa y)/\LQ (Ac (decide (y>=0))) (Ac b)):=kR
def AmX (b:Bool)(g:FuncId)(c:List VV)(l:List D.Dim):(fc EJ AI f130 [] (Ac b)).goal (St.init [] [Bi true l,.fn (.func g) [.tp c]]) =
  (∃(y:Int),VC 160 [Bi true l,VV.fn (Fn.func g) [VV.tp c]] (Aa y)/\LQ (Ac (decide (y>=0))) (Ac b)):=kR
def AmV (b:Bool)(g:FuncId)(c:List VV)(l:List Int):(fc EJ AI f132 [] (Ac b)).goal (St.init [] [Ad true l,.fn (.func g) [.tp c]]) =
  (∃(y:Int),VC 161 [Ad true l,VV.fn (Fn.func g) [VV.tp c]] (Aa y)/\LQ (Ac (decide (y>=0))) (Ac b)):=kR
def AmK (r:Int)(g:FuncId)(l:List D.Expr):(fc Dm BN f70 [] (Aa r)).goal (St.init [] [AS true l,.fn (.func g) []]) =
  (AA (fc Dm BN f70 [] (Aa r)) [1,0,1,0] (An [(0,AS true l),(1,VV.fn (Fn.func g) []),(7,Aa (↑l.length:Int)),(8,Aa 0)] [])):=kR
def AmF (r:Int)(g:FuncId)(l:List D.Proc):(fc Dm BN f72 [] (Aa r)).goal (St.init [] [AE true l,.fn (.func g) []]) =
  (AA (fc Dm BN f72 [] (Aa r)) [1,0,1,0] (An [(0,AE true l),(1,VV.fn (Fn.func g) []),(7,Aa (↑l.length:Int)),(8,Aa 0)] [])):=kR
def AmE (r:Int)(g:FuncId)(c:List VV)(l:List D.Proc):(fc Dm BN f72 [] (Aa r)).goal (St.init [] [AE true l,.fn (.func g) [.tp c]]) =
  (AA (fc Dm BN f72 [] (Aa r)) [1,0,1,0] (An [(0,AE true l),(1,VV.fn (Fn.func g) [VV.tp c]),(7,Aa (↑l.length:Int)),(8,Aa 0)] [])):=kR
def AmI (r:Int)(g:FuncId)(l:List D.Loc):(fc Dm BN f71 [] (Aa r)).goal (St.init [] [CN true l,.fn (.func g) []]) =
  (AA (fc Dm BN f71 [] (Aa r)) [1,0,1,0] (An [(0,CN true l),(1,VV.fn (Fn.func g) []),(7,Aa (↑l.length:Int)),(8,Aa 0)] [])):=kR
def AmG (r:Int)(g:FuncId)(c:List VV)(l:List Nx):(fc Dm BN f87 [] (Aa r)).goal (St.init [] [AC false l,.fn (.func g) [.tp c]]) =
  (AA (fc Dm BN f87 [] (Aa r)) [1,0,1,0] (An [(0,AC false l),(1,VV.fn (Fn.func g) [VV.tp c]),(7,Aa (↑l.length:Int)),(8,Aa 0)] [])):=kR
def AmH (r:Int)(g:FuncId)(c d:List VV)(l:List Nx):(fc Dm BN f87 [] (Aa r)).goal (St.init [] [AC false l,.fn (.func g) [.tp c,.tp d]]) =
  (AA (fc Dm BN f87 [] (Aa r)) [1,0,1,0] (An [(0,AC false l),(1,VV.fn (Fn.func g) [VV.tp c,VV.tp d]),(7,Aa (↑l.length:Int)),(8,Aa 0)] [])):=kR
def AmD (r:Int)(g:FuncId)(l:List D.Shape):(fc Dm BN f162 [] (Aa r)).goal (St.init [] [AJ true l,.fn (.func g) []]) =
  (AA (fc Dm BN f162 [] (Aa r)) [1,0,1,0] (An [(0,AJ true l),(1,VV.fn (Fn.func g) []),(7,Aa (↑l.length:Int)),(8,Aa 0)] [])):=kR
def AmB (r:Int)(g:FuncId)(c:List VV)(l:List (List D.Trans)):(fc Dm BN f163 [] (Aa r)).goal (St.init [] [Bn false l,.fn (.func g) [.tp c]]) =
  (AA (fc Dm BN f163 [] (Aa r)) [1,0,1,0] (An [(0,Bn false l),(1,VV.fn (Fn.func g) [VV.tp c]),(7,Aa (↑l.length:Int)),(8,Aa 0)] [])):=kR
def AmC (r:Int)(g:FuncId)(l:List D.Trans):(fc Dm BN f164 [] (Aa r)).goal (St.init [] [Ao true l,.fn (.func g) []]) =
  (AA (fc Dm BN f164 [] (Aa r)) [1,0,1,0] (An [(0,Ao true l),(1,VV.fn (Fn.func g) []),(7,Aa (↑l.length:Int)),(8,Aa 0)] [])):=kR
def AmL (r:Int)(g:FuncId)(c:List VV)(l:List D.Dim):(fc Dm BN f160 [] (Aa r)).goal (St.init [] [Bi true l,.fn (.func g) [.tp c]]) =
  (AA (fc Dm BN f160 [] (Aa r)) [1,0,1,0] (An [(0,Bi true l),(1,VV.fn (Fn.func g) [VV.tp c]),(7,Aa (↑l.length:Int)),(8,Aa 0)] [])):=kR
def AmJ (r:Int)(g:FuncId)(c:List VV)(l:List Int):(fc Dm BN f161 [] (Aa r)).goal (St.init [] [Ad true l,.fn (.func g) [.tp c]]) =
  (AA (fc Dm BN f161 [] (Aa r)) [1,0,1,0] (An [(0,Ad true l),(1,VV.fn (Fn.func g) [VV.tp c]),(7,Aa (↑l.length:Int)),(8,Aa 0)] [])):=kR
def Ajl (r:Int)(g:FuncId)(l:List D.Expr)(n k:Int)(J:St->Prop):((fc Dm BN f70 [] (Aa r)).loop [1,0,1,0] J).goal (H3 (AS true l) (.fn (.func g) []) n k) =
  (BB (decide (k<n)) (inX k l.length/\∃(y:Bool),VC g [VV.agg (AG (l.getD k.toNat default))] (Ac y)/\BB y (LQ (Aa k) (Aa r)) (J (An [(0,AS true l),(1,VV.fn (Fn.func g) []),(7,Aa n),(8,Aa (i64.wrap (k+(1:Int))))] []))) (LQ (Aa (-1)) (Aa r))):=kR
def Ajc (r:Int)(g:FuncId)(l:List D.Proc)(n k:Int)(J:St->Prop):((fc Dm BN f72 [] (Aa r)).loop [1,0,1,0] J).goal (H3 (AE true l) (.fn (.func g) []) n k) =
  (BB (decide (k<n)) (inX k l.length/\∃(y:Bool),VC g [VV.agg (AV (l.getD k.toNat default))] (Ac y)/\BB y (LQ (Aa k) (Aa r)) (J (An [(0,AE true l),(1,VV.fn (Fn.func g) []),(7,Aa n),(8,Aa (i64.wrap (k+(1:Int))))] []))) (LQ (Aa (-1)) (Aa r))):=kR
def Aja (r:Int)(g:FuncId)(c:List VV)(l:List D.Proc)(n k:Int)(J:St->Prop):((fc Dm BN f72 [] (Aa r)).loop [1,0,1,0] J).goal (H3 (AE true l) (.fn (.func g) [.tp c]) n k) =
  (BB (decide (k<n)) (inX k l.length/\∃(y:Bool),VC g [VV.agg (AV (l.getD k.toNat default)),VV.tp c] (Ac y)/\BB y (LQ (Aa k) (Aa r)) (J (An [(0,AE true l),(1,VV.fn (Fn.func g) [VV.tp c]),(7,Aa n),(8,Aa (i64.wrap (k+(1:Int))))] []))) (LQ (Aa (-1)) (Aa r))):=kR
def Ajh (r:Int)(g:FuncId)(l:List D.Loc)(n k:Int)(J:St->Prop):((fc Dm BN f71 [] (Aa r)).loop [1,0,1,0] J).goal (H3 (CN true l) (.fn (.func g) []) n k) =
  (BB (decide (k<n)) (inX k l.length/\∃(y:Bool),VC g [VV.agg (AW (l.getD k.toNat default))] (Ac y)/\BB y (LQ (Aa k) (Aa r)) (J (An [(0,CN true l),(1,VV.fn (Fn.func g) []),(7,Aa n),(8,Aa (i64.wrap (k+(1:Int))))] []))) (LQ (Aa (-1)) (Aa r))):=kR
def Ajd (r:Int)(g:FuncId)(c:List VV)(l:List Nx)(n k:Int)(J:St->Prop):((fc Dm BN f87 [] (Aa r)).loop [1,0,1,0] J).goal (H3 (AC false l) (.fn (.func g) [.tp c]) n k) =
  (BB (decide (k<n)) (inX k l.length/\∃(y:Bool),VC g [VV.agg (Bm (l.getD k.toNat default)),VV.tp c] (Ac y)/\BB y (LQ (Aa k) (Aa r)) (J (An [(0,AC false l),(1,VV.fn (Fn.func g) [VV.tp c]),(7,Aa n),(8,Aa (i64.wrap (k+(1:Int))))] []))) (LQ (Aa (-1)) (Aa r))):=kR
def Ajf (r:Int)(g:FuncId)(c d:List VV)(l:List Nx)(n k:Int)(J:St->Prop):((fc Dm BN f87 [] (Aa r)).loop [1,0,1,0] J).goal (H3 (AC false l) (.fn (.func g) [.tp c,.tp d]) n k) =
  (BB (decide (k<n)) (inX k l.length/\∃(y:Bool),VC g [VV.agg (Bm (l.getD k.toNat default)),VV.tp c,VV.tp d] (Ac y)/\BB y (LQ (Aa k) (Aa r)) (J (An [(0,AC false l),(1,VV.fn (Fn.func g) [VV.tp c,VV.tp d]),(7,Aa n),(8,Aa (i64.wrap (k+(1:Int))))] []))) (LQ (Aa (-1)) (Aa r))):=kR
def Ai8 (r:Int)(g:FuncId)(l:List D.Shape)(n k:Int)(J:St->Prop):((fc Dm BN f162 [] (Aa r)).loop [1,0,1,0] J).goal (H3 (AJ true l) (.fn (.func g) []) n k) =
  (BB (decide (k<n)) (inX k l.length/\∃(y:Bool),VC g [VV.agg (B7 (l.getD k.toNat default))] (Ac y)/\BB y (LQ (Aa k) (Aa r)) (J (An [(0,AJ true l),(1,VV.fn (Fn.func g) []),(7,Aa n),(8,Aa (i64.wrap (k+(1:Int))))] []))) (LQ (Aa (-1)) (Aa r))):=kR
def Ai4 (r:Int)(g:FuncId)(c:List VV)(l:List (List D.Trans))(n k:Int)(J:St->Prop):((fc Dm BN f163 [] (Aa r)).loop [1,0,1,0] J).goal (H3 (Bn false l) (.fn (.func g) [.tp c]) n k) =
  (BB (decide (k<n)) (inX k l.length/\∃(y:Bool),VC g [Ao true (l.getD k.toNat []),VV.tp c] (Ac y)/\BB y (LQ (Aa k) (Aa r)) (J (An [(0,Bn false l),(1,VV.fn (Fn.func g) [VV.tp c]),(7,Aa n),(8,Aa (i64.wrap (k+(1:Int))))] []))) (LQ (Aa (-1)) (Aa r))):=kR
def Ai6 (r:Int)(g:FuncId)(l:List D.Trans)(n k:Int)(J:St->Prop):((fc Dm BN f164 [] (Aa r)).loop [1,0,1,0] J).goal (H3 (Ao true l) (.fn (.func g) []) n k) =
  (BB (decide (k<n)) (inX k l.length/\∃(y:Bool),VC g [VV.agg (CA (l.getD k.toNat default))] (Ac y)/\BB y (LQ (Aa k) (Aa r)) (J (An [(0,Ao true l),(1,VV.fn (Fn.func g) []),(7,Aa n),(8,Aa (i64.wrap (k+(1:Int))))] []))) (LQ (Aa (-1)) (Aa r))):=kR
def Ajn (r:Int)(g:FuncId)(c:List VV)(l:List D.Dim)(n k:Int)(J:St->Prop):((fc Dm BN f160 [] (Aa r)).loop [1,0,1,0] J).goal (H3 (Bi true l) (.fn (.func g) [.tp c]) n k) =
  (BB (decide (k<n)) (inX k l.length/\∃(y:Bool),VC g [VV.agg (LK (l.getD k.toNat default)),VV.tp c] (Ac y)/\BB y (LQ (Aa k) (Aa r)) (J (An [(0,Bi true l),(1,VV.fn (Fn.func g) [VV.tp c]),(7,Aa n),(8,Aa (i64.wrap (k+(1:Int))))] []))) (LQ (Aa (-1)) (Aa r))):=kR
def Ajj (r:Int)(g:FuncId)(c:List VV)(l:List Int)(n k:Int)(J:St->Prop):((fc Dm BN f161 [] (Aa r)).loop [1,0,1,0] J).goal (H3 (Ad true l) (.fn (.func g) [.tp c]) n k) =
  (BB (decide (k<n)) (inX k l.length/\∃(y:Bool),VC g [Aa (l.getD k.toNat 0),VV.tp c] (Ac y)/\BB y (LQ (Aa k) (Aa r)) (J (An [(0,Ad true l),(1,VV.fn (Fn.func g) [VV.tp c]),(7,Aa n),(8,Aa (i64.wrap (k+(1:Int))))] []))) (LQ (Aa (-1)) (Aa r))):=kR
def Afv (b:Bool)(m:D.Model)(s:D.Stmt)(c:List VV):((fc EJ Sl f113 [] (Ac b)).cut Ars).goal (An7 m s [.fn (.func 129) [.tp (Ae m),.tp c]]) =
  (BB (s.Kind==1) (∃(y:Bool),VC 129 [Aa s.A,tpM m,VV.tp c] (Ac y)/\LQ (Ac y) (Ac b)) (BB (s.Kind==2) (∃(y:Bool),VC 129 [Aa s.A,tpM m,VV.tp c] (Ac y)/\∃(a:Bool),((true&&y==true)=true->VC 129 [Aa s.B,tpM m,VV.tp c] (Ac a))/\LQ (Ac (bif y then a else false)) (Ac b)) (BB (s.Kind==4) (∃(y:Bool),VC 132 [Ad true s.Args,VV.fn (Fn.func (nat_lit 133)) [VV.tp [VV.fn (Fn.func (nat_lit 129)) [tpM m,VV.tp c]]]] (Ac y)/\LQ (Ac !y) (Ac b)) (LQ (Ac (bif s.Kind==8 then true else s.Kind==7)) (Ac b))))):=kR
def AaH (b:Bool)(m:D.Model)(p:D.Proc)(w:List D.Trans)(k:Int)(J:St->Prop){c}(e:c=w.getD k.toNat default){f}(g:f=AW (p.Locs.getD c.To.toNat default)):((fc EJ OW f82 [] (Ac b)).loop [1,1,0,1,0] J).goal (AlS m p w k) =
  (BB (decide (k<(↑w.length:Int))) (inX k w.length/\∃(y:Bool),VC 113 [.agg (Ae m),.agg (Ax c.S)] (Ac y)/\((true&&(!y)==false)=true->inX c.To p.Locs.length)/\∃(a:Bool),((true&&(!y)==false)=true->VC 112 [.agg f] (Ac a))/\((true&&(bif !y then true else a)==false)=true->inX c.To p.Locs.length)/\∃(d:Bool),((true&&(bif !y then true else a)==false)=true->VC 114 [.agg (Ae m),.agg f] (Ac d))/\BB (bif bif !y then true else a then true else d) (LQ (Ac false) (Ac b)) (J (AlS m p w (i64.wrap (k+(1:Int)))))) (LQ (Ac true) (Ac b))):=by subst e g;kernel_rfl
def XT (r:List Int×Int)(m:D.Model)(l:List Nx)(ps:List D.Process)(out:List Int)(k:Int)(J:St->Prop){b}(d:b=m.Procs.getD (ps.getD k.toNat default).Type_.toNat default){c}(e:c=ps.getD k.toNat default):((fc EJ MY f55 [] (.tup [Ad true r.1,Aa r.2])).loop [1,1,1,1,0,1,0] J).goal (AoR m l ps out k) =
  (BB (decide (k<(↑ps.length:Int))) (inX k ps.length/\inX c.Type_ m.Procs.length/\inX c.Loc b.Locs.length/\∃(y:Bool),VC 82 [.agg (Ae m),.agg (AV b),.agg (AW (b.Locs.getD c.Loc.toNat default))] (Ac y)/\∃(a:Bool),((true&&y==true)=true->VC 83 [AC false l,.fn (Fn.func (nat_lit 84)) [.tp [Aa k]]] (Ac a))/\BB (bif y then a else false) ((out.length+1)*8<=140737488355328/\J (An [(2,AC false l),(3,.bp 0 0),(10,.ow 1 0 (out.length+1)),(26,Av true ps),(27,Aa (↑ps.length:Int)),(28,Aa (i64.wrap (k+(1:Int))))] [.box (Ae m),.arr true 0 (out.length+1) 1 λ(i:Nat)=>bif i.blt out.length then[Aa (out.getD i 0)]else(λ(i:Nat)=>List.take 1 (List.drop (i*1) [Aa k])) (i-out.length)])) (J (AoR m l ps out (i64.wrap (k+(1:Int)))))) (LQ (.tup [Ad true out,Aa 0]) (.tup [Ad true r.fst,Aa r.snd]))):=by subst d e;kernel_rfl
end Go.Proofs.YtddhibmbpmcnpaaGreatDoor
namespace Go.Proofs.YtddhibmbpmcnpaaGreatDoor
open Go.RowKit Go.Proofs.Tryz
open IntKind(i64)
def ixP {α:Type}(p:α->Bool):Nat->List α->Int
 | _,[]=>-1
 | k,x::r=>bif p x then(k:Int)else ixP p (k+1) r
def Eu {α:Type}{p:α->Bool}{k:Nat}{x:α}{r:List α}:ixP p k (x::r)=bif p x then(k:Int)else ixP p (k+1) r:=rfl
def Ff {α:Type}{p:α->Bool}:∀{l:List α}{k:Nat},decide (ixP p k l>=0)=l.any p
 | [],_=>rfl
 | x::r,k=>by
  unfold ixP;rw[AtK];cases p x with
  | true=>simp
  | false=>rw[Ar1,AtN];exact Ff
def Ajk {g:FuncId}{l:List D.Expr}(p:D.Expr->Bool)(j:l.length<=4611686018427387904)(h:∀x∈l,Ah prog g [] [.agg (AG x)] [] (Ac (p x))):Ah prog 70 [] [AS true l,.fn (.func g) []] [] (Aa (ixP p 0 l)):=by
 refine Ap func70 (AmK _ g l) ?_;refine Aq (λgg st=>∃k:Nat,k<=l.length/\gg=l.length-k/\ixP p 0 l=ixP p k (l.drop k)/\st=H3 (AS true l) (.fn (.func g) []) l.length k) ⟨_,Up.of ⟨0,Ar9 _,rfl,rfl,rfl⟩⟩ ?_;rintro gg st ⟨k,m,rfl,a,rfl⟩;have c:(k:Int).toNat=k:=oM
 refine Asm (Ajl _ g l l.length k _) ⟨λe=>?_,λf=>?_⟩
 .have b:k<l.length:=by have:=A0 e;omega
  rw[c];rw[A9 (d:=default) b,Eu]at a;refine⟨⟨oM,oM⟩,p (l.getD k default),h _ (As b),λi=>Bp ?_,λi=>⟨l.length-(k+1),oM,Up.of ⟨k+1,b,rfl,?_,by rw[Al oM];rfl⟩⟩⟩
  .rw[i,Ar3]at a;exact a.symm
  .rw[i,Ar1]at a;exact a
 .rw[Asr (by have:=A1 f;omega)]at a;exact Bp a.symm
def XO {g:FuncId}{l:List D.Expr}(p:D.Expr->Bool)(a:l.length<=4611686018427387904)(h:∀x∈l,Ah prog g [] [.agg (AG x)] [] (Ac (p x))):Ah prog 41 [] [AS true l,.fn (.func g) []] [] (Ac (l.any p)) :=
 Ap func41 (AmW _ g l) ⟨_,Ajk p a h,AB Ff⟩
def Ajb {g:FuncId}{l:List D.Proc}(p:D.Proc->Bool)(j:l.length<=4611686018427387904)(h:∀x∈l,Ah prog g [] [.agg (AV x)] [] (Ac (p x))):Ah prog 72 [] [AE true l,.fn (.func g) []] [] (Aa (ixP p 0 l)):=by
 refine Ap func72 (AmF _ g l) ?_;refine Aq (λgg st=>∃k:Nat,k<=l.length/\gg=l.length-k/\ixP p 0 l=ixP p k (l.drop k)/\st=H3 (AE true l) (.fn (.func g) []) l.length k) ⟨_,Up.of ⟨0,Ar9 _,rfl,rfl,rfl⟩⟩ ?_;rintro gg st ⟨k,m,rfl,a,rfl⟩;have c:(k:Int).toNat=k:=oM
 refine Asm (Ajc _ g l l.length k _) ⟨λe=>?_,λf=>?_⟩
 .have b:k<l.length:=by have:=A0 e;omega
  rw[c];rw[A9 (d:=default) b,Eu]at a;refine⟨⟨oM,oM⟩,p (l.getD k default),h _ (As b),λi=>Bp ?_,λi=>⟨l.length-(k+1),oM,Up.of ⟨k+1,b,rfl,?_,by rw[Al oM];rfl⟩⟩⟩
  .rw[i,Ar3]at a;exact a.symm
  .rw[i,Ar1]at a;exact a
 .rw[Asr (by have:=A1 f;omega)]at a;exact Bp a.symm
def Ajv {g:FuncId}{l:List D.Proc}(p:D.Proc->Bool)(a:l.length<=4611686018427387904)(h:∀x∈l,Ah prog g [] [.agg (AV x)] [] (Ac (p x))):Ah prog 46 [] [AE true l,.fn (.func g) []] [] (Ac (l.any p)) :=
 Ap func46 (AmR _ g l) ⟨_,Ajb p a h,AB Ff⟩
def Ai9 {g:FuncId}{c:List VV}{l:List D.Proc}(p:D.Proc->Bool)(m:l.length<=4611686018427387904)(h:∀x∈l,Ah prog g [] [.agg (AV x),.tp c] [] (Ac (p x))):Ah prog 72 [] [AE true l,.fn (.func g) [.tp c]] [] (Aa (ixP p 0 l)):=by
 refine Ap func72 (AmE _ g c l) ?_;refine Aq (λgg st=>∃k:Nat,k<=l.length/\gg=l.length-k/\ixP p 0 l=ixP p k (l.drop k)/\st=H3 (AE true l) (.fn (.func g) [.tp c]) l.length k) ⟨_,Up.of ⟨0,Ar9 _,rfl,rfl,rfl⟩⟩ ?_;rintro gg st ⟨k,n,rfl,a,rfl⟩;have e:(k:Int).toNat=k:=oM
 refine Asm (Aja _ g c l l.length k _) ⟨λf=>?_,λi=>?_⟩
 .have b:k<l.length:=by have:=A0 f;omega
  rw[e];rw[A9 (d:=default) b,Eu]at a;refine⟨⟨oM,oM⟩,p (l.getD k default),h _ (As b),λj=>Bp ?_,λj=>⟨l.length-(k+1),oM,Up.of ⟨k+1,b,rfl,?_,by rw[Al oM];rfl⟩⟩⟩
  .rw[j,Ar3]at a;exact a.symm
  .rw[j,Ar1]at a;exact a
 .rw[Asr (by have:=A1 i;omega)]at a;exact Bp a.symm
def Aju {g:FuncId}{c:List VV}{l:List D.Proc}(p:D.Proc->Bool)(a:l.length<=4611686018427387904)(h:∀x∈l,Ah prog g [] [.agg (AV x),.tp c] [] (Ac (p x))):Ah prog 46 [] [AE true l,.fn (.func g) [.tp c]] [] (Ac (l.any p)) :=
 Ap func46 (AmQ _ g c l) ⟨_,Ai9 p a h,AB Ff⟩
def Ajg {g:FuncId}{l:List D.Loc}(p:D.Loc->Bool)(j:l.length<=4611686018427387904)(h:∀x∈l,Ah prog g [] [.agg (AW x)] [] (Ac (p x))):Ah prog 71 [] [CN true l,.fn (.func g) []] [] (Aa (ixP p 0 l)):=by
 refine Ap func71 (AmI _ g l) ?_;refine Aq (λgg st=>∃k:Nat,k<=l.length/\gg=l.length-k/\ixP p 0 l=ixP p k (l.drop k)/\st=H3 (CN true l) (.fn (.func g) []) l.length k) ⟨_,Up.of ⟨0,Ar9 _,rfl,rfl,rfl⟩⟩ ?_;rintro gg st ⟨k,m,rfl,a,rfl⟩;have c:(k:Int).toNat=k:=oM
 refine Asm (Ajh _ g l l.length k _) ⟨λe=>?_,λf=>?_⟩
 .have b:k<l.length:=by have:=A0 e;omega
  rw[c];rw[A9 (d:=default) b,Eu]at a;refine⟨⟨oM,oM⟩,p (l.getD k default),h _ (As b),λi=>Bp ?_,λi=>⟨l.length-(k+1),oM,Up.of ⟨k+1,b,rfl,?_,by rw[Al oM];rfl⟩⟩⟩
  .rw[i,Ar3]at a;exact a.symm
  .rw[i,Ar1]at a;exact a
 .rw[Asr (by have:=A1 f;omega)]at a;exact Bp a.symm
def Ajy {g:FuncId}{l:List D.Loc}(p:D.Loc->Bool)(a:l.length<=4611686018427387904)(h:∀x∈l,Ah prog g [] [.agg (AW x)] [] (Ac (p x))):Ah prog 44 [] [CN true l,.fn (.func g) []] [] (Ac (l.any p)) :=
 Ap func44 (AmU _ g l) ⟨_,Ajg p a h,AB Ff⟩
def XN {g:FuncId}{c:List VV}{l:List Nx}(p:Nx->Bool)(m:l.length<=4611686018427387904)(h:∀x∈l,Ah prog g [] [.agg (Bm x),.tp c] [] (Ac (p x))):Ah prog 87 [] [AC false l,.fn (.func g) [.tp c]] [] (Aa (ixP p 0 l)):=by
 refine Ap func87 (AmG _ g c l) ?_;refine Aq (λgg st=>∃k:Nat,k<=l.length/\gg=l.length-k/\ixP p 0 l=ixP p k (l.drop k)/\st=H3 (AC false l) (.fn (.func g) [.tp c]) l.length k) ⟨_,Up.of ⟨0,Ar9 _,rfl,rfl,rfl⟩⟩ ?_;rintro gg st ⟨k,n,rfl,a,rfl⟩;have e:(k:Int).toNat=k:=oM
 refine Asm (Ajd _ g c l l.length k _) ⟨λf=>?_,λi=>?_⟩
 .have b:k<l.length:=by have:=A0 f;omega
  rw[e];rw[A9 (d:=default) b,Eu]at a;refine⟨⟨oM,oM⟩,p (l.getD k default),h _ (As b),λj=>Bp ?_,λj=>⟨l.length-(k+1),oM,Up.of ⟨k+1,b,rfl,?_,by rw[Al oM];rfl⟩⟩⟩
  .rw[j,Ar3]at a;exact a.symm
  .rw[j,Ar1]at a;exact a
 .rw[Asr (by have:=A1 i;omega)]at a;exact Bp a.symm
def Ajw {g:FuncId}{c:List VV}{l:List Nx}(p:Nx->Bool)(a:l.length<=4611686018427387904)(h:∀x∈l,Ah prog g [] [.agg (Bm x),.tp c] [] (Ac (p x))):Ah prog 83 [] [AC false l,.fn (.func g) [.tp c]] [] (Ac (l.any p)) :=
 Ap func83 (AmS _ g c l) ⟨_,XN p a h,AB Ff⟩
def Aje {g:FuncId}{c d:List VV}{l:List Nx}(p:Nx->Bool)(m:l.length<=4611686018427387904)(h:∀x∈l,Ah prog g [] [.agg (Bm x),.tp c,.tp d] [] (Ac (p x))):Ah prog 87 [] [AC false l,.fn (.func g) [.tp c,.tp d]] [] (Aa (ixP p 0 l)):=by
 refine Ap func87 (AmH _ g c d l) ?_;refine Aq (λgg st=>∃k:Nat,k<=l.length/\gg=l.length-k/\ixP p 0 l=ixP p k (l.drop k)/\st=H3 (AC false l) (.fn (.func g) [.tp c,.tp d]) l.length k) ⟨_,Up.of ⟨0,Ar9 _,rfl,rfl,rfl⟩⟩ ?_;rintro gg st ⟨k,n,rfl,a,rfl⟩;have e:(k:Int).toNat=k:=oM
 refine Asm (Ajf _ g c d l l.length k _) ⟨λf=>?_,λi=>?_⟩
 .have b:k<l.length:=by have:=A0 f;omega
  rw[e];rw[A9 (d:=default) b,Eu]at a;refine⟨⟨oM,oM⟩,p (l.getD k default),h _ (As b),λj=>Bp ?_,λj=>⟨l.length-(k+1),oM,Up.of ⟨k+1,b,rfl,?_,by rw[Al oM];rfl⟩⟩⟩
  .rw[j,Ar3]at a;exact a.symm
  .rw[j,Ar1]at a;exact a
 .rw[Asr (by have:=A1 i;omega)]at a;exact Bp a.symm
def Ajx {g:FuncId}{c d:List VV}{l:List Nx}(p:Nx->Bool)(a:l.length<=4611686018427387904)(h:∀x∈l,Ah prog g [] [.agg (Bm x),.tp c,.tp d] [] (Ac (p x))):Ah prog 83 [] [AC false l,.fn (.func g) [.tp c,.tp d]] [] (Ac (l.any p)) :=
 Ap func83 (AmT _ g c d l) ⟨_,Aje p a h,AB Ff⟩
def Ai7 {g:FuncId}{l:List D.Shape}(p:D.Shape->Bool)(j:l.length<=4611686018427387904)(h:∀x∈l,Ah prog g [] [.agg (B7 x)] [] (Ac (p x))):Ah prog 162 [] [AJ true l,.fn (.func g) []] [] (Aa (ixP p 0 l)):=by
 refine Ap func162 (AmD _ g l) ?_;refine Aq (λgg st=>∃k:Nat,k<=l.length/\gg=l.length-k/\ixP p 0 l=ixP p k (l.drop k)/\st=H3 (AJ true l) (.fn (.func g) []) l.length k) ⟨_,Up.of ⟨0,Ar9 _,rfl,rfl,rfl⟩⟩ ?_;rintro gg st ⟨k,m,rfl,a,rfl⟩;have c:(k:Int).toNat=k:=oM
 refine Asm (Ai8 _ g l l.length k _) ⟨λe=>?_,λf=>?_⟩
 .have b:k<l.length:=by have:=A0 e;omega
  rw[c];rw[A9 (d:=default) b,Eu]at a;refine⟨⟨oM,oM⟩,p (l.getD k default),h _ (As b),λi=>Bp ?_,λi=>⟨l.length-(k+1),oM,Up.of ⟨k+1,b,rfl,?_,by rw[Al oM];rfl⟩⟩⟩
  .rw[i,Ar3]at a;exact a.symm
  .rw[i,Ar1]at a;exact a
 .rw[Asr (by have:=A1 f;omega)]at a;exact Bp a.symm
def Ajt {g:FuncId}{l:List D.Shape}(p:D.Shape->Bool)(a:l.length<=4611686018427387904)(h:∀x∈l,Ah prog g [] [.agg (B7 x)] [] (Ac (p x))):Ah prog 134 [] [AJ true l,.fn (.func g) []] [] (Ac (l.any p)) :=
 Ap func134 (AmP _ g l) ⟨_,Ai7 p a h,AB Ff⟩
def Ai3 {g:FuncId}{c:List VV}{l:List (List D.Trans)}(p:List D.Trans->Bool)(m:l.length<=4611686018427387904)(h:∀x∈l,Ah prog g [] [Ao true x,.tp c] [] (Ac (p x))):Ah prog 163 [] [Bn false l,.fn (.func g) [.tp c]] [] (Aa (ixP p 0 l)):=by
 refine Ap func163 (AmB _ g c l) ?_;refine Aq (λgg st=>∃k:Nat,k<=l.length/\gg=l.length-k/\ixP p 0 l=ixP p k (l.drop k)/\st=H3 (Bn false l) (.fn (.func g) [.tp c]) l.length k) ⟨_,Up.of ⟨0,Ar9 _,rfl,rfl,rfl⟩⟩ ?_;rintro gg st ⟨k,n,rfl,a,rfl⟩;have e:(k:Int).toNat=k:=oM
 refine Asm (Ai4 _ g c l l.length k _) ⟨λf=>?_,λi=>?_⟩
 .have b:k<l.length:=by have:=A0 f;omega
  rw[e];rw[A9 (d:=[]) b,Eu]at a;refine⟨⟨oM,oM⟩,p (l.getD k []),h _ (As b),λj=>Bp ?_,λj=>⟨l.length-(k+1),oM,Up.of ⟨k+1,b,rfl,?_,by rw[Al oM];rfl⟩⟩⟩
  .rw[j,Ar3]at a;exact a.symm
  .rw[j,Ar1]at a;exact a
 .rw[Asr (by have:=A1 i;omega)]at a;exact Bp a.symm
def Ajr {g:FuncId}{c:List VV}{l:List (List D.Trans)}(p:List D.Trans->Bool)(a:l.length<=4611686018427387904)(h:∀x∈l,Ah prog g [] [Ao true x,.tp c] [] (Ac (p x))):Ah prog 137 [] [Bn false l,.fn (.func g) [.tp c]] [] (Ac (l.any p)) :=
 Ap func137 (AmN _ g c l) ⟨_,Ai3 p a h,AB Ff⟩
def Ai5 {g:FuncId}{l:List D.Trans}(p:D.Trans->Bool)(j:l.length<=4611686018427387904)(h:∀x∈l,Ah prog g [] [.agg (CA x)] [] (Ac (p x))):Ah prog 164 [] [Ao true l,.fn (.func g) []] [] (Aa (ixP p 0 l)):=by
 refine Ap func164 (AmC _ g l) ?_;refine Aq (λgg st=>∃k:Nat,k<=l.length/\gg=l.length-k/\ixP p 0 l=ixP p k (l.drop k)/\st=H3 (Ao true l) (.fn (.func g) []) l.length k) ⟨_,Up.of ⟨0,Ar9 _,rfl,rfl,rfl⟩⟩ ?_;rintro gg st ⟨k,m,rfl,a,rfl⟩;have c:(k:Int).toNat=k:=oM
 refine Asm (Ai6 _ g l l.length k _) ⟨λe=>?_,λf=>?_⟩
 .have b:k<l.length:=by have:=A0 e;omega
  rw[c];rw[A9 (d:=default) b,Eu]at a;refine⟨⟨oM,oM⟩,p (l.getD k default),h _ (As b),λi=>Bp ?_,λi=>⟨l.length-(k+1),oM,Up.of ⟨k+1,b,rfl,?_,by rw[Al oM];rfl⟩⟩⟩
  .rw[i,Ar3]at a;exact a.symm
  .rw[i,Ar1]at a;exact a
 .rw[Asr (by have:=A1 f;omega)]at a;exact Bp a.symm
def Ajs {g:FuncId}{l:List D.Trans}(p:D.Trans->Bool)(a:l.length<=4611686018427387904)(h:∀x∈l,Ah prog g [] [.agg (CA x)] [] (Ac (p x))):Ah prog 139 [] [Ao true l,.fn (.func g) []] [] (Ac (l.any p)) :=
 Ap func139 (AmO _ g l) ⟨_,Ai5 p a h,AB Ff⟩
def Ajm {g:FuncId}{c:List VV}{l:List D.Dim}(p:D.Dim->Bool)(m:l.length<=4611686018427387904)(h:∀x∈l,Ah prog g [] [.agg (LK x),.tp c] [] (Ac (p x))):Ah prog 160 [] [Bi true l,.fn (.func g) [.tp c]] [] (Aa (ixP p 0 l)):=by
 refine Ap func160 (AmL _ g c l) ?_;refine Aq (λgg st=>∃k:Nat,k<=l.length/\gg=l.length-k/\ixP p 0 l=ixP p k (l.drop k)/\st=H3 (Bi true l) (.fn (.func g) [.tp c]) l.length k) ⟨_,Up.of ⟨0,Ar9 _,rfl,rfl,rfl⟩⟩ ?_;rintro gg st ⟨k,n,rfl,a,rfl⟩;have e:(k:Int).toNat=k:=oM
 refine Asm (Ajn _ g c l l.length k _) ⟨λf=>?_,λi=>?_⟩
 .have b:k<l.length:=by have:=A0 f;omega
  rw[e];rw[A9 (d:=default) b,Eu]at a;refine⟨⟨oM,oM⟩,p (l.getD k default),h _ (As b),λj=>Bp ?_,λj=>⟨l.length-(k+1),oM,Up.of ⟨k+1,b,rfl,?_,by rw[Al oM];rfl⟩⟩⟩
  .rw[j,Ar3]at a;exact a.symm
  .rw[j,Ar1]at a;exact a
 .rw[Asr (by have:=A1 i;omega)]at a;exact Bp a.symm
def AjA {g:FuncId}{c:List VV}{l:List D.Dim}(p:D.Dim->Bool)(a:l.length<=4611686018427387904)(h:∀x∈l,Ah prog g [] [.agg (LK x),.tp c] [] (Ac (p x))):Ah prog 130 [] [Bi true l,.fn (.func g) [.tp c]] [] (Ac (l.any p)) :=
 Ap func130 (AmX _ g c l) ⟨_,Ajm p a h,AB Ff⟩
def Aji {g:FuncId}{c:List VV}{l:List Int}(p:Int->Bool)(m:l.length<=4611686018427387904)(h:∀x∈l,Ah prog g [] [Aa x,.tp c] [] (Ac (p x))):Ah prog 161 [] [Ad true l,.fn (.func g) [.tp c]] [] (Aa (ixP p 0 l)):=by
 refine Ap func161 (AmJ _ g c l) ?_;refine Aq (λgg st=>∃k:Nat,k<=l.length/\gg=l.length-k/\ixP p 0 l=ixP p k (l.drop k)/\st=H3 (Ad true l) (.fn (.func g) [.tp c]) l.length k) ⟨_,Up.of ⟨0,Ar9 _,rfl,rfl,rfl⟩⟩ ?_;rintro gg st ⟨k,n,rfl,a,rfl⟩;have e:(k:Int).toNat=k:=oM
 refine Asm (Ajj _ g c l l.length k _) ⟨λf=>?_,λi=>?_⟩
 .have b:k<l.length:=by have:=A0 f;omega
  rw[e];rw[A9 (d:=0) b,Eu]at a;refine⟨⟨oM,oM⟩,p (l.getD k 0),h _ (As b),λj=>Bp ?_,λj=>⟨l.length-(k+1),oM,Up.of ⟨k+1,b,rfl,?_,by rw[Al oM];rfl⟩⟩⟩
  .rw[j,Ar3]at a;exact a.symm
  .rw[j,Ar1]at a;exact a
 .rw[Asr (by have:=A1 i;omega)]at a;exact Bp a.symm
def Ajz {g:FuncId}{c:List VV}{l:List Int}(p:Int->Bool)(a:l.length<=4611686018427387904)(h:∀x∈l,Ah prog g [] [Aa x,.tp c] [] (Ac (p x))):Ah prog 132 [] [Ad true l,.fn (.func g) [.tp c]] [] (Ac (l.any p)) :=
 Ap func132 (AmV _ g c l) ⟨_,Aji p a h,AB Ff⟩
def Vl {k op p:Int}{i:Nat}(h:FP k op i p=true)(h0:0<=k):p<k:=by
 unfold FP at h;cases c:decide (i<BV op)with
 | true=>rw[c,Ar3]at h;have:=Cn.1 h;omega
 | false=>rw[c,Ar1]at h;have:=Asd h;omega
def AjC {m:D.Model}{k:Int}(h:DM m k=true)(h0:0<=k):(Az m k).A<k/\(Az m k).B<k/\(Az m k).C<k:=by
 unfold DM at h;simp only[Ar2]at h;obtain⟨⟨_,⟨a,hB⟩,b⟩,_⟩:=h;exact⟨Vl a h0,Vl hB h0,Vl b h0⟩
section
variable {m : D.Model}
def Ac7 (j:∀i:Nat,i<m.Exprs.length->DM m i=true):∀(n:Nat)(x:Int),x<n->x<m.Exprs.length->Ah prog 129 [] [Aa x,.tp (Ae m),.tp (GI 129 (Ae m) (n+1))] [] (Ac (isO m n x))
 | 0,x,h0,_=>Ap func129 (AcJ _ m x (GI 129 (Ae m) 0) rfl rfl rfl) ⟨λ_=>AB rfl,λh=>absurd (Asn h) oM⟩
 | n+1,x,h0,h1=>by
  have IH:=Ac7 j n;refine Ap func129 (AcJ _ m x (GI 129 (Ae m) (n+1)) rfl rfl rfl) ⟨λh=>AB ?_,λh=>?_⟩
  .unfold isO;rw[h,Ar3]
  .have k:0<=x:=by have:=Asn h;omega
   have f:=j x.toNat oM;rw[show((x.toNat:Nat):Int)=x by omega]at f;obtain⟨pA,pB,pC⟩:=AjC f k;have g:=Yz f;have l:isO m (n+1) x=AjI (isO m n) (Az m x):=by
    show(bif decide (x<0)then true else _)=_;rw[h,Ar1]
   rw[l];have hv:(Az m x).Op=2->Y7 m x (Az m x).V:=λh=>Kg (g.var h)
   change inX x m.Exprs.length/\_;refine⟨⟨k,h1⟩,?_⟩;change BB ((Az m x).Op==1) (BB ((Az m x).Op==1) _ _) (BB ((Az m x).Op==31) _ (BB ((Az m x).Op==2) (∃y:Bool,((true&&((Az m x).V.Scope==1)==true)=true->Ah _ _ _ [Bi true (Az m x).V.Dims,_] _ _)/\(leO [] []/\VV.le (Ac (bif(Az m x).V.Scope==1 then !y else false)) _))
    (∃y:Bool,(_->Ah _ _ _ [Aa (Az m x).A,_,_] _ _)/\∃o:Bool,(_->Ah _ _ _ [Aa (Az m x).B,_,_] _ _)/\∃p:Bool,(_->Ah _ _ _ [Aa (Az m x).C,_,_] _ _)/\(leO [] []/\VV.le (Ac (bif bif bif bif decide ((Az m x).Op>=3)then decide ((Az m x).Op<=24)else false then y else false then o else false then p else false)) _))))
   generalize Az m x=X at *;unfold AjI;refine⟨λa=>⟨λ_=>AB ?_,λb=>absurd (a.symm.trans b) sM⟩,λa=>⟨λb=>AB ?_,λb=>⟨λc=>?_,λc=>?_⟩⟩⟩
   .have a:X.Op=1:=by simpa using a
    simp[a]
   .have b:X.Op=31:=by simpa using b
    simp[b]
   .have c:X.Op=2:=by simpa using c
    have hv:=hv c;refine⟨X.V.Dims.any λd=>!isO m n d.I,λ_=>AjA _ (by have:=hv.dims;omega) λd hd=>?_,AB ?_⟩
    .obtain⟨_,q,d1⟩:=hv.dim d hd;exact Ap func131 (Ai2 _ m d (GI 129 (Ae m) (n+1))) ⟨isO m n d.I,IH _ oM oM,AB rfl⟩
    .rw[c];have e:(!(X.V.Dims.any λd=>!isO m n d.I))=X.V.Dims.all λd=>isO m n d.I:=by
      rw[List.all_eq_not_any_not]
     rw[e]
     by_cases hs:X.V.Scope=1<;>simp[hs]
   .have c:X.Op≠2:=by simpa using c
    have a:X.Op≠1:=by simpa using a
    have b:X.Op≠31:=by simpa using b
    refine⟨isO m n X.A,λ_=>IH _ oM oM,isO m n X.B,λ_=>IH _ oM oM,isO m n X.C,λ_=>IH _ oM oM,AB ?_⟩;simp only[Asu a,Asu b,Asu c,Bool.or_self,Ar1]
    by_cases h3:3<=X.Op<;>by_cases h4:X.Op<=24<;>simp[h3,h4]<;>cases isO m n X.A<;>cases isO m n X.B<;>rfl
def AjH {s:D.Stmt}(c:∀i:Nat,i<m.Exprs.length->DM m i=true)(hs:Fs m s):Ah prog 113 [] [.agg (Ae m),.agg (Ax s)] [] (Ac (NA m s)):=by
 have d:=hs.args;have a:∀x:Int,x<m.Exprs.length->Ah prog 129 [] [Aa x,.tp (Ae m),.tp (GI 129 (Ae m) (m.Exprs.length+1))] [] (Ac (L7 m x)):=λx b=>Ac7 c m.Exprs.length x b b
 refine Ap func113 (AiU _ m s) ?_;refine AA.lay (i:=0) (j:=2) (m.Exprs.length+2) rfl rfl rfl rfl (λk o h=>?_) (λp hp=>?_) ?_
 .match k,h with
  | 0,h=>obtain rfl:=Aso h;exact .inr ⟨_,rfl,rfl⟩
  | 1,h=>obtain rfl:=Aso h;exact .inr ⟨_,rfl,rfl⟩
  | 2,_=>exact .inl rfl
  | k+3,h=>simp at h
 .simp only[AsN,List.not_mem_nil,or_false]at hp;rcases hp with rfl|rfl|rfl
  .exact .inr ⟨0,rfl,sM⟩
  .exact .inr ⟨1,rfl,sM⟩
  .exact .inr ⟨2,rfl,sM⟩
 .show AA _ Ars (An7 m s (GI 129 (Ae m) (m.Exprs.length+1+1)));refine GC Aj Ak kR (Afv _ m s (GI 129 (Ae m) (m.Exprs.length+1))) ⟨λh=>?_,λh1=>⟨λh=>?_,λh2=>⟨λh=>?_,λh4=>AB ?_⟩⟩⟩
  .have h:s.Kind=1:=by simpa using h
   refine⟨_,a _ (hs.k1 h).2,AB ?_⟩;unfold NA;rw[AsE h]
  .have h:s.Kind=2:=by simpa using h
   refine⟨_,a _ (hs.v2 h).2.1,_,λ_=>a _ (hs.k2 h).2,AB ?_⟩;unfold NA;rw[Asv oM,AsE h];cases L7 m s.A<;>rfl
  .have h:s.Kind=4:=by simpa using h
   refine⟨s.Args.any λx=>!L7 m x,Ajz _ oM λx b=>?_,AB ?_⟩
   .exact Ap func133 (Ai1 _ m x (GI 129 (Ae m) (m.Exprs.length+1))) ⟨L7 m x,a _ (hs.a4 h x b).2,AB rfl⟩
   .unfold NA;rw[Asv oM,Asv oM,AsE h,List.all_eq_not_any_not]
  .have h1:s.Kind≠1:=by simpa using h1
   have h2:s.Kind≠2:=by simpa using h2
   have h4:s.Kind≠4:=by simpa using h4
   unfold NA;rw[Asv h1,Asv h2,Asv h4];show(bif decide (s.Kind=8)then true else decide (s.Kind=7))=_;cases decide (s.Kind=8)<;>rfl
def Tr (l:D.Loc):Ah prog 112 [] [.agg (AW l)] [] (Ac (HA l)) :=
 Ap func112 (Afo _ l) (AB (by unfold HA;cases l.Atomic<;>cases l.Dstep<;>cases l.Accept<;>cases l.Progress<;>rfl))
def XZ {w:List D.Trans}(a:w.length<=1048576):Ah prog 138 [] [Ao true w,.tp [.fn (.func 136) []]] [] (Ac (w.any λt=>decide (t.S.Kind=6)&&decide (t.S.N<2))) :=
 Ap func138 (AiY _ w) ⟨_,Ajs _ oM λt _=>Ap func136 (AiZ _ t) (AB (by by_cases h:t.S.Kind=6<;>simp[h])),AB rfl⟩
def XK {l:D.Loc}(e:m.Shapes.length<=1048576)(a:GV l):Ah prog 114 [] [.agg (Ae m),.agg (AW l)] [] (Ac (Jw m l)):=by
 have f:=a.Esc.1;refine Ap func114 (AaM _ m l) ⟨Qj m,Ajt _ oM λs _=>Ap func135 (Ai0 _ s) (AB (by by_cases h:s.Room=0<;>simp[h])),λh=>AB ?_,λh=>⟨oM,λ_ _=>rfl,AhD l,?_,AB ?_⟩⟩
 .unfold Jw;rw[show Qj m=false by simpa using h]<;>rfl
 .have b:=Ajr (g:=138) (c:=[.fn (.func 136) []]) (l:=C8 l) (λw=>w.any λt=>decide (t.S.Kind=6)&&decide (t.S.N<2)) (by unfold C8;rw[AsG];omega) λw d=>XZ (by
   rcases AsN.1 d with rfl|d
   .exact a.Out.1
   .exact(a.Esc.2 w d).1)
  refine Ah.le b trivial ⟨?_,lR,trivial⟩ trivial lR;show VV.le _ (.sl false (C8 l).length 1 λi=>[Ao true ((C8 l).getD i [])]);rw[show(C8 l).length=1+l.Esc.length by unfold C8;rw[AsG];omega];refine As2 (.inl rfl) λi hi=>AN ?_
  cases i with
  | zero=>rfl
  | succ i =>
   rw[show Nat.blt (i+1) 1=false by cases i<;>rfl,Ar1,show i+1-1=i by omega];rfl
 .unfold Jw;rw[show Qj m=true by simpa using h]<;>rfl
def AaG {p:D.Proc}{l:D.Loc}(r:∀i:Nat,i<m.Exprs.length->DM m i=true)(s:m.Shapes.length<=1048576)(hp:Hk p)(u:l.Out.length<=1048576)(b:∀t∈l.Out,Fs m t.S)(c:∀t∈l.Out,inP p.Locs.length t.To=true) :
  Ah prog 82 [] [.agg (Ae m),.agg (AV p),.agg (AW l)] [] (Ac (Kq m p l)):=by
 have e:Kq m p l=(!(decide (l.Out.length=0)||(decide (0<l.Esc.length)||(HA l||decide (0<=p.Provided))))&&l.Out.all λt=>NA m t.S&&(!HA (p.Locs.getD t.To.toNat default)&&!Jw m (p.Locs.getD t.To.toNat default))):=rfl;generalize Kq m p l=R at e |-;refine Ap func82 (Afp R m p l) ⟨HA l,λ_=>Tr l,λh=>AB ?_,λh=>?_⟩
 .rw[e];have:(decide (l.Out.length=0)||(decide (0<l.Esc.length)||(HA l||decide (0<=p.Provided))))=true:=by
   by_cases h1:l.Out.length=0
   .simp[h1]
   .by_cases h2:0<l.Esc.length
    .simp[h2]
    .cases h3:HA l with
     | true=>simp
     | false=>simp[h1,h2,h3]at h;simp[h]
  rw[this]<;>rfl
 .have:(decide (l.Out.length=0)||(decide (0<l.Esc.length)||(HA l||decide (0<=p.Provided))))=false:=by
   by_cases h1:l.Out.length=0
   .simp[h1]at h
   .by_cases h2:0<l.Esc.length
    .simp[h2]at h
    .cases h3:HA l with
     | true=>simp[h3]at h
     | false=>simp[h1,h2,h3]at h;simp[h1,h2,h]
  rw[this,Bool.not_false,As5]at e;clear h this;generalize l.Out=w at u b c e |-;refine Aq (λgg st=>∃k:Nat,k<=w.length/\gg=w.length-k/\R=((w.drop k).all λt=>NA m t.S&&(!HA (p.Locs.getD t.To.toNat default)&&!Jw m (p.Locs.getD t.To.toNat default)))/\st=AlS m p w k) ⟨_,Up.of ⟨0,Ar9 _,rfl,e,rfl⟩⟩ ?_;rintro gg st ⟨k,x,rfl,f,rfl⟩;have g:(k:Int).toNat=k:=oM
  refine Asm (AaH R m p w k _ rfl rfl) ⟨λj=>?_,λn=>AB ?_⟩
  .have a:k<w.length:=by have:=A0 j;omega
   have q:=As (d:=(default:D.Trans)) a;rw[g];rw[A9 (d:=default) a,AtA]at f;have o:=Cn.1 (c _ q);have hs:=b _ q;generalize w.getD k default=t at f o hs |-;have v:GV (p.Locs.getD t.To.toNat default):=hp.Locs.2 _ (As oM);refine⟨⟨oM,oM⟩,NA m t.S,AjH r hs,λ_=>o,HA (p.Locs.getD t.To.toNat default),λ_=>Tr _,λ_=>o,Jw m (p.Locs.getD t.To.toNat default),λ_=>XK s v,λh=>AB ?_,λh=>⟨w.length-(k+1),oM,Up.of ⟨k+1,a,rfl,?_,by rw[Al oM]⟩⟩⟩
   .rw[f];revert h;cases NA m t.S<;>cases HA (p.Locs.getD t.To.toNat default)<;>cases Jw m (p.Locs.getD t.To.toNat default)<;>simp
   .rw[f];revert h;cases NA m t.S<;>cases HA (p.Locs.getD t.To.toNat default)<;>cases Jw m (p.Locs.getD t.To.toNat default)<;>simp
  .rw[f,Asr (by have:=A1 n;omega)]<;>rfl
end
section
variable {m : D.Model} {s:D.State}
def TP (a:AF m):Ah prog 20 [] [.agg (Ae m)] [] (Aa (O1 m)):=by
 have d:=a.Exprs.1;have e:=a.Procs.1;have b:O1 m=bif decide ((CO m).1≠0)then(CO m).1 else bif Pr m then 44 else 0:=rfl
 generalize O1 m=R at b |-;refine Ap func20 (AjF R m) ⟨CO m,MR a,λh=>Bp ?_,λh=>⟨m.Exprs.any AoN,XO _ oM λx _=>Ap func42 (AiP _ x) (AB rfl),
  m.Exprs.any Aks,λ_=>XO _ oM λx _=>Ap func39 (Ajq _ x) (AB ?_),
  m.Procs.any (Kx m),λ_=>Aju _ oM λp hp=>Ap func40 (AiW _ m p) ⟨⟨oM,by have:=List.length_pos_of_mem hp;omega⟩,AB ?_⟩,
  m.Procs.any Sb,λ_=>Ajv _ oM λp hp=>Ap func43 (AjD _ p) ⟨_,Ajy (λl=>l.Atomic) (by have:=(a.Procs.2 p hp).Locs.1;omega) λl _=>Ap func45 (AjB _ l) (AB rfl),AB rfl⟩,λh2=>Bp ?_,λh2=>Bp ?_⟩⟩
 .have h:(CO m).1≠0:=by simpa using h
  rw[b,Asx h]<;>rfl
 .show(bif bif bif bif decide (x.Op=32)then true else decide (x.Op=36)then true else decide (x.Op=37)then true else decide (x.Op=38)then true else bif decide (x.Op=2)then decide (x.V.Scope=2)else false)=Aks x;unfold Aks;cases decide (x.Op=32)<;>cases decide (x.Op=36)<;>cases decide (x.Op=37)<;>cases decide (x.Op=38)<;>cases decide (x.Op=2)<;>rfl
 .unfold Kx;show(!decide _)=decide (¬_);simp
 all_goals
  have h:(CO m).1=0:=by simpa using h
  rw[b,Asu (λc=>c h),Ar1];revert h2;unfold Pr;show(bif bif bif decide (0<=m.Claim)then true else _ then true else _ then true else _)=_->_;cases decide (0<=m.Claim)<;>cases m.Exprs.any Aks<;>cases m.Procs.any (Kx m)<;>cases m.Exprs.any AoN<;>cases m.Procs.any Sb<;>simp
end
section
variable {m : D.Model} {s:D.State}
def Gs.exprs (h:Gs m s):∀i:Nat,i<m.Exprs.length->DM m i=true:=NR (Lk (Cg h.may).1)
def M0 (m:D.Model)(s:D.State)(l:List Nx)(i:Nat):Bool:=Kq m (A7 m (s.Procs.getD i default).Type_) ((A7 m (s.Procs.getD i default).Type_).Locs.getD (s.Procs.getD i default).Loc.toNat default)&&l.any λn=>decide (n.Move.Pid=i)
def Fq (m:D.Model)(s:D.State)(l:List Nx)(k:Nat):List Int:=((List.range k).filter λi=>M0 m s l i).map Int.ofNat
def Y1 {l:List Nx}{k:Nat}:Fq m s l (k+1)=bif M0 m s l k then Fq m s l k++[(k:Int)]else Fq m s l k:=by
 unfold Fq;rw[List.range_succ,List.filter_append,As7];cases h:M0 m s l k<;>simp[h]
def Sr {l:List Nx}{k:Nat}:(Fq m s l k).length<=k:=by
 unfold Fq;rw[AsR];have:=List.length_filter_le (λi=>M0 m s l i) (List.range k);simpa using this
def XS (h:Gs m s)(z:O1 m=0){l:List Nx}(A:l.length<=4611686018427387904):Ah prog 55 [] [.agg (Ae m),.agg (Ag s),AC false l] [] (.tup [Ad true (G8 m s l),Aa 0]):=by
 have B:=h.fit.p;refine Ap func55 (AaO (G8 m s l,0) m s l rfl) ⟨O1 m,TP h.wf,λj=>?_,λ_=>⟨BH m s,DS h.wf h.small (λh=>(CI h).clp),λj=>?_,λ_=>?_⟩⟩
 .rw[z]at j;simp at j
 .rw[h.check]at j;simp at j
 have C:G8 m s l=Fq m s l s.Procs.length:=rfl;rw[C];refine AA.own 2 10 1 (AO []) rfl ?_;refine Aq (λgg st=>∃k:Nat,k<=s.Procs.length/\gg=s.Procs.length-k/\st=AoR m l s.Procs (Fq m s l k) k) ⟨_,Up.of ⟨0,Ar9 _,rfl,rfl⟩⟩ ?_;rintro gg st ⟨k,J,rfl,rfl⟩;have q:(k:Int).toNat=k:=oM
 have x:=Sr (m:=m) (s:=s) (l:=l) (k:=k);refine Asm (XT _ m l s.Procs (Fq m s l k) k _ rfl rfl) ⟨λu=>?_,λv=>?_⟩
 .have c:k<s.Procs.length:=by have:=A0 u;omega
  rw[q];have o:=(h.pid (i:=(k:Int)) (t:=false) (a:=[]) ⟨oM,oM⟩).1;obtain⟨E,H,_⟩:=D0 (h.fits.p _ (As (d:=default) c));have e:=o.ws (ws:=(DJ (AkD m s k)).Out) (Ar8 ..);have K:D8 (AkD m s k)=A7 m (s.Procs.getD k default).Type_:=rfl;have I:DJ (AkD m s k)=(A7 m (s.Procs.getD k default).Type_).Locs.getD (s.Procs.getD k default).Loc.toNat default:=rfl;rw[show D8 (D.Env.mk m s k false [])=A7 m (s.Procs.getD k default).Type_ from rfl,I]at e;have hp:=h.wf.Procs.2 _ (As (d:=default) (show(s.Procs.getD k default).Type_.toNat<m.Procs.length by omega));have y:M0 m s l k=(Kq m (A7 m (s.Procs.getD k default).Type_) ((A7 m (s.Procs.getD k default).Type_).Locs.getD (s.Procs.getD k default).Loc.toNat default)&&l.any λn=>decide (n.Move.Pid=k)):=rfl;have b:=Y1 (m:=m) (s:=s) (l:=l) (k:=k);refine⟨⟨oM,oM⟩,E,H,_,AaG (p:=A7 m (s.Procs.getD k default).Type_) h.exprs h.wf.Shapes.1 hp (Asz e.len dZ) e.st e.to,l.any λn=>decide (n.Move.Pid=k),λ_=>Ajw _ A λn _=>Ap func84 (AjE _ n k) (AB rfl),λg=>⟨oM,s.Procs.length-(k+1),oM,?_⟩,λg=>⟨s.Procs.length-(k+1),oM,Up.of ⟨k+1,c,rfl,?_⟩⟩⟩
  .have g:M0 m s l k=true:=(y.trans (B3 _ _).symm).trans g;rw[g,Ar3]at b;rw[Al oM];refine Up.mk (l':=[(2,AC false l),(3,.bp 0 0),(10,.ow 1 0 (Fq m s l (k+1)).length),(26,Av true s.Procs),(27,Aa s.Procs.length),(28,Aa ((k+1:Nat):Int))]) (hs':=[.box (Ae m),.arr true 0 (Fq m s l (k+1)).length 1 (AO (Fq m s l (k+1)))]) ?_ ?_ ⟨k+1,c,rfl,rfl⟩
   .rw[b,Ar7];exact AR _
   .rw[b,Ar7];refine⟨Ob.le_refl _,Asw λi hi=>AN ?_,trivial⟩;exact BW (l:=Fq m s l k) (r:=[(k:Int)]) (f:=λw=>[Aa w]) (d:=0) (F:=AO (Fq m s l k)) (G:=λi=>(([Aa k]:List VV).drop (i*1)).take 1) (λi hi=>rfl) (λi hi=>by
     obtain rfl:i=0:=by simpa using hi
     rfl) (by simpa using hi)
  .have g:M0 m s l k=false:=(y.trans (B3 _ _).symm).trans g;rw[g,Ar1]at b;rw[b,Al oM]
 .obtain rfl:k=s.Procs.length:=by have:=A1 v;omega
  exact⟨trivial,lR⟩
end
end Go.Proofs.YtddhibmbpmcnpaaGreatDoor
