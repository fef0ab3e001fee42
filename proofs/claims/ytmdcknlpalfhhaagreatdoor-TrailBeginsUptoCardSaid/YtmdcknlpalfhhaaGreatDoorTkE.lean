/-
  Texts, joined: WhH, WhK, ShelfP, PrN, PrP, SpP, SpE, VjRnd, VjRng, VjRgs, VjIt, VjIt2, VjIt3, SpA, TbA, TbH, ShelfQ, PrB, TbN, EmW1, WhW1, CsPutW, CsV, WhW2, PrW, PrX, Fm1, Fm2, WhPr, WhW3, SpI, SpJ, TbP.
-/
import Derived.Test.YtmdcknlpalfhhaaGreatDoorTkD
import Derived.KernelRfl
import Derived.Shelf.Strings.BuilderK
import Derived.Shelf.Strconv.Itoa4
import Derived.Lib.ItoaLen
import Derived.Lib.AppendIntMem
import Derived.Lib.SmallJoins
import Derived.RangeFuncNested
import Derived.OrdersIn
import Derived.OwnWalkIn
import Derived.Shelf.Strings.Split
import Derived.Shelf.Small.Strs
import Derived.Shelf.Strconv.ParseIntPublic10
import Derived.Lib.OthersKept
import Derived.Lib.BufferKept
import Derived.WalkKit
import Derived.Lib.Hide
import Derived.Lib.SliceRun
import Derived.RegionTactic
import Derived.Laws.IdiomStrings
import Derived.BigGuard
import Derived.Laws.Bits64b
import Derived.Lib.LaidTab
namespace Go.Proofs.YtmdcknlpalfhhaaGreatDoor
open Go.RowKit
set_option maxRecDepth 100000
theorem Aer (p:D.Process)(m:D.Model)(typ:Int)(args:List Int):(fc AiK QG Tryz.f25 [] (.agg (Ar p))).goal (St.init [] [.agg (Ag m),Aa typ,Ad false args]) =
  (inX typ m.Procs.length/\∃ (y:List Int),Ai Tryz.prog 24 [] [Ad true (m.Procs.getD typ.toNat default).Init] [Ob.arr true 0 y.length 1 (AM y)] (VV.ow 0 0 y.length)/\AA (fc AiK QG Tryz.f25 [] (VV.agg (Ar p))) [1,1,1,0,1,0] (Aq [(6,VV.bp 0 0),(7,VV.bp 1 0),(8,VV.bp 2 0),(25,Ad false args),(26,Aa (↑args.length:Int)),(27,Aa 0)] [Ob.box [Aa 0,Aa 0,Aa 0,VV.nl],Ob.box (Bc (m.Procs.getD typ.toNat default)),Ob.box [Aa typ,Aa (m.Procs.getD typ.toNat default).Start,Aa (m.Procs.getD typ.toNat default).Prio,VV.ow 3 0 y.length],Ob.arr true 0 y.length 1 (AM y)])):=by kernel_rfl
theorem AeB (p:D.Process)(r:Int)(m:D.Model)(typ:Int)(args:List Int):(fc Abr AT Tryz.f153 [] (.tup [.agg (Ar p),Aa r])).goal (St.init [] [.agg (Ag m),Aa typ,Ad false args]) =
  (∃ (y:Bool),VC 23 [VV.agg (Ag m)] (Ac y)/\BB (!y) (LQ (VV.tup [VV.agg [Aa 0,Aa 0,Aa 0,VV.nl],Aa 40]) (VV.tup [VV.agg (Ar p),Aa r])) (((true&&(bif bif decide (typ<0) then true else decide (typ>=(↑m.Procs.length:Int)) then true else typ==m.Claim)==false)=true->inX typ m.Procs.length)/\BB (bif bif bif decide (typ<0) then true else decide (typ>=(↑m.Procs.length:Int)) then true else typ==m.Claim then true else(↑args.length:Int) != (m.Procs.getD typ.toNat default).Params) (LQ (VV.tup [VV.agg [Aa 0,Aa 0,Aa 0,VV.nl],Aa 42]) (VV.tup [VV.agg (Ar p),Aa r])) (∃ (y:D.Process),VC 25 [VV.agg (Ag m),Aa typ,Ad false args] (VV.agg (Ar y))/\LQ (VV.tup [VV.agg (Ar y),Aa 0]) (VV.tup [VV.agg (Ar p),Aa r])))):=by kernel_rfl
theorem WB (hs':List Ob)(v r:Int)(e:D.Env)(x:Int):(CR Tryz.prog tb Abr Adn false Tryz.f120 hs' (.tup [Aa v,Aa r])).goal (St.init (hsE e) [.bp 0 0,Aa x]) =
  (inX x e.M.Exprs.length/\∃ (y:List Int × Int),Ai Tryz.prog 122 [] [VV.agg (Bl e),Ad true (e.M.Exprs.getD x.toNat default).Args] [Ob.arr true 0 y.fst.length 1 (AM y.fst)] (VV.tup [VV.ow 0 0 y.fst.length,Aa y.snd])/\BB (y.snd != 0) (leO (hsE e) hs'/\(VV.tup [Aa 0,Aa y.snd]).le (VV.tup [Aa v,Aa r])) (∃ (y_1:D.Process × Int),VC 153 [VV.agg (Ag e.M),Aa (e.M.Exprs.getD x.toNat default).N,Ad false y.fst] (VV.tup [VV.agg (Ar y_1.fst),Aa y_1.snd])/\BB (y_1.snd != 0) (leO (hsE e) hs'/\(VV.tup [Aa 0,Aa y_1.snd]).le (VV.tup [Aa v,Aa r])) ((e.S.Procs.length+1)*48<=140737488355328/\leO [Ob.box (E3 e (VV.ow 1 0 e.S.Chans.length) (VV.ow 2 0 (e.S.Procs.length+1))),obC e.S,Ob.arr true 0 (e.S.Procs.length+1) 4 fun(i:Nat)=>bif i.blt e.S.Procs.length then Ar (e.S.Procs.getD i default) else(fun(i:Nat)=>List.take 4 (List.drop (i*4) (Ar y_1.fst))) (i - e.S.Procs.length)] hs'/\(VV.tup [Aa (IntKind.i64.wrap ((↑(e.S.Procs.length+1):Int) - (1:Int))),Aa 0]).le (VV.tup [Aa v,Aa r])))):=by kernel_rfl
theorem Aaf (hs':List Ob)(r:Int)(e:D.Env)(s:D.Stmt):(CR Tryz.prog tb Abr Adn false Tryz.f121 hs' (Aa r)).goal (St.init (hsE e) [.bp 0 0,.agg (Ap s)]) =
  (∃ (y:Bool),VC 119 [VV.agg (Ag e.M),Aa s.B] (Ac y)/\BB y (∃ (y:D.Env × Int × Int),Ai Tryz.prog 120 (hsE e) [VV.bp 0 0,Aa s.B] (hsE y.fst) (vII y.snd)/\BB (y.snd.snd != 0) (leO (hsE y.fst) hs'/\(Aa y.snd.snd).le (Aa r)) (∃ (y_1:D.Env × Int),Ai Tryz.prog 124 (hsE y.fst) [VV.bp 0 0,Aa s.A,Aa y.snd.fst] (hsE y_1.fst) (Aa y_1.snd)/\leO (hsE y_1.fst) hs'/\(Aa y_1.snd).le (Aa r))) (∃ (y:Int × Int),VC 61 [VV.agg (Bl e),Aa s.B] (vII y)/\BB (y.snd != 0) (leO (hsE e) hs'/\(Aa y.snd).le (Aa r)) (∃ (y_1:D.Env × Int),Ai Tryz.prog 124 (hsE e) [VV.bp 0 0,Aa s.A,Aa y.fst] (hsE y_1.fst) (Aa y_1.snd)/\leO (hsE y_1.fst) hs'/\(Aa y_1.snd).le (Aa r)))):=by kernel_rfl
theorem Wi (hs':List Ob)(r:Int)(e:D.Env)(s:D.Stmt):(CR Tryz.prog tb Abr Adn false Tryz.f126 hs' (Aa r)).goal (St.init (hsE e) [.bp 0 0,.agg (Ap s)]) =
  (∃ (y:Int × Int × Int),VC 165 [VV.agg (Bl e),VV.agg (Ap s)] (LR y)/\BB (y.snd.snd != 0) (leO (hsE e) hs'/\(Aa y.snd.snd).le (Aa r)) (inX (IntKind.i64.wrap (y.fst - (1:Int))) e.S.Chans.length/\∃ (y_1:D.Chan × List Int × Int),VC 166 [VV.agg (AB (e.S.Chans.getD (IntKind.i64.wrap (y.fst - (1:Int))).toNat default)),Aa y.snd.fst] (VV.tup [VV.agg (AB y_1.fst),Ad true y_1.snd.fst,Aa y_1.snd.snd])/\BB (y_1.snd.snd != 0) (leO (hsE e) hs'/\(Aa y_1.snd.snd).le (Aa r)) (BB (decide (s.N<2)) (inX (IntKind.i64.wrap (y.fst - (1:Int))) e.S.Chans.length/\∃ (y_2:D.Env × Int),Ai Tryz.prog 163 [Ob.box (E3 e (VV.ow 1 0 e.S.Chans.length) (VV.ow 2 0 e.S.Procs.length)),Ob.arr true 0 e.S.Chans.length 2 fun(j:Nat)=>bif j.beq (IntKind.i64.wrap (y.fst - (1:Int))).toNat then AB y_1.fst else AB (e.S.Chans.getD j default),obP e.S] [VV.bp 0 0,VV.agg (Ap s),Ad true y_1.snd.fst] (hsE y_2.fst) (Aa y_2.snd)/\leO (hsE y_2.fst) hs'/\(Aa y_2.snd).le (Aa r)) (∃ (y:D.Env × Int),Ai Tryz.prog 163 (hsE e) [VV.bp 0 0,VV.agg (Ap s),Ad true y_1.snd.fst] (hsE y.fst) (Aa y.snd)/\leO (hsE y.fst) hs'/\(Aa y.snd).le (Aa r))))):=by kernel_rfl
theorem Aax (s:D.State)(e:D.Env):(fc Abr AT Tryz.f82 [] (.agg (Ae s))).goal (St.init [] [.agg (Af e)]) =
  (∃ (y:D.State),Ai Tryz.prog 14 [] [VV.agg (Ae e.S)] [obC y,obP y] (VV.agg (Bi y (VV.ow 0 0 y.Chans.length) (VV.ow 1 0 y.Procs.length)))/\((0:Int)<=e.Pid/\e.Pid<=(↑y.Procs.length:Int))/\BB (decide (y.Alone>=(↑e.Pid.toNat:Int))) (LQ (VV.agg [Ad true y.Globals,AE true y.Chans,VV.sl true e.Pid.toNat 4 (Ft y.Procs),Aa e.Pid,Aa (-1),Aa y.Claim]) (VV.agg (Ae s))) (LQ (VV.agg [Ad true y.Globals,AE true y.Chans,VV.sl true e.Pid.toNat 4 (Ft y.Procs),Aa e.Pid,Aa y.Alone,Aa y.Claim]) (VV.agg (Ae s)))):=by kernel_rfl
theorem Abx (p:D.Process)(m:D.Model)(typ:Int)(args l:List Int)(k:Int)(J:St->Prop):((fc AiK QG Tryz.f25 [] (.agg (Ar p))).loop [1,1,1,0,1,0] J).goal (SJ m typ args l k) =
  (BB (decide (k<(↑args.length:Int))) (inX k args.length/\inX k (A8 m typ).Frame.length/\∃ (y:Int),VC 37 [VV.agg (Dx ((A8 m typ).Frame.getD k.toNat default)),Aa (args.getD k.toNat 0)] (Aa y)/\inX k l.length/\J (Aq [(6,VV.bp 0 0),(7,VV.bp 1 0),(8,VV.bp 2 0),(25,Ad false args),(26,Aa (↑args.length:Int)),(27,Aa (IntKind.i64.wrap (k+(1:Int))))] [Ob.box [Aa 0,Aa 0,Aa 0,VV.nl],Ob.box (Bc (A8 m typ)),Ob.box [Aa typ,Aa (A8 m typ).Start,Aa (A8 m typ).Prio,VV.ow 3 0 l.length],Ob.arr true 0 l.length 1 fun(j:Nat)=>bif j.beq k.toNat then[Aa y] else[Aa (l.getD j 0)]])) (LQ (VV.agg [Aa typ,Aa (A8 m typ).Start,Aa (A8 m typ).Prio,Ad true l]) (VV.agg (Ar p)))):=by kernel_rfl
end Go.Proofs.YtmdcknlpalfhhaaGreatDoor
namespace Go.Proofs.YtmdcknlpalfhhaaGreatDoor
open Go.RowKit
section
variable {e : D.Env} {w:Wy}
theorem Pa {i:Int}:∀ {l:List Ab} {k:Nat},w∈C3 i k l->∃ (j:Nat) (x:Ab),l[j]?=some x/\w∈GI i (k+j) x
 | [],_,h=>by cases h
 | x::r,k,h=>by
  rcases AlA.1 (show w∈GI i k x++C3 i (k+1) r from h) with h | h
  ·exact⟨0,x,rfl,h⟩
  ·obtain⟨j,y,a,b⟩:=Pa h
   exact⟨j+1,y,a,by rw[show k+(j+1)=k+1+j by omega];exact b⟩
theorem Rg {i:Int}{k:Nat}{x:Ab}(h:w∈GI i k x):w.Way=k/\w.Esc=i/\(x.is=true∨∃ p∈x.wth,w.With=p.pid):=by
 rcases AlA.1 h with h | h
 ·cases c:(x.is&&decide (x.wth.length=0)) with
  | false=>rw[c]at h;cases h
  | true =>
   rw[c]at h
   obtain rfl:=Aly.1 h
   simp only[Ak2]at c
   exact⟨rfl,rfl,.inl c.1⟩
 ·obtain⟨p,hp,rfl⟩:=Amn.1 h
  exact⟨rfl,rfl,.inr ⟨p,hp,rfl⟩⟩
theorem RK : ∀ {l:List (Int × List D.Trans)},w∈FT e l->0<=w.Way
 | [],h=>by cases h
 | (i,ws)::r,h=>by
  have hq:FT e ((i,ws)::r)=bif decide (0<(C3 i 0 (Cz e (Bn e) ws false)).length) then C3 i 0 (Cz e (Bn e) ws false) else FT e r:=rfl
  rw[hq]at h
  cases c:decide (0<(C3 i 0 (Cz e (Bn e) ws false)).length) with
  | true =>
   rw[c]at h
   obtain⟨j,x,_,h2⟩:=Pa h
   have:=(Rg h2).1
   omega
  | false=>rw[c]at h;exact RK h
theorem AfK (h:w∈Bp e)(hw:w.Way<0)(he:w.Err=0):e.Pid=(e.S.Procs.length:Int) - 1:=by
 unfold Bp at h
 cases c1:decide ((DP e e.Pid).Loc=(DZ e).Final) with
 | true =>
  rw[c1,Ak4]at h
  cases c2:decide (e.Pid=(e.S.Procs.length:Int) - 1) with
  | true=>exact Ak9 c2
  | false=>rw[c2]at h;cases h
 | false =>
  rw[c1,Ak0]at h
  cases c2:decide ((Bk e).2≠0) with
  | true =>
   rw[c2,Ak4]at h
   obtain rfl:=Aly.1 h
   exact absurd he (Ak9 c2)
  | false =>
   rw[c2,Ak0]at h
   cases c3:(!(Bk e).1) with
   | true=>rw[c3]at h;cases h
   | false =>
    rw[c3,Ak0]at h
    have:=RK h
    omega
theorem UG (h:w∈Bp e)(h0:0<=w.Way)(hk:(CL e w).S.Kind=1)(hr:DN e (CL e w).S.A=true):e.S.Procs.length<16:=by
 rcases Hm (e:=e) with h' | ⟨er,h'⟩ | ⟨i,ws,hi,h'⟩
 ·rw[h']at h;cases h
 ·rw[h']at h
  obtain rfl:=Aly.1 h
  exact absurd (show(0:Int)<=-1 from h0) (by decide)
 ·rw[h']at h
  obtain⟨hl,_⟩:=Ii hi
  obtain⟨j,x,a1,a2⟩:=Pa h
  rw[AlC]at a2
  obtain⟨b1,rfl⟩:=TB a1
  obtain⟨c1,c2,c3⟩:=Rg a2
  have ht:ws.getD j default=CL e w:=by
   unfold CL
   rw[c2,hl,c1]<;>rfl
  have hcan:FY e (Bn e) ws false j=C9 e (Bn e) (CL e w).S false:=by
   unfold FY
   rw[ht,AlI (show ¬ (CL e w).S.Kind=7 by omega)]<;>rfl
  have hst:C9 e (Bn e) (CL e w).S false=NR e:=by
   unfold C9
   rw[Alw hk,hr]<;>rfl
  rw[hcan,hst]at c3
  rcases c3 with c3 | ⟨p,hp,_⟩
  ·exact Ak9 c3
  ·cases hp
theorem EJ {l:List D.Process}{k to:Int}:(Em l k to).length=l.length:=AlT ..
theorem Pp {l:List D.Process}{k to:Int}{j:Nat}(h:(j:Int)≠k)(hk:0<=k):(Em l k to).getD j default=l.getD j default:=by
 unfold Em
 rw[Mz,Alg (by omega)]
theorem Pq {m:D.Model}{l:List D.Process}{k to:Int}(h:∀ p∈l,A2 m p=true)(h0:0<=k)(hk:k<l.length)(ht:inP (A8 m (l.getD k.toNat default).Type_).Locs.length to=true):∀ p∈Em l k to,A2 m p=true:=fun p hp=>by
 rcases FN hp with hp | rfl
 ·exact h p hp
 ·exact AeR (h _ (Av (by omega))) ht
structure Whole (e:D.Env) (w:Wy) (s:D.State):Prop where
 fits:EF e.M s
 last:s.Last=e.Pid
 claim:s.Claim=e.S.Claim
 n1:(e.S.Procs.length:Int) - 1<=s.Procs.length
 n2:s.Procs.length<=e.S.Procs.length+1
 old:∀ k:Nat,k<s.Procs.length->k<e.S.Procs.length->(k:Int)≠e.Pid->(k:Int)≠w.With->(s.Procs.getD k default).Frame=(e.S.Procs.getD k default).Frame/\(s.Procs.getD k default).Loc=(e.S.Procs.getD k default).Loc /\
  (s.Procs.getD k default).Type_=(e.S.Procs.getD k default).Type_
theorem Ro {l:List D.Process}{n k:Nat}(h:k<n):(l.take n).getD k default=l.getD k default:=by simp[List.getD,h]
theorem Ac2 (h:CK e)(hp:e.Pid=(e.S.Procs.length:Int) - 1):Whole e w (Ac3 e):=by
 have hf:=D9.1 h.ok.fits
 have h0:=h.p0
 have hpl:=hf.pl
 have hl:(e.S.Procs.take e.Pid.toNat).length=e.Pid.toNat:=by simp;omega
 have ha:=hf.a
 refine⟨⟨hf.g,hf.cl,by show(List.take _ _).length<=16;omega,⟨h0,by show e.Pid<16;omega⟩,?_,hf.c,fun p hp=>hf.p _ (List.mem_of_mem_take hp),hf.k⟩,rfl,rfl,by show _<=((List.take _ _).length:Int);omega,by show(List.take _ _).length<=_;omega,fun k hk _ _ _=>?_⟩
 ·show -1<=(bif decide (e.Pid<=e.S.Alone) then -1 else e.S.Alone)/\(bif decide (e.Pid<=e.S.Alone) then -1 else e.S.Alone)<((List.take e.Pid.toNat e.S.Procs).length:Int)
  rw[hl]
  cases c:decide (e.Pid<=e.S.Alone) with
  | true=>rw[Ak4];omega
  | false=>have:=Alk c;rw[Ak0];omega
 ·have hk:k<(e.S.Procs.take e.Pid.toNat).length:=hk
  show((e.S.Procs.take e.Pid.toNat).getD k default).Frame=_/\((e.S.Procs.take e.Pid.toNat).getD k default).Loc=_/\((e.S.Procs.take e.Pid.toNat).getD k default).Type_=_
  rw[Ro (by omega)]
  exact⟨rfl,rfl,rfl⟩
structure AjG (e:D.Env) (w:Wy):Prop where
 st:Gm e.M (CL e w).S
 to:inP (A8 e.M (DP e e.Pid).Type_).Locs.length (CL e w).To=true
 v:0<=w.With->w.With≠e.Pid/\w.With<e.S.Procs.length/\Gm e.M (Hu e w).S/\(Hu e w).S.Kind=6/\inP (A8 e.M (DP e w.With).Type_).Locs.length (Hu e w).To=true
theorem Yh {pr:ByteArray->List Int->ByteArray}(h:CK e)(hin:w∈Bp e)(h0:0<=w.Way)(g:AjG e w)(hz:(Dk pr e (CL e w).S w).2.2=0):Whole e w (KU e w (Dk pr e (CL e w).S w).1.S):=by
 have hf:=D9.1 h.ok.fits
 have hp0:=h.p0
 have hpid:=h.ok.pid
 have d:=VF (pr:=pr) h.ok.wf hf g.st (fun hk hr=>UG hin h0 hk hr) (fun hv=>(g.v hv).2.2.1.t6 (g.v hv).2.2.2.1)
 generalize Dk pr e (CL e w).S w=y at hz d ⊢
 have ff:=d.fits hz
 have hlen:=d.keep.len
 have hmore:=d.more
 have hty:∀ i:Nat,i<e.S.Procs.length->(y.1.S.Procs.getD i default).Type_=(e.S.Procs.getD i default).Type_:=fun i hi=>(d.keep.old i hi).1
 unfold KU
 have key:∀ l:List D.Process,l.length=y.1.S.Procs.length->(∀ p∈l,A2 e.M p=true)->(l.getD e.Pid.toNat default).Type_=(DP e e.Pid).Type_ ->
   (∀ k:Nat,(k:Int)≠e.Pid->(k:Int)≠w.With->l.getD k default=y.1.S.Procs.getD k default)->Whole e w { y.1.S with Procs:=Em l e.Pid (CL e w).To,Last:=e.Pid }:=by
  intro l hl hp ht ho
  have hll:(Em l e.Pid (CL e w).To).length=y.1.S.Procs.length:=by rw[EJ,hl]
  refine⟨⟨ff.g,ff.cl,by show(Em _ _ _).length<=16;rw[hll];exact ff.pl,⟨hp0,by show e.Pid<16;have:=hf.pl;omega⟩,⟨ff.a.1,by show y.1.S.Alone<((Em _ _ _).length:Int);rw[hll];exact ff.a.2⟩,ff.c,Pq hp hp0 (by omega) (by rw[ht];exact g.to),ff.k⟩,
   rfl,d.keep.claim,by show _<=((Em _ _ _).length:Int);omega,by show(Em _ _ _).length<=_;omega,fun k hk he n1 n2=>?_⟩
  show((Em l e.Pid (CL e w).To).getD k default).Frame=_/\((Em l e.Pid (CL e w).To).getD k default).Loc=_/\((Em l e.Pid (CL e w).To).getD k default).Type_=_
  rw[Pp n1 hp0,ho k n1 n2]
  obtain⟨a1,a2,a3⟩:=d.keep.old k he
  exact⟨a3 (fun hb=>hb.elim n1 n2),a2,a1⟩
 cases c:decide (0<=w.With) with
 | false=>exact key _ rfl ff.p (hty e.Pid.toNat (by omega)) fun _ _ _=>rfl
 | true =>
  have hv:=Ak9 c
  obtain⟨v1,v2,_,_,v5⟩:=g.v hv
  rw[Ak4]
  refine key _ EJ (Pq ff.p hv (by omega) ?_) ?_ fun k n1 n2=>Pp n2 hv
  ·rw[hty w.With.toNat (by omega)];exact v5
  ·rw[Pp (by omega) hv];exact hty e.Pid.toNat (by omega)
theorem Afp {pr:ByteArray->List Int->ByteArray}(h:CK e)(hin:w∈Bp e)(g:0<=w.Way->AjG e w)(hz:(goE pr e w).2.2=0):Whole e w (goE pr e w).1:=by
 unfold goE at hz ⊢
 cases c1:decide (w.Err≠0) with
 | true=>rw[c1,Ak4]at hz;exact absurd hz (Ak9 c1)
 | false =>
 rw[c1,Ak0]at hz
 rw[Ak0]
 cases c2:decide (w.Way<0) with
 | true=>exact Ac2 h (AfK hin (Ak9 c2) (by simpa using c1))
 | false =>
 rw[c2,Ak0]at hz
 rw[Ak0]
 have h0:0<=w.Way:=by have:=Alk c2;omega
 cases c3:decide ((Dk pr e (CL e w).S w).2.2≠0) with
 | true=>rw[c3,Ak4]at hz;exact absurd hz (Ak9 c3)
 | false=>exact Yh h hin h0 (g h0) (by simpa using c3)
end
end Go.Proofs.YtmdcknlpalfhhaaGreatDoor
namespace Go.Proofs
open Go.Shelf
def Tryz.ren : Go.Shelf.Ren:=⟨fun | 129=>145 | 166=>31 | 167=>158 | 169=>33 | 173=>48 | 240=>43 | 246=>68 | 276=>62 | 283=>103 | 284=>104 | 285=>105 | 286=>106 | 317=>144 | 318=>146 | 319=>147 | 320=>148 | 337=>180 | 338=>181 | n=>n,fun | 0=>0 | 2=>2 | 3=>3 | 4=>4 | 5=>5 | 9=>9 | 20=>20 | 37=>101 | 46=>210 | 51=>257 | 53=>207 | 70=>100 | 72=>103 | 75=>105 | 80=>109 | 127=>132 | 164=>160 | 171=>214 | 173=>217 | 212=>256 | 213=>258 | 232=>309 | 233=>310 | n=>n,fun | 17=>3 | 18=>6 | 19=>7 | n=>n⟩
theorem Tryz.lays169 : Go.Proofs.Lays.n169 Tryz.prog Tryz.ren:=by constructor<;>first | (intros;kernel_rfl) | (constructor<;>(intros;kernel_rfl))
theorem Tryz.Builder_Extra_169 : Builder.Extra Tryz.prog Tryz.ren:=by constructor<;>first | (intros;kernel_rfl) | decide | (constructor<;>(intros;kernel_rfl))
open Go.RowKit in
theorem Tryz.Builder_String_any_k (B b:Nat)(l:List UInt8)(w:World)(h:Lib.IsBuilderF 103 5 B b (Lib.byteCells l) w)(hBw:B<=w.heap.size) :
  Calls Tryz.prog 33 #[.pointer (some ⟨b,0,none⟩)] w fun e w'=>e=.returned (.string ⟨l.toArray⟩)/\(Lib.IsBuilderF 103 5 B b (Lib.byteCells l) w'/\Below B w w'/\Lib.OthersKept 5 (some b) w w'):=Any.Builder_String_any_k Tryz.lays169 Tryz.Builder_Extra_169 B b l w h hBw
theorem Tryz.Builder_Extra_166 : Builder.Extra Tryz.prog Tryz.ren:=by constructor<;>first | (intros;kernel_rfl) | decide | (constructor<;>(intros;kernel_rfl))
theorem Tryz.lays166 : Go.Proofs.Lays.n166 Tryz.prog Tryz.ren:=by constructor<;>first | (intros;kernel_rfl) | (constructor<;>(intros;kernel_rfl))
theorem Tryz.Builder_Extra_167 : Builder.Extra Tryz.prog Tryz.ren:=by constructor<;>first | (intros;kernel_rfl) | decide | (constructor<;>(intros;kernel_rfl))
theorem Tryz.lays167 : Go.Proofs.Lays.n167 Tryz.prog Tryz.ren:=by constructor<;>first | (intros;kernel_rfl) | (constructor<;>(intros;kernel_rfl))
theorem Tryz.laysM173 : Go.Proofs.LaysM.n173 Tryz.prog Tryz.ren:=by constructor<;>first | (intros;kernel_rfl) | (constructor<;>(intros;kernel_rfl))
open Go.RowKit Go.Sort Go.Lib in
theorem Tryz.strconv_FormatInt_10 (n:Int)(h0:-9223372036854775808<=n)(h1:n<=9223372036854775807)(w:World)(htab:Lib.TabIs Tryz.prog w "internal/strconv.uint64pow10" .u64 Lib.pow10Tab) :
  Calls Tryz.prog 48 #[.int .i64 n,.int .i64 10] w fun e w'=>e=.returned (.string ⟨(Lib.itoa n).toArray⟩)/\∃ k os,w'=grow (w.drewN k) os:=Any.strconv_FormatInt_10 Tryz.laysM173 n h0 h1 w htab
theorem Tryz.lays283 : Go.Proofs.Lays.n283 Tryz.prog Tryz.ren:=by constructor<;>first | (intros;kernel_rfl) | (constructor<;>(intros;kernel_rfl))
open Go.Lib in
theorem Tryz.internal_strconv_small (i:Nat)(h:i<100)(w:World) :
  Calls Tryz.prog 103 #[.int .i64 i] w fun e w'=>e=.returned (.string ⟨(Lib.decDigits i).toArray⟩)/\w'=w:=Any.internal_strconv_small Tryz.lays283 i h w
theorem Tryz.laysM284 : Go.Proofs.LaysM.n284 Tryz.prog Tryz.ren:=by constructor<;>first | (intros;kernel_rfl) | (constructor<;>(intros;kernel_rfl))
open Go.Lib in
theorem Tryz.internal_strconv_numDigits (u:Nat)(h1:1<=u)(h2:u<18446744073709551616)(w:World)(htab:Lib.TabIs Tryz.prog w "internal/strconv.uint64pow10" .u64 Lib.pow10Tab) :
  Calls Tryz.prog 104 #[.int .u64 u] w fun e w'=>e=.returned (.int .i64 (Lib.nDigits u))/\w'=w:=Any.internal_strconv_numDigits Tryz.laysM284 u h1 h2 w htab
theorem Tryz.lays285 : Go.Proofs.Lays.n285 Tryz.prog Tryz.ren:=by constructor<;>first | (intros;kernel_rfl) | (constructor<;>(intros;kernel_rfl))
open Go.RowKit Go.Sort Go.Lib in
theorem Tryz.internal_strconv_formatBase10 (blk off cap:Nat)(u:Nat)(d:Array UInt8)(w:World)(hH:Holds (fun(b:UInt8)=>Value.int .u8 (b.toNat:Int)) w blk off d)(hu:u<10 ^ d.size)(hu64:u<18446744073709551616)(hsz:d.size<4611686018427387904) :
  Calls Tryz.prog 105 #[.slice (some ⟨blk,off,none⟩) d.size cap,.int .u64 u] w fun e w' =>
   e=.returned (.tuple #[])/\∃ (n v':Nat) (dk:Array UInt8),w'=(putRow (fun(b:UInt8)=>Value.int .u8 (b.toNat:Int)) w blk off dk).drewN n/\FmtInv d.size u 0 v' dk:=Any.internal_strconv_formatBase10 Tryz.lays285 blk off cap u d w hH hu hu64 hsz
end Go.Proofs
namespace Go.Proofs.YtmdcknlpalfhhaaGreatDoor
open Go.RowKit
abbrev By:=List UInt8
def I64 (n:Int):Prop:=-9223372036854775808<=n/\n<=9223372036854775807
def bs (s:ByteArray):By:=s.data.toList
def mk (l:By):ByteArray:=⟨l.toArray⟩
theorem VS (l:By):bs (mk l)=l:=by simp[bs,mk]
theorem U3 (s:ByteArray):mk (bs s)=s:=by simp[bs,mk]
theorem Km (s:ByteArray):s.size=(bs s).length:=rfl
theorem IF (l:By):(mk l).size=l.length:=by simp[ByteArray.size,mk]
def Fi (n:Int):ByteArray:=mk (Lib.itoa n)
theorem Abn {n:Int}(h:I64 n):(Fi n).size<=21:=by
 unfold Fi
 rw[IF]
 exact Lib.itoa_length_le n h.1 h.2
theorem Vo {n:Int}(h:I64 n):Ai Tryz.prog 48 [] [Aa n,Aa 10] [] (AD (Fi n)):=by
 refine Ai.hand ⟨_,Tryz.func48,rfl,by kernel_rfl⟩ fun w E vs hA hL _ _ hs=>?_
 obtain⟨u1,us1,rfl,v1,hs⟩:=hs.cons_inv
 obtain⟨u2,us2,rfl,v2,hs⟩:=hs.cons_inv
 obtain rfl:=hs.nil_inv
 rw[v1.sc_inv,v2.sc_inv]
 refine(Tryz.strconv_FormatInt_10 n h.1 h.2 w hL.tab).mono ?_
 rintro e w' ⟨rfl,k,os,rfl⟩
 exact⟨_,rfl,.sc,Lib.below_grow _ w (Ak6 _) k os⟩
end Go.Proofs.YtmdcknlpalfhhaaGreatDoor
namespace Go.Proofs.YtmdcknlpalfhhaaGreatDoor
open Go.RowKit
def Gl (d:Nat):UInt8:=if d<10 then UInt8.ofNat (48+d) else UInt8.ofNat (87+d)
def KX (b:Nat):Nat->Nat->By
 | 0,_=>[]
 | g+1,u=>if u<b then[Gl u] else KX b g (u / b)++[Gl (u % b)]
def Im (b u:Nat):By:=KX b 64 u
def U8 (n:Int):Nat:=(n % 4294967296).toNat
def Cg (c:UInt8)(n:Int):By :=
 if c=117 then Im 10 (U8 n) else if c=120 then Im 16 (U8 n) else if c=111 then Im 8 (U8 n) else if c=99 then[UInt8.ofNat (n % 256).toNat] else Lib.itoa n
def Gi (c:UInt8):Bool:=c==100||(c==105||(c==101||(c==117||(c==120||(c==111||c==99)))))
def BQ : By->List Int->By
 | [],_=>[]
 | [c],_=>[c]
 | c::d::r,l =>
  bif !(c==37) then c::BQ (d::r) l
  else bif d==37 then 37::BQ r l
  else bif Gi d then(match l with | []=>BQ r [] | n::l=>Cg d n++BQ r l)
  else 37::d::BQ r l
def CV (t:ByteArray)(l:List Int):ByteArray:=mk (BQ (bs t) l)
structure Mv where
 Pid:Int
 Esc:Int
 Way:Int
 With:Int
 WithEsc:Int
 WithWay:Int
 Claim:Int
deriving DecidableEq
instance : Inhabited Mv:=⟨⟨0,0,0,0,0,0,0⟩⟩
structure Nx where
 Move:Mv
 State:D.State
 Err:Int
 Text:ByteArray
instance : Inhabited Nx:=⟨⟨default,⟨[],[],[],0,0,0⟩,0,⟨#[]⟩⟩⟩
def noT : ByteArray:=⟨#[]⟩
def goP (e:D.Env)(w:Wy):D.State × ByteArray × Int:=goE CV e w
abbrev Gn : Type:=D.Env × List Wy
def JK (e:D.Env)(i:Nat):List Gn:=bif decide (0<(Fb (BE e i)).1.length) then[(BE e i,(Fb (BE e i)).1)] else[]
def EM (e:D.Env):Nat->List Gn
 | 0=>[]
 | n+1=>EM e n++JK e n
def Fg (e:D.Env)(g:Gn):Int:=(DP e g.1.Pid).Prio
def Mq (e:D.Env):Int->List Gn->Option Gn × Int
 | most,[]=>(none,most)
 | most,g::r=>bif decide (g.1.Pid=e.S.Alone) then(some g,most) else Mq e (max most (Fg e g)) r
def C6 (e:D.Env):List Gn :=
 match Mq e 0 (EM e e.S.Procs.length) with
 | (some g,_)=>[g]
 | (none,most)=>(EM e e.S.Procs.length).filter fun g=>decide (Fg e g=most)
def Ho (m:D.Model)(s:D.State):List Bool:=bif decide (Cf m s=0) then CA m s s.Procs.length else[]
def Gk (m:D.Model)(s:D.State):List Gn :=
 bif decide (0<(C6 ⟨m,s,0,false,Ho m s⟩).length) then C6 ⟨m,s,0,false,Ho m s⟩ else C6 ⟨m,s,0,true,Ho m s⟩
def Cx : List Gn->List (D.Env × Wy)
 | []=>[]
 | g::r=>g.2.map (fun w=>(g.1,w))++Cx r
def Dv (m:D.Model)(s:D.State):List (D.Env × Wy):=Cx (Gk m s)
def CI (m:D.Model)(s:D.State)(pid:Int):D.Loc × Bool :=
 bif decide (pid<0)||decide ((s.Procs.length:Int)<=pid) then(default,false) else((IM m (s.Procs.getD pid.toNat default).Type_).getD (s.Procs.getD pid.toNat default).Loc.toNat default,true)
def onS (m:D.Model)(pid:Int):Nat->D.State->ByteArray->D.State × ByteArray × Int
 | k,s,t=>bif !(CI m s pid).2||!(CI m s pid).1.Dstep then(s,t,0) else
  match k with
  | 0=>(BO,noT,53)
  | k+1 =>
   match(Fb ⟨m,s,pid,false,[]⟩).1.find? fun w=>decide (w.With<0) with
   | none=>(BO,noT,53)
   | some w=>bif decide ((goP ⟨m,s,pid,false,[]⟩ w).2.2≠0) then(BO,noT,(goP ⟨m,s,pid,false,[]⟩ w).2.2)
    else onS m pid k (goP ⟨m,s,pid,false,[]⟩ w).1 (t++(goP ⟨m,s,pid,false,[]⟩ w).2.1)
def Eu (m:D.Model)(s:D.State)(pid:Int):D.State:=bif (CI m s pid).2&&(CI m s pid).1.Atomic then{ s with Alone:=pid } else s
def M9 (e:D.Env)(w:Wy):Mv:=⟨e.Pid,w.Esc,w.Way,w.With,w.WithEsc,w.WithWay,-1⟩
def Fc (e:D.Env)(w:Wy):Nx :=
 bif decide ((goP e w).2.2≠0) then⟨M9 e w,BO,(goP e w).2.2,noT⟩
 else bif decide ((onS e.M e.Pid 200 (goP e w).1 noT).2.2≠0) then⟨M9 e w,BO,(onS e.M e.Pid 200 (goP e w).1 noT).2.2,noT⟩
 else⟨M9 e w,Eu e.M (Eu e.M { (onS e.M e.Pid 200 (goP e w).1 noT).1 with Alone:=-1 } e.Pid) w.With,0,(goP e w).2.1++(onS e.M e.Pid 200 (goP e w).1 noT).2.1⟩
def C4 (m:D.Model)(s:D.State):List Nx × Int:=bif decide (Cf m s≠0) then([],Cf m s) else((Dv m s).map fun p=>Fc p.1 p.2,0)
def DE (e:D.Env)(s:D.Stmt):Bool × Int :=
 if s.Kind=1 then(decide ((AX e s.A).1≠0)||decide ((AX e s.A).2≠0),(AX e s.A).2)
 else if s.Kind=3 then(true,I0 e s) else(decide (s.Kind=8),0)
def Ao (m:D.Model)(s:D.State):List D.Trans:=((A8 m m.Claim).Locs.getD s.Claim.toNat default).Out
def Cp (m:D.Model)(s:D.State):D.Env:=⟨m,s,-1,false,Ho m s⟩
def KQ (m:D.Model)(s:D.State):Bool:=(Ao m s).any fun t=>(DE (Cp m s) t.S).1
def Je (m:D.Model)(s:D.State)(i:Nat):Bool × Int :=
 let t:=(Ao m s).getD i default
 bif decide (t.S.Kind=7)&&!KQ m s then(true,(DE (Cp m s) t.S).2) else DE (Cp m s) t.S
def DB (m:D.Model)(s:D.State):List (Bool × Int):=(List.range (Ao m s).length).map (Je m s)
def B3 (c:Int):Mv:=⟨-1,-1,-1,-1,-1,-1,c⟩
def FO (c to:Int)(n:Nx):Nx:=bif decide (n.Err=0) then⟨{ n.Move with Claim:=c },{ n.State with Claim:=to },n.Err,n.Text⟩ else⟨{ n.Move with Claim:=c },n.State,n.Err,n.Text⟩
def Fe (m:D.Model)(s:D.State):List Nx:=bif decide (0<(C4 m s).1.length) then(C4 m s).1 else[⟨B3 (-1),s,0,noT⟩]
def NW (m:D.Model)(s:D.State)(c:Nat):List Nx :=
 let w:=Je m s c
 bif !w.1 then[] else bif decide (w.2≠0) then[⟨B3 c,BO,w.2,noT⟩] else(Fe m s).map (FO c ((Ao m s).getD c default).To)
def DV (m:D.Model)(s:D.State):Nat->List Nx
 | 0=>[]
 | n+1=>DV m s n++NW m s n
def Ex (m:D.Model)(s:D.State):List Nx × Int:=bif decide ((C4 m s).2≠0)||decide (m.Claim<0) then C4 m s else(DV m s (Ao m s).length,0)
def CX (m:D.Model):Nat->List D.Process
 | 0=>[]
 | k+1=>CX m k++List.replicate (A8 m k).Active.toNat (G4 m k (List.replicate (A8 m k).Params.toNat 0))
def AP (m:D.Model):D.State:=⟨m.Init,m.Chans.map (fun k=>⟨k,[]⟩),CX m m.Procs.length,0,-1,bif decide (0<=m.Claim) then(A8 m m.Claim).Start else -1⟩
structure Rn where
 Moves:List Mv
 State:D.State
 Text:ByteArray
 Err:Int
 Over:Bool
def CJ (x:Mv):List VV:=[Aa x.Pid,Aa x.Esc,Aa x.Way,Aa x.With,Aa x.WithEsc,Aa x.WithWay,Aa x.Claim]
def BU (fz:Bool)(l:List Mv):VV:=.sl fz l.length 7 fun i=>CJ (l.getD i default)
def AiR (l:List Mv):Nat->List VV:=fun i=>CJ (l.getD i default)
def BH (x:Nx):List VV:=[Aa x.Move.Pid,Aa x.Move.Esc,Aa x.Move.Way,Aa x.Move.With,Aa x.Move.WithEsc,Aa x.Move.WithWay,Aa x.Move.Claim,
 Ad true x.State.Globals,AE true x.State.Chans,Au true x.State.Procs,Aa x.State.Last,Aa x.State.Alone,Aa x.State.Claim,Aa x.Err,AD x.Text]
def AR (fz:Bool)(l:List Nx):VV:=.sl fz l.length 15 fun i=>BH (l.getD i default)
def CP (l:List Nx):Nat->List VV:=fun i=>BH (l.getD i default)
instance : Inhabited Gn:=⟨(default,[])⟩
def EC (g:Gn):List VV:=[AJ true g.1.M.Globals,Ad true g.1.M.Init,Bd true g.1.M.Shapes,Ad true g.1.M.Chans,A4 true g.1.M.Procs,Aa g.1.M.Claim,Bs true g.1.M.Exprs,
 Ad true g.1.S.Globals,AE true g.1.S.Chans,Au true g.1.S.Procs,Aa g.1.S.Last,Aa g.1.S.Alone,Aa g.1.S.Claim,Aa g.1.Pid,Ac g.1.Timeout,Ba true g.1.Able,A5 true g.2]
def Bw (fz:Bool)(l:List Gn):VV:=.sl fz l.length 17 fun i=>EC (l.getD i default)
def IL (l:List Gn):Nat->List VV:=fun i=>EC (l.getD i default)
abbrev Wc : Type:=Bool × Int
def Eb (w:Wc):List VV:=[Ac w.1,Aa w.2]
def Cj (fz:Bool)(l:List Wc):VV:=.sl fz l.length 2 fun i=>Eb (l.getD i default)
def Jx (l:List Wc):Nat->List VV:=fun i=>Eb (l.getD i default)
def CE (fz:Bool)(l:List D.State):VV:=.sl fz l.length 6 fun i=>Ae (l.getD i BO)
def Lf (l:List D.State):Nat->List VV:=fun i=>Ae (l.getD i BO)
def Ajw (r:Rn):List VV:=[BU true r.Moves,Ad true r.State.Globals,AE true r.State.Chans,Au true r.State.Procs,Aa r.State.Last,Aa r.State.Alone,Aa r.State.Claim,AD r.Text,Aa r.Err,Ac r.Over]
def rnd (ro:Option Nat):Fence:={ Fence.wide with round:=ro }
section
variable {P : Program} {T:TypeId->TE} {Sh:Shs} {N:Nat} {L:Ann} {Q:Exit->Act->World->Prop} {ops:Array Oper} {ro:Option Nat}
theorem AgR {row:String}{args:Array Value}{w:World}{R:Value->World->Prop}(h:Rows P row args w R):RowsIn (rnd ro) 0 P row args w R:=fun c cs _ =>
 let ⟨v,w',r,s⟩:=h c cs
 ⟨v,w',r,(stepsIn_wide (P:=P)).2 s⟩
theorem Ako {o:Oper}{a:Act}{w:World}{K:Act->World->Prop}(hnd:∀ c,o.op≠.defer c)(h:o.wp P a w K Q):o.wpIn (rnd ro) 0 P a w K Q:=by
 refine⟨fun _ _=>trivial,?_⟩
 rw[Oper.semAt_eq _ _ _ hnd]
 unfold Oper.wp at h
 generalize (execOp a.eval o).run P w=r at h ⊢
 cases r with
 | ok n w' =>
  cases n with
  | enter f args=>exact⟨fun h=>by simp[rnd,Fence.wide]at h,CallsIn.mono (callsIn_wide.2 h) fun _ _ h=>h⟩
  | row r args=>exact⟨fun h=>by simp[rnd,Fence.wide]at h,AgR h⟩
  | round=>exact h.elim
  | _=>exact h
 | halt e w' =>
  cases e with
  | panic v=>exact h
  | _=>exact h.elim
theorem ZC {i:Nat}{a:Act}{w:World}{K:Act->World->Prop}(hnd:∀ (i:Nat) o c,ops[i]?=some o->o.op≠.defer c)(hQ:¬ LetsOut Q)(h:wpOp P ops Q i K a w):wpOpIn (rnd ro) 0 P ops Q i K a w:=by
 unfold wpOp at h
 unfold wpOpIn
 cases ho:ops[i]? with
 | none=>rw[ho]at h;exact h
 | some o =>
  rw[ho]at h
  simp only at h ⊢
  split
  ·rename_i hw
   rw[Alw hw]at h
   exact Ako (hnd i o · ho) (h.resolve_right fun h=>hQ h.2)
  ·rename_i hw
   rw[Alg hw]at h
   exact⟨fun _ _=>trivial,h⟩
theorem Ta (hnd:∀ (i:Nat) o c,ops[i]?=some o->o.op≠.defer c)(hQ:¬ LetsOut Q):∀ (is:List Nat) (a:Act) (w:World),wpOps P ops Q is a w->wpOpsIn (rnd ro) 0 P ops Q is a w
 | [],a,w,h=>h
 | i::is,a,w,h=>by
  rw[wpOps_cons]at h
  rw[wpOpsIn_cons]
  exact wpOpIn_mono (fun a w h=>Ta hnd hQ is a w h) (ZC hnd hQ h)
theorem Af6 {md:Region.Mode}(hnd:∀ (i:Nat) o c,ops[i]?=some o->o.op≠.defer c)(hQ:¬ LetsOut Q):∀ (fuel:Nat) (listed:Array Bool) (a:Act) (w:World),wpAny P md ops Q fuel listed a w->wpAnyIn (rnd ro) 0 P md ops Q fuel listed a w
 | 0,_,_,_,h=>h
 | fuel+1,_,_,_,h=>⟨h.1,fun i hi=>wpOpIn_mono (fun a w h=>Af6 hnd hQ fuel _ a w h) (ZC hnd hQ (h.2 i hi))⟩
def JS (ops:Array Oper):Bool:=ops.toList.all fun o=>match o.op with
 | .defer _=>false
 | _=>true
theorem TC (h:JS ops=true)(i:Nat)(o:Oper)(c:Call)(ho:ops[i]?=some o):o.op≠.defer c:=fun e=>by
 have:=AlF.1 h o (by have:=Array.mem_of_getElem? ho;simpa using this)
 rw[e]at this
 cases this
theorem RA {st0:St}{E:AF}{w0:World}{φ0:Phi}{a:Act}(hT:TOk P T)(hmx:P.follows .mixedOrders=true)(hB:Mh ops N=true)(hC:JS ops=true){K:St->Prop}{id:Nat}{draw:Bool}
  (h:I6 P T Sh draw ops 0 ops.toList st0 [] [] fun st'=>K (clr ops st')) (hrel:Rel N E st0 φ0 a w0) :
  (Code.region id ops draw).wpIn (rnd ro) 0 P (fun e a' w'=>e=.normal/\∃ st' φ',K st'/\Rel N E st' φ' a' w'/\Ext w0 φ0 w' φ') a w0:=by
 obtain⟨O,hO,hx⟩:=D3 ops.toList 0 st0 [] [] h
 have hR:=Mg hB
 obtain⟨hG',hK⟩:=H3 (T:=T) (O:=O) (st0:=st0) ops.toList 0 (by simp) (Alc _) hx
 have hG:∀ (j:Nat) o,ops[j]?=some o->Hq draw T O ops st0 j o:=fun j o=>hG' j o (Alc _)
 have hnd:=TC hC
 have hQ:¬ LetsOut (fun e a' w'=>e=Exit.normal/\∃ st' φ',K st'/\Rel N E st' φ' a' w'/\Ext w0 φ0 w' φ'):=fun⟨_,_,h,_⟩=>by cases h
 cases draw with
 | false =>
  refine wpIn_region (Ta hnd hQ _ _ _ ?_)
  rw[List.range_eq_range']
  refine P2 hT hO hR hG (fun D φ a w hD hI=>⟨rfl,_,φ,hK,hI.finish hR hG hD,hI.ext⟩) ops.size 0 φ0 a w0 (by omega) ?_
  have e:(fun i=>decide (i<0))=fun _=>false:=by funext i;simp
  rw[e];exact RI.start hrel
 | true =>
  obtain⟨hrel',hext⟩:=hrel.drew
  refine wpIn_region_any hmx (Af6 hnd hQ _ _ _ _ ?_)
  refine Af5 rfl hT hO hR hG (w0:={ w0 with drawn:=w0.drawn+1 }) (φ0:=φ0) (fun D φ a w hD hI=>⟨rfl,_,φ,hK,hI.finish hR hG hD,hext.trans hI.ext⟩) ops.size _ φ0 a _ (by simp) ?_ ?_ ?_
  ·intro i o e hi hD
   have h0:(Array.replicate ops.size false).getD i false=false:=by simp[Array.getD]
   exact absurd (h0.symm.trans hD) (by simp)
  ·have:=List.countP_le_length (p:=fun i=>!(Array.replicate ops.size false).getD i false) (l:=List.range ops.size)
   simpa using this
  ·have e:(fun i=>(Array.replicate ops.size false).getD i false)=fun _=>false:=by funext i;simp[Array.getD]
   rw[e];exact RI.start hrel'
def Jy (N:Nat):Code->Bool
 | .skip | .ret | .exit _=>true
 | .region _ ops _=>Mh ops N&&JS ops
 | .seq x y=>Jy N x&&Jy N y
 | .cond _ x y=>Jy N x&&Jy N y
 | .block _ c=>Jy N c
 | _=>false
theorem NN (hT:TOk P T)(hmx:P.follows .mixedOrders=true)(hcut:∀ p,L.cut p=false):∀ (c:Code),Jy N c=true->∀ (p:List Nat) (K:Exit->St->Prop) (st:St),xc P T Sh N L p c K st->∀ (E:AF) (φ:Phi) (a:Act) (w:World),Rel N E st φ a w ->
  c.wpIn (rnd ro) 0 P (fun e a' w'=>∃ st' φ',K e st'/\Rel N E st' φ' a' w'/\Ext w φ w' φ') a w
 | .skip,_,p,K,st,h,E,φ,a,w,hr=>wpIn_skip ⟨st,φ,h,hr,Ext.refl _ _⟩
 | .exit id,_,p,K,st,h,E,φ,a,w,hr=>wpIn_exit ⟨st,φ,h,hr,Ext.refl _ _⟩
 | .ret,_,p,K,st,h,E,φ,a,w,hr=>wpIn_ret ⟨st,φ,h,hr,Ext.refl _ _⟩
 | .region id ops draw,hB,p,K,st,h,E,φ,a,w,hr=>by
  simp only[Jy,Ak2]at hB
  exact wpIn_mono (RA (id:=id) (draw:=draw) hT hmx hB.1 hB.2 (K:=fun st'=>K .normal st') h hr) fun e a' w' ⟨he,st',φ',h1,h2,h3⟩=>⟨st',φ',by rw[he];exact h1,h2,h3⟩
 | .seq x y,hB,p,K,st,h,E,φ,a,w,hr=>by
  simp only[Jy,Ak2]at hB
  refine wpIn_seq (wpIn_mono (NN hT hmx hcut x hB.1 _ _ st h E φ a w hr) ?_)
  rintro e a' w' ⟨st',φ',h1,h2,h3⟩
  cases e with
  | normal =>
   simp only[Aeo]at h1
   rw[hcut,Ak0]at h1
   exact wpIn_mono (NN hT hmx hcut y hB.2 _ K st' h1 E φ' a' w' h2) fun e a'' w'' ⟨st'',φ'',g1,g2,g3⟩=>⟨st'',φ'',g1,g2,h3.trans g3⟩
  | _=>exact⟨st',φ',h1,h2,h3⟩
 | .cond c x y,hB,p,K,st,h,E,φ,a,w,hr=>by
  simp only[Jy,Ak2]at hB
  have hc:V w (E.up φ) (some φ) (st.val c) (a.eval c):=by
   cases c with
   | tmp t=>exact hr.tm t
   | const v=>exact V.litC v
   | global g=>exact .dead
   | func f=>exact .fn rfl fun j x hx=>by simp at hx
  simp only[xc]at h
  split at h
  ·rename_i b e
   rw[e]at hc
   refine wpIn_cond (t:=b) hc.sc_inv ?_
   cases b with
   | true=>exact NN hT hmx hcut x hB.1 _ K st (h.1 rfl) E φ a w hr
   | false=>exact NN hT hmx hcut y hB.2 _ K st (h.2 rfl) E φ a w hr
  ·exact h.elim
 | .block id c,hB,p,K,st,h,E,φ,a,w,hr=>by
  refine wpIn_block (wpIn_mono (NN hT hmx hcut c hB _ _ st h E φ a w hr) ?_)
  rintro e a' w' ⟨st',φ',h1,h2,h3⟩
  cases e with
  | exit j =>
   simp only[Exit.inBlock]
   by_cases hj:j=id
   ·subst hj
    simp only[Np,Ami,Ak4]at h1
    rw[Alw rfl]
    exact⟨st',φ',h1,h2,h3⟩
   ·have hb:Nat.beq j id=false:=by
     cases hq:Nat.beq j id with
     | true=>exact absurd (Ak7 hq) hj
     | false=>rfl
    simp only[Np,hb,Ak0]at h1
    rw[Alg hj]
    exact⟨st',φ',h1,h2,h3⟩
  | _=>exact⟨st',φ',h1,h2,h3⟩
def N0 (N:Nat):Code->Bool
 | .skip=>true
 | .region _ ops _=>Mh ops N&&JS ops
 | .seq x y=>N0 N x&&N0 N y
 | _=>false
theorem Ts (hT:TOk P T)(hmx:P.follows .mixedOrders=true)(hcut:∀ p,L.cut p=false):∀ (c:Code),N0 N c=true->∀ (p:List Nat) (K:Exit->St->Prop) (st:St),xc P T Sh N L p c K st->∀ (E:AF) (φ:Phi) (a:Act) (w:World),Rel N E st φ a w ->
  c.wpIn (rnd ro) 0 P (fun e a' w'=>e=.normal/\∃ st' φ',K .normal st'/\Rel N E st' φ' a' w'/\Ext w φ w' φ') a w
 | .skip,_,p,K,st,h,E,φ,a,w,hr=>wpIn_skip ⟨rfl,st,φ,h,hr,Ext.refl _ _⟩
 | .region id ops draw,hB,p,K,st,h,E,φ,a,w,hr=>by
  simp only[N0,Ak2]at hB
  exact RA (id:=id) (draw:=draw) hT hmx hB.1 hB.2 (K:=fun st'=>K .normal st') h hr
 | .seq x y,hB,p,K,st,h,E,φ,a,w,hr=>by
  simp only[N0,Ak2]at hB
  refine wpIn_seq (wpIn_mono (Ts hT hmx hcut x hB.1 _ _ st h E φ a w hr) ?_)
  rintro e a' w' ⟨rfl,st',φ',h1,h2,h3⟩
  simp only[Aeo]at h1
  rw[hcut,Ak0]at h1
  exact wpIn_mono (Ts hT hmx hcut y hB.2 _ K st' h1 E φ' a' w' h2) fun e a'' w'' ⟨he,st'',φ'',g1,g2,g3⟩=>⟨he,st'',φ'',g1,g2,h3.trans g3⟩
end
def AF.add (E:AF)(S:Nat->Prop):AF:=⟨fun k=>E.fz k∨S k,fun k=>E.br k∨S k,0,[]⟩
def U (S T:Nat->Prop):Nat->Prop:=fun k=>S k∨T k
structure Chg (w:World) (S:Nat->Prop) (w':World) (S':Nat->Prop):Prop where
 os:w'.os=w.os
 tape:w'.tape=w.tape
 output:w'.output=w.output
 size:w.heap.size<=w'.heap.size
 block:∀ k,k<w.heap.size->¬ S k->w'.heap[k]?=w.heap[k]?
 new:∀ k,S' k->S k∨w.heap.size<=k
 lt:∀ k,S' k->k<w'.heap.size
structure Gd (E:AF) (S:Nat->Prop) (w:World):Prop where
 sub:∀ k,E.br k->E.fz k
 ez:∀ k,E.fz k->k<w.heap.size
 sz:∀ k,S k->k<w.heap.size
 lib:Cb w
 lt:∀ k,k∈DX->k<w.heap.size
 out:∀ k,k∈DX->¬ S k
section
variable {w w' w'':World} {E:AF} {S S' S'':Nat->Prop} {x:VV} {v:Value}
theorem Chg.trans (h:Chg w S w' S')(k:Chg w' S' w'' S''):Chg w S w'' S'' where
 os:=k.os.trans h.os
 tape:=k.tape.trans h.tape
 output:=k.output.trans h.output
 size:=Als h.size k.size
 block:=fun b hb hn=>(k.block b (Alr hb h.size) fun e=>by
  rcases h.new b e with e | e
  ·exact hn e
  ·omega).trans (h.block b hb hn)
 new:=fun b e=>by
  rcases k.new b e with e | e
  ·exact h.new b e
  ·exact .inr (Als h.size e)
 lt:=k.lt
theorem Gd.chg (g:Gd E S w)(h:Chg w S w' S'):Gd E S' w' where
 sub:=g.sub
 ez:=fun k hk=>Alr (g.ez k hk) h.size
 sz:=h.lt
 lib:=g.lib.congr fun k hk=>h.block k (g.lt k hk) (g.out k hk)
 lt:=fun k hk=>Alr (g.lt k hk) h.size
 out:=fun k hk hs=>by
  rcases h.new k hs with e | e
  ·exact g.out k hk e
  ·have:=g.lt k hk;omega
end
def NI (P:Program)(gf:FuncId)(hi:List Ob)(caps:List VV)(n:Nat)(xs:Nat->List VV):Prop :=
 ∀ (E:AF) (S:Nat->Prop) (φ:Phi) (w:World) (lb:Array Value) (l:Nat),Gd E (U S (Own φ)) w->(∀ k,S k->¬ Own φ k)->HRel (E.add S) (Bm hi) φ w->(∀ id,φ id≠none ↔ id<hi.length)->CS w ((E.add S).up φ) (some φ) caps lb ->
 ∀ (J:Nat->(Nat->Prop)->(Nat->Prop)->World->Prop) (R:(Nat->Prop)->(Nat->Prop)->World->Prop),J 0 S (Own φ) w ->
 (∀ k S T T' w1 w2,J k S T w1->(∀ b,S b->¬ T b)->Chg w1 T w2 T'->J k S T' w2)->(∀ S T T' w1 w2,R S T w1->(∀ b,S b->¬ T b)->Chg w1 T w2 T'->R S T' w2) ->
 (∀ k S T w1 vs,k<n->J k S T w1->(∀ b,S b->¬ T b)->Gd E (U S T) w1->CS w1 (E.add (U S T)) none (xs k) vs->YieldAt Fence.wide 0 P l vs w1 fun e w2 =>
  (e=.returned (.bool true)/\∃ S',J (k+1) S' T w2/\Chg w1 S w2 S')∨(e=.returned (.bool false)/\∃ S',R S' T w2/\Chg w1 S w2 S')) ->
 CallsIn Fence.wide 0 P gf (#[.func (.yield l) #[] #[]]++lb) w fun e w'=>(∃ v,e=.returned v)/\((∃ S' T',J n S' T' w'/\(∀ b,S' b->¬ T' b)/\Gd E (U S' T') w')∨∃ S' T',R S' T' w')
def TJ (W:World)(S S':Nat->Prop):Prop:=∀ k (o:Obj),S k->W.heap[k]?=some o->o.isCells=false->S' k
def AiX (J:(Nat->Prop)->World->Prop)(Ix:Code->(Nat->Prop)->World->Prop)(S:Nat->Prop)(W:World):Exit->Act->World->Prop
 | .normal,_,W'=>KeepsOthers W W'/\∃ S',Chg W S W' S'/\TJ W S S'/\J S' W'
 | .ret,_,W'=>KeepsOthers W W'/\∃ S',Chg W S W' S'/\TJ W S S'/\Ix .ret S' W'
 | _,_,_=>False
theorem IW {S:Nat->Prop}{W:World}{l:Nat}(o':Obj)(hs:S l)(hz:∀ k,S k->k<W.heap.size):Chg W S (W.putObj l o') S :=
 ⟨rfl,rfl,rfl,by simp,fun k _ hn=>World.putObj_heap_other fun e=>hn (by rw[e];exact hs),fun _ h=>.inl h,fun k hk=>by simp;exact hz k hk⟩
theorem Chg.inU {w w':World}{S S' T:Nat->Prop}(h:Chg w S w' S')(hT:∀ k,T k->k<w.heap.size):Chg w (U S T) w' (U S' T) :=
 ⟨h.os,h.tape,h.output,h.size,fun k hk hn=>h.block k hk fun e=>hn (.inl e),fun k hk=>hk.elim (fun h'=>(h.new k h').imp .inl id) fun h'=>.inl (.inr h'),fun k hk=>hk.elim (h.lt k) fun h'=>Alr (hT k h') h.size⟩
theorem AdB {P:Program}{g:Operand}{ps:Array Tmp}{assign body:Code}{Q:Exit->Act->World->Prop}{a:Act}{w:World}{E:AF}{S:Nat->Prop}{φ:Phi}
  {gf:Nat} {lb:Array Value} (hg:a.eval g=.func (.func gf) #[] lb) (eg:∀ args w,(callFunc gf args).run P w=.ok (.enter gf args) w)
  {hi:List Ob} {caps:List VV} {n:Nat} {xs:Nat->List VV} (hit:NI P gf hi caps n xs) (hps:∀ k,(xs k).length=ps.size) (gd:Gd E (U S (Own φ)) w) (hdis:∀ k,S k->¬ Own φ k)
  (hH:HRel (E.add S) (Bm hi) φ w) (hφ:∀ id,φ id≠none ↔ id<hi.length) (hcaps:CS w ((E.add S).up φ) (some φ) caps lb)
  (I:Nat->(Nat->Prop)->(Nat->Prop)->World->Prop) (Ix:Code->(Nat->Prop)->(Nat->Prop)->World->Prop)
  (hI1:∀ k S T T' W W',I k S T W->(∀ b,S b->¬ T b)->Chg W T W' T'->I k S T' W')
  (hI2:∀ k S T W l o o',I k S T W->Gd E (U S T) W->W.heap[l]?=some o->o.isCells=false->S l->I k S T (W.putObj l o'))
  (hIx1:∀ c S T T' W W',Ix c S T W->(∀ b,S b->¬ T b)->Chg W T W' T'->Ix c S T' W')
  (hIx:∀ c S T W l o o',Ix c S T W->W.heap[l]?=some o->o.isCells=false->S l->Ix c S T (W.putObj l o'))
  (h0:∀ W,Below w.heap.size w W->(∀ b,b=w.heap.size∨b=w.heap.size+1->b<W.heap.size)->I 0 (fun k=>S k∨k=w.heap.size∨k=w.heap.size+1) (Own φ) W)
  (hround:∀ (l k:Nat) (S1 T1:Nat->Prop) (W:World) (vs:Array Value),k<n->I k S1 T1 W->(∀ b,S1 b->¬ T1 b)->Gd E (U S1 T1) W->CS W (E.add (U S1 T1)) none (xs k) vs ->
   assign.wpIn (Fence.wide.inRound l) 0 P (Exit.then (fun a₁ W1=>KeepsOthers W W1/\∃ S2,Chg W S1 W1 S2/\TJ W S1 S2/\∀ W2 r o,W2=W1.putObj r o->(∃ o1,W1.heap[r]?=some (.loop o1))->S2 r->Gd E (U S2 T1) W1->Gd E (U S2 T1) W2->Chg W1 S2 W2 S2 ->
    body.wpIn (Fence.wide.inRound l) 0 P (AiX (fun S W=>I (k+1) S T1 W) (fun c S W=>Ix c S T1 W) S2 W2) a₁ W2) (fun _ _ _=>False)) { tmps:=(ps.zip vs).foldl (fun t (p,v)=>t.setIfInBounds p v) a.tmps,defers:=[] } W)
  (hdone:∀ (D:Nat) (S1 T1:Nat->Prop) (W:World),I n S1 T1 W->(∀ b,S1 b->¬ T1 b)->Gd E (U S1 T1) W->W.heap[D]?=some (.deferred (some []))->S1 D->w.heap.size<=D->Q .normal { a with defers:={ target:=.collected D,args:=#[] }::a.defers } W)
  (hstop:∀ (D:Nat) (S1 T1:Nat->Prop) (c:Code) (W:World),Ix c S1 T1 W->W.heap[D]?=some (.deferred (some []))->S1 D->w.heap.size<=D->c.wpIn Fence.wide 0 P Q { a with defers:={ target:=.collected D,args:=#[] }::a.defers } W) :
  (Code.rangeFunc g ps assign body).wpIn Fence.wide 0 P Q a w:=by
 refine wpIn_rangeFunc ?_
 intro fn hfn
 obtain⟨rec,hrec⟩:∃ rec:LoopState->Option Code->Loop,rec=fun st pe=>{ state:=st,pending:=pe,fn,tmps:=a.tmps,params:=ps,assign,body,defers:=w.heap.size }:=⟨_,rfl⟩
 obtain⟨W1,hW1⟩:∃ W1,(w.alloc (.deferred (some []))).alloc (.loop (rec .ready none))=W1:=⟨_,rfl⟩
 have hL1:W1.heap[w.heap.size+1]?=some (.loop (rec .ready none)):=by
  rw[← hW1];have:=World.alloc_heap_new (w.alloc (.deferred (some []))) (.loop (rec .ready none));rwa [World.size_alloc]at this
 have hK1:W1.heap[w.heap.size]?=some (.deferred (some [])):=by
  rw[← hW1];exact(Below.heap_alloc _ _ _ (by simp)).trans (World.alloc_heap_new w _)
 have hb1:Below w.heap.size w W1:=by rw[← hW1];exact((Below.refl _ w).alloc (Ak6 _) _).alloc (by simp) _
 have hsz1:W1.heap.size=w.heap.size+1+1:=by rw[← hW1];simp
 obtain⟨S0,hS0⟩:∃ S0:Nat->Prop,S0=fun k=>S k∨k=w.heap.size∨k=w.heap.size+1:=⟨_,rfl⟩
 have hdis0:∀ k,S0 k->¬ Own φ k:=fun k hk ho=>by
  rw[hS0]at hk
  have:=hH.lt ho
  rcases hk with h | rfl | rfl
  ·exact hdis k h ho
  ·omega
  ·omega
 have hc1:Chg w (U S (Own φ)) W1 (U S0 (Own φ)):=⟨hb1.os,hb1.tape,hb1.output,hb1.size,fun k hk _=>hb1.block k hk,fun k hk=>by
   rcases hk with hk | hk
   ·rw[hS0]at hk
    rcases hk with h | rfl | rfl
    ·exact .inl (.inl h)
    ·exact .inr (Ak6 _)
    ·exact .inr (Amz _)
   ·exact .inl (.inr hk),fun k hk=>by
  rcases hk with hk | hk
  ·rw[hS0]at hk
   rcases hk with h | rfl | rfl
   ·have:=gd.sz k (.inl h);omega
   ·omega
   ·omega
  ·have:=gd.sz k (.inr hk);omega⟩
 have hg1:=gd.chg hc1
 have hA1:∀ (A:Nat->Prop) k,k<w.heap.size->¬ (A k∨S k)->W1.heap[k]?=w.heap[k]?/\¬ (A k∨S0 k):=fun A k hk hn=>⟨hb1.block k hk,fun e=>by
  rcases e with e | e
  ·exact hn (.inl e)
  ·rw[hS0]at e
   rcases e with h | rfl | rfl
   ·exact hn (.inr h)
   ·omega
   ·omega⟩
 have hH1:HRel (E.add S0) (Bm hi) φ W1:=hH.over (fun k hk=>hk.imp (gd.sub k) id) hb1.size (hA1 _) (hA1 _)
 have hcaps1:CS W1 ((E.add S0).up φ) (some φ) caps lb:=⟨hcaps.1,fun j x hx=>(hcaps.2 j x hx).over hb1.size (hA1 _) (hA1 _)⟩
 have hI1':I 0 S0 (Own φ) W1:=by rw[hS0];exact h0 W1 hb1 fun b hb=>by omega
 refine⟨w.heap.size+1,[{ target:=.collected w.heap.size,args:=#[] }],W1,{ target:=.fn (.func gf) lb,args:=#[.func (.yield (w.heap.size+1)) #[] #[]] },W1,gf,
  #[.func (.yield (w.heap.size+1)) #[] #[]]++lb,W1,?_,?_,?_,?_,fun h=>by simp[Fence.wide]at h,?_⟩
 ·rw[← hW1,hrec];exact run_enterLoop_outer _ _ _ _ _
 ·simp only[resolve,hg]
  simp[go_sem]
 ·intro f' _;trivial
 ·simp[invoke,go_sem,eg]
 ·have fin:∀ (jump:Option Code) (W W3:World),w.heap.size+1<W.heap.size->W.heap[w.heap.size]?=some (.deferred (some []))->KeepsOthers (W.putObj (w.heap.size+1) (.loop { rec .ready none with state:=.busy })) W3 ->
    (Instr.endRound (w.heap.size+1) jump).run P W3=.ok (.bool jump.isNone) (W3.putObj (w.heap.size+1) (.loop (rec (if jump.isNone then .ready else .done) jump))) /\
    W3.heap[w.heap.size+1]?=some (.loop { rec .ready none with state:=.busy }) /\
    (W3.putObj (w.heap.size+1) (.loop (rec (if jump.isNone then .ready else .done) jump))).heap[w.heap.size+1]?=some (.loop (rec (if jump.isNone then .ready else .done) jump)) /\
    (W3.putObj (w.heap.size+1) (.loop (rec (if jump.isNone then .ready else .done) jump))).heap[w.heap.size]?=some (.deferred (some [])):=fun jump W W3 hlt hk hk3=>by
   have hl2:(W.putObj (w.heap.size+1) (.loop { rec .ready none with state:=.busy })).heap[w.heap.size+1]?=some (.loop { rec .ready none with state:=.busy }):=World.putObj_heap_same hlt
   have hk2:(W.putObj (w.heap.size+1) (.loop { rec .ready none with state:=.busy })).heap[w.heap.size]?=some (.deferred (some [])):=(World.putObj_heap_other (by omega)).trans hk
   have hl3:=hk3.same _ _ hl2 rfl
   have:=run_endRound (P:=P) jump hl3
   rw[hrec]at this ⊢
   exact⟨this,by rw[hrec]at hl3;exact hl3,World.putObj_heap_same (Ak8.1 hl3).1,(World.putObj_heap_other (by omega)).trans (hk3.same _ _ hk2 rfl)⟩
  refine(hit E S0 φ W1 lb (w.heap.size+1) hg1 hdis0 hH1 hφ hcaps1
   (fun k S1 T1 W=>I k S1 T1 W/\W.heap[w.heap.size+1]?=some (.loop (rec .ready none))/\W.heap[w.heap.size]?=some (.deferred (some []))/\S1 (w.heap.size+1)/\S1 w.heap.size)
   (fun S1 T1 W=>∃ c,Ix c S1 T1 W/\W.heap[w.heap.size+1]?=some (.loop (rec .done (some c)))/\W.heap[w.heap.size]?=some (.deferred (some []))/\S1 (w.heap.size+1)/\S1 w.heap.size)
   ⟨hI1',hL1,hK1,by rw[hS0];exact .inr (.inr rfl),by rw[hS0];exact .inr (.inl rfl)⟩
   (fun k S1 T1 T2 w1 w2 h hd hb=>⟨hI1 k S1 T1 T2 w1 w2 h.1 hd hb,(hb.block _ (Ak8.1 h.2.1).1 (hd _ h.2.2.2.1)).trans h.2.1,(hb.block _ (Ak8.1 h.2.2.1).1 (hd _ h.2.2.2.2)).trans h.2.2.1,h.2.2.2⟩)
   (fun S1 T1 T2 w1 w2 h hd hb=>by
    obtain⟨c,h1,h2,h3,h4,h5⟩:=h
    exact⟨c,hIx1 c S1 T1 T2 w1 w2 h1 hd hb,(hb.block _ (Ak8.1 h2).1 (hd _ h4)).trans h2,(hb.block _ (Ak8.1 h3).1 (hd _ h5)).trans h3,h4,h5⟩) ?_).mono ?_
  ·
   rintro k S1 T1 W vs hlt ⟨hi,hl,hk,hsl,hsd⟩ hd hgW hsay
   have hlw:w.heap.size+1<W.heap.size:=(Ak8.1 hl).1
   have hy:=run_yield (P:=P) (args:=vs) hl (by rw[hrec];exact hsay.1.trans (hps k))
   rw[hrec]at hy
   refine⟨fn,_,assign,body,hy,roundIn_of_wpIn hfn (wpIn_mono (hround (w.heap.size+1) k S1 T1 W vs hlt hi hd hgW hsay) ?_)⟩
   rintro e a1 Wa hp
   cases e with
   | normal =>
    obtain⟨hba,S2,hc2,hks2,hbody⟩:=hp
    have hla:=hba.same _ _ hl rfl
    have hka:=hba.same _ _ hk rfl
    have hlwa:w.heap.size+1<Wa.heap.size:=(Ak8.1 hla).1
    have hsl2:=hks2 _ _ hsl hl rfl
    have hsd2:=hks2 _ _ hsd hk rfl
    have hTz:∀ k,T1 k->k<W.heap.size:=fun k hk=>hgW.sz k (.inr hk)
    have hgA:=hgW.chg (hc2.inU hTz)
    have hcp:=IW (S:=S2) (W:=Wa) (.loop { rec .ready none with state:=.busy }) hsl2 hc2.lt
    have hTz2:∀ k,T1 k->k<Wa.heap.size:=fun k hk=>hgA.sz k (.inr hk)
    have hgP:=hgA.chg (hcp.inU hTz2)
    refine⟨_,run_beginRound hla (by rw[hrec]),?_⟩
    refine wpIn_mono (hbody (Wa.putObj (w.heap.size+1) (.loop { rec .ready none with state:=.busy })) _ _ rfl ⟨_,hla⟩ hsl2 hgA hgP hcp) ?_
    have hlP:(Wa.putObj (w.heap.size+1) (.loop { rec .ready none with state:=.busy })).heap[w.heap.size+1]?=some (.loop { rec .ready none with state:=.busy }):=World.putObj_heap_same hlwa
    have hkP:(Wa.putObj (w.heap.size+1) (.loop { rec .ready none with state:=.busy })).heap[w.heap.size]?=some (.deferred (some [])):=(World.putObj_heap_other (by omega)).trans hka
    rintro e a3 W3 hp
    cases e with
    | normal =>
     obtain⟨hk3,S3,hc3,hs3,hi3⟩:=hp
     obtain⟨hr,hl3,hl4,hk4⟩:=fin none Wa W3 hlwa hka hk3
     have hsl3:=hs3 _ _ hsl2 hlP rfl
     have hcq:=IW (S:=S3) (W:=W3) (.loop (rec .ready none)) hsl3 hc3.lt
     have hg3:=hgP.chg (hc3.inU fun k hk=>hgP.sz k (.inr hk))
     exact⟨_,_,hr,.inl ⟨rfl,S3,⟨hI2 _ _ _ _ _ _ _ hi3 hg3 hl3 rfl hsl3,hl4,hk4,hsl3,hs3 _ _ hsd2 hkP rfl⟩,((hc2.trans hcp).trans hc3).trans hcq⟩⟩
    | ret =>
     obtain⟨hk3,S3,hc3,hs3,hi3⟩:=hp
     obtain⟨hr,hl3,hl4,hk4⟩:=fin (some .ret) Wa W3 hlwa hka hk3
     have hsl3:=hs3 _ _ hsl2 hlP rfl
     have hcq:=IW (S:=S3) (W:=W3) (.loop (rec .done (some .ret))) hsl3 hc3.lt
     exact⟨_,_,hr,.inr ⟨rfl,S3,⟨.ret,hIx _ _ _ _ _ _ _ hi3 hl3 rfl hsl3,hl4,hk4,hsl3,hs3 _ _ hsd2 hkP rfl⟩,((hc2.trans hcp).trans hc3).trans hcq⟩⟩
    | _=>exact hp.elim
   | _=>exact hp.elim
  ·
   rintro e W2 ⟨⟨v,rfl⟩,(⟨S1,T1,⟨hi,hl,hk,hsl,hsd⟩,hd,hg2⟩ | ⟨S1,T1,c,hi,hl,hk,hsl,hsd⟩)⟩
   ·have hcp:=IW (S:=S1) (W:=W2) (.loop { rec .ready none with state:=.exhausted }) hsl fun k hk=>hg2.sz k (.inl hk)
    exact⟨none,_,by have:=run_endLoop (P:=P) hl (by rw[hrec];simp);rw[hrec]at this;exact this,hdone _ S1 T1 _ (hI2 _ _ _ _ _ _ _ hi hg2 hl rfl hsl) hd (by have:=hg2.chg (hcp.inU fun k hk=>hg2.sz k (.inr hk));rw[hrec]at this;exact this) ((World.putObj_heap_other (by omega)).trans hk) hsd (Ak6 _)⟩
   ·exact⟨some c,_,by have:=run_endLoop (P:=P) hl (by rw[hrec];simp);rw[hrec]at this;exact this,hstop _ S1 T1 c _ (hIx _ _ _ _ _ _ _ hi hl rfl hsl) ((World.putObj_heap_other (by omega)).trans hk) hsd (Ak6 _)⟩
def rgL (nb:Nat):Ann:={ keep:=fun _=>[],base:=nb }
def PZ (nb:Nat)(st:St):List Ob:=(OO nb [] st).map (D7 st (OO nb [] st))
def rgK (nb:Nat)(l0:List (Nat × VV))(hs1:List Ob)(K:Exit->St->Prop):Exit->St->Prop
 | .normal,st=>bif okF nb [] st then(leO (PZ nb st) hs1/\True) else False
 | .ret,st=>bif okF nb [] st then K .ret (Aq l0 (PZ nb st)) else False
 | _,_=>False
def Ad0 (nb:Nat):VV->Bool
 | .bp id _=>Nat.blt id nb
 | x=>x.mem
def Uv (nb:Nat)(l:List (Nat × VV)):Bool:=l.all fun p=>Ad0 nb p.2
section
variable {P : Program} {T:TypeId->TE} {Sh:Shs} {N:Nat} {E:AF} {w:World} {φ:Phi} {a:Act} {st:St}
theorem P8 {nb t:Nat}:∀ {l:List (Nat × VV)},Uv nb l=true->Ad0 nb (BS t l)=true
 | [],_=>rfl
 | (j,x)::l,h=>by
  unfold Uv at h
  rw[AmV,Ak2]at h
  simp only[BS]
  cases Nat.beq t j with
  | true=>exact h.1
  | false=>exact P8 (l:=l) h.2
theorem V.stab {E':AF}{w':World}{φ':Phi}{nb:Nat}{x:VV}{v:Value}(h:V w (E.up φ) (some φ) x v)(hx:Ad0 nb x=true)(hs:w.heap.size<=w'.heap.size)
  (hA:∀ k,k<w.heap.size->¬ (E.up φ).fz k->w'.heap[k]?=w.heap[k]?/\¬ (E'.up φ').fz k) (hk:∀ id p,id<nb->φ id=some p->∃ p',φ' id=some p'/\PlK p p'):V w' (E'.up φ') (some φ') x v:=by
 have key:x.mem=true->V w' (E'.up φ') (some φ') x v:=fun hm=>by
  have h1:V w (E.up φ).hold none x v:=h.mem hm rfl
  have h2:V w' (E'.up φ').hold none x v:=h1.mono hs (fun k hk hn=>hA k hk hn) (fun _ _ hn=>(hn trivial).elim) trivial
  exact h2.mem hm rfl
 cases x with
 | bp id off =>
  obtain⟨b,h1,rfl⟩:=h.bp_inv
  obtain⟨p',h2,h3⟩:=hk id _ (Alm hx) h1
  simp only[PlK]at h3
  subst h3
  exact .bp h2
 | _=>exact key hx
theorem Kw {H:Nat->Ob}(h:HRel E H φ w){k:Nat}(ho:Own φ k){o:Obj}(hk:w.heap[k]?=some o):o.isCells=true:=by
 obtain⟨id,hb⟩:=ho
 obtain⟨p,hp,hb⟩:=AI.1 hb
 have:=h.ob id p hp
 generalize H id=ob at this
 cases ob with
 | box cs =>
  cases p with
  | box b =>
   obtain⟨c,ty,h1,_⟩:=this
   simp only[PlB]at hb;subst hb
   rw[hk]at h1;cases h1;rfl
  | arr=>exact this.elim
 | arr fr g n sz f =>
  cases p with
  | box b=>exact this.elim
  | arr g' n' hd =>
   obtain⟨cap,rfl⟩:=hb
   obtain⟨_,_,c,ty,h1,_⟩:=this
   rw[hk]at h1;cases h1;rfl
 | gone g =>
  cases p with
  | box b=>exact this.elim
  | arr g' n' hd =>
   obtain⟨cap,rfl⟩:=hb
   obtain⟨_,h1⟩:=this;cases h1
theorem Ext.keeps {H:Nat->Ob}{w':World}{φ':Phi}(h:HRel E H φ w)(e:Ext w φ w' φ'):KeepsOthers w w' :=
 ⟨e.size,fun k o hk hc=>(e.block k (Ak8.1 hk).1 fun ho=>by rw[Kw h ho hk]at hc;cases hc).trans hk⟩
theorem Aem {E:AF}{m:Option Phi}:∀ (ps:List Nat) (xs:List VV) (vs:List Value) (l:List (Nat × VV)) (A:Array Value),ps.Nodup->(∀ p,p∈ps->p<A.size)->xs.length=ps.length->vs.length=ps.length ->
  (∀ (j:Nat) x,xs[j]?=some x->V w E m x (vs.getD j undef))->(∀ t,V w E m (BS t l) (A.getD t undef)) ->
  ∀ t,V w E m (BS t (ps.zip xs++l)) (((ps.zip vs).foldl (fun t (p:Nat × Value)=>t.setIfInBounds p.1 p.2) A).getD t undef)
 | [],_,_,l,A,_,_,_,_,_,h,t=>by simpa using h t
 | p::ps,x::xs,v::vs,l,A,hn,hp,h1,h2,hv,h,t=>by
  rw[Anb]at hn
  have ih:=Aem ps xs vs ((p,x)::l) (A.setIfInBounds p v) hn.2 (fun q hq=>by rw[Array.size_setIfInBounds];exact hp q (Alp _ hq)) (by simpa using h1) (by simpa using h2) (fun j x hx=>by
   have:=hv (j+1) x hx
   simpa using this) (fun t=>by
   simp only[BS]
   cases hq:Nat.beq t p with
   | true =>
    have:=Ak7 hq
    subst this
    have hlt:=hp t (Alb ..)
    have h0:=hv 0 x rfl
    have e:(A.setIfInBounds t v).getD t undef=v:=by simp[Array.getD,hlt]
    rw[e]
    simpa using h0
   | false =>
    have hne:p≠t:=fun e=>by subst e;simp at hq
    rw[show(A.setIfInBounds p v).getD t undef=A.getD t undef by simp[AmH hne]]
    exact h t) t
  have e:BS t ((p::ps).zip (x::xs)++l)=BS t (ps.zip xs++(p,x)::l):=by
   have key:∀ (L:List (Nat × VV)),(∀ q,q∈L->q.1≠p)->BS t ((p,x)::L++l)=BS t (L++(p,x)::l):=by
    intro L
    induction L with
    | nil=>intro _;rfl
    | cons q L ih =>
     intro hL
     have hq:=hL q (Alb ..)
     have:=ih fun q hq=>hL q (Alp _ hq)
     simp only[Amo,BS]at this ⊢
     cases h1:Nat.beq t q.1 with
     | true =>
      have:=Ak7 h1
      have h2:Nat.beq t p=false:=by
       cases h3:Nat.beq t p with
       | true=>exact absurd ((Ak7 h3).symm.trans this).symm hq
       | false=>rfl
      rw[h2];rfl
     | false=>rw[Ak0,← this,Ak0]
   exact key _ fun q hq e=>hn.1 (by rw[← e];exact(List.of_mem_zip hq).1)
  rw[e]
  exact ih
def Og (N:Nat)(E:AF)(φ:Phi)(a:Act)(w:World)(l0:List (Nat × VV))(K0:List Ob->Prop)(S T:Nat->Prop)(W:World):Prop :=
 ∃ hs φk,∃ X:Nat->Prop,K0 hs/\(∀ b,S b ↔ Own φk b∨X b)/\(∀ b,X b->Own φ b∨w.heap.size<=b)/\(∀ b,T b->Own φ b∨w.heap.size<=b) /\
  Rel N (E.add (U X T)) (Aq l0 hs) φk { a with defers:=[] } W/\Fr 0 w φ W φk
theorem fr0 {w w':World}{φ φ':Phi}(h1:w'.os=w.os)(h2:w'.tape=w.tape)(h3:w'.output=w.output)(h4:w.heap.size<=w'.heap.size)(h5:∀ k,k<w.heap.size->¬ Own φ k->w'.heap[k]?=w.heap[k]?)(h6:∀ k,Own φ' k->Own φ k∨w.heap.size<=k):Fr 0 w φ w' φ' :=
 ⟨h1,h2,h3,h4,h5,h6,fun _ _ h _=>absurd h (Amq _)⟩
theorem Rel.turn {E:AF}{st:St}{φ:Phi}{a:Act}{W:World}{l:Nat}(o':Obj)(h:Rel N E st φ a W)(h1:E.fz l)(h2:E.br l)(h3:l ∉ DX)(hds:E.ds=[]):Rel N E st φ a (W.putObj l o'):=by
 have hne:∀ k,k≠l->(W.putObj l o').heap[k]?=W.heap[k]?:=fun k hk=>World.putObj_heap_other hk
 have:=h.over (E:=E) (w':=W.putObj l o') h.hp.sub (by simp) (fun k _ hn=>⟨hne k fun e=>hn (by rw[e];exact h1),hn⟩) (fun k _ hn=>⟨hne k fun e=>hn (by rw[e];exact h2),hn⟩) (fun k hk=>by simpa using h.old.lt k hk) (by rw[hds];exact .nil (by simpa using h.df.2.1)) fun k hk=>hne k fun e=>h3 (by rw[← e];exact hk)
 rw[← h.df.1]at this
 exact this
section
variable {N : Nat} {E:AF} {φ:Phi} {a:Act} {w:World} {l0:List (Nat × VV)} {K0:List Ob->Prop} {S T:Nat->Prop} {W:World}
theorem Og.iter (hE:∀ k,E.br k->E.fz k)(hL:∀ k,k∈DX->k<w.heap.size/\¬ Own φ k){T':Nat->Prop}{W':World}(h:Og N E φ a w l0 K0 S T W)(c:Chg W T W' T'):Og N E φ a w l0 K0 S T' W':=by
 obtain⟨hs,φk,X,h1,h2,h3,h4,h5,h6⟩:=h
 have hT':∀ b,T' b->Own φ b∨w.heap.size<=b:=fun b hb=>(c.new b hb).elim (h4 b) fun h=>.inr (Als h6.size h)
 have key:∀ (A:Nat->Prop) k,k<W.heap.size->¬ (A k∨U X T k)->W'.heap[k]?=W.heap[k]?/\¬ (A k∨U X T' k):=fun A k hk hn =>
  ⟨c.block k hk fun e=>hn (.inr (.inr e)),fun e=>by
   rcases e with e | e | e
   ·exact hn (.inl e)
   ·exact hn (.inr (.inl e))
   ·rcases c.new k e with e | e
    ·exact hn (.inr (.inr e))
    ·omega⟩
 have:=h5.over (E:=E.add (U X T')) (w':=W') (fun k hk=>hk.imp (hE k) fun h=>h) c.size (key _) (key _) (fun k hk=>?_) (.nil ?_) fun k hk=>?_
 ·exact⟨hs,φk,X,h1,h2,h3,hT',this,fr0 (c.os.trans h6.os) (c.tape.trans h6.tape) (c.output.trans h6.output) (Als h6.size c.size) (fun k hk hn=>(c.block k (Alr hk h6.size) fun e=>(h4 k e).elim hn fun h=>by omega).trans (h6.block k hk hn)) h6.new⟩
 ·rcases hk with hk | hk | hk
  ·exact Alr (h5.old.lt k (.inl hk)) c.size
  ·exact Alr (h5.old.lt k (.inr (.inl hk))) c.size
  ·exact c.lt k hk
 ·exact Als h5.df.2.1 c.size
 ·obtain⟨l1,l2⟩:=hL k hk
  exact c.block k (Alr l1 h6.size) fun e=>(h4 k e).elim l2 fun h=>by omega
theorem Og.own (h:Og N E φ a w l0 K0 S T W){l:Nat}(hs:S l):(Own φ l∨w.heap.size<=l):=by
 obtain⟨_,φk,X,_,h2,h3,_,h5,h6⟩:=h
 rcases(h2 l).1 hs with h | h
 ·exact h6.new l h
 ·exact h3 l h
theorem Og.put (hL:∀ k,k∈DX->k<w.heap.size/\¬ Own φ k){l:Nat}{o:Obj}(o':Obj)(h:Og N E φ a w l0 K0 S T W)(hl:W.heap[l]?=some o)(ho:o.isCells=false)(hs:S l):Og N E φ a w l0 K0 S T (W.putObj l o'):=by
 have hb:=h.own hs
 obtain⟨hs',φk,X,h1,h2,h3,h4,h5,h6⟩:=h
 have hX:X l:=((h2 l).1 hs).resolve_left fun h=>by have:=Kw h5.hp h hl;rw[ho]at this;cases this
 refine⟨hs',φk,X,h1,h2,h3,h4,h5.turn o' (.inr (.inl hX)) (.inr (.inl hX)) (fun hk=>?_) rfl,fr0 h6.os h6.tape h6.output (by simpa using h6.size) (fun k hk hn=>(World.putObj_heap_other fun e=>?_).trans (h6.block k hk hn)) h6.new⟩
 ·obtain⟨l1,l2⟩:=hL l hk
  exact hb.elim l2 fun h=>by omega
 ·subst e
  exact hb.elim hn fun h=>by omega
end
end
theorem RG {N:Nat}{E:AF}{st:St}{φ:Phi}{a:Act}{w:World}{l0:List (Nat × VV)}{K0:List Ob->Prop}{S T:Nat->Prop}{W:World}(hr:Rel N E st φ a w)(h:Og N E φ a w l0 K0 S T W){D:Nat}(hD:W.heap[D]?=some (.deferred (some [])))(hS:S D)(hw:w.heap.size<=D) :
  ∃ E' st' φ',E.Le E'/\(∃ hs,K0 hs/\st'=Aq l0 hs)/\Rel N E' st' φ' { a with defers:={ target:=.collected D,args:=#[] }::a.defers } W/\Fr 0 w φ W φ':=by
 obtain⟨hs,φk,X,h1,h2,h3,h4,h5,h6⟩:=h
 have hX:X D:=((h2 D).1 hS).resolve_left fun h=>by have:=Kw h5.hp h hD;cases this
 obtain⟨hds,d0,Ds,d1,d2,d3⟩:=hr.df
 rw[← hds]at d1
 obtain⟨E',hE'⟩:∃ E':AF,E'={ E.add (U X T) with lo:=E.lo,ds:={ target:=.collected D,args:=#[] }::a.defers }:=⟨_,rfl⟩
 have hR:=h5.over (E:=E') (w':=W) (fun k hk=>by subst hE';exact h5.hp.sub k hk) (Ak6 _) (fun k _ hn=>⟨rfl,by subst hE';exact hn⟩) (fun k _ hn=>⟨rfl,by subst hE';exact hn⟩) (fun k hk=>by subst hE';exact h5.old.lt k hk) ?_ fun _ _=>rfl
 ·exact⟨E',_,φk,by subst hE';exact⟨fun _ h=>.inl h,fun _ h=>.inl h,rfl⟩,⟨hs,h1,rfl⟩,by have e:E'.ds={ target:=.collected D,args:=#[] }::a.defers:=(by rw[hE']);rw[e]at hR;exact hR,h6⟩
 subst hE'
 refine⟨Als d0 h6.size,D::Ds,by show _::a.defers=_;rw[d1];rfl,Anb.2 ⟨fun hm=>?_,d2⟩,fun D' hD'=>?_⟩
 ·have:=(Ak8.1 (d3 D hm).1).1
  omega
 ·rcases AlQ.1 hD' with rfl | hD'
  ·exact⟨hD,.inr (.inl hX),.inr (.inl hX),fun hk=>by have:=hr.old.lib.lt _ hk;omega,Als d0 hw⟩
  ·obtain⟨a1,a2,a3,a4,a5⟩:=d3 D' hD'
   exact⟨(h6.block D' (Ak8.1 a1).1 fun ho=>hr.hp.free D' ho a2).trans a1,.inl a2,.inl a3,a4,a5⟩
theorem AbB {P:Program}{T:TypeId->TE}{N:Nat}{st:St}(hT:TOk P T)(hmx:P.follows .mixedOrders=true){lc:Code}{K:Exit->St->Prop}{p q:List Nat}(Sh:Shs){id tg:Nat}{ps:Array Tmp}{assign body:Code}(hlc:lc=.block id (.rangeFunc (.tmp tg) ps assign body))
  (hB:(N0 N assign&&Jy N body)=true) (hps:ps.toList.Nodup/\∀ p,p∈ps.toList->p<N) {gf:Nat} (eg:∀ args w,(callFunc gf args).run P w=.ok (.enter gf args) w) {hi:List Ob} {caps:List VV} {n:Nat} {xs:Nat->List VV} (hit:NI P gf hi caps n xs)
  (hxs:∀ k,(xs k).length=ps.size) (ic ii:List Nat) (h1:Et st.nx ic=true) (h2:Et st.nx ii=true) (h3:(ic.all fun i=>!(ii.any (Nat.beq i)))=true)
  (l0:List (Nat × VV)) (nb:Nat) (hsJ:Nat->List Ob) (_:∀ k,(hsJ k).length=nb) (hl0:Uv nb l0=true) (ht:∀ t,VV.le (Jc st ic (st.t t)) (BS t l0)) (hh:leO (ic.map (D7 st ic)) (hsJ 0))
  (hg:VV.le (Jc st ii (st.t tg)) (.fn (.func gf) caps)) (hhi:leO (ii.map (D7 st ii)) hi)
  (round:∀ k,k<n->xc P T Sh N (rgL nb) q (.seq assign body) (rgK nb l0 (hsJ (k+1)) K) (Aq (ps.toList.zip (xs k)++l0) (hsJ k)))
  (done:K .normal (Aq l0 (hsJ n))):Sat P N 0 p lc K st:=by
 subst hlc
 refine⟨fun E φ a w hr=>(wpIn_wide (n:=0)).1 (wpIn_block ?_)⟩
 have hE:=hr.hp.sub
 have hL:∀ k,k∈DX->k<w.heap.size/\¬ Own φ k:=fun k hk=>⟨hr.old.lib.lt k hk,hr.old.lib.out k hk⟩
 have hlen0:=(Gf hh).1
 have hlenI:=(Gf hhi).1
 simp only[Al8]at hlen0 hlenI
 have hownI:∀ k,Own (CO ii φ) k->Own φ k:=fun k h=>DO.2 (.inr h)
 have hownC:∀ k,Own (CO ic φ) k->Own φ k:=fun k h=>DO.2 (.inr h)
 have hrestI:∀ k,GA ii φ k->Own φ k:=fun k h=>DO.2 (.inl h)
 have hapart:∀ k,Own (CO ic φ) k->GA ii φ k:=fun k h=>by
  obtain⟨j,i,e1,hb⟩:=FA.1 h
  have:=AlF.1 h3 i (AlG e1)
  exact⟨i,Tn (by simpa using this),hb⟩
 have hdis:∀ k,GA ii φ k->¬ Own (CO ii φ) k:=fun k ⟨i,hi,hb⟩ ho=>by
  obtain⟨j,i',e1,hb'⟩:=FA.1 ho
  have:=hr.hp.inj i i' k hb hb'
  subst this
  exact Qg hi j e1
 have hfn:∃ lb,a.eval (.tmp tg)=.func (.func gf) #[] lb/\CS w ((E.add (GA ii φ)).up (CO ii φ)) (some (CO ii φ)) caps lb:=by
  have hv:=hg _ _ _ _ (EV (Fz (E':=E.add (GA ii φ)) hr.hp (fun _ h=>h) fun _ h=>h) 8 _ _ (hr.tm tg))
  have e:a.eval (.tmp tg)=a.tmps.getD tg undef:=rfl
  rw[e]
  generalize a.tmps.getD tg undef=v at hv ⊢
  cases hv with
  | fn e1 e2=>exact⟨_,rfl,e1,e2⟩
 obtain⟨lb,hlb,hcaps⟩:=hfn
 have hHI:HRel (E.add (GA ii φ)) (Bm hi) (CO ii φ) w:=(hr.hp.lend (E':=E.add (GA ii φ)) h2 (fun _ h=>h) (fun _ h=>h) (fun k h=>h.imp (hE k) fun h=>h) (H':=Bm (ii.map (D7 st ii))) (fun j id e=>by simp[Bm,e])).le hhi
 have hφI:∀ j,CO ii φ j≠none ↔ j<hi.length:=fun j=>by rw[← hlenI];exact Fy h2 hr.lv j
 have hgd:Gd E (U (GA ii φ) (Own (CO ii φ))) w:=⟨hE,hr.old.lt,fun k hk=>hr.hp.lt (hk.elim (hrestI k) (hownI k)),hr.old.lib.at',hr.old.lib.lt,fun k hk h=>hr.old.lib.out k hk (h.elim (hrestI k) (hownI k))⟩
 refine AdB (E:=E) (S:=GA ii φ) (φ:=CO ii φ) hlb eg hit hxs hgd hdis hHI hφI hcaps (fun k=>Og N E φ a w l0 (fun hs=>hs=hsJ k))
  (fun c S T W=>c=.ret/\Og N E φ a w l0 (fun hs=>K .ret (Aq l0 hs)) S T W) (fun k S T T' W W' h _ c=>h.iter hE hL c) (fun k S T W l o o' h _ hl ho hs=>h.put hL o' hl ho hs)
  (fun c S T T' W W' ⟨hc,h⟩ _ hch=>⟨hc,h.iter hE hL hch⟩) (fun c S T W l o o' ⟨hc,h⟩ hl ho hs=>⟨hc,h.put hL o' hl ho hs⟩) ?_ ?_ ?_ ?_
 ·
  intro W hb hsz
  obtain⟨φ0,hφ0⟩:∃ φ0,CO ic φ=φ0:=⟨_,rfl⟩
  obtain⟨X,hX⟩:∃ X:Nat->Prop,X=fun b=>(GA ii φ b/\¬ Own φ0 b)∨b=w.heap.size∨b=w.heap.size+1:=⟨_,rfl⟩
  have hR:Rel N (E.add (GA ic φ)) (Aq l0 (hsJ 0)) φ0 { a with defers:=[] } w:=by
   subst hφ0
   refine⟨hr.sz,⟨rfl,.nil (Alc _)⟩,⟨fun k hk=>hk.elim (hr.old.lt k) fun h=>hr.hp.lt (DO.2 (.inl h)),hr.old.lib.at',hr.old.lib.lt,fun k hk h=>hr.old.lib.out k hk (hownC k h)⟩,fun t=>?_,?_,fun id hid=>?_,fun id hid=>?_⟩
   ·exact ht t _ _ _ _ (EV (Fz (E':=E.add (GA ic φ)) hr.hp (fun _ h=>h) fun _ h=>h) 8 _ _ (hr.tm t))
   ·exact(hr.hp.lend (E':=E.add (GA ic φ)) h1 (fun _ h=>h) (fun _ h=>h) (fun k h=>h.imp (hE k) fun h=>h) (H':=Bm (ic.map (D7 st ic))) (fun j id e=>by simp[Bm,e])).le hh
   ·have hid':(hsJ 0).length<=id:=hid
    exact Alt fun hn=>by have:=(Fy h1 hr.lv id).1 hn;omega
   ·have hid':id<(hsJ 0).length:=hid
    exact(Fy h1 hr.lv id).2 (by omega)
  have key:∀ (A:Nat->Prop) k,k<w.heap.size->¬ (A k∨GA ic φ k)->W.heap[k]?=w.heap[k]?/\¬ (A k∨U X (Own (CO ii φ)) k):=fun A k hk hn=>⟨hb.block k hk,fun e=>by
   have hno:∀ h:Own φ k,¬ Own φ0 k->False:=fun h h'=>by
    rcases(DO (ids:=ic)).1 h with h'' | h''
    ·exact hn (.inr h'')
    ·exact h' (by rw[← hφ0];exact h'')
   rcases e with e | e | e
   ·exact hn (.inl e)
   ·rw[hX]at e
    rcases e with⟨e1,e2⟩ | rfl | rfl
    ·exact hno (hrestI k e1) e2
    ·omega
    ·omega
   ·refine hno (hownI k e) fun h=>hdis k (hapart k (by rw[hφ0];exact h)) e⟩
  have hR2:=hR.over (E:=E.add (U X (Own (CO ii φ)))) (w':=W) (fun k hk=>hk.imp (hE k) fun h=>h) hb.size (key _) (key _) (fun k hk=>?_) (.nil (Alc _)) fun k hk=>hb.block k (hL k hk).1
  ·refine⟨hsJ 0,φ0,X,rfl,fun b=>⟨fun h=>?_,fun h=>?_⟩,fun b h=>?_,fun b h=>.inl (hownI b h),hR2,fr0 hb.os hb.tape hb.output hb.size (fun k hk _=>hb.block k hk) fun k h=>.inl (hownC k (by rw[hφ0];exact h))⟩
   ·rw[hX]
    rcases h with h | h | h
    ·by_cases ho:Own φ0 b
     ·exact .inl ho
     ·exact .inr (.inl ⟨h,ho⟩)
    ·exact .inr (.inr (.inl h))
    ·exact .inr (.inr (.inr h))
   ·rw[hX]at h
    rcases h with h | ⟨h,_⟩ | h
    ·exact .inl (hapart b (by rw[hφ0];exact h))
    ·exact .inl h
    ·exact .inr h
   ·rw[hX]at h
    rcases h with⟨h,_⟩ | h | h
    ·exact .inl (hrestI b h)
    ·exact .inr (by omega)
    ·exact .inr (by omega)
  ·rcases hk with hk | hk | hk
   ·exact Alr (hr.old.lt k hk) hb.size
   ·rw[hX]at hk
    rcases hk with⟨h,_⟩ | h | h
    ·exact Alr (hr.hp.lt (hrestI k h)) hb.size
    ·exact hsz k (.inl h)
    ·exact hsz k (.inr h)
   ·exact Alr (hr.hp.lt (hownI k hk)) hb.size
 ·
  rintro l k S1 T1 W vs hk ⟨hs,φk,X,rfl,b1,b2,b3,hR,hF⟩ hd hgd1 hsay
  rw[Ak2]at hB
  have hr0:=round k hk
  simp only[xc]at hr0
  have hup:∀ {x:VV} {v:Value},V W (E.add (U S1 T1)) none x v->V W ((E.add (U X T1)).up φk) (some φk) x v:=fun h=>h.held.less
   (fun k hk=>by
    rcases hk with(hk | hk | hk) | hk
    ·exact .inl hk
    ·exact .inr (.inl ((b1 k).2 (.inr hk)))
    ·exact .inr (.inr hk)
    ·exact .inr (.inl ((b1 k).2 (.inl hk)))) fun k hk=>by
    rcases hk with(hk | hk | hk) | hk
    ·exact .inl hk
    ·exact .inr (.inl ((b1 k).2 (.inr hk)))
    ·exact .inr (.inr hk)
    ·exact .inr (.inl ((b1 k).2 (.inl hk)))
  have hR1:Rel N (E.add (U X T1)) (Aq (ps.toList.zip (xs k)++l0) (hsJ k)) φk { tmps:=(ps.zip vs).foldl (fun t (p,v)=>t.setIfInBounds p v) a.tmps,defers:=[] } W:=by
   have e:(ps.zip vs).foldl (fun(t:Array Value) (p,v)=>t.setIfInBounds p v) a.tmps=(ps.toList.zip vs.toList).foldl (fun t (p:Nat × Value)=>t.setIfInBounds p.1 p.2) a.tmps:=by
    rw[← Array.foldl_toList,Array.toList_zip]
   refine⟨?_,⟨rfl,hR.df.2⟩,hR.old,fun t=>?_,hR.hp,hR.fr,hR.lv⟩
   ·show((ps.zip vs).foldl (fun(t:Array Value) (p,v)=>t.setIfInBounds p v) a.tmps).size=N
    rw[e]
    have:∀ (L:List (Nat × Value)) (A:Array Value),(L.foldl (fun t (p:Nat × Value)=>t.setIfInBounds p.1 p.2) A).size=A.size:=by
     intro L
     induction L with
     | nil=>intro A;rfl
     | cons p L ih=>intro A;rw[List.foldl_cons,ih,Array.size_setIfInBounds]
    rw[this];exact hR.sz
   ·show V W _ _ (BS t _) (((ps.zip vs).foldl (fun(t:Array Value) (p,v)=>t.setIfInBounds p v) a.tmps).getD t undef)
    rw[e]
    refine Aem ps.toList (xs k) vs.toList l0 a.tmps hps.1 (fun p hp=>by rw[show a.tmps.size=N from hR.sz];exact hps.2 p hp) (by simpa using hxs k) (by rw[Al1,Al1,hsay.1,hxs k]) (fun j x hx=>?_) (fun t=>hR.tm t) t
    have:=hup (hsay.2 j x hx)
    simpa[AlJ] using this
  have hXown:∀ {st:St} {φ':Phi} {a':Act} {W':World},Rel N (E.add (U X T1)) st φ' a' W'->∀ {r:Nat} {o:Obj},(Own φ' r∨X r)->W'.heap[r]?=some o->o.isCells=false->X r:=fun h r o hr ho hc=>hr.resolve_left fun h'=>by
   have:=Kw h.hp h' ho;rw[hc]at this;cases this
  refine wpIn_mono (Ts (ro:=some l) (L:=rgL nb) hT hmx (fun _=>rfl) assign hB.1 _ _ _ hr0 _ _ _ _ hR1) ?_
  rintro e a1 W1 ⟨rfl,st1,φ1,g1,g2,g3⟩
  ·skip
   have g1:xc P T Sh N (rgL nb) (1::q) body (rgK nb l0 (hsJ (k+1)) K) st1:=g1
   refine⟨Ext.keeps hR1.hp g3,fun b=>Own φ1 b∨X b,⟨g3.os,g3.tape,g3.output,g3.size,fun b hb hn=>g3.block b hb fun h=>hn ((b1 b).2 (.inl h)),fun b hb=>?_,fun b hb=>?_⟩,fun b o hb ho hc=>.inr (hXown hR1 ((b1 b).1 hb) ho hc),?_⟩
   ·rcases hb with h | h
    ·exact(g3.new b h).imp (fun h=>(b1 b).2 (.inl h)) fun h=>h
    ·exact .inl ((b1 b).2 (.inr h))
   ·rcases hb with h | h
    ·exact g2.hp.lt h
    ·exact g2.old.lt b (.inr (.inl h))
   rintro W2 r o2 rfl ⟨o1,hr1⟩ hr2 _ _ _
   have hXr:X r:=hXown g2 hr2 hr1 rfl
   have hwr:=b2 r hXr
   have hrl:r ∉ DX:=fun h=>by
    obtain⟨l1,l2⟩:=hL r h
    exact hwr.elim l2 fun h=>by omega
   have g2':=g2.turn o2 (.inr (.inl hXr)) (.inr (.inl hXr)) hrl rfl
   refine wpIn_mono (NN (ro:=some l) (L:=rgL nb) hT hmx (fun _=>rfl) body hB.2 _ _ _ g1 _ _ _ _ g2') ?_
   rintro e a3 W3 ⟨st3,φ3,f1,f2,f3⟩
   have hend:okF nb [] st3=true->∀ (hs1:List Ob) (K1:List Ob->Prop),leO (PZ nb st3) hs1->K1 hs1->KeepsOthers (W1.putObj r o2) W3/\∃ S',Chg (W1.putObj r o2) (fun b=>Own φ1 b∨X b) W3 S'/\TJ (W1.putObj r o2) (fun b=>Own φ1 b∨X b) S'/\Og N E φ a w l0 K1 S' T1 W3:=by
    intro hok hs1 K1 hle hK1
    obtain⟨φ4,r4,f4⟩:=f2.forget hok
    have hl1:=(Gf hle).1
    have hFt:∀ b,b<W.heap.size->¬ Own φk b->¬ X b->W3.heap[b]?=W.heap[b]?:=fun b hb hn hx=>by
     have h1:¬ Own φ1 b:=fun h=>(g3.new b h).elim hn fun h=>by omega
     have hs1:b<W1.heap.size:=Alr hb g3.size
     have e2:(W1.putObj r o2).heap[b]?=W1.heap[b]?:=World.putObj_heap_other fun e=>hx (by rw[e];exact hXr)
     exact((f3.block b (by simpa using hs1) h1).trans e2).trans (g3.block b hb hn)
    have hsz:W.heap.size<=W3.heap.size:=Als g3.size (by simpa using f3.size)
    have hnew:∀ b,Own φ4 b->Own φk b∨W.heap.size<=b:=fun b hb=>by
     rcases f4.new b hb with h | h
     ·rcases f3.new b h with h | h
      ·exact g3.new b h
      ·exact .inr (Als g3.size (by simpa using h))
     ·exact .inr (Als hsz h)
    refine⟨Ext.keeps g2'.hp f3,fun b=>Own φ4 b∨X b,⟨f3.os,f3.tape,f3.output,f3.size,fun b hb hn=>f3.block b hb fun h=>hn (.inl h),fun b hb=>?_,fun b hb=>?_⟩,fun b o hb ho hc=>.inr (hXown g2' hb ho hc),?_⟩
    ·rcases hb with h | h
     ·rcases f4.new b h with h | h
      ·exact(f3.new b h).imp .inl fun h=>h
      ·exact .inr (Als f3.size h)
     ·exact .inl (.inr h)
    ·rcases hb with h | h
     ·exact r4.hp.lt h
     ·exact r4.old.lt b (.inr (.inl h))
    refine⟨hs1,φ4,X,hK1,fun _=>Iff.rfl,b2,b3,⟨hR.sz,⟨rfl,.nil r4.df.2.1⟩,r4.old,fun t=>?_,r4.hp.le hle,fun id hid=>r4.fr id ?_,fun id hid=>r4.lv id ?_⟩,?_⟩
    ·refine(hR.tm t).stab (nb:=nb) (P8 hl0) hsz (fun b hb hn=>⟨hFt b hb (fun h=>hn (.inr h)) fun h=>hn (.inl (.inr (.inl h))),fun h=>?_⟩) fun id p hid hp=>?_
     ·rcases h with h | h
      ·exact hn (.inl h)
      ·exact(hnew b h).elim (fun h=>hn (.inr h)) fun h=>by omega
     ·obtain⟨p1,e1,k1⟩:=g3.up id p hp
      obtain⟨p2,e2,k2⟩:=f3.up id p1 e1
      obtain⟨p3,e3,k3⟩:=f4.kind id p2 hid e2
      exact⟨p3,e3,(k1.kind.trans k2.kind).trans k3⟩
    ·have:hs1.length<=id:=hid
     show(PZ nb st3).length<=id
     omega
    ·have:id<hs1.length:=hid
     show id<(PZ nb st3).length
     omega
    ·refine fr0 (f3.os.trans (g3.os.trans hF.os)) (f3.tape.trans (g3.tape.trans hF.tape)) (f3.output.trans (g3.output.trans hF.output)) (Als hF.size hsz) (fun b hb hn=>(hFt b (Alr hb hF.size) (fun h=>(hF.new b h).elim hn fun h=>by omega) fun h=>(b2 b h).elim hn fun h=>by omega).trans (hF.block b hb hn)) fun b hb=>?_
     rcases hnew b hb with h | h
     ·exact hF.new b h
     ·exact .inr (Als hF.size h)
   cases e with
   | normal =>
    simp only[rgK]at f1
    cases hok:okF nb [] st3 with
    | false=>rw[hok]at f1;exact f1.elim
    | true=>rw[hok,Ak4]at f1;exact hend hok _ _ f1.1 rfl
   | ret =>
    simp only[rgK]at f1
    cases hok:okF nb [] st3 with
    | false=>rw[hok]at f1;exact f1.elim
    | true =>
     rw[hok,Ak4]at f1
     obtain⟨k1,S',k2,k3,k4⟩:=hend hok _ (fun hs=>K .ret (Aq l0 hs)) (Ik _) f1
     exact⟨k1,S',k2,k3,rfl,k4⟩
   | _=>exact f1.elim
 ·
  rintro D S1 T1 W h hd hgd1 hD hS hwD
  obtain⟨E',st',φ',e1,e2,e3,e4⟩:=RG hr h hD hS hwD
  exact⟨E',st',φ',e1,by obtain⟨hs,rfl,rfl⟩:=e2;exact done,e3,e4⟩
 ·
  rintro D S1 T1 c W ⟨rfl,h⟩ hD hS hwD
  obtain⟨E',st',φ',e1,e2,e3,e4⟩:=RG hr h hD hS hwD
  exact wpIn_ret ⟨E',st',φ',e1,by obtain⟨hs,h1,rfl⟩:=e2;exact h1,e3,e4⟩
def AeI : Code->Code
 | .block _ (.rangeFunc _ _ assign body)=>.seq assign body
 | _=>.skip
def Ctx.rg (c:Ctx)(rel:List Nat)(nb:Nat)(l0:List (Nat × VV))(hs1:List Ob):Ctx :=
 { c with L:=rgL nb,code:=AeI (Ew rel c.code),p0:=[],K0:=rgK nb l0 hs1 (c.k rel) }
def Ctx.after (c:Ctx)(rel:List Nat):Ctx:={ c with code:=.skip,K0:=c.k rel }
theorem Od {P:Program}{g:FuncId}(h:Hd P g)(args:Array Value)(w:World):(callFunc g args).run P w=.ok (.enter g args) w:=by
 obtain⟨fn,hfn,hb,hnm⟩:=h
 simp only[callFunc,Sem.run_bind,Sem.run_pure,Result.andThen_ok,run_program,hfn,hnm,hb,AmI,if_false]
theorem Xk {c:Ctx}(hT:TOk c.P c.T)(hmx:c.P.follows .mixedOrders=true){rel:List Nat}{st:St}(id tg:Nat)(ps:List Tmp)(assign body:Code)(hl:c.sub rel=.block id (.rangeFunc (.tmp tg) ps.toArray assign body))(hb:c.L.base=0)
  (hB:(N0 c.N assign&&Jy c.N body)=true) (hps:ps.Nodup/\∀ p,p∈ps->p<c.N) {gf:Nat} (eg:Hd c.P gf) {hi:List Ob} {caps:List VV} {n:Nat} {xs:Nat->List VV} (hit:NI c.P gf hi caps n xs)
  (hxs:∀ k,(xs k).length=ps.length) (ic ii:List Nat) (h1:Et st.nx ic=true) (h2:Et st.nx ii=true) (h3:(ic.all fun i=>!(ii.any (Nat.beq i)))=true)
  (l0:List (Nat × VV)) (nb:Nat) (hsJ:Nat->List Ob) (hn:∀ k,(hsJ k).length=nb) (hl0:Uv nb l0=true) (ht:∀ t,VV.le (Jc st ic (st.t t)) (BS t l0)) (hh:leO (ic.map (D7 st ic)) (hsJ 0))
  (hg:VV.le (Jc st ii (st.t tg)) (.fn (.func gf) caps)) (hhi:leO (ii.map (D7 st ii)) hi)
  (round:∀ k,k<n->(c.rg rel nb l0 (hsJ (k+1))).goal (Aq (ps.zip (xs k)++l0) (hsJ k))) (done:(c.after rel).goal (Aq l0 (hsJ n))):AA c rel st:=by
 unfold AA
 rw[hb]
 refine AbB (q:=[]) hT hmx c.Sh hl hB hps (fun args w=>Od eg args w) hit (fun k=>by simpa using hxs k) ic ii h1 h2 h3 l0 nb hsJ hn hl0 ht hh hg hhi (fun k hk=>?_) done
 have hr:AeI (Ew rel c.code)=.seq assign body:=by
  have:Ew rel c.code=.block id (.rangeFunc (.tmp tg) ps.toArray assign body):=hl
  rw[this];rfl
 have:=round k hk
 unfold Ctx.goal Ctx.rg at this
 simp only[hr]at this
 exact this
def CW (ops:Array Oper)(k:Nat):Array Oper:=(ops.toList.take k).toArray
def AkJ : Option Nat->Operand
 | some d=>.tmp d
 | none=>.const undef
def Jv (o:Oper):Oper:={ o with op:=.move (AkJ o.dst),guard:=none }
def CF (ops:Array Oper)(k:Nat):Array Oper:=((ops.toList.take k).map Jv++ops.toList.drop k).toArray
def ON (ops:Array Oper):Bool:=ops.toList.all fun o=>o.guard.isNone
section
variable {F : Fence} {n:Nat} {P:Program} {Q Q':Exit->Act->World->Prop} {ops:Array Oper}
theorem AkT {o:Oper}{a:Act}{w:World}{K:Act->World->Prop}(h:o.wpIn F n P a w K Q)(hp:∀ ch a w,Q (.panic ch) a w->Q' (.panic ch) a w)(hl:LetsOut Q->LetsOut Q'):o.wpIn F n P a w K Q':=by
 refine⟨h.1,?_⟩
 have h:=h.2
 generalize (o.semAt F.round a.eval).run P w=r at h ⊢
 cases r with
 | ok x w' =>
  cases x with
  | enter f args=>exact⟨h.1,CallsIn.mono h.2 fun e w'' he=>by cases e<;>first | exact he | exact hp _ _ _ he | exact hl he⟩
  | round=>exact⟨h.1,RoundIn.mono h.2 fun e w'' he=>by cases e<;>first | exact he | exact hp _ _ _ he | exact hl he⟩
  | _=>exact h
 | halt e w' =>
  cases e with
  | panic v=>exact hp _ _ _ h
  | _=>exact h
theorem Ai7 {i:Nat}{a:Act}{w:World}{K:Act->World->Prop}(h:wpOpIn F n P ops Q i K a w)(hp:∀ ch a w,Q (.panic ch) a w->Q' (.panic ch) a w)(hl:LetsOut Q->LetsOut Q'):wpOpIn F n P ops Q' i K a w:=by
 unfold wpOpIn at h ⊢
 cases ho:ops[i]? with
 | none=>rw[ho]at h;exact h
 | some o =>
  rw[ho]at h
  simp only at h ⊢
  split
  ·rename_i hw;rw[Alw hw]at h;exact AkT h hp hl
  ·rename_i hw;rw[Alg hw]at h;exact h
theorem ZB (js:List Nat):∀ (is:List Nat) (a:Act) (w:World),wpOpsIn F n P ops (Exit.then (wpOpsIn F n P ops Q js) Q) is a w->wpOpsIn F n P ops Q (is++js) a w
 | [],a,w,h=>h
 | i::is,a,w,h=>by
  rw[wpOpsIn_cons]at h
  rw[Amo,wpOpsIn_cons]
  exact wpOpIn_mono (fun a w h=>ZB js is a w h) (Ai7 h (fun _ _ _ h=>h) fun h=>h)
theorem ZA {A:Array Oper}(hA:ON A=true):∀ (is:List Nat),(∀ i,i∈is->i<A.size/\ops[i]?=A[i]?)->∀ (a:Act) (w:World),wpOpsIn F n P A Q is a w->wpOpsIn F n P ops Q is a w
 | [],_,a,w,h=>h
 | i::is,hi,a,w,h=>by
  rw[wpOpsIn_cons]at h ⊢
  obtain⟨h1,h2⟩:=hi i (Alb ..)
  have ho:A[i]?=some A[i]:=by simp[h1]
  have hg:A[i].guard=none:=by
   have:=AlF.1 hA A[i] (by simp)
   simpa using this
  have hw:∀ y,Region.wanted A[i] y=true:=fun y=>by unfold Region.wanted;rw[hg]
  unfold wpOpIn at h ⊢
  rw[ho]at h
  rw[h2,ho]
  simp only[hw,if_true]at h ⊢
  exact Oper.wpIn_mono (fun a w h=>ZA hA is (fun i hi'=>hi i (Alp _ hi')) a w h) h
theorem AeO (a:Act)(d:Nat)(hd:d<a.tmps.size):a.put (some d) (a.tmps.getD d undef)=a:=by
 obtain⟨t,ds⟩:=a
 simp only[Act.put]
 congr 1
 have hd':d<t.size:=hd
 simp[Array.getD,hd',Array.setIfInBounds_def]
theorem SC {k i:Nat}:(CF ops k)[i]?=if i<k then(ops[i]?).map Jv else ops[i]?:=by
 unfold CF
 rw[List.getElem?_toArray]
 by_cases h:i<ops.size
 ·by_cases hk:i<k
  ·rw[Ale (by simp;omega),Alv,Al0,Alw hk,Alw hk,Array.getElem?_toList]
  ·rw[All (by simp;omega),Alg hk,Alx]
   simp only[Al8,Amf,Al1,Array.getElem?_toList]
   congr 1
   omega
 ·rw[Amj (by simp;omega),Array.getElem?_eq_none (by omega)]
  split<;>rfl
theorem UE {k N:Nat}(hd:∀ (i:Nat) o d,ops[i]?=some o->o.dst=some d->d<N)(hk:k<=ops.size):∀ (m j:Nat) (a:Act) (w:World),a.tmps.size=N->j+m=k->wpOpsIn F n P (CF ops k) Q (List.range' j m++List.range' k (ops.size - k)) a w->wpOpsIn F n P (CF ops k) Q (List.range' k (ops.size - k)) a w
 | 0,j,a,w,_,_,h=>h
 | m+1,j,a,w,hs,hj,h=>by
  rw[List.range'_succ,Amo,wpOpsIn_cons]at h
  have hjl:j<ops.size:=by omega
  have ho:(CF ops k)[j]?=some (Jv ops[j]):=by
   rw[SC,Alw (by omega)]
   simp[hjl]
  unfold wpOpIn at h
  rw[ho]at h
  have hw:∀ (o:Oper) y,Region.wanted (Jv o) y=true:=fun _ _=>rfl
  simp only[hw,if_true]at h
  refine UE hd hk m (j+1) a w hs (by omega) ?_
  have h:=h.2
  rw[Oper.semAt_eq _ _ _ (by intro c hc;cases hc)]at h
  have key:∀ o:Oper,ops[j]?=some o->(Jv o).uponIn F n P a (fun a w=>wpOpsIn F n P (CF ops k) Q (List.range' (j+1) m++List.range' k (ops.size - k)) a w) Q ((execOp a.eval (Jv o)).run P w)->wpOpsIn F n P (CF ops k) Q (List.range' (j+1) m++List.range' k (ops.size - k)) a w:=by
   intro o ho h
   have hdo:=hd j o
   obtain⟨dst,op,ty,pos,af,gd⟩:=o
   cases dst with
   | none =>
    have e:(execOp a.eval (Jv ⟨none,op,ty,pos,af,gd⟩)).run P w=.ok (.value undef) w:=rfl
    rw[e]at h
    exact h
   | some d =>
    have e:(execOp a.eval (Jv ⟨some d,op,ty,pos,af,gd⟩)).run P w=.ok (.value (a.tmps.getD d undef)) w:=rfl
    rw[e]at h
    have h:wpOpsIn F n P (CF ops k) Q (List.range' (j+1) m++List.range' k (ops.size - k)) (a.put (some d) (a.tmps.getD d undef)) w:=h
    rw[AeO a d (by rw[hs];exact hdo d ho rfl)]at h
    exact h
  exact key ops[j] (by simp[hjl]) h
theorem Uq {k:Nat}{t:Array Value}:yielded (CF ops k) t=yielded ops t:=by
 funext j
 unfold yielded
 have:((CF ops k)[j]?).bind (·.dst)=(ops[j]?).bind (·.dst):=by
  rw[SC]
  split
  ·cases ops[j]?<;>rfl
  ·rfl
 rw[this]
theorem Zz {k:Nat}:∀ (js:List Nat),(∀ j,j∈js->k<=j)->∀ (a:Act) (w:World),wpOpsIn F n P (CF ops k) Q js a w->wpOpsIn F n P ops Q js a w
 | [],_,a,w,h=>h
 | j::js,hj,a,w,h=>by
  rw[wpOpsIn_cons]at h ⊢
  have e:(CF ops k)[j]?=ops[j]?:=by rw[SC,Alg (Nat.not_lt.2 (hj j (Alb ..)))]
  unfold wpOpIn at h ⊢
  rw[e,Uq]at h
  have ih:=fun(a:Act) (w:World) h=>Zz js (fun j h=>hj j (Alp _ h)) a w h
  cases ho:ops[j]? with
  | none=>rw[ho]at h;exact ih _ _ h
  | some o =>
   rw[ho]at h
   simp only at h ⊢
   split
   ·rename_i hw;rw[Alw hw]at h;exact Oper.wpIn_mono ih h
   ·rename_i hw;rw[Alg hw]at h;exact⟨h.1,ih _ _ h.2⟩
end
theorem Ads {P:Program}{Q:Exit->Act->World->Prop}{oc:Oper}{tf d:Nat}{x1 x2:Operand}{tys:Array TypeId}(hop:oc.op=.call { callee:=.value (.tmp tf),args:=#[x1,x2],argTypes:=tys })(hd:oc.dst=some d){a:Act}{w:World}{l:Nat}(hf:a.tmps.getD tf undef=.func (.yield l) #[] #[])
  {K:Act->World->Prop} {R:Ending->World->Prop} (hY:YieldAt Fence.wide 0 P l #[a.eval x1,a.eval x2] w R) (hR:∀ e w',R e w'->∃ b,e=.returned b/\K (a.put (some d) b) w'):oc.wpIn Fence.wide 0 P a w K Q:=by
 obtain⟨fn,tmps,assign,body,hy,hr⟩:=hY
 have hev:a.eval (.tmp tf)=.func (.yield l) #[] #[]:=hf
 have hrun:(execOp a.eval oc).run P w=.ok (.round l fn tmps assign body) w:=by
  unfold execOp
  rw[hop]
  simp only[resolve,hev,Deferred.ofValue,Sem.run_bind,Sem.run_pure,Result.andThen_ok,invoke,Array.empty_append,AmP,AlU,Amr]
  simpa using hy
 refine⟨fun _ _=>trivial,?_⟩
 rw[Oper.semAt_eq _ _ _ (by intro c hc;rw[hop]at hc;cases hc),hrun,Oper.uponIn_round]
 refine⟨fun h=>by simp[Fence.wide]at h,hr.mono fun e w' he=>?_⟩
 obtain⟨b,rfl,hk⟩:=hR e w' he
 rw[hd]
 exact hk
theorem Ae2 {P:Program}{T:TypeId->TE}{Sh:Shs}{N:Nat}{ops:Array Oper}{st0:St}{E:AF}{w0:World}{φ0:Phi}{a:Act}(hT:TOk P T)(hB:(Mh ops N&&JS ops)=true){Q:Exit->Act->World->Prop}(hQ:¬ LetsOut Q)
  {K:St->Prop} (h:I6 P T Sh false ops 0 ops.toList st0 [] [] fun st'=>K (clr ops st')) (hrel:Rel N E st0 φ0 a w0) (hKQ:∀ st φ a' w',K st->Rel N E st φ a' w'->Ext w0 φ0 w' φ->Q .normal a' w'):wpOpsIn Fence.wide 0 P ops Q (List.range' 0 ops.size) a w0:=by
 rw[Ak2]at hB
 obtain⟨O,hO,hx⟩:=D3 ops.toList 0 st0 [] [] h
 have hR:=Mg hB.1
 obtain⟨hG',hK⟩:=H3 (T:=T) (O:=O) (st0:=st0) ops.toList 0 (by simp) (Alc _) hx
 have hG:∀ (j:Nat) o,ops[j]?=some o->Hq false T O ops st0 j o:=fun j o=>hG' j o (Alc _)
 refine Ta (ro:=none) (TC hB.2) hQ _ _ _ (P2 hT hO hR hG (fun D φ a w hD hI=>hKQ _ φ a w hK (hI.finish hR hG hD) hI.ext) ops.size 0 φ0 a w0 (by omega) ?_)
 have e:(fun i=>decide (i<0))=fun _=>false:=by funext i;simp
 rw[e];exact RI.start hrel
theorem Sm {P:Program}{T:TypeId->TE}{Sh:Shs}{N:Nat}(hT:TOk P T){id k tf d:Nat}{ops:Array Oper}{oc:Oper}{x1 x2:Operand}{tys:Array TypeId}{Q:Exit->Act->World->Prop}(hQ:¬ LetsOut Q)
  (hpre:(Mh (CW ops k) N&&JS (CW ops k))=true) (hng:ON (CW ops k)=true) (hsuf:(Mh (CF ops (k+1)) N&&JS (CF ops (k+1)))=true) (hdst:∀ (i:Nat) o d,ops[i]?=some o->o.dst=some d->d<N)
  (hoc:ops[k]?=some oc) (hop:oc.op=.call { callee:=.value (.tmp tf),args:=#[x1,x2],argTypes:=tys }) (hgd:oc.guard=none) (hd:oc.dst=some d) {st:St} {E:AF} {φ:Phi} {a:Act} {w:World} {Y:St->Prop}
  (hx:I6 P T Sh false (CW ops k) 0 (CW ops k).toList st [] [] fun st1=>Y (clr (CW ops k) st1)) (hr:Rel N E st φ a w)
  (hY:∀ st1 φ1 a1 w1,Y st1->Rel N E st1 φ1 a1 w1->Ext w φ w1 φ1->∃ l R,a1.tmps.getD tf undef=.func (.yield l) #[] #[]/\YieldAt Fence.wide 0 P l #[a1.eval x1,a1.eval x2] w1 R/\∀ e w2,R e w2->∃ b E2 st2 φ2,∃ K3:St->Prop,e=.returned b/\Rel N E2 st2 φ2 (a1.put (some d) b) w2 /\
   (I6 P T Sh false (CF ops (k+1)) 0 (CF ops (k+1)).toList st2 [] [] fun st3=>K3 (clr (CF ops (k+1)) st3))/\∀ st3 φ3 a3 w3,K3 st3->Rel N E2 st3 φ3 a3 w3->Ext w2 φ2 w3 φ3->Q .normal a3 w3) :
  (Code.region id ops false).wpIn Fence.wide 0 P Q a w:=by
 have hkl:k<ops.size:=(Ak8.1 hoc).1
 have hps:(CW ops k).size=k:=by simp[CW];omega
 have hss:(CF ops (k+1)).size=ops.size:=by simp[CF];omega
 refine wpIn_region ?_
 have e1:List.range ops.size=List.range' 0 k++(k::List.range' (k+1) (ops.size - (k+1))):=by
  rw[← List.range'_succ,List.range_eq_range',show ops.size - (k+1)+1=ops.size - k by omega]
  have:=List.range'_append_1 (s:=0) (m:=k) (n:=ops.size - k)
  rw[AlC]at this
  rw[this]
  congr 1
  omega
 rw[e1]
 refine ZB _ _ _ _ (ZA hng _ (fun i hi=>?_) _ _ ?_)
 ·have hik:i<k:=by simpa using hi
  refine⟨by omega,?_⟩
  unfold CW
  simp[hik]
 have h1:wpOpsIn Fence.wide 0 P (CW ops k) (Exit.then (wpOpsIn Fence.wide 0 P ops Q (k::List.range' (k+1) (ops.size - (k+1)))) Q) (List.range' 0 (CW ops k).size) a w:=by
  obtain⟨O,hO,hx'⟩:=D3 (CW ops k).toList 0 st [] [] hx
  rw[Ak2]at hpre
  have hR:=Mg hpre.1
  obtain⟨hG',hK⟩:=H3 (T:=T) (O:=O) (st0:=st) (CW ops k).toList 0 (by simp) (Alc _) hx'
  have hG:∀ (j:Nat) o,(CW ops k)[j]?=some o->Hq false T O (CW ops k) st j o:=fun j o=>hG' j o (Alc _)
  have hQ':¬ LetsOut (Exit.then (wpOpsIn Fence.wide 0 P ops Q (k::List.range' (k+1) (ops.size - (k+1)))) Q):=fun h=>hQ h
  refine Ta (ro:=none) (TC hpre.2) hQ' _ _ _ (P2 (E:=E) (w0:=w) (φ0:=φ) hT hO hR hG (fun D φ1 a1 w1 hD hI=>?_) (CW ops k).size 0 φ a w (by omega) ?_)
  ·show wpOpsIn Fence.wide 0 P ops Q (k::List.range' (k+1) (ops.size - (k+1))) a1 w1
   have hrel:=hI.finish hR hG hD
   obtain⟨l,R,hf,hYl,hRl⟩:=hY _ _ _ _ hK hrel hI.ext
   rw[wpOpsIn_cons]
   unfold wpOpIn
   rw[hoc]
   have hw:Region.wanted oc (yielded ops a1.tmps)=true:=by unfold Region.wanted;rw[hgd]
   simp only[hw,if_true]
   refine Ads hop hd hf hYl fun e w2 he=>?_
   obtain⟨b,E2,st2,φ2,K3,rfl,hr2,hx2,hKQ⟩:=hRl e w2 he
   refine⟨b,rfl,Zz (k:=k+1) _ (fun j hj=>by simp at hj;omega) _ _ ?_⟩
   refine UE (k:=k+1) (N:=N) hdst hkl (k+1) 0 _ _ hr2.sz (by omega) ?_
   have:=Ae2 hT hsuf hQ hx2 hr2 hKQ
   rw[hss]at this
   have e2:List.range' 0 ops.size=List.range' 0 (k+1)++List.range' (k+1) (ops.size - (k+1)):=by
    have:=List.range'_append_1 (s:=0) (m:=k+1) (n:=ops.size - (k+1))
    rw[AlC]at this
    rw[this]
    congr 1
    omega
   rw[← e2]
   exact this
  ·have e:(fun i=>decide (i<0))=fun _=>false:=by funext i;simp
   rw[e];exact RI.start hr
 rw[hps]at h1
 exact h1
def VV.memA : VV->Bool
 | .agg cs=>cs.all VV.mem
 | x=>x.mem
abbrev JT:=Option Nat->(Nat->Prop)->(Nat->Prop)->World->Prop
structure KO (N:Nat) (E:AF) (J:JT) (k:Option Nat) (S:Nat->Prop) (st:St) (φ:Phi) (a:Act) (w:World):Prop where
 rel:Rel N (E.add S) st φ a w
 j:J k S (Own φ) w
 ls:∀ b,b∈DX->¬ S b
 sub:∀ b,E.br b->E.fz b
def Aab (N:Nat)(E:AF)(J:JT)(K:Exit->Option Nat->St->Prop):Exit->Act->World->Prop:=fun e a w=>∃ k st S φ,K e k st/\KO N E J k S st φ a w
structure DK (P:Program) (N:Nat) (E:AF) (J:JT) (c:Code) (K:Exit->Option Nat->St->Prop) (k:Option Nat) (st:St):Prop where
 h:∀ S φ a w,KO N E J k S st φ a w->c.wpIn Fence.wide 0 P (Aab N E J K) a w
def Hs (J:JT):Prop:=∀ k S T T' w1 w2,J k S T w1->(∀ b,S b->¬ T b)->Chg w1 T w2 T'->J k S T' w2
def Abw (K:Exit->Option Nat->St->Prop)(next:Option Nat->St->Prop):Exit->Option Nat->St->Prop
 | .normal,k,st=>next k st
 | e,k,st=>K e k st
def AfW (id:Nat)(K:Exit->Option Nat->St->Prop):Exit->Option Nat->St->Prop
 | .exit j,k,st=>if j=id then K .normal k st else K (.exit j) k st
 | e,k,st=>K e k st
section
variable {P : Program} {T:TypeId->TE} {Sh:Shs} {N:Nat} {L:Ann} {E:AF} {J:JT} {K:Exit->Option Nat->St->Prop} {k:Option Nat} {st:St} {S:Nat->Prop} {φ:Phi} {a:Act} {w:World}
theorem V.memA {E':AF}{m m':Option Phi}{x:VV}{v:Value}(h:V w E m x v)(hx:x.memA=true)(hA:∀ b,E'.fz b->E.fz b):V w E' m' x v:=by
 have key:∀ {x:VV} {v:Value},V w E m x v->x.mem=true->V w E' m' x v:=fun h hx=>(V.mem (E':={ E with br:=E'.br }) (m':=m') h hx rfl).less hA fun _ h=>h
 cases x with
 | agg cs =>
  obtain⟨vs,rfl,h1,h2⟩:=h.agg_inv
  refine .agg h1 fun j y hy=>key (h2 j y hy) ?_
  exact AlF.1 hx y (AlG hy)
 | _=>exact key h hx
theorem KO.apart (h:KO N E J k S st φ a w):∀ b,S b->¬ Own φ b:=fun b hs ho=>h.rel.hp.free b ho (.inr hs)
theorem AhK {w':World}{φ':Phi}(e:Ext w φ w' φ')(hl:∀ b,Own φ' b->b<w'.heap.size):Chg w (Own φ) w' (Own φ'):=⟨e.os,e.tape,e.output,e.size,e.block,e.new,hl⟩
theorem Ajy {φ':Phi}(e:Fr 0 w φ w φ')(hl:∀ b,Own φ' b->b<w.heap.size):Chg w (Own φ) w (Own φ'):=⟨rfl,rfl,rfl,Ak6 _,fun _ _ _=>rfl,e.new,hl⟩
theorem KO.ext (hJ:Hs J)(h:KO N E J k S st φ a w){st':St}{φ':Phi}{a':Act}{w':World}(r:Rel N (E.add S) st' φ' a' w')(e:Ext w φ w' φ'):KO N E J k S st' φ' a' w' :=
 ⟨r,hJ _ _ _ _ _ _ h.j h.apart (AhK e fun _ ho=>r.hp.lt ho),h.ls,h.sub⟩
theorem KO.forget (hJ:Hs J)(h:KO N E J k S st φ a w){keep:List Nat}(hk:okF 0 keep st=true):∃ φ',KO N E J k S (forget 0 keep st) φ' a w :=
 let ⟨φ',r,f⟩:=h.rel.forget hk
 ⟨φ',r,hJ _ _ _ _ _ _ h.j h.apart (Ajy f fun _ ho=>r.hp.lt ho),h.ls,h.sub⟩
theorem KO.cv (hJ:Hs J)(h:KO N E J k S st φ a w){st':St}(hc:Cv st st'):∃ φ',KO N E J k S st' φ' a w :=
 let ⟨φ',r,e⟩:=hc _ _ _ _ _ h.rel
 ⟨φ',h.ext hJ r e⟩
theorem Zj (hJ:Hs J)(hT:TOk P T)(hmx:P.follows .mixedOrders=true){c:Code}(hB:Jy N c=true)(keep:List Nat){p:List Nat}(h:xc P T Sh N (rgL 0) p c (fun e st'=>bif okF 0 keep st' then K e k (Go.Proofs.YtmdcknlpalfhhaaGreatDoor.forget 0 keep st') else False) st):DK P N E J c K k st :=
 ⟨fun S φ a w hi=>by
  refine wpIn_mono (NN (ro:=none) (L:=rgL 0) hT hmx (fun _=>rfl) c hB _ _ _ h _ _ _ _ hi.rel) ?_
  rintro e a' w' ⟨st',φ',h1,h2,h3⟩
  have h4:=hi.ext hJ h2 h3
  cases hk:okF 0 keep st' with
  | false=>rw[hk]at h1;exact h1.elim
  | true =>
   rw[hk]at h1
   obtain⟨φ'',h5⟩:=h4.forget hJ hk
   exact⟨k,_,S,φ'',h1,h5⟩⟩
theorem Ma {x y:Code}(h:DK P N E J x (Abw K fun k st=>DK P N E J y K k st) k st):DK P N E J (.seq x y) K k st :=
 ⟨fun S φ a w hi=>by
  refine wpIn_seq (wpIn_mono (h.h S φ a w hi) ?_)
  rintro e a' w' ⟨k',st',S',φ',h1,h2⟩
  cases e with
  | normal=>exact h1.h _ _ _ _ h2
  | _=>exact⟨k',st',S',φ',h1,h2⟩⟩
theorem IJ {id:Nat}{c:Code}(h:DK P N E J c (AfW id K) k st):DK P N E J (.block id c) K k st :=
 ⟨fun S φ a w hi=>by
  refine wpIn_block (wpIn_mono (h.h S φ a w hi) ?_)
  rintro e a' w' ⟨k',st',S',φ',h1,h2⟩
  cases e with
  | exit j =>
   simp only[Exit.inBlock]
   simp only[AfW]at h1
   by_cases hj:j=id
   ·rw[Alw hj]at h1 ⊢;exact⟨k',st',S',φ',h1,h2⟩
   ·rw[Alg hj]at h1 ⊢;exact⟨k',st',S',φ',h1,h2⟩
  | _=>exact⟨k',st',S',φ',h1,h2⟩⟩
theorem Abz {t:Nat}{x y:Code}{b:Bool}(ht:st.t t=.sc (.bool b))(h1:b=true->DK P N E J x K k st)(h2:b=false->DK P N E J y K k st):DK P N E J (.cond (.tmp t) x y) K k st :=
 ⟨fun S φ a w hi=>by
  have hv:=hi.rel.tm t
  rw[ht]at hv
  refine wpIn_cond (t:=b) hv.sc_inv ?_
  cases b with
  | true=>exact(h1 rfl).h _ _ _ _ hi
  | false=>exact(h2 rfl).h _ _ _ _ hi⟩
theorem Aby (h:K .normal k st):DK P N E J .skip K k st:=⟨fun S φ _ _ hi=>wpIn_skip ⟨k,st,S,φ,h,hi⟩⟩
theorem Aes (h:K .ret k st):DK P N E J .ret K k st:=⟨fun S φ _ _ hi=>wpIn_ret ⟨k,st,S,φ,h,hi⟩⟩
theorem DK.cv (hJ:Hs J){c:Code}{st':St}(hc:Cv st st')(h:DK P N E J c K k st'):DK P N E J c K k st :=
 ⟨fun S _ a w hi=>let ⟨φ',hi'⟩:=hi.cv hJ hc;h.h S φ' a w hi'⟩
theorem TZ {c:Code}{Q:Exit->Act->World->Prop}(I:Nat->Act->World->Prop)(h0:∃ g,I g a w)
  (round:∀ g a w,I g a w->c.wpIn Fence.wide 0 P (Exit.then (fun a' w'=>∃ g',g'<g/\I g' a' w') Q) a w):(Code.loop c).wpIn Fence.wide 0 P Q a w :=
 wpIn_wide.2 (KP I h0 fun g a w h=>wpIn_wide.1 (round g a w h))
theorem Rx (hJ:Hs J){c:Code}(I:Nat->Option Nat->St->Prop)(h0:∃ g,Up (I g k) st)
  (round:∀ g k st,I g k st->DK P N E J c (Abw K fun k' st'=>∃ g',g'<g/\Up (I g' k') st') k st):DK P N E J (.loop c) K k st :=
 ⟨fun S φ a w hi=>by
  obtain⟨g0,st0,hc0,hI0⟩:=h0
  obtain⟨φ0,hi0⟩:=hi.cv hJ hc0
  refine TZ (fun g a w=>∃ k st S φ,I g k st/\KO N E J k S st φ a w) ⟨g0,k,st0,S,φ0,hI0,hi0⟩ ?_
  rintro g a w ⟨k,st,S,φ,h1,h2⟩
  refine wpIn_mono ((round g k st h1).h S φ a w h2) ?_
  rintro e a' w' ⟨k',st',S',φ',h3,h4⟩
  cases e with
  | normal =>
   obtain⟨g',hlt,st1,hc,h5⟩:=h3
   obtain⟨φ1,h6⟩:=h4.cv hJ hc
   exact⟨g',hlt,k',st1,S',φ1,h5,h6⟩
  | _=>exact⟨k',st',S',φ',h3,h4⟩⟩
def Akp (K:Act->World->Prop):Exit->Act->World->Prop:=fun e a w=>e=.normal/\K a w
theorem Ae6 {K:Act->World->Prop}:¬ LetsOut (Akp K):=fun⟨_,_,h,_⟩=>by cases h
theorem Acu {t d:Nat}{x:VV}{l:List (Nat × VV)}:BS t ((d,x)::l)=bif Nat.beq t d then x else BS t l:=rfl
theorem Xi (hJ:Hs J)(hT:TOk P T){id kk tf d i n:Nat}{ops:Array Oper}{oc:Oper}{x1 x2:Operand}{tys:Array TypeId}{l:Nat}{xs:Nat->List VV}
  (hY:∀ k S T w1 vs,k<n->J (some k) S T w1->(∀ b,S b->¬ T b)->Gd E (U S T) w1->CS w1 (E.add (U S T)) none (xs k) vs->YieldAt Fence.wide 0 P l vs w1 fun e w2 =>
   (e=.returned (.bool true)/\∃ S',J (some (k+1)) S' T w2/\Chg w1 S w2 S')∨(e=.returned (.bool false)/\∃ S',J none S' T w2/\Chg w1 S w2 S'))
  (hpre:(Mh (CW ops kk) N&&JS (CW ops kk))=true) (hng:ON (CW ops kk)=true) (hsuf:(Mh (CF ops (kk+1)) N&&JS (CF ops (kk+1)))=true) (hdst:∀ (i:Nat) o d,ops[i]?=some o->o.dst=some d->d<N)
  (hoc:ops[kk]?=some oc) (hop:oc.op=.call { callee:=.value (.tmp tf),args:=#[x1,x2],argTypes:=tys }) (hgd:oc.guard=none) (hd:oc.dst=some d) (hi:i<n) (keep keep2:List Nat)
  (h:xc P T Sh N (rgL 0) [] (.region id (CW ops kk) false) (fun _ st1=>bif okF 0 keep st1 then(∃ l1 hs1,Go.Proofs.YtmdcknlpalfhhaaGreatDoor.forget 0 keep st1=Aq l1 hs1/\BS tf l1=.fn (.yield l) []/\xs i=[(Aq l1 hs1).val x1,(Aq l1 hs1).val x2]/\(xs i).all VV.memA=true /\
   ∀ b,xc P T Sh N (rgL 0) [] (.region id (CF ops (kk+1)) false) (fun _ st3=>bif okF 0 keep2 st3 then K .normal (bif b then some (i+1) else none) (Go.Proofs.YtmdcknlpalfhhaaGreatDoor.forget 0 keep2 st3) else False) (Aq ((d,.sc (.bool b))::l1) hs1)) else False) st) :
  DK P N E J (.region id ops false) K (some i) st :=
 ⟨fun S φ a w hit=>by
  have hend:∀ {st3:St} {S':Nat->Prop} {φ2 φ3:Phi} {a2 a3:Act} {w2 w3:World} {st2:St} {k':Option Nat},KO N E J k' S' st2 φ2 a2 w2->(bif okF 0 keep2 st3 then K .normal k' (Go.Proofs.YtmdcknlpalfhhaaGreatDoor.forget 0 keep2 st3) else False)->Rel N (E.add S') st3 φ3 a3 w3->Ext w2 φ2 w3 φ3->Aab N E J K .normal a3 w3:=by
   intro st3 S' φ2 φ3 a2 a3 w2 w3 st2 k' h0 h1 r e
   have h2:=h0.ext hJ r e
   cases hk:okF 0 keep2 st3 with
   | false=>rw[hk]at h1;exact h1.elim
   | true =>
    rw[hk]at h1
    obtain⟨φ',h5⟩:=h2.forget hJ hk
    exact⟨k',_,S',φ',h1,h5⟩
  refine wpIn_mono (Sm (Q:=Akp (Aab N E J K .normal)) (Y:=fun st1=>bif okF 0 keep st1 then(∃ l1 hs1,Go.Proofs.YtmdcknlpalfhhaaGreatDoor.forget 0 keep st1=Aq l1 hs1/\BS tf l1=.fn (.yield l) []/\xs i=[(Aq l1 hs1).val x1,(Aq l1 hs1).val x2]/\(xs i).all VV.memA=true /\
   ∀ b,xc P T Sh N (rgL 0) [] (.region id (CF ops (kk+1)) false) (fun _ st3=>bif okF 0 keep2 st3 then K .normal (bif b then some (i+1) else none) (Go.Proofs.YtmdcknlpalfhhaaGreatDoor.forget 0 keep2 st3) else False) (Aq ((d,.sc (.bool b))::l1) hs1)) else False) hT Ae6 hpre hng hsuf hdst hoc hop hgd hd h hit.rel ?_) ?_
  ·intro st1 φ1 a1 w1 hy1 hr1 he1
   have h1:=hit.ext hJ hr1 he1
   cases hk:okF 0 keep st1 with
   | false=>rw[hk]at hy1;exact hy1.elim
   | true =>
    rw[hk,Ak4]at hy1
    obtain⟨l1,hs1,e1,e2,e3,e4,hx2⟩:=hy1
    obtain⟨φf,h1f⟩:=h1.forget hJ hk
    rw[e1]at h1f
    have hrf:=h1f.rel
    have hop':∀ x:Operand,V w1 ((E.add S).up φf) (some φf) ((Aq l1 hs1).val x) (a1.eval x):=fun x=>by
     cases x with
     | tmp t=>exact hrf.tm t
     | const v=>exact V.litC v
     | global g=>exact .dead
     | func f=>exact .fn rfl fun j x hx=>by simp at hx
    have hm:∀ x:Operand,((Aq l1 hs1).val x).memA=true->V w1 (E.add (U S (Own φf))) none ((Aq l1 hs1).val x) (a1.eval x):=fun x hx=>V.memA (hop' x) hx fun b hb=>by
     rcases hb with hb | hb | hb
     ·exact .inl (.inl hb)
     ·exact .inl (.inr hb)
     ·exact .inr hb
    rw[e3]at e4
    simp only[AmV,List.all_nil,Bool.and_true,Ak2]at e4
    have hfy:a1.tmps.getD tf undef=.func (.yield l) #[] #[]:=by
     have hv:=hrf.tm tf
     rw[show(Aq l1 hs1).t tf=.fn (.yield l) [] from e2]at hv
     generalize a1.tmps.getD tf undef=v at hv ⊢
     cases hv with
     | fn q1 q2 =>
      have:=Array.eq_empty_of_size_eq_zero (by simpa using q1)
      rw[this]
    have hgd1:Gd E (U S (Own φf)) w1:=⟨hit.sub,fun b hb=>hrf.old.lt b (.inl hb),fun b hb=>hb.elim (fun h=>hrf.old.lt b (.inr h)) fun h=>hrf.hp.lt h,hrf.old.lib.at',hrf.old.lib.lt,fun b hb h=>h.elim (hit.ls b hb) (hrf.old.lib.out b hb)⟩
    have hsay:CS w1 (E.add (U S (Own φf))) none (xs i) #[a1.eval x1,a1.eval x2]:=by
     rw[e3]
     refine⟨rfl,fun j y hj=>?_⟩
     match j,hj with
     | 0,hj=>simp only[Ala,Ak1]at hj;subst hj;exact hm x1 e4.1
     | 1,hj=>simp only[AlN,Ala,Ak1]at hj;subst hj;exact hm x2 e4.2
     | j+2,hj=>simp at hj
    refine⟨l,_,hfy,hY i S (Own φf) w1 #[a1.eval x1,a1.eval x2] hi h1f.j h1f.apart hgd1 hsay,fun e w2 he=>?_⟩
    ·obtain⟨b,S',rfl,hj2,hc2⟩:∃ b S',e=.returned (.bool b)/\J (bif b then some (i+1) else none) S' (Own φf) w2/\Chg w1 S w2 S':=by
      rcases he with⟨rfl,S',h1,h2⟩ | ⟨rfl,S',h1,h2⟩
      ·exact⟨true,S',rfl,h1,h2⟩
      ·exact⟨false,S',rfl,h1,h2⟩
     have key:∀ (A:Nat->Prop) b,b<w1.heap.size->¬ (A b∨S b)->w2.heap[b]?=w1.heap[b]?/\¬ (A b∨S' b):=fun A b hb hn=>⟨hc2.block b hb fun h=>hn (.inr h),fun h=>by
      rcases h with h | h
      ·exact hn (.inl h)
      ·rcases hc2.new b h with h | h
       ·exact hn (.inr h)
       ·omega⟩
     have hr2:=hrf.over (E:=E.add S') (w':=w2) (fun b hb=>hb.imp (hit.sub b) fun h=>h) hc2.size (key _) (key _) (fun b hb=>hb.elim (fun h=>Alr (hrf.old.lt b (.inl h)) hc2.size) fun h=>hc2.lt b h) (.nil (Als hrf.df.2.1 hc2.size)) fun b hb=>hc2.block b (hrf.old.lib.lt b hb) (hit.ls b hb)
     have hdl:d<a1.tmps.size:=by rw[hrf.sz];exact hdst kk oc d hoc hd
     have hr3:Rel N (E.add S') (Aq ((d,.sc (.bool b))::l1) hs1) φf (a1.put (some d) (.bool b)) w2:=by
      refine⟨by simpa[Act.put] using hrf.sz,⟨hrf.df.1,hr2.df.2⟩,hr2.old,fun t=>?_,hr2.hp,hr2.fr,hr2.lv⟩
      show V w2 _ _ (BS t ((d,.sc (.bool b))::l1)) _
      rw[Mi a1 _ _ t fun k hk=>by obtain rfl:=Ali hk;exact hdl,Acu]
      by_cases ht:t=d
      ·subst ht
       rw[Ami,Ak4,Alw rfl]
       exact .sc
      ·have hb:Nat.beq t d=false:=by
        cases hq:Nat.beq t d with
        | true=>exact absurd (Ak7 hq) ht
        | false=>rfl
       rw[hb,Ak0,Alg fun h=>ht (Ali h).symm]
       exact hr2.tm t
     have h3:KO N E J (bif b then some (i+1) else none) S' (Aq ((d,.sc (.bool b))::l1) hs1) φf (a1.put (some d) (.bool b)) w2:=⟨hr3,hj2,fun c hc h=>(hc2.new c h).elim (hit.ls c hc) fun h=>by have:=hrf.old.lib.lt c hc;omega,hit.sub⟩
     exact⟨.bool b,E.add S',_,φf,fun st3=>bif okF 0 keep2 st3 then K .normal (bif b then some (i+1) else none) (Go.Proofs.YtmdcknlpalfhhaaGreatDoor.forget 0 keep2 st3) else False,rfl,hr3,hx2 b,fun st3 φ3 a3 w3 hst3 r e=>⟨rfl,hend h3 hst3 r e⟩⟩
  ·rintro e a' w' ⟨rfl,h⟩
   exact h⟩
theorem Ahj {gf:FuncId}{fn:Func}{c:Code}(hf:P.funcs[gf]?=some fn)(hb:fn.body=some c)(hres:fn.results=#[]){hi:List Ob}{caps:List VV}{n:Nat}{xs:Nat->List VV}(hN:caps.length+1<=fn.ntmps)
  (h:∀ (l:Nat) (E:AF) (J:JT),Hs J->(∀ k S T w1 vs,k<n->J (some k) S T w1->(∀ b,S b->¬ T b)->Gd E (U S T) w1->CS w1 (E.add (U S T)) none (xs k) vs->YieldAt Fence.wide 0 P l vs w1 fun e w2 =>
    (e=.returned (.bool true)/\∃ S',J (some (k+1)) S' T w2/\Chg w1 S w2 S')∨(e=.returned (.bool false)/\∃ S',J none S' T w2/\Chg w1 S w2 S')) ->
   DK P fn.ntmps E J c (fun e k _=>(e=.normal∨e=.ret)/\(k=some n∨k=none)) (some 0) (St.init hi (.fn (.yield l) []::caps))):NI P gf hi caps n xs:=by
 intro E S φ w lb l gd hdis hH hφ hcaps J R h0 hst hstR hY
 obtain⟨JJ,hJJ⟩:∃ JJ:JT,JJ=fun k=>match k with
  | some k=>J k
  | none=>R:=⟨_,rfl⟩
 have hs:Hs JJ:=by
  subst hJJ
  intro k S T T' w1 w2
  cases k with
  | none=>exact hstR S T T' w1 w2
  | some k=>exact hst k S T T' w1 w2
 refine callsIn_of_wp hf hb trivial (wpIn_mono ((h l E JJ hs (by subst hJJ;exact hY)).h S φ _ w ⟨?_,by subst hJJ;exact h0,fun b hb hS=>gd.out b hb (.inl hS),gd.sub⟩) ?_) rfl
 ·have hsz:(#[Value.func (Fn.yield l) #[] #[]]++lb).size=(VV.fn (.yield l) []::caps).length:=by simp[hcaps.1];omega
  refine⟨?_,⟨rfl,.nil (Alc _)⟩,⟨fun k hk=>hk.elim (gd.ez k) fun h=>gd.sz k (.inl h),gd.lib,gd.lt,fun k hk h=>gd.out k hk (.inr h)⟩,fun t=>?_,hH,fun id hid=>?_,fun id hid=>(hφ id).2 hid⟩
  ·simp only[Array.size_append,AmO,hsz]
   simp only[AlE]
   omega
  ·show V w _ _ ((VV.fn (.yield l) []::caps).getD t .dead) _
   cases t with
   | zero =>
    have e:(#[Value.func (Fn.yield l) #[] #[]]++lb++Array.replicate (fn.ntmps - (#[Value.func (Fn.yield l) #[] #[]]++lb).size) undef).getD 0 undef=.func (.yield l) #[] #[]:=by simp[Array.getElem?_append]
    rw[e]
    exact .fn rfl fun j x hx=>by simp at hx
   | succ t =>
    rw[List.getD_cons_succ]
    cases hq:caps[t]? with
    | none=>rw[Alf,hq];exact .dead
    | some x =>
     have ht:t<lb.size:=by rw[hcaps.1];exact(Ak3.1 hq).1
     rw[Alf,hq]
     have:=hcaps.2 t x hq
     have e:(#[Value.func (Fn.yield l) #[] #[]]++lb++Array.replicate (fn.ntmps - (#[Value.func (Fn.yield l) #[] #[]]++lb).size) undef).getD (t+1) undef=lb.getD t undef:=by
      simp[Array.getElem?_append,ht]
     rw[e]
     exact this
  ·have hid':hi.length<=id:=hid
   exact Alt fun hn=>by have:=(hφ id).1 hn;omega
 ·rintro e a' w' ⟨k,st,S',φ',⟨he,hk⟩,hat⟩
  have hgd':Gd E (U S' (Own φ')) w':=⟨hat.sub,fun b hb=>hat.rel.old.lt b (.inl hb),fun b hb=>hb.elim (fun h=>hat.rel.old.lt b (.inr h)) fun h=>hat.rel.hp.lt h,hat.rel.old.lib.at',hat.rel.old.lib.lt,fun b hb h=>h.elim (hat.ls b hb) (hat.rel.old.lib.out b hb)⟩
  have hfin:(∃ v:Value,Ending.returned (.tuple #[])=.returned v)/\((∃ S' T',J n S' T' w'/\(∀ b,S' b->¬ T' b)/\Gd E (U S' T') w')∨∃ S' T',R S' T' w'):=by
   refine⟨⟨_,rfl⟩,?_⟩
   have hj:=hat.j
   subst hJJ
   rcases hk with rfl | rfl
   ·exact .inl ⟨S',_,hj,hat.apart,hgd'⟩
   ·exact .inr ⟨S',_,hj⟩
  have hr:(results fn a'.tmps).run P w'=.ok (.tuple #[]) w':=by
   simp[results,hres]
  rcases he with rfl | rfl
  ·exact⟨hat.rel.df.1,_,hr,hfin⟩
  ·exact⟨hat.rel.df.1,_,hr,hfin⟩
end
def hdC : Nat->Code->Code
 | 0,.seq x _=>x
 | n+1,.seq x y=>.seq x (hdC n y)
 | _,c=>c
def tlC : Nat->Code->Code
 | 0,.seq _ y=>y
 | n+1,.seq _ y=>tlC n y
 | _,_=>.skip
def Ajg : Nat->Code->Bool
 | 0,.seq _ _=>true
 | n+1,.seq _ y=>Ajg n y
 | _,_=>false
def Akm (k:Nat):Code->Code
 | .region id ops _=>.region id (CW ops k) false
 | _=>.skip
def AjP (k:Nat):Code->Code
 | .region id ops _=>.region id (CF ops (k+1)) false
 | _=>.skip
def kfI (keep:List Nat)(K:Exit->St->Prop):Exit->St->Prop:=fun e st=>bif okF 0 keep st then K e (forget 0 keep st) else False
def Ctx.piece (c:Ctx)(code:Code)(keep:List Nat)(K:Exit->St->Prop):Ctx:={ c with L:=rgL 0,code:=code,p0:=[],K0:=kfI keep K }
section
variable {c : Ctx} {E:AF} {J:JT} {K:Exit->Option Nat->St->Prop} {k:Option Nat} {st:St}
theorem PN {P:Program}{T:TypeId->TE}{Sh:Shs}{N:Nat}(hJ:Hs J)(hT:TOk P T)(hmx:P.follows .mixedOrders=true)(keep:List Nat):∀ (n:Nat) {code:Code} {p:List Nat} {st:St},Ajg n code=true->Jy N (hdC n code)=true->xc P T Sh N (rgL 0) p (hdC n code) (kfI keep fun e st'=>Abw K (fun k st=>DK P N E J (tlC n code) K k st) e k st') st->DK P N E J code K k st
 | 0,.seq x y,p,st,_,hB,h=>Ma (Zj (p:=p) hJ hT hmx hB keep h)
 | n+1,.seq x y,p,st,hl,hB,h=>by
  simp only[hdC,Jy,Ak2]at hB
  simp only[hdC,xc]at h
  refine⟨fun S φ a w hi=>wpIn_seq (wpIn_mono (NN (ro:=none) (L:=rgL 0) hT hmx (fun _=>rfl) x hB.1 _ _ _ h _ _ _ _ hi.rel) ?_)⟩
  rintro e a' w' ⟨st',φ',h1,h2,h3⟩
  have h4:=hi.ext hJ h2 h3
  have hk:∀ e,e≠.normal->kfI keep (fun e st'=>Abw K (fun k st=>DK P N E J (tlC n y) K k st) e k st') e st'->Aab N E J K e a' w':=by
   intro e he h5
   unfold kfI at h5
   cases hq:okF 0 keep st' with
   | false=>rw[hq]at h5;exact h5.elim
   | true =>
    rw[hq]at h5
    obtain⟨φ'',h6⟩:=h4.forget hJ hq
    refine⟨k,_,S,φ'',?_,h6⟩
    cases e with
    | normal=>exact(he rfl).elim
    | _=>exact h5
  cases e with
  | normal =>
   have h1':xc P T Sh N (rgL 0) (1::p) (hdC n y) (kfI keep fun e st'=>Abw K (fun k st=>DK P N E J (tlC n y) K k st) e k st') st':=h1
   exact(PN hJ hT hmx keep n hl hB.2 h1').h S φ' a' w' h4
  | _=>exact hk _ (by simp) h1
theorem H8 (hJ:Hs J)(hT:TOk c.P c.T)(hmx:c.P.follows .mixedOrders=true)(keep:List Nat)(n:Nat){code:Code}(hl:Ajg n code=true)(hB:Jy c.N (hdC n code)=true)(h:(c.piece (hdC n code) keep fun e st'=>Abw K (fun k st=>DK c.P c.N E J (tlC n code) K k st) e k st').goal st):DK c.P c.N E J code K k st :=
 PN hJ hT hmx keep n hl hB h
theorem PM (hJ:Hs J)(hT:TOk c.P c.T)(hmx:c.P.follows .mixedOrders=true){code:Code}(hB:Jy c.N code=true)(keep:List Nat)(h:(c.piece code keep fun e st'=>K e k st').goal st):DK c.P c.N E J code K k st:=Zj hJ hT hmx hB keep h
end
def Aj8 : Shp:={ α:=D.Loc × Bool,enc:=fun y=>([],.tup [.agg (AY y.1),Ac y.2]) }
def Aj4 : Shp:={ α:=Nx,enc:=fun y=>([],.agg (BH y)) }
def Aiz : Shp:={ α:=List Nx × Int,enc:=fun y=>([],.tup [AR true y.1,Aa y.2]) }
def AiC : Shp:={ α:=List Gn,enc:=fun y=>([],Bw true y) }
def Ah1 : Shp:={ α:=Mv,enc:=fun y=>([],.agg (CJ y)) }
def AjU : Shp:={ α:=Wc,enc:=fun y=>([],.agg (Eb y)) }
def Aiv : Shp:={ α:=List Wc,enc:=fun y=>([],Cj true y) }
def AjX : Shp:={ α:=D.State × Int,enc:=fun y=>([],.tup [.agg (Ae y.1),Aa y.2]) }
def AjY : Shp:={ α:=Rn × Int,enc:=fun y=>([],.tup [.agg (Ajw y.1),Aa y.2]) }
def Aj9 : Shp:={ α:=D.Model × D.State,enc:=fun y=>([.box (Ag y.1),.box (Ae y.2)],.fn (.func 55) [.bp 0 0,.bp 1 0]) }
def Aj6 : Shp:={ α:=D.Model × D.State × List Int,enc:=fun y=>([.box [Ad true y.2.2],.box (Ag y.1),.box (Ae y.2.1)],.fn (.func 26) [.bp 0 0,.bp 1 0,.bp 2 0]) }
def BA (f:FuncId):Shp :=
 bif Nat.beq f 59 then Aj8
 else bif Nat.beq f 39 then Aj9
 else bif Nat.beq f 12 then Aj6
 else bif Nat.beq f 58||Nat.beq f 57 then Ah3
 else bif Nat.beq f 40 then Aj4
 else bif Nat.beq f 79||Nat.beq f 56 then AiC
 else bif Nat.beq f 27||Nat.beq f 13 then Aiz
 else bif Nat.beq f 28 then Ah1
 else bif Nat.beq f 42 then AjU
 else bif Nat.beq f 29 then Aiv
 else bif Nat.beq f 14 then Ah0
 else bif Nat.beq f 11 then AjX
 else bif Nat.beq f 6 then AjY
 else bif Nat.beq f 7||Nat.beq f 5 then AgE
 else Abr f
def F5 : Ann:={ keep:=fun
  | [0,1,0,1,1,1]=>[1,2,4,18,19,20]
  | [0,1,0,1,1,1,1]=>[1,2,4,33,34,35]
  | [0,1,1,0,0,1,1,0,0,1,0,1,1,1,1]=>[1,2,4,7,8,33,34,35,41,42]
  | _=>[] }
def ML : Ann:={ keep:=fun
  | [0,1,1,1]=>[2,3,4,6,9,10]
  | [0,1,0,1,1,1,1,1,1,0,0,0,0,1,1,1]=>[2,3,4,6,9,10,13,16,52,53,54]
  | _=>[] }
def J0 : Ann:={ keep:=fun
  | [0,1,0,1,1,1,1,1,1]=>[2,4,5,6,7,60,61,62]
  | _=>[] }
def QH : Ann:={ keep:=fun
  | [0,1,0,1,1]=>[1,3,11,12]
  | _=>[] }
def J5 : Ann:={ keep:=fun
  | [0,1,0,1,1,1]=>[1,3,4,12,13,14]
  | [0,1,0,1,1,1,1,1]=>[1,4,7,39,40,41]
  | _=>[] }
def It : Ann:={ keep:=fun
  | [0,1,0,1,1,1,1,1,1]=>[7,8,9,10,38,39,40]
  | [0,1,0,1,1,1,1,1,1,1]=>[8,9,58,59,60]
  | _=>[] }
def EE : Ann:={ keep:=fun
  | [0,1,0,1,1,1,1,1]=>[2,3,6,8,37,38,39]
  | [0,1,1,1,1,0,0,1,1,0,0,1,0,1,1,1,1,1]=>[2,3,6,8,9,37,38,39,58,59,60]
  | _=>[] }
def Nz : Ann:={ keep:=fun
  | [0,1,0,1,1]=>[0,1,5]
  | _=>[] }
def yV (l:Nat):VV:=.fn (.yield l) []
def PE (l:Nat)(L:List Gn)(i:Int):St:=Aq [(0,yV l),(30,Bw true L),(31,Aa L.length),(32,Aa i)] []
def Ux (l:Nat)(L:List Gn)(i:Int)(g:Gn)(j:Int):St:=Aq [(0,yV l),(30,Bw true L),(31,Aa L.length),(32,Aa i),(8,.bp 0 0),(37,A5 true g.2),(38,Aa g.2.length),(39,Aa j)] [.box (EC g)]
def AjR (l:Nat)(L:List Gn)(i:Int)(g:Gn)(j:Int)(w:Wy):St:=Aq [(0,yV l),(30,Bw true L),(31,Aa L.length),(32,Aa i),(8,.bp 0 0),(37,A5 true g.2),(38,Aa g.2.length),(39,Aa j),(10,.bp 1 0)] [.box (EC g),.box (AZ w)]
def lEy (l:Nat)(L:List Gn)(i:Int)(g:Gn)(j:Int)(w:Wy):List (Nat × VV):=[(0,yV l),(30,Bw true L),(31,Aa L.length),(32,Aa i),(8,.bp 0 0),(37,A5 true g.2),(38,Aa g.2.length),(39,Aa j),(43,yV l),(45,.agg (Af g.1)),(46,.agg (AZ w))]
def N6 : Ob:=.box [.nl,.nl,.nl,Aa 0,Aa 0,Aa 0]
def AfU (g:List Int)(nc np:VV):Ob:=.box [Ad true g,nc,np,Aa 0,Aa (-1),Aa (-1)]
def Zd (m:D.Model)(l:List D.Chan)(k:Int):St:=Aq [(1,.bp 0 0),(2,.bp 1 0),(4,.bp 2 0),(18,Ad true m.Chans),(19,Aa m.Chans.length),(20,Aa k)] [.box (Ag m),N6,AfU m.Init (.ow 3 0 l.length) .nl,.arr true 0 l.length 2 (CQ l)]
def Zc (m:D.Model)(cs:List D.Chan)(ps:List D.Process)(k:Int):St:=Aq [(1,.bp 0 0),(2,.bp 1 0),(4,.bp 2 0),(33,A4 true m.Procs),(34,Aa m.Procs.length),(35,Aa k)] [.box (Ag m),N6,AfU m.Init (.ow 3 0 cs.length) (.ow 4 0 ps.length),.arr true 0 cs.length 2 (CQ cs),.arr true 0 ps.length 4 (Ft ps)]
def Ru (m:D.Model)(cs:List D.Chan)(ps:List D.Process)(k:Int)(p:D.Proc)(many j:Int):St:=Aq [(1,.bp 0 0),(2,.bp 1 0),(4,.bp 2 0),(7,Aa k),(8,.bp 5 0),(33,A4 true m.Procs),(34,Aa m.Procs.length),(35,Aa k),(41,Aa many),(42,Aa j)] [.box (Ag m),N6,AfU m.Init (.ow 3 0 cs.length) (.ow 4 0 ps.length),.arr true 0 cs.length 2 (CQ cs),.arr true 0 ps.length 4 (Ft ps),.box (Bc p)]
def Abd (m:D.Model)(s:D.State)(pid:Int)(t:ByteArray)(n:Int):St:=Aq [(2,Aa pid),(3,.bp 0 0),(4,.bp 1 0),(6,.bp 2 0),(9,AD t),(10,Aa n)] [.box (Ag m),.box (Ae s),N6]
def Y9 (m:D.Model)(s:D.State)(pid:Int)(t:ByteArray)(n:Int)(e:D.Env)(ws:List Wy)(i:Int):St:=Aq [(2,Aa pid),(3,.bp 0 0),(4,.bp 1 0),(6,.bp 2 0),(9,AD t),(10,Aa n),(13,.bp 3 0),(16,Ac false),(52,A5 true ws),(53,Aa ws.length),(54,Aa i)] [.box (Ag m),.box (Ae s),N6,.box (Af e)]
def Akw (e:D.Env)(w:Wy):List VV:=[Aa e.Pid,Aa w.Esc,Aa w.Way,Aa w.With,Aa w.WithEsc,Aa w.WithWay,Aa (-1),.nl,.nl,.nl,Aa 0,Aa 0,Aa 0,Aa 0,AD ByteArray.empty]
def Akv : List VV:=[Aa 0,Aa 0,Aa 0,Aa 0,Aa 0,Aa 0,Aa 0,.nl,.nl,.nl,Aa 0,Aa 0,Aa 0,Aa 0,AD ByteArray.empty]
def MV (e:D.Env)(w:Wy)(s:D.State)(t:ByteArray)(i:Int):St:=Aq [(2,.bp 0 0),(4,.bp 1 0),(5,.bp 2 0),(6,.bp 3 0),(7,AD t),(60,.ow 4 0 2),(61,Aa 2),(62,Aa i)] [.box (Af e),.box Akv,.box (Akw e w),.box (Ae s),.arr true 0 2 1 (AM [e.Pid,w.With])]
def Uy (e:D.Env)(l:List Gn)(i:Int):St:=Aq [(1,.bp 0 0),(3,.ow 1 0 l.length),(11,Aa e.S.Procs.length),(12,Aa i)] [.box (Af e),.arr true 0 l.length 17 (IL l)]
def Zb (e:D.Env)(L:List Gn)(most i:Int):St:=Aq [(1,.bp 0 0),(3,Bw true L),(4,Aa most),(12,Bw true L),(13,Aa L.length),(14,Aa i)] [.box (Af e)]
def Uw (e:D.Env)(L out:List Gn)(most i:Int):St:=Aq [(1,.bp 0 0),(4,Aa most),(7,.ow 1 0 out.length),(39,Bw true L),(40,Aa L.length),(41,Aa i)] [.box (Af e),.arr true 0 out.length 17 (IL out)]
def Agx (e:D.Env)(out:List Wc)(some:Bool)(l:List D.Trans)(i:Int):St:=Aq [(7,.bp 0 0),(8,.ow 1 0 out.length),(9,Ac some),(10,As true l),(38,As true l),(39,Aa l.length),(40,Aa i)] [.box (Af e),.arr true 0 out.length 2 (Jx out)]
def Agw (out:List Wc)(some:Bool)(l:List D.Trans)(i:Int):St:=Aq [(8,.ow 0 0 out.length),(9,Ac some),(58,As true l),(59,Aa l.length),(60,Aa i)] [.arr true 0 out.length 2 (Jx out)]
def Abf (m:D.Model)(s:D.State)(L:List Nx)(ws:List Wc)(out:List Nx)(c:Int):St:=Aq [(2,.bp 0 0),(3,.bp 1 0),(6,AR true L),(8,.ow 2 0 out.length),(37,Cj true ws),(38,Aa ws.length),(39,Aa c)] [.box (Ag m),.box (Ae s),.arr true 0 out.length 15 (CP out)]
def Ad3 (m:D.Model)(s:D.State)(L:List Nx)(ws:List Wc)(out:List Nx)(c k:Int):St:=Aq [(2,.bp 0 0),(3,.bp 1 0),(6,AR true L),(8,.ow 2 0 out.length),(9,Aa c),(37,Cj true ws),(38,Aa ws.length),(39,Aa c),(58,AR true L),(59,Aa L.length),(60,Aa k)] [.box (Ag m),.box (Ae s),.arr true 0 out.length 15 (CP out)]
def Agt (a b:List Mv)(i:Int):St:=Aq [(0,BU true a),(1,BU true b),(5,Aa i)] []
def E8 : Ann:={ cut:=(fun | [1,0,1,1,1]=>true | _=>false),keep:=fun
  | [1,0,1,1,1]=>[7,18]
  | _=>[] }
structure Fd where
 Kind:Int
 What:Int
 Err:Int
 At:Int
 Trail:List Mv
 Cycle:Int
 States:Int
 Steps:Int
def Co (f:Fd):List VV:=[Aa f.Kind,Aa f.What,Aa f.Err,Aa f.At,BU true f.Trail,Aa f.Cycle,Aa f.States,Aa f.Steps]
def Nl (l:List ByteArray):VV:=.sl true l.length 1 fun i=>[AD (l.getD i default)]
def Aiw : Shp:={ α:=List D.State × Int × Int,enc:=fun y=>([],.tup [CE true y.1,Aa y.2.1,Aa y.2.2]) }
def AjZ : Shp:={ α:=ByteArray × Int,enc:=fun y=>([],.tup [AD y.1,Aa y.2]) }
def Aj3 : Shp:={ α:=Fd × Int × Int,enc:=fun y=>([],.tup [.agg (Co y.1),Aa y.2.1,Aa y.2.2]) }
def Aj5 : Shp:={ α:=List Int × Bool,enc:=fun y=>([],.tup [Ad true y.1,Ac y.2]) }
def Aj2 : Shp:={ α:=Int × Bool,enc:=fun y=>([],.tup [Aa y.1,.er y.2]) }
def AjW : Shp:={ α:=List ByteArray,enc:=fun y=>([],Nl y) }
def Dn (f:FuncId):Shp :=
 bif Nat.beq f 9 then Aiw
 else bif Nat.beq f 19||Nat.beq f 34 then Abo
 else bif Nat.beq f 15 then AjZ
 else bif Nat.beq f 16 then Aj3
 else bif Nat.beq f 35 then Aj5
 else bif Nat.beq f 47 then Aj2
 else bif Nat.beq f 46 then AjW
 else bif Nat.beq f 32||Nat.beq f 44||Nat.beq f 48 then AhZ
 else bif Nat.beq f 18 then Ah1
 else bif Nat.beq f 8||Nat.beq f 20||Nat.beq f 10||Nat.beq f 22||Nat.beq f 21||Nat.beq f 17 then AgE
 else BA f
def NF : Ann:={ keep:=fun
  | [0,1,0,1]=>[0,1,7,8]
  | _=>[] }
def ND : Ann:={ keep:=fun
  | [0,1,0,1,1,1,1,1,1]=>[7,8,11,14]
  | _=>[] }
def KM : Ann:={ keep:=fun
  | [0,1,0,1]=>[0,7,8,9]
  | _=>[] }
def Nv : Ann:={ keep:=fun
  | [0,1,0,1,1,1,1]=>[9,29,30,31]
  | _=>[] }
def NC : Ann:={ keep:=fun
  | [0,1,0,1,1]=>[0,1,5]
  | _=>[] }
def I2 : Ann:={ keep:=fun
  | [0,1,0,1,1]=>[2,3,5]
  | _=>[] }
def Iq : Ann:={ keep:=fun
  | [0,1,0,1,1,1]=>[2,3,6]
  | [0,1,0,1,1,1,1]=>[2,3,7]
  | _=>[] }
def Ad1 (m:D.Model)(s:D.State)(l:List Mv)(out:List D.State)(i:Int):St:=Aq [(2,.bp 0 0),(7,.bp 1 0),(9,.ow 2 0 out.length),(25,BU true l),(26,Aa l.length),(27,Aa i)] [.box (Ag m),.box (Ae s),.arr true 0 out.length 6 (Lf out)]
def Agv (v:Mv)(l:List Nx)(i:Int):St:=Aq [(0,AR true l),(1,.fn (.func 20) [.tp (CJ v)]),(7,Aa l.length),(8,Aa i)] []
def Ad2 (y:Bool)(a b:List D.State)(i:Int):St:=Aq [(7,Ac y),(8,CE true a),(11,CE true b),(14,Aa i)] []
def Agu (m:D.Model)(s:D.State)(l:List Mv)(out:List D.State)(i:Int)(v:Mv)(L:List Nx):St:=Aq [(2,.bp 0 0),(7,.bp 1 0),(9,.ow 2 0 out.length),(10,Aa i),(11,.bp 3 0),(12,AR true L),(25,BU true l),(26,Aa l.length),(27,Aa i)] [.box (Ag m),.box (Ae s),.arr true 0 out.length 6 (Lf out),.box (CJ v)]
def SN (w:ByteArray)(l:List Int)(k:Int):St:=Aq [(0,AD w),(7,Ad false l),(8,Aa l.length),(9,Aa k)] []
def SL (out:List Int)(l:List ByteArray)(k:Int):St:=Aq [(9,.ow 0 0 out.length),(29,Nl l),(30,Aa l.length),(31,Aa k)] [.arr true 0 out.length 1 (AM out)]
def Ahi : List VV:=[Aa 0,Aa 0,Aa 0,Aa 0,.nl,Aa 0,Aa 0,Aa 0]
def AkV (f:Fd):Ob:=.box [Aa f.Kind,Aa f.What,Aa f.Err,Aa f.At,.nl,Aa f.Cycle,Aa f.States,Aa f.Steps]
def AjQ (s:ByteArray)(f:Fd)(i:Int)(first due:Bool):St:=Aq [(0,AD s),(2,.bp 0 0),(5,.bp 1 0),(6,Aa i),(7,Ac first),(8,Ac due)] [.box Ahi,AkV f]
def NB : Ann:={ keep:=fun _=>[0,2,5,6,7,8] }
def LG : Ann:={ cut:=(fun | [1,1,1,0,0,1,1,0,0,1,0,1,1,1,1]=>true | _=>false),keep:=fun
  | [0,1,0,1,1,1,1]=>[2,7,9,25,26,27]
  | [1,1,1,0,0,1,1,0,0,1,0,1,1,1,1]=>[2,7,9,10,11,12,25,26,27]
  | _=>[] }
def Oy (x:List Int)(k:Int):St:=Aq [(0,Ad true x),(1,Ad true x),(5,Aa k)] []
def Ot (x:D.Chan)(k:Int):St:=Aq [(2,.bp 0 0),(3,.bp 1 0),(5,Aa k)] [.box (AB x),.box (AB x)]
def Ov (x:D.State)(k:Int):St:=Aq [(2,.bp 0 0),(3,.bp 1 0),(6,Aa k)] [.box (Ae x),.box (Ae x)]
def Ou (x:D.State)(k:Int):St:=Aq [(2,.bp 0 0),(3,.bp 1 0),(7,Aa k)] [.box (Ae x),.box (Ae x)]
set_option maxRecDepth 100000
theorem WP (r:Mv) :(fc Dn AT Tryz.f18 [] (.agg (CJ r))).goal (St.init [] []) =
  (LQ (VV.agg [Aa (-1),Aa (-1),Aa (-1),Aa (-1),Aa (-1),Aa (-1),Aa (-1)]) (VV.agg (CJ r))):=by kernel_rfl
theorem AaY (r:Bool)(v:Mv)(n:Nx):(fc Dn AT Tryz.f20 [] (Ac r)).goal (St.init [] [.agg (BH n),.tp (CJ v)]) =
  (LQ (Ac (n.Move.Pid==v.Pid&&(n.Move.Esc==v.Esc&&(n.Move.Way==v.Way&&(n.Move.With==v.With&&(n.Move.WithEsc==v.WithEsc&&(n.Move.WithWay==v.WithWay&&(n.Move.Claim==v.Claim&&true)))))))) (Ac r)):=by kernel_rfl
theorem AcF (r:Int)(v:Mv)(l:List Nx):(fc Dn NF Tryz.f19 [] (Aa r)).goal (St.init [] [AR true l,.fn (.func 20) [.tp (CJ v)]]) =
  (AA (fc Dn NF Tryz.f19 [] (Aa r)) [1,0,1,0] (Agv v l (0:Int))):=by kernel_rfl
theorem Acr (b:Bool) :(fc Dn AT Tryz.f8 [] (Ac b)).goal (St.init [] []) =
  (∃ (y:ByteArray × Int),VC 15 [VV.agg [Aa 1,Aa 0,Aa 0,Aa 0,VV.nl,Aa (-1),Aa 9,Aa 12]] (VV.tup [AD y.fst,Aa y.snd])/\∃ (y_1:Fd × Int × Int),VC 16 [AD y.fst] (VV.tup [VV.agg (Co y_1.fst),Aa y_1.snd.fst,Aa y_1.snd.snd])/\∃ (y_2:Fd × Int × Int),VC 16 [AD (⟨#[]⟩:ByteArray)] (VV.tup [VV.agg (Co y_2.fst),Aa y_2.snd.fst,Aa y_2.snd.snd])/\∃ (y_3:Fd × Int × Int),VC 16 [AD (⟨#[(102:UInt8),(111:UInt8),(117:UInt8),(110:UInt8),(100:UInt8),(32:UInt8),(49:UInt8),(32:UInt8),(48:UInt8),(32:UInt8),(48:UInt8),(32:UInt8),(48:UInt8),(32:UInt8),(57:UInt8),(32:UInt8),(49:UInt8),(50:UInt8)]⟩:ByteArray)] (VV.tup [VV.agg (Co y_3.fst),Aa y_3.snd.fst,Aa y_3.snd.snd])/\∃ (y_4:Bool),VC 17 [VV.agg (Co y_1.fst),VV.agg [Aa 1,Aa 0,Aa 0,Aa 0,VV.nl,Aa (-1),Aa 9,Aa 12]] (Ac y_4)/\LQ (Ac (bif bif bif bif bif bif bif bif y.snd==0 then y.fst.toList==(⟨#[(102:UInt8),(111:UInt8),(117:UInt8),(110:UInt8),(100:UInt8),(32:UInt8),(49:UInt8),(32:UInt8),(48:UInt8),(32:UInt8),(48:UInt8),(32:UInt8),(48:UInt8),(32:UInt8),(57:UInt8),(32:UInt8),(49:UInt8),(50:UInt8),(10:UInt8)]⟩:ByteArray).toList else false then y_1.snd.fst==0 else false then y_1.snd.snd==0 else false then y_4 else false then y_2.snd.fst==43 else false then y_2.snd.snd==0 else false then y_3.snd.fst==43 else false then y_3.snd.snd==0 else false)) (Ac b)):=by kernel_rfl
theorem Acz (b:Bool)(m:D.Model)(l:List Mv)(n:Int):(fc Dn ND Tryz.f4 [] (Ac b)).goal (St.init [] [.agg (Ag m),BU true l,Aa n]) =
  (∃ (y:Bool),VC 8 [] (Ac y)/\∃ (y_1:List D.State × Int × Int),VC 9 [VV.agg (Ag m),BU true l] (VV.tup [CE true y_1.fst,Aa y_1.snd.fst,Aa y_1.snd.snd])/\BB (bif bif y_1.snd.fst != 0 then true else decide (n<0) then true else decide (n > (↑l.length:Int))) (LQ (Ac y) (Ac b)) (((0:Int)<=(0:Int)/\(0:Int)<=n/\n<=(↑l.length:Int))/\∃ (y_2:List D.State × Int × Int),VC 9 [VV.agg (Ag m),VV.sl true (n - (0:Int)).toNat 7 fun(i:Nat)=>AiR l (Int.toNat (0:Int)+i)] (VV.tup [CE true y_2.fst,Aa y_2.snd.fst,Aa y_2.snd.snd])/\BB (bif bif bif y_2.snd.fst != 0 then true else y_2.snd.snd != 0 then true else(↑y_1.fst.length:Int) != IntKind.i64.wrap ((↑l.length:Int)+(1:Int)) then true else(↑y_2.fst.length:Int) != IntKind.i64.wrap (n+(1:Int))) (LQ (Ac false) (Ac b)) (AA (fc Dn ND Tryz.f4 [] (Ac b)) [1,1,1,1,1,1,0,1,0] (Ad2 y y_1.fst y_2.fst (0:Int))))):=by kernel_rfl
theorem Aa0 (r:ByteArray)(w:ByteArray)(l:List Int):(fc Dn KM Tryz.f32 [] (AD r)).goal (St.init [] [AD w,Ad false l]) =
  (AA (fc Dn KM Tryz.f32 [] (AD r)) [1,0,1,0] (SN w l (0:Int))):=by kernel_rfl
theorem AaZ (r:List Int)(b:Bool)(s word:ByteArray)(many:Int):(fc Dn Nv Tryz.f35 [] (.tup [Ad true r,Ac b])).goal (St.init [] [AD s,AD word,Aa many]) =
  (∃ (y:List ByteArray),VC 46 [AD s,AD (⟨#[(32:UInt8)]⟩:ByteArray)] (Nl y)/\inX (0:Int) y.length/\BB (bif !(y.getD (Int.toNat (0:Int)) default).toList==word.toList then true else(↑y.length:Int) != IntKind.i64.wrap (many+(1:Int))) (LQ (VV.tup [VV.nl,Ac false]) (VV.tup [Ad true r,Ac b])) (((0:Int)<=(1:Int)/\(1:Int)<=(↑y.length:Int)/\(↑y.length:Int)<=(↑y.length:Int))/\AA (fc Dn Nv Tryz.f35 [] (VV.tup [Ad true r,Ac b])) [1,1,1,1,0,1,0] (Aq [(9,VV.nl),(29,VV.sl true ((↑y.length:Int) - (1:Int)).toNat 1 fun(i:Nat)=>(fun(i:Nat)=>[AD (y.getD i default)]) (Int.toNat (1:Int)+i)),(30,Aa (↑((↑y.length:Int) - (1:Int)).toNat:Int)),(31,Aa 0)] []))):=by kernel_rfl
theorem AbF (b:Bool)(x y:Fd):(fc Dn AT Tryz.f17 [] (Ac b)).goal (St.init [] [.agg (Co x),.agg (Co y)]) =
  (∃ (y_1:Bool),VC 7 [BU true x.Trail,BU true y.Trail] (Ac y_1)/\LQ (Ac (bif bif bif bif bif bif bif y_1 then x.Kind==y.Kind else false then x.What==y.What else false then x.Err==y.Err else false then x.At==y.At else false then x.Cycle==y.Cycle else false then x.States==y.States else false then x.Steps==y.Steps else false)) (Ac b)):=by kernel_rfl
theorem Acg (b:Bool)(x:List Int):(fc Dn NC Tryz.f21 [] (Ac b)).goal (St.init [] [Ad true x,Ad true x]) =
  (BB ((↑x.length:Int) != (↑x.length:Int)) (LQ (Ac false) (Ac b)) (AA (fc Dn NC Tryz.f21 [] (Ac b)) [1,1,0,1,0] (Oy x (0:Int)))):=by kernel_rfl
theorem SR (b:Bool)(x:D.Chan):(fc Dn I2 Tryz.f22 [] (Ac b)).goal (St.init [] [.agg (AB x),.agg (AB x)]) =
  (BB (bif x.Shape != x.Shape then true else(↑x.Queue.length:Int) != (↑x.Queue.length:Int)) (LQ (Ac false) (Ac b)) (AA (fc Dn I2 Tryz.f22 [] (Ac b)) [1,1,0,1,0] (Ot x (0:Int)))):=by kernel_rfl
theorem AbM (b:Bool)(x:D.State):(fc Dn Iq Tryz.f10 [] (Ac b)).goal (St.init [] [.agg (Ae x),.agg (Ae x)]) =
  (∃ (y:Bool),VC 21 [Ad true x.Globals,Ad true x.Globals] (Ac y)/\BB (bif bif bif bif bif !y then true else x.Last != x.Last then true else x.Alone != x.Alone then true else x.Claim != x.Claim then true else(↑x.Chans.length:Int) != (↑x.Chans.length:Int) then true else(↑x.Procs.length:Int) != (↑x.Procs.length:Int)) (LQ (Ac false) (Ac b)) (AA (fc Dn Iq Tryz.f10 [] (Ac b)) [1,1,1,0,1,0] (Ov x (0:Int)))):=by kernel_rfl
theorem AeD (r:List D.State)(e at':Int)(m:D.Model)(l:List Mv):(fc Dn LG Tryz.f9 [] (.tup [CE true r,Aa e,Aa at'])).goal (St.init [] [.agg (Ag m),BU true l]) =
  (∃ (y:D.State × Int),VC 11 [VV.agg (Ag m)] (VV.tup [VV.agg (Ae y.fst),Aa y.snd])/\BB (y.snd != 0) (LQ (VV.tup [VV.nl,Aa y.snd,Aa 0]) (VV.tup [CE true r,Aa e,Aa at'])) (AA (fc Dn LG Tryz.f9 [] (VV.tup [CE true r,Aa e,Aa at'])) [1,1,1,1,0,1,0] (Aq [(2,VV.bp 0 0),(7,VV.bp 1 0),(9,VV.ow 2 0 1),(25,BU true l),(26,Aa (↑l.length:Int)),(27,Aa 0)] [Ob.box (Ag m),Ob.box (Ae y.fst),Ob.arr true 0 1 6 fun(i:Nat)=>List.take 6 (List.drop (i*6) (Ae y.fst))]))):=by kernel_rfl
theorem AgP (r:List D.State)(e at':Int)(m:D.Model)(s:D.State)(l:List Mv)(out:List D.State)(i:Int)(J:St->Prop):((fc Dn LG Tryz.f9 [] (.tup [CE true r,Aa e,Aa at'])).loop [1,1,1,1,0,1,0] J).goal (Ad1 m s l out i) =
  (BB (decide (i<(↑l.length:Int))) (inX i l.length/\∃ (y:List Nx × Int),VC 13 [VV.agg (Ag m),VV.agg (Ae s)] (VV.tup [AR true y.fst,Aa y.snd])/\BB (bif decide (m.Claim<0) then(↑y.fst.length:Int)==0 else false) (∃ (y:Mv),VC 18 [] (VV.agg (CJ y))/\∃ (y_1:D.State),VC 14 [VV.agg (Ae s)] (VV.agg (Ae y_1))/\AA ((fc Dn LG Tryz.f9 [] (VV.tup [CE true r,Aa e,Aa at'])).loop [1,1,1,1,0,1,0] J) [1,1,0,0,1,1,1] (Aq [(2,VV.bp 0 0),(7,VV.bp 1 0),(9,VV.ow 2 0 out.length),(10,Aa i),(11,VV.bp 3 0),(12,VV.ow 4 0 1),(25,BU true l),(26,Aa (↑l.length:Int)),(27,Aa i)] [Ob.box (Ag m),Ob.box (Ae s),Ob.arr true 0 out.length 6 (Lf out),Ob.box (CJ (l.getD i.toNat default)),Ob.arr true 0 1 15 fun(i:Nat)=>List.take 15 (List.drop (i*15) [Aa y.Pid,Aa y.Esc,Aa y.Way,Aa y.With,Aa y.WithEsc,Aa y.WithWay,Aa y.Claim,Ad true y_1.Globals,AE true y_1.Chans,Au true y_1.Procs,Aa y_1.Last,Aa y_1.Alone,Aa y_1.Claim,Aa 0,AD ByteArray.empty])])) (AA ((fc Dn LG Tryz.f9 [] (VV.tup [CE true r,Aa e,Aa at'])).loop [1,1,1,1,0,1,0] J) [1,1,0,0,1,1,1] (Agu m s l out i (l.getD i.toNat default) y.fst))) (LQ (VV.tup [CE true out,Aa 0,Aa 0]) (VV.tup [CE true r,Aa e,Aa at']))):=by kernel_rfl
theorem AgQ (r:List D.State)(e at':Int)(m:D.Model)(s:D.State)(l:List Mv)(out:List D.State)(i:Int)(v:Mv)(L:List Nx)(J:St->Prop):(((fc Dn LG Tryz.f9 [] (.tup [CE true r,Aa e,Aa at'])).loop [1,1,1,1,0,1,0] J).cut [1,1,0,0,1,1,1]).goal (Agu m s l out i v L) =
  (∃ (y:Int),VC 19 [AR true L,VV.fn (Fn.func (nat_lit 20)) [VV.tp (CJ v)]] (Aa y)/\BB (decide (y<0)) (LQ (VV.tup [VV.nl,Aa 43,Aa i]) (VV.tup [CE true r,Aa e,Aa at'])) (inX y L.length/\BB ((L.getD y.toNat default).Err != 0) (inX y L.length/\LQ (VV.tup [CE true out,Aa (L.getD y.toNat default).Err,Aa i]) (VV.tup [CE true r,Aa e,Aa at'])) (inX y L.length/\∃ (y_1:D.State),VC 14 [VV.agg (Ae (L.getD y.toNat default).State)] (VV.agg (Ae y_1))/\(out.length+1)*96<=140737488355328/\J (Aq [(2,VV.bp 0 0),(7,VV.bp 1 0),(9,VV.ow 2 0 (out.length+1)),(25,BU true l),(26,Aa (↑l.length:Int)),(27,Aa (IntKind.i64.wrap (i+(1:Int))))] [Ob.box (Ag m),Ob.box (Ae (L.getD y.toNat default).State),Ob.arr true 0 (out.length+1) 6 fun(i:Nat)=>bif i.blt out.length then Ae (out.getD i BO) else(fun(i:Nat)=>List.take 6 (List.drop (i*6) (Ae y_1))) (i - out.length)])))):=by kernel_rfl
theorem Ya (r:Int)(v:Mv)(l:List Nx)(i:Int)(J:St->Prop):((fc Dn NF Tryz.f19 [] (Aa r)).loop [1,0,1,0] J).goal (Agv v l i) =
  (BB (decide (i<(↑l.length:Int))) (inX i l.length/\∃ (y:Bool),VC 20 [VV.agg (BH (l.getD i.toNat default)),VV.tp (CJ v)] (Ac y)/\BB y (LQ (Aa i) (Aa r)) (J (Agv v l (IntKind.i64.wrap (i+(1:Int)))))) (LQ (Aa (-1)) (Aa r))):=by kernel_rfl
theorem X3 (b:Bool)(y:Bool)(p q:List D.State)(i:Int)(J:St->Prop):((fc Dn ND Tryz.f4 [] (Ac b)).loop [1,1,1,1,1,1,0,1,0] J).goal (Ad2 y p q i) =
  (BB (decide (i<(↑q.length:Int))) (inX i p.length/\inX i q.length/\∃ (y_1:Bool),VC 10 [VV.agg (Ae (p.getD i.toNat BO)),VV.agg (Ae (q.getD i.toNat BO))] (Ac y_1)/\BB (!y_1) (LQ (Ac false) (Ac b)) (J (Ad2 y p q (IntKind.i64.wrap (i+(1:Int)))))) (LQ (Ac y) (Ac b))):=by kernel_rfl
theorem WS (r:ByteArray)(w:ByteArray)(l:List Int)(k:Int)(J:St->Prop):((fc Dn KM Tryz.f32 [] (AD r)).loop [1,0,1,0] J).goal (SN w l k) =
  (BB (decide (k<(↑l.length:Int))) (inX k l.length/\∃ (y:ByteArray),VC 44 [Aa (l.getD k.toNat 0)] (AD y)/\(↑((⟨#[(32:UInt8)]⟩:ByteArray).size+y.size):Int)<=(9223372036854775807:Int)/\(↑(w.size+((⟨#[(32:UInt8)]⟩:ByteArray)++y).size):Int)<=(9223372036854775807:Int)/\J (SN (w++((⟨#[(32:UInt8)]⟩:ByteArray)++y)) l (IntKind.i64.wrap (k+(1:Int))))) ((↑(w.size+(⟨#[(10:UInt8)]⟩:ByteArray).size):Int)<=(9223372036854775807:Int)/\LQ (AD (w++(⟨#[(10:UInt8)]⟩:ByteArray))) (AD r))):=by kernel_rfl
theorem WR (r:List Int)(b:Bool)(out:List Int)(l:List ByteArray)(k:Int)(J:St->Prop):((fc Dn Nv Tryz.f35 [] (.tup [Ad true r,Ac b])).loop [1,1,1,1,0,1,0] J).goal (SL out l k) =
  (BB (decide (k<(↑l.length:Int))) (inX k l.length/\∃ (y:Int × Bool),VC 47 [AD (l.getD k.toNat default),Aa 10,Aa 64] (VV.tup [Aa y.fst,VV.er y.snd])/\∃ (y_1:ByteArray),((true&&y.snd==false)=true->VC 48 [Aa y.fst,Aa 10] (AD y_1))/\BB (bif y.snd then true else !y_1.toList==(l.getD k.toNat default).toList) (LQ (VV.tup [VV.nl,Ac false]) (VV.tup [Ad true r,Ac b])) ((out.length+1)*8<=140737488355328/\J (Aq [(9,VV.ow 0 0 (out.length+1)),(29,Nl l),(30,Aa (↑l.length:Int)),(31,Aa (IntKind.i64.wrap (k+(1:Int))))] [Ob.arr true 0 (out.length+1) 1 fun(i:Nat)=>bif i.blt out.length then[Aa (out.getD i 0)] else(fun(i:Nat)=>List.take 1 (List.drop (i*1) [Aa y.fst])) (i - out.length)]))) (LQ (VV.tup [Ad true out,Ac true]) (VV.tup [Ad true r,Ac b]))):=by kernel_rfl
theorem AeZ (r:Fd)(e p:Int)(s:ByteArray):(fc Dn NB Tryz.f16 [] (.tup [.agg (Co r),Aa e,Aa p])).goal (St.init [] [AD s]) =
  (AA (fc Dn NB Tryz.f16 [] (VV.tup [VV.agg (Co r),Aa e,Aa p])) [1] (Aq [(0,AD s),(2,VV.bp 0 0),(5,VV.dead),(6,VV.dead),(7,VV.dead),(8,VV.dead)] [Ob.box [Aa 0,Aa 0,Aa 0,Aa 0,VV.nl,Aa 0,Aa 0,Aa 0]])):=by kernel_rfl
theorem Zt (r:Fd)(e p:Int)(s:ByteArray)(J:St->Prop):((fc Dn NB Tryz.f16 [] (.tup [.agg (Co r),Aa e,Aa p])).first [1] 0 J).goal (Aq [(0,AD s),(2,.bp 0 0),(5,.dead),(6,.dead),(7,.dead),(8,.dead)] [.box Ahi]) =
  (BB (bif bif (0:Int)==(↑s.size:Int) then !true else false then !false else false) (LQ (VV.tup [VV.agg [Aa 0,Aa 0,Aa 0,Aa 0,VV.nl,Aa (-1),Aa 0,Aa 0],Aa 0,Aa 0]) (VV.tup [VV.agg (Co r),Aa e,Aa p])) (((0:Int)<=(0:Int)/\(0:Int)<=(↑s.size:Int)/\(↑s.size:Int)<=(↑s.size:Int))/\∃ (y:Int),VC 34 [AD (s.extract (Int.toNat (0:Int)) (↑s.size:Int).toNat),VV.sc (Value.int IntKind.u8 (10:Int))] (Aa y)/\BB (decide (y<0)) (LQ (VV.tup [VV.agg [Aa 0,Aa 0,Aa 0,Aa 0,VV.nl,Aa 0,Aa 0,Aa 0],Aa 43,Aa 0]) (VV.tup [VV.agg (Co r),Aa e,Aa p])) (((0:Int)<=(0:Int)/\(0:Int)<=IntKind.i64.wrap ((0:Int)+y)/\IntKind.i64.wrap ((0:Int)+y)<=(↑s.size:Int))/\BB true (∃ (y_1:List Int × Bool),VC 35 [AD (s.extract (Int.toNat (0:Int)) (IntKind.i64.wrap ((0:Int)+y)).toNat),AD (⟨#[(102:UInt8),(111:UInt8),(117:UInt8),(110:UInt8),(100:UInt8)]⟩:ByteArray),Aa 6] (VV.tup [Ad true y_1.fst,Ac y_1.snd])/\((true&&(!y_1.snd)==false)=true->inX (0:Int) y_1.fst.length)/\((true&&(bif !y_1.snd then true else decide (y_1.fst.getD (Int.toNat (0:Int)) (0:Int)<1))==false)=true->inX (0:Int) y_1.fst.length)/\BB (bif bif !y_1.snd then true else decide (y_1.fst.getD (Int.toNat (0:Int)) (0:Int)<1) then true else decide (y_1.fst.getD (Int.toNat (0:Int)) (0:Int) > 4)) (LQ (VV.tup [VV.agg [Aa 0,Aa 0,Aa 0,Aa 0,VV.nl,Aa 0,Aa 0,Aa 0],Aa 43,Aa 0]) (VV.tup [VV.agg (Co r),Aa e,Aa p])) (inX (0:Int) y_1.fst.length/\inX (1:Int) y_1.fst.length/\inX (2:Int) y_1.fst.length/\inX (3:Int) y_1.fst.length/\inX (4:Int) y_1.fst.length/\inX (5:Int) y_1.fst.length/\J (Aq [(0,AD s),(2,VV.bp 0 0),(5,VV.bp 1 0),(6,Aa (IntKind.i64.wrap ((0:Int)+IntKind.i64.wrap (y+(1:Int))))),(7,Ac false),(8,Ac false)] [Ob.box [Aa 0,Aa 0,Aa 0,Aa 0,VV.nl,Aa 0,Aa 0,Aa 0],Ob.box [Aa (y_1.fst.getD (Int.toNat (0:Int)) (0:Int)),Aa (y_1.fst.getD (Int.toNat (1:Int)) (0:Int)),Aa (y_1.fst.getD (Int.toNat (2:Int)) (0:Int)),Aa (y_1.fst.getD (Int.toNat (3:Int)) (0:Int)),VV.nl,Aa (-1),Aa (y_1.fst.getD (Int.toNat (4:Int)) (0:Int)),Aa (y_1.fst.getD (Int.toNat (5:Int)) (0:Int))]]))) (BB (bif (s.extract (Int.toNat (0:Int)) (IntKind.i64.wrap ((0:Int)+y)).toNat).toList==(⟨#[(99:UInt8),(121:UInt8),(99:UInt8),(108:UInt8),(101:UInt8)]⟩:ByteArray).toList then decide ((-1:Int)<0) else false) (J (Aq [(0,AD s),(2,VV.bp 0 0),(5,VV.bp 1 0),(6,Aa (IntKind.i64.wrap ((0:Int)+IntKind.i64.wrap (y+(1:Int))))),(7,Ac true),(8,Ac true)] [Ob.box [Aa 0,Aa 0,Aa 0,Aa 0,VV.nl,Aa 0,Aa 0,Aa 0],Ob.box [Aa 0,Aa 0,Aa 0,Aa 0,VV.nl,Aa 0,Aa 0,Aa 0]])) (∃ (y_1:List Int × Bool),VC 35 [AD (s.extract (Int.toNat (0:Int)) (IntKind.i64.wrap ((0:Int)+y)).toNat),AD (⟨#[(109:UInt8),(111:UInt8),(118:UInt8),(101:UInt8)]⟩:ByteArray),Aa 7] (VV.tup [Ad true y_1.fst,Ac y_1.snd])/\BB (!y_1.snd) (LQ (VV.tup [VV.agg [Aa 0,Aa 0,Aa 0,Aa 0,VV.nl,Aa 0,Aa 0,Aa 0],Aa 43,Aa 0]) (VV.tup [VV.agg (Co r),Aa e,Aa p])) (inX (0:Int) y_1.fst.length/\inX (1:Int) y_1.fst.length/\inX (2:Int) y_1.fst.length/\inX (3:Int) y_1.fst.length/\inX (4:Int) y_1.fst.length/\inX (5:Int) y_1.fst.length/\inX (6:Int) y_1.fst.length/\1*56<=140737488355328/\J (Aq [(0,AD s),(2,VV.bp 0 0),(5,VV.bp 1 0),(6,Aa (IntKind.i64.wrap ((0:Int)+IntKind.i64.wrap (y+(1:Int))))),(7,Ac true),(8,Ac false)] [Ob.box [Aa 0,Aa 0,Aa 0,Aa 0,VV.nl,Aa 0,Aa 0,Aa 0],Ob.box [Aa 0,Aa 0,Aa 0,Aa 0,VV.ow 2 0 1,Aa (-1),Aa 0,Aa 0],Ob.arr true 0 1 7 fun(i:Nat)=>List.take 7 (List.drop (i*7) [Aa (y_1.fst.getD (Int.toNat (0:Int)) (0:Int)),Aa (y_1.fst.getD (Int.toNat (1:Int)) (0:Int)),Aa (y_1.fst.getD (Int.toNat (2:Int)) (0:Int)),Aa (y_1.fst.getD (Int.toNat (3:Int)) (0:Int)),Aa (y_1.fst.getD (Int.toNat (4:Int)) (0:Int)),Aa (y_1.fst.getD (Int.toNat (5:Int)) (0:Int)),Aa (y_1.fst.getD (Int.toNat (6:Int)) (0:Int))])]))))))):=by kernel_rfl
theorem Ag2 (r:Fd)(e p:Int)(s:ByteArray)(f:Fd)(i:Int)(fst due:Bool)(J:St->Prop):((fc Dn NB Tryz.f16 [] (.tup [.agg (Co r),Aa e,Aa p])).pass [1] 0 J).goal (AjQ s f i fst due) =
  (BB (bif bif i==(↑s.size:Int) then !fst else false then !due else false) (LQ (VV.tup [VV.agg [Aa f.Kind,Aa f.What,Aa f.Err,Aa f.At,VV.nl,Aa f.Cycle,Aa f.States,Aa f.Steps],Aa 0,Aa 0]) (VV.tup [VV.agg (Co r),Aa e,Aa p])) (((0:Int)<=i/\i<=(↑s.size:Int)/\(↑s.size:Int)<=(↑s.size:Int))/\∃ (y:Int),VC 34 [AD (s.extract i.toNat (↑s.size:Int).toNat),VV.sc (Value.int IntKind.u8 (10:Int))] (Aa y)/\BB (decide (y<0)) (LQ (VV.tup [VV.agg [Aa 0,Aa 0,Aa 0,Aa 0,VV.nl,Aa 0,Aa 0,Aa 0],Aa 43,Aa i]) (VV.tup [VV.agg (Co r),Aa e,Aa p])) (((0:Int)<=i/\i<=IntKind.i64.wrap (i+y)/\IntKind.i64.wrap (i+y)<=(↑s.size:Int))/\BB fst (∃ (y_1:List Int × Bool),VC 35 [AD (s.extract i.toNat (IntKind.i64.wrap (i+y)).toNat),AD (⟨#[(102:UInt8),(111:UInt8),(117:UInt8),(110:UInt8),(100:UInt8)]⟩:ByteArray),Aa 6] (VV.tup [Ad true y_1.fst,Ac y_1.snd])/\((true&&(!y_1.snd)==false)=true->inX (0:Int) y_1.fst.length)/\((true&&(bif !y_1.snd then true else decide (y_1.fst.getD (Int.toNat (0:Int)) (0:Int)<1))==false)=true->inX (0:Int) y_1.fst.length)/\BB (bif bif !y_1.snd then true else decide (y_1.fst.getD (Int.toNat (0:Int)) (0:Int)<1) then true else decide (y_1.fst.getD (Int.toNat (0:Int)) (0:Int) > 4)) (LQ (VV.tup [VV.agg [Aa 0,Aa 0,Aa 0,Aa 0,VV.nl,Aa 0,Aa 0,Aa 0],Aa 43,Aa i]) (VV.tup [VV.agg (Co r),Aa e,Aa p])) (inX (0:Int) y_1.fst.length/\inX (1:Int) y_1.fst.length/\inX (2:Int) y_1.fst.length/\inX (3:Int) y_1.fst.length/\inX (4:Int) y_1.fst.length/\inX (5:Int) y_1.fst.length/\J (Aq [(0,AD s),(2,VV.bp 0 0),(5,VV.bp 1 0),(6,Aa (IntKind.i64.wrap (i+IntKind.i64.wrap (y+(1:Int))))),(7,Ac false),(8,Ac due)] [Ob.box [Aa 0,Aa 0,Aa 0,Aa 0,VV.nl,Aa 0,Aa 0,Aa 0],Ob.box [Aa (y_1.fst.getD (Int.toNat (0:Int)) (0:Int)),Aa (y_1.fst.getD (Int.toNat (1:Int)) (0:Int)),Aa (y_1.fst.getD (Int.toNat (2:Int)) (0:Int)),Aa (y_1.fst.getD (Int.toNat (3:Int)) (0:Int)),VV.nl,Aa f.Cycle,Aa (y_1.fst.getD (Int.toNat (4:Int)) (0:Int)),Aa (y_1.fst.getD (Int.toNat (5:Int)) (0:Int))]]))) (BB (bif (s.extract i.toNat (IntKind.i64.wrap (i+y)).toNat).toList==(⟨#[(99:UInt8),(121:UInt8),(99:UInt8),(108:UInt8),(101:UInt8)]⟩:ByteArray).toList then decide (f.Cycle<0) else false) (J (Aq [(0,AD s),(2,VV.bp 0 0),(5,VV.bp 1 0),(6,Aa (IntKind.i64.wrap (i+IntKind.i64.wrap (y+(1:Int))))),(7,Ac fst),(8,Ac true)] [Ob.box [Aa 0,Aa 0,Aa 0,Aa 0,VV.nl,Aa 0,Aa 0,Aa 0],Ob.box [Aa f.Kind,Aa f.What,Aa f.Err,Aa f.At,VV.nl,Aa 0,Aa f.States,Aa f.Steps]])) (∃ (y_1:List Int × Bool),VC 35 [AD (s.extract i.toNat (IntKind.i64.wrap (i+y)).toNat),AD (⟨#[(109:UInt8),(111:UInt8),(118:UInt8),(101:UInt8)]⟩:ByteArray),Aa 7] (VV.tup [Ad true y_1.fst,Ac y_1.snd])/\BB (!y_1.snd) (LQ (VV.tup [VV.agg [Aa 0,Aa 0,Aa 0,Aa 0,VV.nl,Aa 0,Aa 0,Aa 0],Aa 43,Aa i]) (VV.tup [VV.agg (Co r),Aa e,Aa p])) (inX (0:Int) y_1.fst.length/\inX (1:Int) y_1.fst.length/\inX (2:Int) y_1.fst.length/\inX (3:Int) y_1.fst.length/\inX (4:Int) y_1.fst.length/\inX (5:Int) y_1.fst.length/\inX (6:Int) y_1.fst.length/\1*56<=140737488355328/\J (Aq [(0,AD s),(2,VV.bp 0 0),(5,VV.bp 1 0),(6,Aa (IntKind.i64.wrap (i+IntKind.i64.wrap (y+(1:Int))))),(7,Ac fst),(8,Ac false)] [Ob.box [Aa 0,Aa 0,Aa 0,Aa 0,VV.nl,Aa 0,Aa 0,Aa 0],Ob.box [Aa f.Kind,Aa f.What,Aa f.Err,Aa f.At,VV.ow 2 0 1,Aa f.Cycle,Aa f.States,Aa f.Steps],Ob.arr true 0 1 7 fun(i:Nat)=>List.take 7 (List.drop (i*7) [Aa (y_1.fst.getD (Int.toNat (0:Int)) (0:Int)),Aa (y_1.fst.getD (Int.toNat (1:Int)) (0:Int)),Aa (y_1.fst.getD (Int.toNat (2:Int)) (0:Int)),Aa (y_1.fst.getD (Int.toNat (3:Int)) (0:Int)),Aa (y_1.fst.getD (Int.toNat (4:Int)) (0:Int)),Aa (y_1.fst.getD (Int.toNat (5:Int)) (0:Int)),Aa (y_1.fst.getD (Int.toNat (6:Int)) (0:Int))])]))))))):=by kernel_rfl
theorem XQ (b:Bool)(x:List Int)(k:Int)(J:St->Prop):((fc Dn NC Tryz.f21 [] (Ac b)).loop [1,1,0,1,0] J).goal (Oy x k) =
  (BB (decide (k<(↑x.length:Int))) (inX k x.length/\inX k x.length/\BB (x.getD k.toNat 0 != x.getD k.toNat 0) (LQ (Ac false) (Ac b)) (J (Oy x (IntKind.i64.wrap (k+(1:Int)))))) (LQ (Ac true) (Ac b))):=by kernel_rfl
theorem QW (b:Bool)(x:D.Chan)(k:Int)(J:St->Prop):((fc Dn I2 Tryz.f22 [] (Ac b)).loop [1,1,0,1,0] J).goal (Ot x k) =
  (BB (decide (k<(↑x.Queue.length:Int))) (inX k x.Queue.length/\inX k x.Queue.length/\∃ (y:Bool),VC 21 [Ad true (x.Queue.getD k.toNat []),Ad true (x.Queue.getD k.toNat [])] (Ac y)/\BB (!y) (LQ (Ac false) (Ac b)) (J (Ot x (IntKind.i64.wrap (k+(1:Int)))))) (LQ (Ac true) (Ac b))):=by kernel_rfl
theorem Xp (b:Bool)(x:D.State)(k:Int)(J:St->Prop):((fc Dn Iq Tryz.f10 [] (Ac b)).loop [1,1,1,0,1,0] J).goal (Ov x k) =
  (BB (decide (k<(↑x.Chans.length:Int))) (inX k x.Chans.length/\inX k x.Chans.length/\∃ (y:Bool),VC 22 [VV.agg (AB (x.Chans.getD k.toNat default)),VV.agg (AB (x.Chans.getD k.toNat default))] (Ac y)/\BB (!y) (LQ (Ac false) (Ac b)) (J (Ov x (IntKind.i64.wrap (k+(1:Int)))))) (AA (fc Dn Iq Tryz.f10 [] (Ac b)) [1,1,1,1,0,1,0] (Ou x (0:Int)))):=by kernel_rfl
theorem Xo (b:Bool)(x:D.State)(k:Int)(J:St->Prop):((fc Dn Iq Tryz.f10 [] (Ac b)).loop [1,1,1,1,0,1,0] J).goal (Ou x k) =
  (BB (decide (k<(↑x.Procs.length:Int))) (inX k x.Procs.length/\inX k x.Procs.length/\∃ (y:Bool),VC 21 [Ad true (x.Procs.getD k.toNat default).Frame,Ad true (x.Procs.getD k.toNat default).Frame] (Ac y)/\BB (bif bif bif !y then true else(x.Procs.getD k.toNat default).Type_ != (x.Procs.getD k.toNat default).Type_ then true else(x.Procs.getD k.toNat default).Loc != (x.Procs.getD k.toNat default).Loc then true else(x.Procs.getD k.toNat default).Prio != (x.Procs.getD k.toNat default).Prio) (LQ (Ac false) (Ac b)) (J (Ou x (IntKind.i64.wrap (k+(1:Int)))))) (LQ (Ac true) (Ac b))):=by kernel_rfl
end Go.Proofs.YtmdcknlpalfhhaaGreatDoor
namespace Go.Proofs
open Go.Shelf
def Tryz.ren2 : Go.Shelf.Ren:=⟨fun | 129=>145 | 137=>34 | 138=>96 | 143=>97 | 146=>46 | 171=>44 | 174=>47 | 195=>136 | 197=>137 | 205=>143 | 217=>45 | 218=>138 | 219=>139 | 221=>65 | 224=>178 | 225=>177 | 243=>63 | 245=>67 | 246=>68 | 247=>66 | 260=>176 | 266=>64 | 267=>179 | 268=>95 | 279=>99 | 280=>100 | 281=>101 | 282=>102 | 283=>103 | 284=>104 | 285=>105 | 286=>106 | 287=>98 | 314=>196 | 316=>142 | 317=>144 | 318=>146 | 319=>147 | 320=>148 | 321=>140 | 322=>141 | 337=>180 | 338=>181 | n=>n,fun | 0=>0 | 2=>2 | 3=>3 | 4=>4 | 5=>5 | 9=>9 | 20=>20 | 21=>21 | 31=>133 | 37=>101 | 46=>210 | 51=>257 | 53=>207 | 75=>105 | 80=>109 | 85=>135 | 105=>247 | 119=>303 | 127=>132 | 138=>305 | 139=>306 | 143=>286 | 145=>288 | 146=>307 | 167=>206 | 168=>211 | 171=>214 | 173=>217 | 175=>208 | 210=>253 | 212=>256 | 213=>258 | 232=>309 | 233=>310 | n=>n,fun | 1=>0 | 3=>4 | 4=>5 | 15=>1 | 16=>2 | 17=>3 | 18=>6 | 19=>7 | n=>n⟩
theorem Tryz.lays146 : Go.Proofs.Lays.n146 Tryz.prog Tryz.ren2:=by constructor<;>(intros;kernel_rfl)
open Go.RowKit Go.Lib in
theorem Tryz.strings_Split (s sep:ByteArray)(m:Int)(w:World)(hs:s.size<4294967281)(hm:w.cell? ⟨0,0,none⟩=some (.int .i64 m))(h1:1<=sep.size) :
  Calls Tryz.prog 46 #[.string s,.string sep] w fun e w' =>
   e=.returned (.slice (some ⟨w.heap.size,0,none⟩) (Lib.countB s sep+1) (Lib.countB s sep+1))/\w'=w.alloc (.cells ((Lib.splitB sep 0 (Lib.countB s sep) s).map Value.string).toArray 9):=Any.strings_Split Tryz.lays146 (by kernel_rfl) s sep m w hs hm h1
theorem Tryz.lays137 : Go.Proofs.Lays.n137 Tryz.prog Tryz.ren2:=by constructor<;>(intros;kernel_rfl)
open Go.RowKit in
theorem Tryz.strings_IndexByte (s:ByteArray)(c:Int)(w:World) :
  Calls Tryz.prog 34 #[.string s,.int .u8 c] w fun e w'=>e=.returned (.int .i64 (Lib.indexByte s.data.toList c.toNat.toUInt8))/\w'=w:=Any.strings_IndexByte Tryz.lays137 s c w
theorem Tryz.laysC174 : Go.Proofs.LaysC.n174 Tryz.prog Tryz.ren2:=by constructor<;>first | (intros;kernel_rfl) | (constructor<;>first | (intros;kernel_rfl) | (constructor<;>(intros;kernel_rfl)))
open Go.RowKit in
theorem Tryz.strconv_ParseInt_10_at64_ok (s:ByteArray)(hmax:s.size<=9223372036854775806)(v:Int)(h:Lib.parseIntB 64 s.data.toList=.ok v)(w:World) :
  Calls Tryz.prog 47 #[.string s,.int .i64 10,.int .i64 64] w fun e w'=>e=.returned (.tuple #[.int .i64 v,.nilIface])/\(w'=w∨∃ t,w'=Lib.bytesWorld w 5 t):=Any.strconv_ParseInt_10_at64_ok Tryz.laysC174 s hmax v h w
theorem Tryz.laysM171 : Go.Proofs.LaysM.n171 Tryz.prog Tryz.ren2:=by constructor<;>first | (intros;kernel_rfl) | (constructor<;>(intros;kernel_rfl))
open Go.RowKit Go.Sort Go.Lib in
theorem Tryz.strconv_Itoa (n:Int)(h0:-9223372036854775808<=n)(h1:n<=9223372036854775807)(w:World)(htab:Lib.TabIs Tryz.prog w "internal/strconv.uint64pow10" .u64 Lib.pow10Tab) :
  Calls Tryz.prog 44 #[.int .i64 n] w fun e w'=>e=.returned (.string ⟨(Lib.itoa n).toArray⟩)/\∃ k os,w'=grow (w.drewN k) os:=Any.strconv_Itoa Tryz.laysM171 n h0 h1 w htab
end Go.Proofs
namespace Go.Proofs.YtmdcknlpalfhhaaGreatDoor
open Go.RowKit
abbrev Q3 : TypeId:=103
abbrev MI : TypeId:=5
def I5 (B b:Nat)(s:ByteArray)(w:World):Prop:=Lib.IsBuilderF Q3 MI B b (Lib.byteCells (bs s)) w
theorem KH (a s:ByteArray):bs (a++s)=bs a++bs s:=by simp[bs]
theorem TD (a s:ByteArray):Lib.byteCells (bs a)++Lib.strCells s=Lib.byteCells (bs (a++s)):=by
 rw[KH]
 simp[Lib.byteCells,Lib.strCells,bs]
theorem EG {B b:Nat}{a s:ByteArray}{w:World}(h:I5 B b a w)(hlen:a.size+s.size<=140737488355328)(hB:B<=w.heap.size) :
  Calls Tryz.prog 31 #[.pointer (some ⟨b,0,none⟩),.string s] w fun e w'=>e=.returned (.tuple #[.int .i64 s.size,.nilIface])/\I5 B b (a++s) w'/\Below B w w'/\Lib.OthersKept MI (some b) w w':=by
 refine(Any.Builder_WriteString_k Tryz.lays166 Tryz.Builder_Extra_166 B b (Lib.byteCells (bs a)) s w h (by rw[Lib.byteCells_length,← Km];exact hlen) hB).mono ?_
 rintro e w' ⟨rfl,h1,h2,h3⟩
 refine⟨rfl,?_,h2,h3⟩
 rw[TD]at h1
 exact .inr h1
theorem LU {B b:Nat}{a:ByteArray}{w:World}(h:I5 B b a w)(hB:B<=w.heap.size) :
  Calls Tryz.prog 33 #[.pointer (some ⟨b,0,none⟩)] w fun e w'=>e=.returned (.string a)/\Below B w w':=by
 refine(Tryz.Builder_String_any_k B b (bs a) w h hB).mono ?_
 rintro e w' ⟨rfl,_,h2,_⟩
 refine⟨?_,h2⟩
 show Ending.returned (.string (mk (bs a)))=_
 rw[U3]
theorem I5.below {B b:Nat}{a:ByteArray}{w w':World}(h:I5 B b a w)(hb:Below w.heap.size w w'):I5 B b a w':=by
 have key:∀ p,Lib.BuilderAtF Q3 MI B b p (Lib.byteCells (bs a)) w->Lib.BuilderAtF Q3 MI B b p (Lib.byteCells (bs a)) w':=by
  intro p h
  have hlt:=h.lt
  obtain⟨hB,v,hbk,hown,hne⟩:=h
  exact⟨hB,v,(hb.block _ hlt).trans hbk,hown.kept (row:=none) ⟨hb.os,hb.tape,hb.output,hb.size,fun k hk _=>hb.block k hk⟩ (by cases hv:v.ownBlock<;>simp),hne⟩
 rcases h with h | h
 ·exact .inl (key _ h)
 ·exact .inr (key _ h)
theorem I5.start (w:World):I5 w.heap.size w.heap.size ⟨#[]⟩ (w.alloc (.cells #[.pointer none,.slice none 0 0] Q3)):=Lib.IsBuilderF.of (Lib.fresh_isBuilder Q3 MI w)
theorem Cb.below {B:Nat}{w w':World}(h:Cb w)(hB:∀ k,k∈DX->k<B)(hb:Below B w w'):Cb w':=h.congr fun k hk=>hb.block k (hB k hk)
theorem Na (a b:By):mk a++mk b=mk (a++b):=by
 have:bs (mk a++mk b)=bs (mk (a++b)):=by rw[KH,VS,VS,VS]
 rw[← U3 (mk a++mk b),this,U3]
theorem KK (a:ByteArray):a++mk []=a:=by
 have:bs (a++mk [])=bs a:=by rw[KH,VS,Al4]
 rw[← U3 (a++mk []),this,U3]
theorem V1 (a b c:ByteArray):a++b++c=a++(b++c):=ByteArray.append_assoc
end Go.Proofs.YtmdcknlpalfhhaaGreatDoor
namespace Go.Proofs.YtmdcknlpalfhhaaGreatDoor
open Go.RowKit
def spB : ByteArray:=⟨#[32]⟩
def MW (s:ByteArray):List ByteArray:=Lib.splitB spB 0 (Lib.countB s spB) s
theorem AcB {n:Int}(h:I64 n):Ai Tryz.prog 44 [] [Aa n] [] (AD (Fi n)):=by
 refine Ai.hand ⟨_,Tryz.func44,rfl,by kernel_rfl⟩ fun w E vs hA hL _ _ hs=>?_
 obtain⟨u1,us1,rfl,v1,hs⟩:=hs.cons_inv
 obtain rfl:=hs.nil_inv
 rw[v1.sc_inv]
 refine(Tryz.strconv_Itoa n h.1 h.2 w hL.tab).mono ?_
 rintro e w' ⟨rfl,k,os,rfl⟩
 exact⟨_,rfl,.sc,Lib.below_grow _ w (Ak6 _) k os⟩
theorem XI {s:ByteArray}{v:Int}(h:s.size<=281474976710656)(hp:Lib.parseIntB 64 s.data.toList=.ok v):Ai Tryz.prog 47 [] [AD s,Aa 10,Aa 64] [] (.tup [Aa v,.er false]):=by
 refine Ai.hand ⟨_,Tryz.func47,rfl,by kernel_rfl⟩ fun w E vs hA hL _ _ hs=>?_
 obtain⟨u1,us1,rfl,v1,hs⟩:=hs.cons_inv
 obtain⟨u2,us2,rfl,v2,hs⟩:=hs.cons_inv
 obtain⟨u3,us3,rfl,v3,hs⟩:=hs.cons_inv
 obtain rfl:=hs.nil_inv
 rw[v1.sc_inv,v2.sc_inv,v3.sc_inv]
 refine(Tryz.strconv_ParseInt_10_at64_ok s (by omega) v hp w).mono ?_
 rintro e w' ⟨rfl,hw⟩
 refine⟨_,rfl,MS .sc (.er (.inr ⟨rfl,rfl⟩)),?_⟩
 rcases hw with rfl | ⟨t,rfl⟩
 ·exact Below.refl _ _
 ·exact Joins.below_bytesWorld _ w _ t (Ak6 _)
theorem Xc {s:ByteArray}(h:s.size<4294967281):Ai Tryz.prog 46 [] [AD s,AD spB] [] (Nl (MW s)):=by
 refine Ai.hand ⟨_,Tryz.func46,rfl,by kernel_rfl⟩ fun w E vs hA hL _ _ hs=>?_
 obtain⟨u1,us1,rfl,v1,hs⟩:=hs.cons_inv
 obtain⟨u2,us2,rfl,v2,hs⟩:=hs.cons_inv
 obtain rfl:=hs.nil_inv
 rw[v1.sc_inv,v2.sc_inv]
 obtain⟨m,hm⟩:=hL.len
 refine(Tryz.strings_Split s spB m w h hm (by decide)).mono ?_
 rintro e w' ⟨rfl,rfl⟩
 have hl:(MW s).length=Lib.countB s spB+1:=Lib.splitB_all spB (by decide) 0 _ s rfl
 have hc:=Lib.countB_le spB (by decide) s.size s (Ak6 _)
 refine⟨_,rfl,?_,(Below.refl _ w).alloc (Ak6 _) _⟩
 rw[← hl]
 refine AmK (Ak6 _) (by unfold maxLen;omega) fun hp=>⟨w.heap.size,0,rfl,by simp,fun hk=>by have:=hA _ hk;omega,fun i _=>rfl,fun i _=>.string ((MW s).getD i default),fun i j x hi hx=>?_,fun i j x hi hx=>?_⟩
 ·match j,hx with
  | 0,_ =>
   have e:(w.alloc (.cells ((MW s).map Value.string).toArray 9)).cell? ⟨w.heap.size,0+i*1+0,none⟩=(((MW s).map Value.string).toArray)[i]?:=by
    simp only[World.cell?,heap_alloc_new,AlC,Nat.mul_one,Al7]
    rfl
   refine e.trans ?_
   simp[Ald hi,List.getD]
  | j+1,hx=>simp at hx
 ·match j,hx with
  | 0,hx=>simp only[Ala,Ak1]at hx;subst hx;exact .sc
  | j+1,hx=>simp at hx
theorem NY (s:ByteArray)(c:Int):Ai Tryz.prog 34 [] [AD s,.sc (.int .u8 c)] [] (Aa (Lib.indexByte s.data.toList c.toNat.toUInt8)):=by
 refine Ai.hand ⟨_,Tryz.func34,rfl,by kernel_rfl⟩ fun w E vs hA hL _ _ hs=>?_
 obtain⟨u1,us1,rfl,v1,hs⟩:=hs.cons_inv
 obtain⟨u2,us2,rfl,v2,hs⟩:=hs.cons_inv
 obtain rfl:=hs.nil_inv
 rw[v1.sc_inv,v2.sc_inv]
 refine(Tryz.strings_IndexByte s c w).mono ?_
 rintro e w' ⟨rfl,rfl⟩
 exact⟨_,rfl,.sc,Below.refl _ _⟩
def Qi : ByteArray:=⟨#[102,111,117,110,100]⟩
def Ep : List Int:=[1,0,0,0,9,12]
def exL : ByteArray:=⟨#[102,111,117,110,100,32,49,32,48,32,48,32,48,32,57,32,49,50]⟩
def exB : ByteArray:=⟨#[102,111,117,110,100,32,49,32,48,32,48,32,48,32,57,32,49,50,10]⟩
def Mm : List ByteArray:=[Qi,mk [49],mk [48],mk [48],mk [48],mk [57],mk [49,50]]
theorem Ad7 : MW exL=Mm:=by kernel_rfl
theorem AeY (k:Nat)(hk:k<6):Lib.parseIntB 64 (Mm.getD (k+1) default).data.toList=.ok (Ep.getD k 0):=by
 have e:(List.range 6).map (fun k=>Lib.parseIntB 64 (Mm.getD (k+1) default).data.toList)=(List.range 6).map fun k=>.ok (Ep.getD k 0):=by kernel_rfl
 exact List.map_inj_left.1 e k (AlP.2 hk)
theorem My (k:Nat)(hk:k<6):Fi (Ep.getD k 0)=Mm.getD (k+1) default:=by
 have e1:∀ n:Nat,n<10->Fi n=mk [UInt8.ofNat (48+n)]:=fun n hn=>by
  unfold Fi Lib.itoa;rw[Alg (by omega),show(n:Int).toNat=n by omega,Lib.decDigits_one hn]<;>rfl
 have e12:Fi 12=mk [49,50]:=by unfold Fi Lib.itoa;rw[Alg (by decide),show(12:Int).toNat=12 from rfl,Lib.decDigits_two (by decide) (by decide)]<;>rfl
 match k,hk with
 | 0,_=>exact e1 1 (by decide)
 | 1,_=>exact e1 0 (by decide)
 | 2,_=>exact e1 0 (by decide)
 | 3,_=>exact e1 0 (by decide)
 | 4,_=>exact e1 9 (by decide)
 | 5,_=>exact e12
theorem ZF {s:D.State}{cs:List VV}(h:obC s=.box cs):False:=by unfold obC at h;cases h
theorem ZE {s:D.State}{cs:List VV}(h:obP s=.box cs):False:=by unfold obP at h;cases h
section
variable {e : D.Env}
theorem NL (hw:Ay e.M)(hs:A7 e.S)(x v:Int):Ai Tryz.prog 124 (hsE e) [.bp 0 0,Aa x,Aa v] (hsE (stE e x v)) (Aa (AW e x v).2):=by
 have hst:=Pw hw hs x v
 unfold stE
 cases c:decide ((AW e x v).2=0) with
 | true =>
  have h0:((AW e x v).2==0)=true:=by rw[ieq];exact c
  have h:=Ah (Q:=_) Al Am Tryz.func124 (by kernel_rfl) rfl (OU [.box (E3 { e with S:=(AW e x v).1 } (.ow 3 0 (AW e x v).1.Chans.length) (.ow 4 0 (AW e x v).1.Procs.length)),obC e.S,obP e.S,obC (AW e x v).1,obP (AW e x v).1] (AW e x v).2 e x v)
   ⟨AW e x v,hst,fun _=>⟨⟨Ob.le_refl _,Ob.le_refl _,Ob.le_refl _,Ob.le_refl _,Ob.le_refl _,trivial⟩,VV.le_refl _⟩,fun h=>by rw[h0]at h;cases h⟩
  exact h.pick [0,3,4] rfl fun j hj=>by
   match j,hj with
   | 0,_=>exact .inl rfl
   | 1,_=>exact .inr ⟨fun cs h=>ZF h,3,rfl,fun cs h=>ZF h⟩
   | 2,_=>exact .inr ⟨fun cs h=>ZE h,4,rfl,fun cs h=>ZE h⟩
   | j+3,hj=>exact absurd hj (by simp[hsE])
 | false =>
  have h0:((AW e x v).2==0)=false:=by rw[ieq];exact c
  exact Ah Al Am Tryz.func124 (by kernel_rfl) rfl (OU (hsE e) (AW e x v).2 e x v)
   ⟨AW e x v,hst,(fun h=>by rw[h0]at h;cases h),fun _=>⟨⟨Ob.le_refl _,Ob.le_refl _,Ob.le_refl _,trivial⟩,VV.le_refl _⟩⟩
theorem Abe (hw:Ay e.M)(hs:A7 e.S)(x v:Int):Ay (stE e x v).M/\A7 (stE e x v).S:=by
 refine⟨by rw[(PG e x v).M];exact hw,?_⟩
 unfold stE
 cases decide ((AW e x v).2=0) with
 | true=>exact(W5 hw v).small
 | false=>exact hs
theorem Jk {s:D.Stmt}{m:List Int}(hw:Ay e.M)(hs:A7 e.S)(hl:s.Args.length<=1048576)(h1:s.Args.length<=s.Match.length)(h2:s.Args.length<=m.length) :
  Ai Tryz.prog 163 (hsE e) [.bp 0 0,.agg (Ap s),Ad true m] (hsE (Du e s m).1) (Aa (Du e s m).2):=by
 refine Ah Al Am Tryz.func163 (by kernel_rfl) rfl (Ws (Du e s m).1 (Du e s m).2 e s m) ?_
 change AA _ _ (Ki e s m 0)
 refine Bh Al Am (fun g st=>∃ (k:Nat) (f:D.Env),k<=s.Args.length/\g=s.Args.length - k/\Ay f.M/\A7 f.S/\Gj m s.Match k (s.Args.drop k) f=Du e s m/\st=Ki f s m k) (by kernel_rfl) (by kernel_rfl) ⟨_,Up.of ⟨0,e,Alc _,rfl,hw,hs,rfl,rfl⟩⟩ ?_
 rintro g st ⟨k,f,hk,rfl,hwf,hsf,hq,rfl⟩
 generalize Du e s m=R at hq ⊢
 refine Alu (TT R.1 R.2 f s m k _) ⟨fun hlt=>?_,fun hge=>?_⟩
 ·have hlt':k<s.Args.length:=by have:=AV hlt;omega
  have hto:(k:Int).toNat=k:=by omega
  rw[hto]
  rw[B8 (d:=0) hlt']at hq
  unfold Gj at hq
  refine⟨⟨by omega,by omega⟩,⟨by omega,by omega⟩,fun hy=>?_,fun hy=>⟨⟨by omega,by omega⟩,(stE f (s.Args.getD k 0) (m.getD k 0),(AW f (s.Args.getD k 0) (m.getD k 0)).2),NL hwf hsf _ _,fun hz=>?_,fun hz=>?_⟩⟩
  ·rw[AH]at hy
   rw[hy,Ak4]at hq
   rw[An (by omega)]
   exact⟨s.Args.length - (k+1),by omega,Up.of ⟨k+1,f,by omega,rfl,hwf,hsf,hq,rfl⟩⟩
  ·rw[AH]at hy hz
   rw[hy,Ak0,hz,Ak4]at hq
   subst hq
   have hst:stE f (s.Args.getD k 0) (m.getD k 0)=f:=by
    unfold stE
    rw[AlI (Ak9 hz)]<;>rfl
   rw[hst]
   exact⟨⟨Ob.le_refl _,Ob.le_refl _,Ob.le_refl _,trivial⟩,VV.le_refl _⟩
  ·rw[AH]at hy hz
   rw[hy,Ak0,hz,Ak0]at hq
   rw[An (by omega)]
   obtain⟨a,b⟩:=Abe hwf hsf (s.Args.getD k 0) (m.getD k 0)
   exact⟨s.Args.length - (k+1),by omega,Up.of ⟨k+1,_,by omega,rfl,a,b,hq,rfl⟩⟩
 ·have hge':s.Args.length<=k:=by have:=A0 hge;omega
  rw[AlK hge']at hq
  unfold Gj at hq
  subst hq
  exact⟨⟨Ob.le_refl _,Ob.le_refl _,Ob.le_refl _,trivial⟩,VV.le_refl _⟩
end
theorem VL {xs:List Int}(hr:xs.length*8<=140737488355328):Ai Tryz.prog 24 [] [Ad true xs] [.arr true 0 xs.length 1 (AM xs)] (.ow 0 0 xs.length):=by
 refine Ai.handN ⟨_,Tryz.func24,rfl,by kernel_rfl⟩ fun w E vs hA hL _ hbr hs=>?_
 obtain⟨u1,us1,rfl,v1,hs⟩:=hs.cons_inv
 obtain rfl:=hs.nil_inv
 obtain⟨ao,cap,rfl,h1,h2,h3⟩:=V.sl_inv v1
 refine(FX h1 h2 hr fun hp=>?_).mono ?_
 ·obtain⟨b,off,rfl,_,_,_,u,hc,hv⟩:=h3 hp
  refine⟨_,rfl,fun i hi=>?_⟩
  have c1:=hc i 0 _ hi rfl
  have c2:=(hv i 0 _ hi rfl).sc_inv
  rw[Addr.add_lit]
  rw[c2]at c1
  simpa using c1
 ·rintro e w' ⟨v',rfl,ho,hb⟩
  obtain⟨hd,c1,c2,c3⟩:=SV ho (fun u hu=>by
   obtain⟨x,_,rfl⟩:=Amn.1 hu
   rfl)
  have hat:addP Fh 0 [Pl.arr 0 xs.length hd] 0=some (.arr 0 xs.length hd):=DJ (nx:=0) (i:=0) rfl
  refine⟨v',[Pl.arr 0 xs.length hd],rfl,Ee.one (Room.one hb fun k hk=>?_) ⟨rfl,rfl,c3 E _ _ (fun _ _=>rfl) fun i j x hi hx=>?_⟩,.ow hat (Ak6 _) c1 fun _=>⟨rfl,Ak6 _⟩⟩
  ·obtain⟨cap',hk⟩:=hk
   exact(c2 k cap' hk).2.1
  ·match j,hx with
   | 0,hx =>
    obtain rfl:=Ali hx
    have:(xs.map (Value.int .i64)).getD (i*1+0) undef=.int .i64 (xs.getD i 0):=by simp[List.getD,hi]
    rw[this];exact .sc
   | j+1,hx=>simp[AM]at hx
theorem V0 {f:List D.Type}{args l:List Int}{k:Nat}:(LC f args l k).length=l.length:=by simp[LC]
theorem TF {f:List D.Type}{args l:List Int}{k i:Nat}(hi:i<l.length):(LC f args l k).getD i 0=if i<k then IR (f.getD i default) (args.getD i 0) else l.getD i 0:=by simp[LC,List.getD,hi]
theorem Adj {f:List D.Type}{args l:List Int}:LC f args l 0=l:=by
 apply List.ext_getElem (by simp[LC])
 intro i h1 h2
 simp[LC,List.getD,h2]
theorem Rw {m:D.Model}{typ:Int}{args:List Int}(hw:Ay m)(h0:0<=typ/\typ<m.Procs.length)(_:args.length<=1048576)(h1:args.length<=(A8 m typ).Frame.length)(h2:args.length<=(A8 m typ).Init.length) :
  Ai Tryz.prog 25 [] [.agg (Ag m),Aa typ,Ad false args] [] (.agg (Ar (G4 m typ args))):=by
 have hp:=hw.Procs.2 _ (Av (d:=default) (show typ.toNat<m.Procs.length by omega))
 have hi:(A8 m typ).Init.length<=1048576:=hp.Init.1
 generalize hq:G4 m typ args=r
 refine Ah Al Am Tryz.func25 (by kernel_rfl) rfl (Aer r m typ args) ⟨h0,(A8 m typ).Init,VL (by show(A8 m typ).Init.length*8<=_;omega),?_⟩
 change AA _ _ (SJ m typ args (A8 m typ).Init 0)
 refine Bh Al Am (fun g st=>∃ k:Nat,k<=args.length/\g=args.length - k/\st=SJ m typ args (LC (A8 m typ).Frame args (A8 m typ).Init k) k) (by kernel_rfl) (by kernel_rfl) ⟨_,Up.of ⟨0,Alc _,rfl,by rw[Adj]<;>rfl⟩⟩ ?_
 rintro g st ⟨k,hk,rfl,rfl⟩
 generalize hL:(A8 m typ).Init=l at *
 generalize hF:(A8 m typ).Frame=f at *
 refine Alu (Abx r m typ args (LC f args l k) k _) ⟨fun hlt=>?_,fun hge=>?_⟩
 ·have hlt':k<args.length:=by have:=AV hlt;omega
  have hto:(k:Int).toNat=k:=by omega
  rw[hto,hF,V0]
  refine⟨by omega,by omega,IR (f.getD k default) (args.getD k 0),Vr _ _,by omega,args.length - (k+1),by omega,Up.mk (hs':=[.box [Aa 0,Aa 0,Aa 0,.nl],.box (Bc (A8 m typ)),.box [Aa typ,Aa (A8 m typ).Start,Aa (A8 m typ).Prio,.ow 3 0 l.length],.arr true 0 l.length 1 (AM (LC f args l (k+1)))]) (AO _) ⟨Ob.le_refl _,Ob.le_refl _,Ob.le_refl _,AlM fun i hi=>AQ ?_,trivial⟩ ⟨k+1,by omega,rfl,?_⟩⟩
  ·by_cases hik:i=k
   ·subst hik
    simp only[Ami,Ak4]
    unfold AM
    rw[TF hi,Alw (Al2 _)]<;>rfl
   ·have hb:Nat.beq i k=false:=by
     cases hq:Nat.beq i k with
     | true=>exact absurd (Ak7 hq) hik
     | false=>rfl
    simp only[hb,Ak0]
    unfold AM
    rw[TF hi,TF hi]
    by_cases h:i<k
    ·rw[Alw h,Alw (by omega)]<;>rfl
    ·rw[Alg h,Alg (by omega)]<;>rfl
  ·rw[An (by omega)]
   unfold SJ
   rw[V0]<;>rfl
 ·have hge':k=args.length:=by have:=A0 hge;omega
  subst hge'
  subst hq
  refine⟨trivial,Ama ?_⟩
  unfold G4
  rw[hL,hF]<;>rfl
theorem AbL {m:D.Model}{typ:Int}{args:List Int}(hw:Ay m)(ha:args.length<=1048576):Ai Tryz.prog 153 [] [.agg (Ag m),Aa typ,Ad false args] [] (.tup [.agg (Ar (GM m typ args).1),Aa (GM m typ args).2]):=by
 have hq:GM m typ args=bif !Dq m then(Ae7,40)
   else bif decide (typ<0)||(decide ((m.Procs.length:Int)<=typ)||(decide (typ=m.Claim)||decide ((args.length:Int)≠(A8 m typ).Params))) then(Ae7,42) else(G4 m typ args,0):=rfl
 have hn:∀ c:Int,VV.le (.tup [.agg [Aa 0,Aa 0,Aa 0,.nl],Aa c]) (.tup [.agg (Ar Ae7),Aa c]):=fun c=>Amx ⟨Aml ⟨VV.le_refl _,VV.le_refl _,VV.le_refl _,AlR,trivial⟩,VV.le_refl _,trivial⟩
 generalize GM m typ args=r at hq
 have e1:(bif bif bif decide (typ<(0:Int)) then true else decide (typ>=(m.Procs.length:Int)) then true else typ==m.Claim then true else(args.length:Int) != (m.Procs.getD typ.toNat default).Params)=(decide (typ<0)||(decide ((m.Procs.length:Int)<=typ)||(decide (typ=m.Claim)||decide ((args.length:Int)≠(A8 m typ).Params)))):=by
  rw[Alq];simp[A8,or_assoc]
 refine Ah Al Am Tryz.func153 (by kernel_rfl) rfl (AeB r.1 r.2 m typ args) ⟨Dq m,Mr hw,fun h=>?_,fun h=>⟨fun h2=>?_,fun h2=>?_,fun h2=>?_⟩⟩
 ·rw[h,Ak4]at hq;subst hq;exact⟨trivial,hn 40⟩
 ·simp at h2;omega
 ·rw[e1]at h2
  rw[h,Ak0,h2,Ak4]at hq;subst hq;exact⟨trivial,hn 42⟩
 ·rw[e1]at h2
  rw[h,Ak0,h2,Ak0]at hq;subst hq
  simp only[Aln,AlB]at h2
  have hm:Dq m=true:=by simpa using h
  have h0:0<=typ/\typ<m.Procs.length:=⟨by omega,by omega⟩
  obtain⟨f1,_⟩:=DT (Cy hm).2.1 typ.toNat (by omega)
  have f1:Di (A8 m typ)=true:=f1
  unfold Di at f1
  simp only[Ak2,Ak5]at f1
  have a1:=f1.1.1.1.1.1.1.1.2
  have a2:=f1.1.1.1.1.2
  exact⟨_,Rw hw h0 ha (by omega) (by omega),trivial,VV.le_refl _⟩
end Go.Proofs.YtmdcknlpalfhhaaGreatDoor
namespace Go.Proofs.YtmdcknlpalfhhaaGreatDoor.Ch
open Go.RowKit
set_option maxRecDepth 100000 in
set_option maxHeartbeats 2000000 in
theorem AbV {w:World}{fv qv mv:Value}{fs:List D.Type}{q:List (List Int)}{m:List Int}(room sh:Int)(sorted:Bool)(hfs:Is (Pkg.slice 2 16 HM) w [fv] fs)(hq:Is pQ w [qv] q)(hm:Is pM w [mv] m)
  (hsm:Small q) (hq1:(q.length+1)*24<=140737488355328) (hm8:m.length*8<=140737488355328) :
  Calls Tryz.prog 164 #[.agg #[.int .i64 room,fv],.agg #[.int .i64 sh,qv],mv,.bool sorted] w fun e w' =>
   (∃ ov vs,e=.returned (.tuple #[.agg #[.int .i64 (putSh room fs q m sh),ov],.int .i64 (putE room fs q m)])/\BN w' w.heap.size ov vs (putQ room fs q m sorted))/\Below w.heap.size w w':=by
 obtain⟨mo,mc,rfl,hm1,hm2,hmw,hm3⟩:=Ky hm
 obtain⟨fo,fc,rfl,hf1,hf2,hf3⟩:=Afk hfs
 obtain⟨qo,qc,rfl,hqa,hqb,hqc⟩:=GG hq
 obtain⟨ki,khi,khz0,khz1,khz2⟩:=B7 JH
 have hm2':=hm2
 have hf2':=hf2
 have hqb':=hqb
 unfold maxLen at hm2' hf2' hqb'
 by_cases hl:m.length=fs.length
 ·have hne:((m.length:Int) != (fs.length:Int))=false:=by simp[hl]
  have HL:=Lib.hid hl
  have hle1:=AmR hl
  have hle2:=AmR hl.symm
  clear hl
  go_enter Tryz.func164,Tryz.ntmps164
  go_wp2_with (at_make;refine wpList_make_full _ rfl (.tmp 24) (.tmp 24) 98 rfl w.heap.size 2 ki (.int .i64 0) 1 Tryz.underlying98 khi khz0 khz1 .i64 .i64 _ _ m.length rfl rfl ?hL ?hC ?b2 ?b3 ?b4 ?hK)
  case hL=>omega
  case hC=>omega
  case b2=>rw[khz2];omega
  case b3=>unfold maxLen;omega
  case b4=>simp;omega
  case hK =>
   intro w1 hown1 hgrow1
   have P0:PF w (w1.alloc (.cells #[.slice (some ⟨w.heap.size+3,0,none⟩) m.length m.length] 98)) room sh (.slice fo fs.length fc) (.slice qo q.length qc) w1.heap.size m.length (Hn fs m 0):=by
    have hs1:=hgrow1.size
    simp at hs1
    refine⟨?_,?_,?_,heap_alloc_new _ _,⟨?_,fun i hi=>?_⟩,R2 HL.out (Alc _),?_⟩
    ·rw[Below.heap_alloc _ _ _ (by omega),hgrow1.block _ (by simp;omega) (by simp)]
     rw[Below.heap_alloc _ _ _ (by simp;omega),Below.heap_alloc _ _ _ (by simp)]
     exact heap_alloc_new _ _
    ·rw[Below.heap_alloc _ _ _ (by omega),hgrow1.block _ (by simp) (by simp)]
     rw[Below.heap_alloc _ _ _ (by simp)]
     have:=heap_alloc_new (w.alloc (.cells #[.int .i64 room,.slice fo fs.length fc] 166)) (.cells #[.int .i64 sh,.slice qo q.length qc] 86)
     simpa using this
    ·rw[Below.heap_alloc _ _ _ (by omega),hgrow1.block _ (by simp) (by simp)]
     have:=heap_alloc_new ((w.alloc (.cells #[.int .i64 room,.slice fo fs.length fc] 166)).alloc (.cells #[.int .i64 sh,.slice qo q.length qc] 86)) (.cells #[.int .i64 0,.slice none 0 0] 86)
     simpa using this
    ·have hz:(Hn fs m 0).map (Value.int .i64)=(madeCells #[Value.int .i64 0] m.length).toList:=by rw[Aac];simp[Hn]
     rw[hz,R2 HL.out (Alc _)]
     exact hown1.alloc _
    ·have:(Hn fs m 0).getD i 0=0:=by simp[Hn,List.getD,List.getElem?_replicate];split<;>rfl
     rw[this];rfl
    ·exact(((((Below.refl _ w).alloc (Ak6 _) _).alloc (by simp) _).alloc (by simp;omega) _).grown hgrow1 (by simp;omega) (by simp)).alloc (by omega) _
   clear hown1 hgrow1
   have c0:=Aj P0.b0 (i:=1) rfl
   go_wp2
   go_loopw [29] (fun i wr=>∃ k:Nat,k<=m.length/\i=.int .i64 k/\(∀ j t,j<k->fs[j]?=some t->typeP t=true)/\PF w wr room sh (.slice fo fs.length fc) (.slice qo q.length qc) w1.heap.size m.length (Hn fs m k)) (fun i _=>m.length - (intOf i).toNat)
   case atStart=>exact⟨0,Alc _,rfl,fun j t h=>by omega,P0⟩
   case round =>
    obtain⟨k,hk,rfl,hty,hp⟩:=hrel
    by_cases hlt:k<m.length
    ·obtain⟨mb,moff,rfl,hmb,hmc⟩:=hm3 (by omega)
     obtain⟨fb,foff,rfl,hfb,hfc⟩:=hf3 (by omega)
     have ht:fs[k]?=some fs[k]:=by simp[show k<fs.length by omega]
     obtain⟨hc0,hc1⟩:=hfc k _ ht
     have hm0:=hmc k hlt
     have hset:=AcQ HL.out hlt _ ht
     have hwf:=Ajq fs[k].Bits (m.getD k 0) fs[k].Signed
     rw[← hp.below.cell (p:=⟨fb,foff+k*2,none⟩) hfb]at hc0
     rw[← hp.below.cell (p:=⟨fb,foff+k*2+1,none⟩) hfb]at hc1
     have hsz:=hp.below.size
     obtain⟨hlt2,hltX⟩:=hp.lt
     have HT:=Lib.hid ht
     have HSET:=Lib.hid hset
     clear hmc hfc hm hm3 hf3 ht hset hqc hfs hq
     generalize fs[k]=t at *
     generalize m.getD k 0=z at *
     obtain⟨tb,ts⟩:=t
     have hA:Below wr.heap.size wr (wr.alloc (.cells #[.int .i64 tb,.bool ts] 117)):=ED _ _
     have HG:=Vl ⟨tb,ts⟩ (wr.alloc (.cells #[.int .i64 tb,.bool ts] 117))
     unfold tyV at HG
     by_cases hgt:typeP ⟨tb,ts⟩=true
     ·rw[hgt]at HG
      have HTY:Hid (∀ j t,j<k+1->fs[j]?=some t->typeP t=true):=by
       intro j t hj he
       by_cases e:j=k
       ·subst e;rw[HT.out]at he;cases he;exact hgt
       ·exact hty j t (by omega) he
      clear hty
      go_wp2_with fail
      refine HG.mono ?_;rintro e w2 ⟨rfl,hb2⟩
      have hp2:=(hp.kept hA).kept hb2
      have hT2:w2.heap[wr.heap.size]?=some (.cells #[.int .i64 tb,.bool ts] 117 (0,0)):=(hb2.block _ (by simp)).trans (heap_alloc_new _ _)
      have mc2:w2.cell? ⟨mb,moff+k,none⟩=some (.int .i64 z):=(hp2.below.cell (p:=⟨mb,moff+k,none⟩) hmb).trans hm0
      have t0:w2.cell? ⟨wr.heap.size,0,none⟩=some (.int .i64 tb):=Aj hT2 rfl
      have t1:w2.cell? ⟨wr.heap.size,1,none⟩=some (.bool ts):=Aj hT2 rfl
      have x0:w2.cell? ⟨w1.heap.size,0,none⟩=some (.slice (some ⟨w.heap.size+3,0,none⟩) m.length m.length):=Aj hp2.b4 rfl
      have hT3:=BJ hT2
      have hX3:=BJ hp2.b4
      have hm3':mb<w2.heap.size:=by have:=hb2.size;simp at this;omega
      go_wp2
      go_region_with (go_at_call 37;(with_reducible refine(Agl _ _ _ _).mono ?_);rintro e w3 ⟨rfl,hb3⟩;obtain⟨hc3,hf3⟩:=AfZ hb3;have hp3:=hp2.kept (w2:=w3) ⟨hb3.os,hb3.tape,hb3.output,hb3.size,hb3.block⟩;have x3:=hp3.cell hlt;have f3:=hp3.free k;have x03:=Aj hp3.b4 (i:=0) rfl;have HP:Hid (PF w (w3.setCell ⟨w.heap.size+3,k,none⟩ (.int .i64 (Ej tb ts z))) room sh (.slice (some ⟨fb,foff,none⟩) fs.length fc) (.slice qo q.length qc) w1.heap.size m.length (Hn fs m (k+1))):=(by have:=hp3.set hwf hlt;rw[HSET.out]at this;exact this))
      all_goals
       go_wp2
       go_roundw
       case rel=>exact⟨k+1,by omega,by go_num,HTY.out,HP.out⟩
       case measure=>simp[intOf];omega
     ·have HE:Hid (putE room fs q m=42):=by
       unfold Hid putE
       rw[Alg (by simp[HL.out]),Alw]
       simp only[List.all_eq_false]
       exact⟨_,List.mem_iff_getElem?.2 ⟨k,HT.out⟩,hgt⟩
      rw[AlZ.2 hgt]at HG
      clear hty
      go_wp2_with fail
      refine HG.mono ?_;rintro e w2 ⟨rfl,hb2⟩
      have hp2:=(hp.kept hA).kept hb2
      have r0:w2.cell? ⟨w.heap.size+2,0,none⟩=some (.int .i64 0):=Aj hp2.b2 rfl
      have r1:w2.cell? ⟨w.heap.size+2,1,none⟩=some (.slice none 0 0):=Aj hp2.b2 rfl
      have f0:w2.frozen? ⟨w.heap.size+2,0,none⟩=false:=Ax hp2.b2
      have f1:w2.frozen? ⟨w.heap.size+2,1,none⟩=false:=Ax hp2.b2
      go_wp2
      have hres:((w2.setCell ⟨w.heap.size+2,0,none⟩ (.int .i64 0)).setCell ⟨w.heap.size+2,1,none⟩ (.slice none 0 0)).heap[w.heap.size+2]?=some (.cells #[.int .i64 0,.slice none 0 0] 86 (0,0)):=by
       rw[A1 (A1 hp2.b2 _)];rfl
      refine DS rfl rfl hres Tryz.underlying86 rfl (by kernel_rfl) rfl ⟨⟨.slice none 0 0,[],?_,?_⟩,?_⟩
      ·rw[HE.out,M3 HE.out (by decide)];rfl
      ·rw[PR HE.out (by decide)];exact BN.nil _ _
      ·exact(hp2.below.setCell (p:=⟨w.heap.size+2,0,none⟩) (AlW _ _) _).setCell (p:=⟨w.heap.size+2,1,none⟩) (AlW _ _) _
    ·obtain rfl:k=m.length:=by omega
     rw[AcR HL.out]at hp
     have b0:wr.cell? ⟨w.heap.size,0,none⟩=some (.int .i64 room):=Aj hp.b0 rfl
     have b1:wr.cell? ⟨w.heap.size+1,0,none⟩=some (.int .i64 sh):=Aj hp.b1 rfl
     have b2:wr.cell? ⟨w.heap.size+1,1,none⟩=some (.slice qo q.length qc):=Aj hp.b1 rfl
     have hall:fs.all typeP=true:=by
      rw[AlF]
      intro t ht
      obtain⟨j,hj⟩:=List.mem_iff_getElem?.1 ht
      exact hty j t (by have:=(Ak3.1 hj).1;omega) hj
     clear hty hm3 hf3
     by_cases hroom:room<=q.length
     ·have HE:Hid (putE room fs q m=45):=by
       unfold Hid putE
       rw[Alg (by simp[HL.out]),Alg (by simp[hall]),Alw hroom]
      have r0:wr.cell? ⟨w.heap.size+2,0,none⟩=some (.int .i64 0):=Aj hp.b2 rfl
      have r1:wr.cell? ⟨w.heap.size+2,1,none⟩=some (.slice none 0 0):=Aj hp.b2 rfl
      have f0:wr.frozen? ⟨w.heap.size+2,0,none⟩=false:=Ax hp.b2
      have f1:wr.frozen? ⟨w.heap.size+2,1,none⟩=false:=Ax hp.b2
      go_wp2
      have hres:((wr.setCell ⟨w.heap.size+2,0,none⟩ (.int .i64 0)).setCell ⟨w.heap.size+2,1,none⟩ (.slice none 0 0)).heap[w.heap.size+2]?=some (.cells #[.int .i64 0,.slice none 0 0] 86 (0,0)):=by
       rw[A1 (A1 hp.b2 _)];rfl
      refine DS rfl rfl hres Tryz.underlying86 rfl (by kernel_rfl) rfl ⟨⟨.slice none 0 0,[],?_,?_⟩,?_⟩
      ·rw[HE.out,M3 HE.out (by decide)];rfl
      ·rw[PR HE.out (by decide)];exact BN.nil _ _
      ·exact(hp.below.setCell (p:=⟨w.heap.size+2,0,none⟩) (AlW _ _) _).setCell (p:=⟨w.heap.size+2,1,none⟩) (AlW _ _) _
     ·have HE:Hid (putE room fs q m=0):=by
       unfold Hid putE
       rw[Alg (by simp[HL.out]),Alg (by simp[hall]),Alg hroom]
      have HC:=MD sh (hq.below Y6 hp.below) hsm
      go_wp2_with fail
      refine HC.mono ?_;rintro e w2 ⟨ov,vs,rfl,hown2,hb2⟩
      obtain⟨oo,oc,rfl,_⟩:=Eh hown2.row
      have hpO:=(hp.kept hb2).kept (ED _ (.cells #[.int .i64 sh,.slice oo q.length oc] 86))
      have hOO:(w2.alloc (.cells #[.int .i64 sh,.slice oo q.length oc] 86)).heap[w2.heap.size]?=_:=heap_alloc_new _ _
      have hownO:=(hown2.base hp.below.size).alloc (.cells #[.int .i64 sh,.slice oo q.length oc] 86)
      have xO:(w2.alloc (.cells #[.int .i64 sh,.slice oo q.length oc] 86)).cell? ⟨w1.heap.size,0,none⟩=some (.slice (some ⟨w.heap.size+3,0,none⟩) m.length m.length):=Aj hpO.b4 rfl
      have HX:=Vf hownO.is xO hpO.x.is
      have hn1:w.heap.size+2≠w2.heap.size:=by have h1:=hb2.size;have h2:=hp.lt;omega
      have hn2:w2.heap.size≠w.heap.size+2:=fun e=>hn1 e.symm
      have hn3:w.heap.size<=w2.heap.size:=by have h1:=hb2.size;have h2:=hp.lt;omega
      have HSH:Hid (putSh room fs q m sh=sh):=by unfold Hid putSh;rw[HE.out,Alw rfl]
      clear hown2 HC hq P0 c0 b0 b1 b2
      cases sorted with
      | false =>
       have HI:=Zr hpO hownO hOO q.length (w2.heap.size+1) (by simp) (Ak6 _) hq1
       have HQ:Hid (putQ room fs q m false=putAt q q.length (fitM fs m)):=by unfold Hid putQ putX;rw[HE.out,Alw rfl];rfl
       go_wp2_with fail
       refine HI.mono ?_;rintro e w4 ⟨ao,cap,vs',rfl,hq4,hO4,hr4,hb4⟩
       have cO0:w4.cell? ⟨w2.heap.size,0,none⟩=some (.int .i64 sh):=Aj hO4 rfl
       have cO1:w4.cell? ⟨w2.heap.size,1,none⟩=some (.slice oo q.length oc):=Aj hO4 rfl
       have fO1:w4.frozen? ⟨w2.heap.size,1,none⟩=false:=Ax hO4
       have r0:w4.cell? ⟨w.heap.size+2,0,none⟩=some (.int .i64 0):=Aj hr4 rfl
       have r1:w4.cell? ⟨w.heap.size+2,1,none⟩=some (.slice none 0 0):=Aj hr4 rfl
       have f0:w4.frozen? ⟨w.heap.size+2,0,none⟩=false:=Ax hr4
       have f1:w4.frozen? ⟨w.heap.size+2,1,none⟩=false:=Ax hr4
       go_wp2
       have hO5:=A1 (i:=1) hO4 (.slice ao (q.length+1) cap)
       have hr5:(w4.setCell ⟨w2.heap.size,1,none⟩ (.slice ao (q.length+1) cap)).heap[w.heap.size+2]?=_:=(Below.heap_setCell _ _ _ _ hn1).trans hr4
       have hres:(((w4.setCell ⟨w2.heap.size,1,none⟩ (.slice ao (q.length+1) cap)).setCell ⟨w.heap.size+2,0,none⟩ (.int .i64 sh)).setCell ⟨w.heap.size+2,1,none⟩ (.slice ao (q.length+1) cap)).heap[w.heap.size+2]?=some (.cells #[.int .i64 sh,.slice ao (q.length+1) cap] 86 (0,0)):=by
        rw[A1 (A1 hr5 _)];rfl
       refine DS rfl rfl hres Tryz.underlying86 rfl (by kernel_rfl) rfl ⟨⟨.slice ao (q.length+1) cap,vs',?_,?_⟩,?_⟩
       ·rw[HE.out,HSH.out];rfl
       ·rw[HQ.out];exact((hq4.set hO4 (by decide) (by decide) _).set hr5 (by decide) (by decide) _).set (A1 hr5 _) (by decide) (by decide) _
       ·exact((hb4.setCell (p:=⟨w2.heap.size,1,none⟩) hn3 _).setCell (p:=⟨w.heap.size+2,0,none⟩) (AlW _ _) _).setCell (p:=⟨w.heap.size+2,1,none⟩) (AlW _ _) _
      | true =>
       have HQ:Hid (putQ room fs q m true=putAt q (Ea (fitM fs m) q) (fitM fs m)):=by unfold Hid putQ putX;rw[HE.out,Alw rfl];rfl
       go_wp2_with fail
       refine HX.mono ?_;rintro e w3 ⟨rfl,nq,rfl⟩
       have hle:=R3 (fitM fs m) q
       have HI:=Zr (wO:=(w2.alloc (.cells #[.int .i64 sh,.slice oo q.length oc] 86)).drewN nq) (hpO.kept (below_drewN (Below.refl _ _) nq)) (hownO.same fun _ _ _=>rfl) hOO (Ea (fitM fs m) q) (w2.heap.size+1) (by simp) hle hq1
       by_cases hf:Ea (fitM fs m) q<q.length
       ·have HIX:Hid (IQ (fitM fs m) q=(Ea (fitM fs m) q:Nat)):=by unfold Hid IQ;rw[Alw hf]
        rw[HIX.out]
        generalize Ea (fitM fs m) q=at_ at *
        go_wp2_with fail
        refine HI.mono ?_;rintro e w4 ⟨ao,cap,vs',rfl,hq4,hO4,hr4,hb4⟩
        have cO0:w4.cell? ⟨w2.heap.size,0,none⟩=some (.int .i64 sh):=Aj hO4 rfl
        have cO1:w4.cell? ⟨w2.heap.size,1,none⟩=some (.slice oo q.length oc):=Aj hO4 rfl
        have fO1:w4.frozen? ⟨w2.heap.size,1,none⟩=false:=Ax hO4
        have r0:w4.cell? ⟨w.heap.size+2,0,none⟩=some (.int .i64 0):=Aj hr4 rfl
        have r1:w4.cell? ⟨w.heap.size+2,1,none⟩=some (.slice none 0 0):=Aj hr4 rfl
        have f0:w4.frozen? ⟨w.heap.size+2,0,none⟩=false:=Ax hr4
        have f1:w4.frozen? ⟨w.heap.size+2,1,none⟩=false:=Ax hr4
        go_wp2
        have hO5:=A1 (i:=1) hO4 (.slice ao (q.length+1) cap)
        have hr5:(w4.setCell ⟨w2.heap.size,1,none⟩ (.slice ao (q.length+1) cap)).heap[w.heap.size+2]?=_:=(Below.heap_setCell _ _ _ _ hn1).trans hr4
        have hres:(((w4.setCell ⟨w2.heap.size,1,none⟩ (.slice ao (q.length+1) cap)).setCell ⟨w.heap.size+2,0,none⟩ (.int .i64 sh)).setCell ⟨w.heap.size+2,1,none⟩ (.slice ao (q.length+1) cap)).heap[w.heap.size+2]?=some (.cells #[.int .i64 sh,.slice ao (q.length+1) cap] 86 (0,0)):=by
         rw[A1 (A1 hr5 _)];rfl
        refine DS rfl rfl hres Tryz.underlying86 rfl (by kernel_rfl) rfl ⟨⟨.slice ao (q.length+1) cap,vs',?_,?_⟩,?_⟩
        ·rw[HE.out,HSH.out];rfl
        ·rw[HQ.out];exact((hq4.set hO4 (by decide) (by decide) _).set hr5 (by decide) (by decide) _).set (A1 hr5 _) (by decide) (by decide) _
        ·exact((hb4.setCell (p:=⟨w2.heap.size,1,none⟩) hn3 _).setCell (p:=⟨w.heap.size+2,0,none⟩) (AlW _ _) _).setCell (p:=⟨w.heap.size+2,1,none⟩) (AlW _ _) _
       ·have HIX:Hid (IQ (fitM fs m) q=-1):=by unfold Hid IQ;rw[Alg hf]
        rw[HIX.out]
        have he:Ea (fitM fs m) q=q.length:=by omega
        rw[he]at HI HQ
        go_wp2_with fail
        refine HI.mono ?_;rintro e w4 ⟨ao,cap,vs',rfl,hq4,hO4,hr4,hb4⟩
        have cO0:w4.cell? ⟨w2.heap.size,0,none⟩=some (.int .i64 sh):=Aj hO4 rfl
        have cO1:w4.cell? ⟨w2.heap.size,1,none⟩=some (.slice oo q.length oc):=Aj hO4 rfl
        have fO1:w4.frozen? ⟨w2.heap.size,1,none⟩=false:=Ax hO4
        have r0:w4.cell? ⟨w.heap.size+2,0,none⟩=some (.int .i64 0):=Aj hr4 rfl
        have r1:w4.cell? ⟨w.heap.size+2,1,none⟩=some (.slice none 0 0):=Aj hr4 rfl
        have f0:w4.frozen? ⟨w.heap.size+2,0,none⟩=false:=Ax hr4
        have f1:w4.frozen? ⟨w.heap.size+2,1,none⟩=false:=Ax hr4
        go_wp2
        have hO5:=A1 (i:=1) hO4 (.slice ao (q.length+1) cap)
        have hr5:(w4.setCell ⟨w2.heap.size,1,none⟩ (.slice ao (q.length+1) cap)).heap[w.heap.size+2]?=_:=(Below.heap_setCell _ _ _ _ hn1).trans hr4
        have hres:(((w4.setCell ⟨w2.heap.size,1,none⟩ (.slice ao (q.length+1) cap)).setCell ⟨w.heap.size+2,0,none⟩ (.int .i64 sh)).setCell ⟨w.heap.size+2,1,none⟩ (.slice ao (q.length+1) cap)).heap[w.heap.size+2]?=some (.cells #[.int .i64 sh,.slice ao (q.length+1) cap] 86 (0,0)):=by
         rw[A1 (A1 hr5 _)];rfl
        refine DS rfl rfl hres Tryz.underlying86 rfl (by kernel_rfl) rfl ⟨⟨.slice ao (q.length+1) cap,vs',?_,?_⟩,?_⟩
        ·rw[HE.out,HSH.out];rfl
        ·rw[HQ.out];exact((hq4.set hO4 (by decide) (by decide) _).set hr5 (by decide) (by decide) _).set (A1 hr5 _) (by decide) (by decide) _
        ·exact((hb4.setCell (p:=⟨w2.heap.size,1,none⟩) hn3 _).setCell (p:=⟨w.heap.size+2,0,none⟩) (AlW _ _) _).setCell (p:=⟨w.heap.size+2,1,none⟩) (AlW _ _) _
 ·have HE:Hid (putE room fs q m=42):=by
   unfold Hid putE;rw[Alw hl]
  have hne:((m.length:Int) != (fs.length:Int))=true:=by simp;omega
  clear hl
  go_enter Tryz.func164,Tryz.ntmps164
  go_wp2
  have hres:(((w.alloc (.cells #[.int .i64 room,.slice fo fs.length fc] 166)).alloc (.cells #[.int .i64 sh,.slice qo q.length qc] 86)).alloc (.cells #[.int .i64 0,.slice none 0 0] 86)).heap[w.heap.size+2]?=some (.cells #[.int .i64 0,.slice none 0 0] 86 (0,0)):=by
   have:=heap_alloc_new ((w.alloc (.cells #[.int .i64 room,.slice fo fs.length fc] 166)).alloc (.cells #[.int .i64 sh,.slice qo q.length qc] 86)) (.cells #[.int .i64 0,.slice none 0 0] 86)
   simpa using this
  refine DS rfl rfl hres Tryz.underlying86 rfl (by kernel_rfl) rfl ⟨⟨.slice none 0 0,[],?_,?_⟩,?_⟩
  ·rw[HE.out,M3 HE.out (by decide)];rfl
  ·rw[PR HE.out (by decide)];exact BN.nil _ _
  ·exact(((Below.refl _ w).alloc (Ak6 _) _).alloc (by simp) _).alloc (by simp;omega) _
end Go.Proofs.YtmdcknlpalfhhaaGreatDoor.Ch
namespace Go.Proofs.YtmdcknlpalfhhaaGreatDoor.Ch
open Go.RowKit
def WfM (m:List Int):Prop:=∀ x∈m,(Lit.int .i64 x).wf=true
def WfQ (q:List (List Int)):Prop:=∀ m∈q,WfM m
def WfTs (l:List D.Type):Prop:=∀ t∈l,(Lit.int .i64 t.Bits).wf=true
section
variable {w : World} {E:AF} {m:Option Phi} {v:Value}
theorem Tr {α:Type}{l:List α}{i:Nat}{x d:α}(h:l[i]?=some x):l.getD i d=x:=by simp[List.getD,h]
theorem ZN {fz:Bool}{x:List Int}(h:V w E m (Ad fz x) v)(hw:WfM x):Is pM w [v] x:=by
 obtain⟨a,cap,rfl,h1,h2,h3⟩:=V.sl_inv h
 refine⟨a,cap,rfl,h1,h2,fun hp=>?_⟩
 obtain⟨b,off,rfl,hb,_,_,u,hc,hv⟩:=h3 hp
 refine⟨b,off,rfl,hb,fun i y hy=>⟨[.int .i64 y],rfl,fun k hk=>?_,rfl,hw y (AlG hy)⟩⟩
 obtain rfl:k=0:=by omega
 have hi:i<x.length:=(Ak3.1 hy).1
 have h1:=hc i 0 _ hi rfl
 have h2:=(hv i 0 _ hi rfl).sc_inv
 rw[Tr hy]at h2
 rw[h1,h2];rfl
theorem Tj {q:List (List Int)}(h:V w E m (BI true q) v)(hw:WfQ q):Is pQ w [v] q:=by
 obtain⟨a,cap,rfl,h1,h2,h3⟩:=V.sl_inv h
 refine⟨a,cap,rfl,h1,h2,fun hp=>?_⟩
 obtain⟨b,off,rfl,hb,_,_,u,hc,hv⟩:=h3 hp
 refine⟨b,off,rfl,hb,fun i y hy=>⟨[u i 0],rfl,fun k hk=>?_,?_⟩⟩
 ·obtain rfl:k=0:=by omega
  have hi:i<q.length:=(Ak3.1 hy).1
  rw[hc i 0 _ hi rfl];rfl
 ·have hi:i<q.length:=(Ak3.1 hy).1
  have:=hv i 0 _ hi rfl
  rw[Tr hy]at this
  exact ZN this (hw y (AlG hy))
theorem Afl {l:List D.Type}(h:V w E m (AJ true l) v)(hw:WfTs l):Is (Pkg.slice 2 16 HM) w [v] l:=by
 obtain⟨a,cap,rfl,h1,h2,h3⟩:=V.sl_inv h
 refine⟨a,cap,rfl,h1,h2,fun hp=>?_⟩
 obtain⟨b,off,rfl,hb,_,_,u,hc,hv⟩:=h3 hp
 refine⟨b,off,rfl,hb,fun i y hy=>⟨[.int .i64 y.Bits,.bool y.Signed],rfl,fun k hk=>?_,?_⟩⟩
 ·have hi:i<l.length:=(Ak3.1 hy).1
  have e0:=(hv i 0 _ hi rfl).sc_inv
  have e1:=(hv i 1 _ hi rfl).sc_inv
  rw[Tr hy]at e0 e1
  match k,hk with
  | 0,_=>rw[hc i 0 _ hi rfl,e0];rfl
  | 1,_=>rw[hc i 1 _ hi rfl,e1];rfl
 ·exact⟨[.int .i64 y.Bits],[.bool y.Signed],rfl,rfl,⟨rfl,hw y (AlG hy)⟩,[.bool y.Signed],[],rfl,rfl,rfl,rfl⟩
theorem AdS {n0:Nat}{x:List Int}(h:F7 w n0 v x)(hA:∀ k,E.fz k->k<n0):V w E m (Ad true x) v:=by
 obtain⟨ao,cap,rfl,h1,h2,h3⟩:=Eh h.row
 refine AmK h1 h2 fun hp=>?_
 obtain⟨g,rfl,hg,hlt,hc⟩:=h3 hp
 refine⟨g,0,rfl,hlt,fun hk=>by have:=hA g hk;omega,fun i _=>rfl,fun i _=>.int .i64 (x.getD i 0),fun i j y hi hy=>?_,fun i j y hi hy=>?_⟩
 ·match j,hy with
  | 0,_ =>
   have:=hc i hi
   simp only[AlC,Nat.mul_one,Al7]
   rw[this];simp[List.getD,hi]
  | j+1,hy=>simp at hy
 ·match j,hy with
  | 0,hy=>simp only[Ala,Ak1]at hy;subst hy;exact .sc
  | j+1,hy=>simp at hy
theorem AdR {n0:Nat}{vs:List Value}{q:List (List Int)}(h:BN w n0 v vs q)(hA:∀ k,E.fz k->k<n0):V w E m (BI true q) v:=by
 obtain⟨ao,cap,rfl,h1,h2,h3⟩:=Eh h.row
 refine AmK h1 h2 fun hp=>?_
 obtain⟨g,rfl,hg,hlt,hc⟩:=h3 hp
 refine⟨g,0,rfl,hlt,fun hk=>by have:=hA g hk;omega,fun i _=>rfl,fun i _=>vs.getD i undef,fun i j y hi hy=>?_,fun i j y hi hy=>?_⟩
 ·match j,hy with
  | 0,_ =>
   have:=hc i hi
   simp only[AlC,Nat.mul_one,Al7]
   rw[this];simp[List.getD,h.len,hi]
  | j+1,hy=>simp at hy
 ·match j,hy with
  | 0,hy =>
   simp only[Ala,Ak1]at hy
   subst hy
   have hv:vs[i]?=some (vs.getD i undef):=by simp[List.getD,h.len,hi]
   have hq:q[i]?=some (q.getD i []):=by simp[List.getD,hi]
   exact AdS (h.each i _ _ hv hq) hA
  | j+1,hy=>simp at hy
end
theorem put_spec (room sh:Int)(sorted:Bool){fs:List D.Type}{q:List (List Int)}{m:List Int}(h1:WfTs fs)(h2:WfQ q)(h3:WfM m)(hsm:Small q)(hq1:(q.length+1)*24<=140737488355328)(hm8:m.length*8<=140737488355328) :
  Ai Tryz.prog 164 [] [.agg [Aa room,AJ true fs],.agg [Aa sh,BI true q],Ad true m,.sc (.bool sorted)] [] (.tup [.agg [Aa (putSh room fs q m sh),BI true (putQ room fs q m sorted)],.sc (.int .i64 (putE room fs q m))]):=by
 refine Ai.hand ⟨_,Tryz.func164,rfl,by kernel_rfl⟩ fun w E vs hA _ _ _ hs=>?_
 obtain⟨u1,us1,rfl,v1,hs⟩:=hs.cons_inv
 obtain⟨u2,us2,rfl,v2,hs⟩:=hs.cons_inv
 obtain⟨u3,us3,rfl,v3,hs⟩:=hs.cons_inv
 obtain⟨u4,us4,rfl,v4,hs⟩:=hs.cons_inv
 obtain rfl:=hs.nil_inv
 obtain⟨r,fv,rfl,hr,hf⟩:=V.agg2_inv v1
 obtain⟨s,qv,rfl,hs',hq⟩:=V.agg2_inv v2
 rw[hr.sc_inv,hs'.sc_inv,v4.sc_inv]
 refine(AbV room sh sorted (Afl hf h1) (Tj hq h2) (ZN v3 h3) hsm hq1 hm8).mono ?_
 rintro e w' ⟨⟨ov,vs,rfl,ho⟩,hb⟩
 exact⟨_,rfl,MS (WL .sc (AdR ho hA)) .sc,hb⟩
theorem take_spec (sh:Int)(n:Nat){q:List (List Int)}(h2:WfQ q)(hsm:Small q)(hn:n<q.length) :
  Ai Tryz.prog 166 [] [.agg [Aa sh,BI true q],.sc (.int .i64 n)] [] (.tup [.agg [Aa sh,BI true (cutAt q n)],Ad true (q.getD n []),.sc (.int .i64 0)]):=by
 refine Ai.hand ⟨_,Tryz.func166,rfl,by kernel_rfl⟩ fun w E vs hA _ _ _ hs=>?_
 obtain⟨u1,us1,rfl,v1,hs⟩:=hs.cons_inv
 obtain⟨u2,us2,rfl,v2,hs⟩:=hs.cons_inv
 obtain rfl:=hs.nil_inv
 obtain⟨s,qv,rfl,hs',hq⟩:=V.agg2_inv v1
 rw[hs'.sc_inv,v2.sc_inv]
 refine(WW sh n (Tj hq h2) hsm hn).mono ?_
 rintro e w' ⟨ov,vs,mv,rfl,ho,hm,hb⟩
 exact⟨_,rfl,AdQ (WL .sc (AdR ho hA)) (AdS hm hA) .sc,hb⟩
theorem take_none_spec (sh n:Int){q:List (List Int)}(h2:WfQ q)(hn:n<0∨(q.length:Int)<=n) :
  Ai Tryz.prog 166 [] [.agg [Aa sh,BI true q],.sc (.int .i64 n)] [] (.tup [.agg [Aa 0,BI true []],Ad true [],.sc (.int .i64 46)]):=by
 refine Ai.hand ⟨_,Tryz.func166,rfl,by kernel_rfl⟩ fun w E vs hA _ _ _ hs=>?_
 obtain⟨u1,us1,rfl,v1,hs⟩:=hs.cons_inv
 obtain⟨u2,us2,rfl,v2,hs⟩:=hs.cons_inv
 obtain rfl:=hs.nil_inv
 obtain⟨s,qv,rfl,hs',hq⟩:=V.agg2_inv v1
 rw[hs'.sc_inv,v2.sc_inv]
 refine(Aa3 sh n (Tj hq h2) hn).mono ?_
 rintro e w' ⟨rfl,hb⟩
 exact⟨_,rfl,AdQ (WL .sc (.nil (Alc _))) (.nil (Alc _)) .sc,hb⟩
end Go.Proofs.YtmdcknlpalfhhaaGreatDoor.Ch
namespace Go.Proofs.YtmdcknlpalfhhaaGreatDoor
open Go.RowKit
theorem AdE {v:Int}(h:B33 v):(Lit.int .i64 v).wf=true:=by
 unfold B33 at h
 simp only[Lit.wf,Ak2,Ak5]
 show -9223372036854775808<=v/\v<=9223372036854775807
 omega
theorem Uf {t:List D.Type}{l:List Int}(h:Bx t l=true):Ch.WfM l:=fun x hx=>by
 obtain⟨i,hi,rfl⟩:=Amh hx
 have:=Pm h hi
 rw[show l.getD i 0=l[i] by simp[List.getD,hi]]at this
 exact AdE this
structure AjH (m:D.Model) (k:D.Chan):Prop where
 sh:0<=k.Shape/\k.Shape<m.Shapes.length
 wq:Ch.WfQ k.Queue
 small:Ch.Small k.Queue
 wt:Ch.WfTs (BP m k.Shape).Fields
 q:k.Queue.length<=16
 f:(BP m k.Shape).Fields.length<=8
 ty:∀ x∈k.Queue,x.length=(BP m k.Shape).Fields.length
theorem Aib {m:D.Model}{k:D.Chan}(hm:Dq m=true)(h:Dd m k=true):AjH m k:=by
 obtain⟨⟨a1,a2⟩,a3,a4⟩:=FE h
 have ht:=(Pv (Cy hm).1).shape k.Shape.toNat (by omega)
 have ht:D5 (BP m k.Shape)=true:=ht
 unfold D5 at ht
 simp only[Ak2,Ak5]at ht
 have hr:=(GU hm).room k.Shape a1 a2
 have hx:∀ x∈k.Queue,x.length=(BP m k.Shape).Fields.length:=fun x hx=>EI (a4 x hx)
 refine⟨⟨a1,a2⟩,fun x hx=>Uf (a4 x hx),⟨by omega,fun x h=>by have:=hx x h;omega⟩,fun t h=>?_,by omega,ht.1.2,hx⟩
 have:=(Ck (d:=default) (f:=fun t=>Hx t)).1 ht.2 t h
 unfold Hx at this
 simp only[Ak2,Ak5]at this
 exact AdE (by unfold B33;omega)
theorem Aa2 {m:D.Model}{k:D.Chan}{n:Int}(h:AjH m k):Ai Tryz.prog 166 [] [.agg (AB k),Aa n] [] (.tup [.agg (AB (En k n).1),Ad true (En k n).2.1,Aa (En k n).2.2]):=by
 unfold En
 cases c:(decide (n<0)||decide ((k.Queue.length:Int)<=n)) with
 | true=>exact Ch.take_none_spec k.Shape n h.wq (by simpa using c)
 | false =>
  simp only[Aln,AlB]at c
  have e:n=((n.toNat:Nat):Int):=by omega
  have:=Ch.take_spec k.Shape n.toNat h.wq h.small (show n.toNat<k.Queue.length by omega)
  rw[← e]at this
  exact this
theorem AeN {m:D.Model}{k:D.Chan}{l:List Int}(b:Bool)(h:AjH m k)(hl:Ch.WfM l)(h8:l.length<=1048576) :
  Ai Tryz.prog 164 [] [.agg (FC (BP m k.Shape)),.agg (AB k),Ad true l,Ac b] [] (.tup [.agg (AB (QY m k l b).1),Aa (QY m k l b).2]) :=
 Ch.put_spec (BP m k.Shape).Room k.Shape b h.wt h.wq hl h.small (by have:=h.q;omega) (by omega)
section
variable {e : D.Env}
theorem Ag5 {α:Type}{f:α->List VV}{d x:α}{G:Nat->List VV}(hG:G 0=f x):∀ j,j<[x].length->G j=f ([x].getD j d):=by
 intro j hj
 obtain rfl:j=0:=by simpa using hj
 exact hG
theorem BF {e:D.Env}:leO (hsE e) (hsE e):=⟨Ob.le_refl _,Ob.le_refl _,Ob.le_refl _,trivial⟩
theorem Ahg {p:D.Process}:leO [.box (E3 e (.ow 1 0 e.S.Chans.length) (.ow 2 0 (e.S.Procs.length+1))),obC e.S,.arr true 0 (e.S.Procs.length+1) 4 (fun i=>bif i.blt e.S.Procs.length then Ar (e.S.Procs.getD i default) else(fun i=>List.take 4 (List.drop (i*4) (Ar p))) (i - e.S.Procs.length))] (hsE (N7 e p)):=by
 have hl:(N7 e p).S.Procs.length=e.S.Procs.length+1:=by simp[N7]
 unfold hsE obP
 rw[hl]
 exact⟨Ob.le_refl _,Ob.le_refl _,AlM fun i hi=>AQ (B6 (f:=Ar) (d:=default) (l:=e.S.Procs) (r:=[p]) (F:=fun i=>Ar (e.S.Procs.getD i default)) (G:=fun i=>List.take 4 (List.drop (i*4) (Ar p))) (fun _ _=>rfl) (Ag5 rfl) (by simpa using hi)),trivial⟩
theorem NO {x:Int}(hw:Ay e.M)(hs:A7 e.S)(hx:0<=x/\x<e.M.Exprs.length):Ai Tryz.prog 120 (hsE e) [.bp 0 0,Aa x] (hsE (BR e x).1) (.tup [Aa (BR e x).2.1,Aa (BR e x).2.2]):=by
 have hn:=hs.p
 unfold Len at hn
 have ha:(Aw e.M x).Args.length<=1048576:=(hw.Exprs.2 _ (Yp hx)).Args.1
 have hq:BR e x=bif decide ((BM e (Aw e.M x).Args).2≠0) then(e,0,(BM e (Aw e.M x).Args).2)
   else bif decide ((GM e.M (Aw e.M x).N (BM e (Aw e.M x).Args).1).2≠0) then(e,0,(GM e.M (Aw e.M x).N (BM e (Aw e.M x).Args).1).2)
   else(N7 e (GM e.M (Aw e.M x).N (BM e (Aw e.M x).Args).1).1,(e.S.Procs.length:Int),0):=rfl
 generalize BR e x=r at hq
 refine Ah Al Am Tryz.func120 (by kernel_rfl) rfl (WB (hsE r.1) r.2.1 r.2.2 e x) ⟨hx,BM e (Aw e.M x).Args,MO (fun a _=>Qn hw hs a) ha,fun h1=>?_,fun h1=>⟨GM e.M (Aw e.M x).N (BM e (Aw e.M x).Args).1,AbL hw ?_,fun h2=>?_,fun h2=>⟨by omega,?_⟩⟩⟩
 ·rw[AH]at h1
  rw[h1,Ak4]at hq;subst hq
  exact⟨BF,VV.le_refl _⟩
 ·have:=QM (show(BM e (Aw e.M x).Args).2=0 by simpa using h1)
  omega
 ·rw[AH]at h1 h2
  rw[h1,Ak0,h2,Ak4]at hq;subst hq
  exact⟨BF,VV.le_refl _⟩
 ·rw[AH]at h1 h2
  rw[h1,Ak0,h2,Ak0]at hq;subst hq
  rw[Bt (by omega) (by omega)]
  exact⟨Ahg,Ama (by simp)⟩
theorem VZ {x:Int}(hs:A7 e.S)(hl:e.S.Procs.length<=16)(hm:Dq e.M=true):(BR e x).1.M=e.M/\A7 (BR e x).1.S:=by
 rcases JU (e:=e) (x:=x) with⟨h1,_⟩ | ⟨p,h1,_,h3⟩
 ·rw[h1];exact⟨rfl,hs⟩
 ·rw[h1]
  refine⟨rfl,hs.g,hs.c,?_,hs.cs,fun q hq=>?_⟩
  ·show Len (e.S.Procs++[p]).length
   unfold Len;simp;omega
  ·rcases AlA.1 hq with hq | hq
   ·exact hs.ps _ hq
   ·obtain rfl:=Aly.1 hq
    obtain⟨⟨p1,p2⟩,_,p4,_⟩:=Ey h3
    obtain⟨f1,_⟩:=DT (Cy hm).2.1 q.Type_.toNat (by omega)
    have f1:Di (A8 e.M q.Type_)=true:=f1
    unfold Di at f1
    simp only[Ak2,Ak5]at f1
    have:=f1.1.1.1.1.1.1.1.1
    unfold Len;omega
theorem Js (hw:Ay e.M)(hs:A7 e.S)(x v:Int):Ai Tryz.prog 124 (hsE e) [.bp 0 0,Aa x,Aa v] (hsE (CM e x v).1) (Aa (CM e x v).2):=NL hw hs x v
theorem Wf {s:D.Stmt}(h:BY e)(hs:Gm e.M s)(hk:s.Kind=2):Ai Tryz.prog 121 (hsE e) [.bp 0 0,.agg (Ap s)] (hsE (I7 e s).1) (Aa (I7 e s).2):=by
 have hsm:=h.fit.small
 have hB:=hs.k2 hk
 obtain⟨b1,b2⟩:=VZ (x:=s.B) hsm h.fit.p h.may
 have hq:I7 e s=bif DN e s.B then(bif decide ((BR e s.B).2.2≠0) then((BR e s.B).1,(BR e s.B).2.2) else CM (BR e s.B).1 s.A (BR e s.B).2.1)
   else bif decide ((AX e s.B).2≠0) then(e,(AX e s.B).2) else CM e s.A (AX e s.B).1:=rfl
 generalize I7 e s=r at hq
 refine Ah Al Am Tryz.func121 (by kernel_rfl) rfl (Aaf (hsE r.1) r.2 e s) ⟨DN e s.B,Iy fun _=>hB.2,fun h0=>⟨BR e s.B,NO h.wf hsm hB,fun h1=>?_,fun h1=>⟨CM (BR e s.B).1 s.A (BR e s.B).2.1,Js (by rw[b1];exact h.wf) b2 _ _,?_⟩⟩,
  fun h0=>⟨AX e s.B,Qn h.wf hsm s.B,fun h1=>?_,fun h1=>⟨CM e s.A (AX e s.B).1,Js h.wf hsm _ _,?_⟩⟩⟩
 ·rw[AH]at h1
  rw[h0,Ak4,h1,Ak4]at hq;subst hq
  exact⟨BF,VV.le_refl _⟩
 ·rw[AH]at h1
  rw[h0,Ak4,h1,Ak0]at hq;subst hq
  exact⟨BF,VV.le_refl _⟩
 ·rw[AH]at h1
  rw[h0,Ak0,h1,Ak4]at hq;subst hq
  exact⟨BF,VV.le_refl _⟩
 ·rw[AH]at h1
  rw[h0,Ak0,h1,Ak0]at hq;subst hq
  exact⟨BF,VV.le_refl _⟩
theorem RU {c:Int}{k:D.Chan}:leO [.box (E3 e (.ow 1 0 e.S.Chans.length) (.ow 2 0 e.S.Procs.length)),.arr true 0 e.S.Chans.length 2 (fun j=>bif Nat.beq j (c - 1).toNat then AB k else AB (e.S.Chans.getD j default)),obP e.S] (hsE (I8 e c k)):=by
 have hl:(I8 e c k).S.Chans.length=e.S.Chans.length:=by simp[I8]
 unfold hsE obC
 rw[hl]
 refine⟨Ob.le_refl _,AlM fun j hj=>AQ ?_,Ob.le_refl _,trivial⟩
 show _=AB ((e.S.Chans.set (c - 1).toNat k).getD j default)
 rw[Mz]
 by_cases h:(c - 1).toNat=j
 ·rw[← h,Ami,Ak4,Alw ⟨rfl,by omega⟩]
 ·rw[Alg (fun hn=>h hn.1)]
  have:Nat.beq j (c - 1).toNat=false:=by
   cases hq:Nat.beq j (c - 1).toNat with
   | true=>exact absurd (Ak7 hq).symm h
   | false=>rfl
  rw[this,Ak0]
theorem UD {c:Int}{k:D.Chan}(h:BY e)(hk:Dd e.M k=true):A7 (I8 e c k).S:=(Tt h.may (D9.2 ((D9.1 h.fits).setC hk))).small
theorem TO {s:D.Stmt}(h:BY e)(hs:Gm e.M s)(hk:s.Kind=6):Ai Tryz.prog 126 (hsE e) [.bp 0 0,.agg (Ap s)] (hsE (Gb e s).1) (Aa (Gb e s).2):=by
 have hsm:=h.fit.small
 have h6:=hs.k6 hk
 have hq:Gb e s=bif decide ((A9 e s).2.2≠0) then(e,(A9 e s).2.2)
   else bif decide ((En (Cl e (A9 e s).1) (A9 e s).2.1).2.2≠0) then(e,(En (Cl e (A9 e s).1) (A9 e s).2.1).2.2)
   else Du (bif decide (s.N<2) then I8 e (A9 e s).1 (En (Cl e (A9 e s).1) (A9 e s).2.1).1 else e) s (En (Cl e (A9 e s).1) (A9 e s).2.1).2.1:=rfl
 generalize Gb e s=r at hq
 refine Ah Al Am Tryz.func126 (by kernel_rfl) rfl (Wi (hsE r.1) r.2 e s) ⟨A9 e s,Agc h.wf hsm hs.args h6,fun h1=>?_,fun h1=>?_⟩
 ·rw[AH]at h1
  rw[h1,Ak4]at hq;subst hq
  exact⟨BF,VV.le_refl _⟩
 have hz:(A9 e s).2.2=0:=by simpa using h1
 obtain⟨hin,hfl⟩:=Vn h.wf hz
 rw[AH]at h1
 rw[h1,Ak0]at hq
 generalize (A9 e s).1=c at hin hfl hq ⊢
 generalize (A9 e s).2.1=n at hq ⊢
 have h2:=hin.lo
 have h3:=hin.hi
 have h4:=hin.le
 have hcp:=OT (D9.1 h.fits) hin
 have hck:=Aib h.may hcp
 rw[Bt (by omega) (by omega)]
 refine⟨by omega,En (Cl e c) n,Aa2 hck,fun h5=>?_,fun h5=>?_⟩
 ·rw[AH]at h5
  rw[h5,Ak4]at hq;subst hq
  exact⟨BF,VV.le_refl _⟩
 have hz2:(En (Cl e c) n).2.2=0:=by simpa using h5
 have hml:s.Args.length<=(En (Cl e c) n).2.1.length:=by
  unfold En at hz2 ⊢
  cases q:(decide (n<0)||decide (((Cl e c).Queue.length:Int)<=n)) with
  | true=>rw[q]at hz2;exact absurd (show(46:Int)=0 from hz2) (by decide)
  | false =>
   simp only[Aln,AlB]at q
   have:=hck.ty _ (Av (d:=[]) (show n.toNat<(Cl e c).Queue.length by omega))
   rw[Ak0,← hfl]
   exact AmR this.symm
 have hto:=Y4 hcp hz2
 rw[AH]at h5
 rw[h5,Ak0]at hq
 generalize En (Cl e c) n=t at hml hto hq ⊢
 refine⟨fun h7=>?_,fun h7=>?_⟩
 ·rw[h7,Ak4]at hq
  refine⟨by omega,Du (I8 e c t.1) s t.2.1,?_,?_⟩
  ·exact(Jk (e:=I8 e c t.1) h.wf (UD h hto) hs.args (by omega) hml).le RU ⟨VV.le_refl _,VV.le_refl _,VV.le_refl _,trivial⟩ BF (VV.le_refl _)
  ·rw[hq];exact⟨BF,VV.le_refl _⟩
 ·rw[h7,Ak0]at hq
  refine⟨Du e s t.2.1,Jk h.wf hsm hs.args (by omega) hml,?_⟩
  rw[hq];exact⟨BF,VV.le_refl _⟩
theorem Nd {l:D.Loc}{esc:Int}(_:-1<=esc)(h2:esc<l.Esc.length):Cc l esc∈DL l:=by
 unfold Cc
 cases c:decide (esc<0) with
 | true=>exact Alb
 | false =>
  have:0<=esc:=by have:=Alk c;omega
  exact Alp _ (Av (by omega))
theorem Wm (h:CK e):Ai Tryz.prog 84 [] [.agg (Bl e)] [] (.agg (AY (Dl e))) :=
 Ah Al Am Tryz.func84 (by kernel_rfl) rfl (Aat _ e) ⟨⟨h.p0,h.ok.pid.2⟩,h.facts.1,h.facts.2,trivial,VV.le_refl _⟩
theorem WE {l:D.Loc}{esc i:Int}(_:-1<=esc)(h2:esc<l.Esc.length)(h3:0<=i)(h4:i<(Cc l esc).length):Ai Tryz.prog 83 [] [.agg (AY l),Aa esc,Aa i] [] (.agg (CY ((Cc l esc).getD i.toNat default))):=by
 refine Aad (l:=l) (esc:=esc) (i:=i) (fun hn=>⟨h3,by
   have hx:Cc l esc=l.Out:=by unfold Cc;rw[AlO hn]<;>rfl
   rw[hx]at h4;exact h4⟩) (fun hn=>⟨h2,h3,by
   have hx:Cc l esc=l.Esc.getD esc.toNat []:=by unfold Cc;rw[AlI (by omega)]<;>rfl
   rw[hx]at h4;exact h4⟩)
structure Sl (e:D.Env) (s:D.Stmt) (w:Wy):Prop where
 hB:CK (BE e w.With)
 b1:-1<=w.WithEsc
 b2:w.WithEsc<(Dl (BE e w.With)).Esc.length
 b3:0<=w.WithWay
 b4:w.WithWay<(Cc (Dl (BE e w.With)) w.WithEsc).length
 kB:(Hu e w).S.Kind=6
 len:s.Args.length=(Hu e w).S.Args.length
theorem Sl.st {s:D.Stmt}{w:Wy}(m:Sl e s w):Gm e.M (Hu e w).S:=(m.hB.ws (Nd m.b1 m.b2)).st _ (Av (by have:=m.b3;have:=m.b4;omega))
theorem Wg {s:D.Stmt}{w:Wy}(h:BY e)(hs:Gm e.M s)(hm:0<=w.With->Sl e s w):Ai Tryz.prog 125 (hsE e) [.bp 0 0,.agg (Ap s),.agg (AZ w)] (hsE (I9 e s w).1) (Aa (I9 e s w).2):=by
 have hsm:=h.fit.small
 have hq:I9 e s w=bif decide ((Az e s).2.2≠0) then(e,(Az e s).2.2)
   else bif decide (0<=w.With) then({ e with S:=(Du (BE e w.With) (Hu e w).S (Az e s).2.1).1.S },(Du (BE e w.With) (Hu e w).S (Az e s).2.1).2) else Aeq e s:=rfl
 generalize I9 e s w=R at hq ⊢
 refine Ah Al Am Tryz.func125 (by kernel_rfl) rfl (Aag (hsE R.1) R.2 e s w) ⟨Az e s,O0 h.wf hsm hs.args,fun h1=>?_,fun h1=>⟨fun h2=>?_,fun h2=>?_⟩⟩
 ·rw[AH]at h1
  rw[h1,Ak4]at hq;subst hq
  exact⟨BF,VV.le_refl _⟩
 ·rw[AH]at h1
  rw[h1,Ak0,show decide (0<=w.With)=true from h2,Ak4]at hq
  have m:=hm (Ak9 h2)
  have hml:=JE (e:=e) (s:=s) (by simpa using h1)
  have hk6:=m.st.k6 m.kB
  have hll:=m.len
  refine⟨Dl (BE e w.With),Wm m.hB,Hu e w,WE m.b1 m.b2 m.b3 m.b4,Du (BE e w.With) (Hu e w).S (Az e s).2.1,Jk (e:=BE e w.With) h.wf hsm m.st.args (by omega) (by omega),?_⟩
  subst hq
  exact⟨⟨Ob.le_refl _,Ob.le_refl _,Ob.le_refl _,trivial⟩,VV.le_refl _⟩
 ·have hz:(Az e s).2.2=0:=by simpa using h1
  rw[AH]at h1
  rw[h1,Ak0,show decide (0<=w.With)=false from h2,Ak0]at hq
  obtain⟨hin,hty⟩:=P5 h.wf hz
  have hB:Aeq e s=(I8 e (Az e s).1 (QY e.M (Cl e (Az e s).1) (Az e s).2.1 (s.N==1)).1,(QY e.M (Cl e (Az e s).1) (Az e s).2.1 (s.N==1)).2):=by rw[ieq]<;>rfl
  rw[hB]at hq
  have hl:=JE hz
  have ha:=hs.args
  generalize (Az e s).1=c at hin hty hq ⊢
  generalize (Az e s).2.1=l at hty hl hq ⊢
  have g2:=hin.lo
  have g3:=hin.hi
  have g4:=hin.le
  have hck:=Aib h.may (OT (D9.1 h.fits) hin)
  rw[Bt (by omega) (by omega)]
  refine⟨by omega,hck.sh,QY e.M (Cl e c) l (s.N==1),AeN (s.N==1) hck (Uf hty) (by omega),by omega,?_⟩
  rw[hq]
  exact⟨RU,VV.le_refl _⟩
theorem Acy {n:Int}:leO [.box (E3 e (.ow 1 0 (e.S.Chans.length+1)) (.ow 2 0 e.S.Procs.length)),.arr true 0 (e.S.Chans.length+1) 2 (fun i=>bif i.blt e.S.Chans.length then AB (e.S.Chans.getD i default) else(fun i=>List.take 2 (List.drop (i*2) [Aa n,.nl])) (i - e.S.Chans.length)),obP e.S] (hsE (Hb e n)):=by
 have hl:(Hb e n).S.Chans.length=e.S.Chans.length+1:=by simp[Hb]
 unfold hsE obC
 rw[hl]
 refine⟨Ob.le_refl _,AlM fun i hi=>?_,Ob.le_refl _,trivial⟩
 by_cases h:i<e.S.Chans.length
 ·refine AQ ?_
  rw[E5 h]
  show _=AB ((e.S.Chans++[(⟨n,[]⟩:D.Chan)]).getD i default)
  simp[List.getD,Ale h]
 ·obtain rfl:i=e.S.Chans.length:=by omega
  rw[Gx (Ak6 _),Nat.sub_self]
  have:CQ (Hb e n).S.Chans e.S.Chans.length=AB ⟨n,[]⟩:=by simp[CQ,Hb,List.getD]
  rw[this]
  show leL [Aa n,.nl] [Aa n,BI true []]
  exact⟨VV.le_refl _,AlR,trivial⟩
theorem Ac7 {pr:ByteArray->List Int->ByteArray}{s:D.Stmt}{w:Wy}(h:BY e)(hs:Gm e.M s)(hm:s.Kind=5->0<=w.With->Sl e s w)
  (hpr:s.Kind=4->(BM e s.Args).2=0->Ai Tryz.prog 123 [] [AD s.Text,Ad false (BM e s.Args).1] [] (AD (pr s.Text (BM e s.Args).1))) :
  Ai Tryz.prog 85 (hsE e) [.bp 0 0,.agg (Ap s),.agg (AZ w)] (hsE (Dk pr e s w).1) (.tup [AD (Dk pr e s w).2.1,Aa (Dk pr e s w).2.2]):=by
 have hsm:=h.fit.small
 have hc:=h.fit.c
 have hq:Dk pr e s w=if s.Kind=1 then(bif DN e s.A then((BR e s.A).1,⟨#[]⟩,(BR e s.A).2.2) else(e,⟨#[]⟩,0))
   else if s.Kind=2 then((I7 e s).1,⟨#[]⟩,(I7 e s).2)
   else if s.Kind=3 then(e,⟨#[]⟩,I0 e s)
   else if s.Kind=4 then(e,bif decide ((BM e s.Args).2≠0) then⟨#[]⟩ else pr s.Text (BM e s.Args).1,(BM e s.Args).2)
   else if s.Kind=9 then((CM (Hb e s.N) s.A (e.S.Chans.length+1:Nat)).1,⟨#[]⟩,(CM (Hb e s.N) s.A (e.S.Chans.length+1:Nat)).2)
   else if s.Kind=5 then((I9 e s w).1,⟨#[]⟩,(I9 e s w).2)
   else if s.Kind=6 then((Gb e s).1,⟨#[]⟩,(Gb e s).2)
   else(e,⟨#[]⟩,0):=rfl
 generalize Dk pr e s w=R at hq ⊢
 have ne:∀ {k:Int},(s.Kind==k)=false->s.Kind≠k:=fun h1 h2=>by rw[h2]at h1;simp at h1
 refine Ah Al Am Tryz.func85 (by kernel_rfl) rfl (Aay R.1 R.2.1 R.2.2 e s w) ⟨fun k=>?_,fun k1=>⟨fun k=>?_,fun k2=>⟨fun k=>?_,fun k3=>⟨fun k=>?_,fun k4=>⟨fun k=>?_,fun k9=>⟨fun k=>?_,fun k5=>⟨fun k=>?_,fun k6=>?_⟩⟩⟩⟩⟩⟩⟩
 ·have k:=eq_of_beq k
  rw[Alw k]at hq
  have hA:=hs.k1 k
  refine⟨DN e s.A,Iy fun _=>hA.2,fun h1=>⟨BR e s.A,NO h.wf hsm hA,?_⟩,fun h1=>?_⟩
  ·rw[h1,Ak4]at hq;subst hq;exact⟨BF,VV.le_refl _⟩
  ·rw[h1,Ak0]at hq;subst hq;exact⟨BF,VV.le_refl _⟩
 ·have k:=eq_of_beq k
  rw[Alg (ne k1),Alw k]at hq
  subst hq
  exact⟨I7 e s,Wf h hs k,BF,VV.le_refl _⟩
 ·have k:=eq_of_beq k
  rw[Alg (ne k1),Alg (ne k2),Alw k]at hq
  subst hq
  refine⟨AX e s.A,Qn h.wf hsm s.A,fun h1=>⟨BF,Ama ?_⟩,fun h1=>⟨BF,Ama ?_⟩⟩
  ·show _=VV.tup [AD ⟨#[]⟩,Aa (I0 e s)]
   unfold I0
   rw[A6,ieq,ieq]at h1
   rw[h1]<;>rfl
  ·show _=VV.tup [AD ⟨#[]⟩,Aa (I0 e s)]
   unfold I0
   rw[A6,ieq,ieq]at h1
   rw[h1]<;>rfl
 ·have k:=eq_of_beq k
  rw[Alg (ne k1),Alg (ne k2),Alg (ne k3),Alw k]at hq
  refine⟨BM e s.Args,MO (fun x _=>Qn h.wf hsm x) hs.args,fun h1=>?_,fun h1=>⟨pr s.Text (BM e s.Args).1,hpr k (by simpa using h1),?_⟩⟩
  ·rw[AH]at h1
   rw[h1,Ak4]at hq;subst hq;exact⟨BF,VV.le_refl _⟩
  ·have h0:(BM e s.Args).2=0:=by simpa using h1
   rw[AH]at h1
   rw[h1,Ak0]at hq;subst hq
   refine⟨BF,Ama ?_⟩
   show _=VV.tup [AD _,Aa (BM e s.Args).2]
   rw[h0]<;>rfl
 ·have k:=eq_of_beq k
  rw[Alg (ne k1),Alg (ne k2),Alg (ne k3),Alg (ne k4),Alw k]at hq
  subst hq
  have hsm9:A7 (Hb e s.N).S:=by
   refine⟨hsm.g,?_,hsm.p,fun c hc=>?_,hsm.ps⟩
   ·show Len (e.S.Chans++[(⟨s.N,[]⟩:D.Chan)]).length
    unfold Len;simp;omega
   ·rcases AlA.1 hc with hc | hc
    ·exact hsm.cs _ hc
    ·obtain rfl:=Aly.1 hc
     exact⟨Alc _,fun x hx=>by cases hx⟩
  refine⟨by omega,CM (Hb e s.N) s.A (e.S.Chans.length+1:Nat),?_,BF,VV.le_refl _⟩
  exact(Js (e:=Hb e s.N) h.wf hsm9 _ _).le Acy ⟨VV.le_refl _,VV.le_refl _,VV.le_refl _,trivial⟩ BF (VV.le_refl _)
 ·have k:=eq_of_beq k
  rw[Alg (ne k1),Alg (ne k2),Alg (ne k3),Alg (ne k4),Alg (ne k9),Alw k]at hq
  subst hq
  exact⟨I9 e s w,Wg h hs (hm k),BF,VV.le_refl _⟩
 ·have k:=eq_of_beq k
  rw[Alg (ne k1),Alg (ne k2),Alg (ne k3),Alg (ne k4),Alg (ne k9),Alg (ne k5),Alw k]at hq
  subst hq
  exact⟨Gb e s,TO h hs k,BF,VV.le_refl _⟩
 ·rw[Alg (ne k1),Alg (ne k2),Alg (ne k3),Alg (ne k4),Alg (ne k9),Alg (ne k5),Alg (ne k6)]at hq
  subst hq
  exact⟨BF,VV.le_refl _⟩
end
end Go.Proofs.YtmdcknlpalfhhaaGreatDoor
namespace Go.Proofs.YtmdcknlpalfhhaaGreatDoor
open Go.RowKit
abbrev Afm : TypeId:=23
theorem I5.above {B b:Nat}{a:ByteArray}{w w':World}(h:I5 B b a w)(he:∀ k,B<=k->w'.heap[k]?=w.heap[k]?):I5 B b a w':=by
 have key:∀ p,Lib.BuilderAtF Q3 MI B b p (Lib.byteCells (bs a)) w->Lib.BuilderAtF Q3 MI B b p (Lib.byteCells (bs a)) w':=by
  rintro p ⟨hB,v,hbk,hown,hne⟩
  refine⟨hB,v,(he _ hB).trans hbk,⟨hown.1,?_⟩,hne⟩
  rcases hown.2 with hn | ⟨g,cap,cur,fz,rfl,hb,hgg,rest⟩
  ·exact .inl hn
  ·exact .inr ⟨g,cap,cur,fz,rfl,hb,(he _ hb).trans hgg,rest⟩
 rcases h with h | h
 ·exact .inl (key _ h)
 ·exact .inr (key _ h)
def YM (w:World)(a:Option Addr)(l:List Int):Prop:=0<l.length->∃ bb off,a=some ⟨bb,off,none⟩/\bb<w.heap.size/\∀ i,i<l.length->w.cell? ⟨bb,off+i,none⟩=some (.int .i64 (l.getD i 0))
structure PrI (w:World) (l:List Int) (T:ByteArray) (W:World):Prop where
 ab:∃ a cap,W.heap[w.heap.size]?=some (.cells #[.slice a l.length cap] Afm (0,0))/\l.length<=cap/\cap<=maxLen/\YM w a l
 bd:I5 (w.heap.size+1) (w.heap.size+1) T W
 bw:Below w.heap.size w W
 sz:w.heap.size+2<=W.heap.size
theorem PrI.write {w:World}{l:List Int}{T x:ByteArray}{W W':World}(h:PrI w l T W)(h1:I5 (w.heap.size+1) (w.heap.size+1) (T++x) W')(h2:Below (w.heap.size+1) W W'):PrI w l (T++x) W':=by
 obtain⟨a,cap,hb,r⟩:=h.ab
 exact⟨⟨a,cap,(h2.block _ (Al2 _)).trans hb,r⟩,h1,h.bw.trans (h2.mono (Amz _)),Als h.sz h2.size⟩
theorem PrI.same {w:World}{l:List Int}{T:ByteArray}{W W':World}(h:PrI w l T W)(h2:Below W.heap.size W W'):PrI w l T W':=by
 obtain⟨a,cap,hb,r⟩:=h.ab
 have:=h.sz
 exact⟨⟨a,cap,(h2.block _ (by omega)).trans hb,r⟩,h.bd.below h2,h.bw.trans (h2.mono h.bw.size),Als h.sz h2.size⟩
theorem B9 {w:World}{b i:Nat}{cs:Array Value}{t:TypeId}{v:Value}(h:w.heap[b]?=some (.cells cs t (0,0)))(hi:cs[i]?=some v):w.cell? ⟨b,i,none⟩=some v:=by
 simp[World.cell?,h,hi]
set_option maxRecDepth 100000 in
theorem AiI {n:Int}{W:World}(hL:Cb W)(hn:I64 n):Calls Tryz.prog 159 #[.int .i64 n] W fun e W'=>e=.returned (.string (Fi n))/\Below W.heap.size W W':=by
 go_enter Tryz.func159,Tryz.ntmps159
 go_wp2_with fail
 refine(Tryz.strconv_FormatInt_10 n hn.1 hn.2 W hL.tab).mono ?_
 rintro e w' ⟨rfl,k,os,rfl⟩
 go_wp2
 go_ret
 exact⟨rfl,Lib.below_grow _ W (Ak6 _) k os⟩
set_option maxRecDepth 100000 in
theorem AiJ {n:Int}{W:World}:Calls Tryz.prog 160 #[.int .i64 n] W fun e W'=>e=.returned (.string (mk [UInt8.ofNat (n % 256).toNat]))/\Below W.heap.size W W':=by
 go_enter Tryz.func160,Tryz.ntmps160
 go_wp2_with fail
 have hcv:(convert 101 9 (.slice (some ⟨W.heap.size,0,none⟩) 1 1)).run Tryz.prog (W.alloc (Obj.cells #[Value.int IntKind.u8 (n % 256)] 5))=.ok (.string (mk [UInt8.ofNat (n % 256).toNat])) (W.alloc (Obj.cells #[Value.int IntKind.u8 (n % 256)] 5)):=run_convert_bytes_back (P:=Tryz.prog) (W.alloc (Obj.cells #[Value.int IntKind.u8 (n % 256)] MI)) 101 9 MI ⟨W.heap.size,0,none⟩ 1 [UInt8.ofNat (n % 256).toNat] Tryz.underlying101 Tryz.underlying5 Tryz.underlying9 (fun j hj=>by
  obtain rfl:j=0:=by simpa using hj
  have e:((UInt8.ofNat (n % 256).toNat).toNat:Int)=n % 256:=by
   rw[UInt8.toNat_ofNat'];omega
  show World.cell? _ ⟨W.heap.size,0+0,none⟩=some (.int .u8 (((UInt8.ofNat (n % 256).toNat).toNat:Nat):Int))
  rw[e]
  exact B9 (heap_alloc_new _ _) rfl)
 rw[hcv]
 go_wp2
 go_ret
 exact⟨rfl,(Below.refl _ _).alloc (Ak6 _) _⟩
def Q5 (b:Nat):Prop:=∀ (u:Nat) (W:World),u<4294967296->Cb W->Calls Tryz.prog 157 #[.int .u64 u,.int .i64 b] W fun e W'=>e=.returned (.string (mk (Im b u)))/\Below W.heap.size W W'
set_option maxRecDepth 100000 in
theorem Xe {n:Int}{b kb:Nat}{W:World}(hU:Q5 b)(hL:Cb W)(hk:W.heap[kb]?=some (.cells #[.int .i64 b] 3 (0,0))):Calls Tryz.prog 156 #[.int .i64 n,.pointer (some ⟨kb,0,none⟩)] W fun e W'=>e=.returned (.string (mk (Im b (U8 n))))/\Below W.heap.size W W':=by
 have s0:=B9 (i:=0) (v:=.int .i64 b) hk rfl
 have hl:((U8 n:Nat):Int)=n % 4294967296:=by unfold U8;omega
 have hU':=hU (U8 n) W (by unfold U8;omega) hL
 rw[hl]at hU'
 go_enter Tryz.func156,Tryz.ntmps156
 go_wp2_with fail
 refine hU'.mono ?_
 rintro e w' ⟨rfl,hb⟩
 go_wp2
 go_ret
 exact⟨rfl,hb⟩
theorem PrI.step {w W:World}{n:Int}{l:List Int}{T:ByteArray}(h:PrI w (n::l) T W)(bb off cap len:Nat)(hl:len=l.length)(hcap:len<=cap/\cap<=maxLen∨len=0/\cap<=maxLen)(hlt:bb<w.heap.size)(hc:∀ i,i<l.length->w.cell? ⟨bb,off+i,none⟩=some (.int .i64 (l.getD i 0))):PrI w l T (W.setCell ⟨w.heap.size,0,none⟩ (.slice (some ⟨bb,off,none⟩) len cap)):=by
 obtain⟨a,c,hb,_⟩:=h.ab
 subst hl
 refine⟨⟨some ⟨bb,off,none⟩,cap,A1 hb _,by omega,by omega,fun _=>⟨bb,off,rfl,hlt,hc⟩⟩,h.bd.above fun k hk=>Below.heap_setCell _ _ _ _ (by show k≠w.heap.size;omega),h.bw.setCell (Ak6 _) _,by simpa using h.sz⟩
theorem KI {b:Nat}:∀ {g u:Nat},(KX b g u).length<=g
 | 0,_=>Ak6 _
 | g+1,u=>by
  unfold KX
  split
  ·simp
  ·have:=KI (b:=b) (g:=g) (u:=u / b)
   simp;omega
theorem Fs {c:UInt8}{n:Int}(hn:I64 n):(mk (Cg c n)).size<=64:=by
 rw[IF]
 unfold Cg
 split
 ·exact KI
 split
 ·exact KI
 split
 ·exact KI
 split
 ·simp
 ·have:=Lib.itoa_length_le n hn.1 hn.2;omega
set_option maxRecDepth 100000 in
theorem XT {w W:World}{l:List Int}{T:ByteArray}(hL:Cb w)(hlB:∀ k,k∈DX->k<w.heap.size)(h:PrI w l T W)(hI:∀ n∈l,I64 n)(hT:T.size<=70368744177664) :
  Calls Tryz.prog 154 #[.func (Fn.func 159) #[] #[],.pointer (some ⟨w.heap.size,0,none⟩),.pointer (some ⟨w.heap.size+1,0,none⟩)] W fun e W'=>(∃ v,e=.returned v)/\PrI w l.tail (T++mk ((l.take 1).flatMap (Cg 100))) W'/\W.heap.size<=W'.heap.size:=by
 have hz:=h.sz
 go_enter Tryz.func154,Tryz.ntmps154
 rcases l with _ | ⟨n,l⟩
 ·obtain⟨a,cap,hb,hcap,hmax,ha⟩:=h.ab
  have s0:=B9 (i:=0) (v:=.slice a 0 cap) hb rfl
  go_wp2
  go_end0
  refine⟨⟨_,rfl⟩,?_,Ak6 _⟩
  show PrI w [] (T++mk []) W
  rw[KK];exact h
 ·obtain⟨a,cap,hb,hcap,hmax,ha⟩:=h.ab
  have s0:=B9 (i:=0) (v:=.slice a (l.length+1) cap) hb rfl
  obtain⟨bb,off,rfl,hlt,hc⟩:=ha (by simp)
  have c0:W.cell? ⟨bb,off,none⟩=some (.int .i64 n):=(h.bw.cell hlt).trans (hc 0 (by simp))
  have hn:=hI n (Alb ..)
  go_wp2_with fail
  refine(AiI (hL.below hlB h.bw) hn).mono ?_
  rintro e W1 ⟨rfl,hb1⟩
  have h1:=h.same hb1
  have z1:(mk (Cg 100 n)).size<=64:=Fs hn
  have hs1:=hb1.size
  go_wp2_with fail
  refine(EG (s:=mk (Cg 100 n)) h1.bd (by omega) (by have:=h1.sz;omega)).mono ?_
  rintro e W2 ⟨rfl,k1,k2,k3⟩
  have h2:=h1.write k1 k2
  have hs2:=k2.size
  obtain⟨a2,cap2,hb2,hcap2,hmax2,ha2⟩:=h2.ab
  have s2:=B9 (i:=0) (v:=.slice a2 (l.length+1) cap2) hb2 rfl
  have f2:W2.frozen? ⟨w.heap.size,0,none⟩=false:=by simp[World.frozen?,hb2]
  obtain⟨bb2,off2,rfl,hlt2,hc2⟩:=ha2 (by simp)
  have hcap3:l.length+1<=cap2:=hcap2
  have htxt:mk (((n::l).take 1).flatMap (Cg 100))=mk (Cg 100 n):=by simp
  clear htxt
  go_wp2
  all_goals
   go_end0
   refine⟨⟨_,rfl⟩,?_,by simp;omega⟩
   first
    | exact h2.step _ _ _ _ rfl (by omega) hlt2 fun i hi=>by have:=hc2 (i+1) (by simp;omega);rw[show off2+1+i=off2+(i+1) by omega];simpa using this
    | exact h2.step _ _ _ _ rfl (by omega) hlt2 fun i hi=>by omega
set_option maxRecDepth 100000 in
theorem Ajb {w W:World}{l:List Int}{T:ByteArray}(h:PrI w l T W)(hI:∀ n∈l,I64 n)(hT:T.size<=70368744177664) :
  Calls Tryz.prog 154 #[.func (Fn.func 160) #[] #[],.pointer (some ⟨w.heap.size,0,none⟩),.pointer (some ⟨w.heap.size+1,0,none⟩)] W fun e W'=>(∃ v,e=.returned v)/\PrI w l.tail (T++mk ((l.take 1).flatMap (Cg 99))) W'/\W.heap.size<=W'.heap.size:=by
 have hz:=h.sz
 go_enter Tryz.func154,Tryz.ntmps154
 rcases l with _ | ⟨n,l⟩
 ·obtain⟨a,cap,hb,hcap,hmax,ha⟩:=h.ab
  have s0:=B9 (i:=0) (v:=.slice a 0 cap) hb rfl
  go_wp2
  go_end0
  refine⟨⟨_,rfl⟩,?_,Ak6 _⟩
  show PrI w [] (T++mk []) W
  rw[KK];exact h
 ·obtain⟨a,cap,hb,hcap,hmax,ha⟩:=h.ab
  have s0:=B9 (i:=0) (v:=.slice a (l.length+1) cap) hb rfl
  obtain⟨bb,off,rfl,hlt,hc⟩:=ha (by simp)
  have c0:W.cell? ⟨bb,off,none⟩=some (.int .i64 n):=(h.bw.cell hlt).trans (hc 0 (by simp))
  have hn:=hI n (Alb ..)
  go_wp2_with fail
  refine(AiJ).mono ?_
  rintro e W1 ⟨rfl,hb1⟩
  have h1:=h.same hb1
  have z1:(mk (Cg 99 n)).size<=64:=Fs hn
  have hs1:=hb1.size
  go_wp2_with fail
  refine(EG (s:=mk (Cg 99 n)) h1.bd (by omega) (by have:=h1.sz;omega)).mono ?_
  rintro e W2 ⟨rfl,k1,k2,k3⟩
  have h2:=h1.write k1 k2
  have hs2:=k2.size
  obtain⟨a2,cap2,hb2,hcap2,hmax2,ha2⟩:=h2.ab
  have s2:=B9 (i:=0) (v:=.slice a2 (l.length+1) cap2) hb2 rfl
  have f2:W2.frozen? ⟨w.heap.size,0,none⟩=false:=by simp[World.frozen?,hb2]
  obtain⟨bb2,off2,rfl,hlt2,hc2⟩:=ha2 (by simp)
  have hcap3:l.length+1<=cap2:=hcap2
  have htxt:mk (((n::l).take 1).flatMap (Cg 99))=mk (Cg 99 n):=by simp
  clear htxt
  go_wp2
  all_goals
   go_end0
   refine⟨⟨_,rfl⟩,?_,by simp;omega⟩
   first
    | exact h2.step _ _ _ _ rfl (by omega) hlt2 fun i hi=>by have:=hc2 (i+1) (by simp;omega);rw[show off2+1+i=off2+(i+1) by omega];simpa using this
    | exact h2.step _ _ _ _ rfl (by omega) hlt2 fun i hi=>by omega
set_option maxRecDepth 100000 in
theorem Ai9 {w W:World}{l:List Int}{T:ByteArray}{kb:Nat}(hU:Q5 10)(hk:W.heap[kb]?=some (.cells #[.int .i64 10] 3 (0,0)))(hL:Cb w)(hlB:∀ k,k∈DX->k<w.heap.size)(h:PrI w l T W)(hI:∀ n∈l,I64 n)(hT:T.size<=70368744177664) :
  Calls Tryz.prog 154 #[.func (Fn.func 156) #[] #[.pointer (some ⟨kb,0,none⟩)],.pointer (some ⟨w.heap.size,0,none⟩),.pointer (some ⟨w.heap.size+1,0,none⟩)] W fun e W'=>(∃ v,e=.returned v)/\PrI w l.tail (T++mk ((l.take 1).flatMap (Cg 117))) W'/\W.heap.size<=W'.heap.size:=by
 have hz:=h.sz
 go_enter Tryz.func154,Tryz.ntmps154
 rcases l with _ | ⟨n,l⟩
 ·obtain⟨a,cap,hb,hcap,hmax,ha⟩:=h.ab
  have s0:=B9 (i:=0) (v:=.slice a 0 cap) hb rfl
  go_wp2
  go_end0
  refine⟨⟨_,rfl⟩,?_,Ak6 _⟩
  show PrI w [] (T++mk []) W
  rw[KK];exact h
 ·obtain⟨a,cap,hb,hcap,hmax,ha⟩:=h.ab
  have s0:=B9 (i:=0) (v:=.slice a (l.length+1) cap) hb rfl
  obtain⟨bb,off,rfl,hlt,hc⟩:=ha (by simp)
  have c0:W.cell? ⟨bb,off,none⟩=some (.int .i64 n):=(h.bw.cell hlt).trans (hc 0 (by simp))
  have hn:=hI n (Alb ..)
  go_wp2_with fail
  refine(Xe hU (hL.below hlB h.bw) hk).mono ?_
  rintro e W1 ⟨rfl,hb1⟩
  have h1:=h.same hb1
  have z1:(mk (Cg 117 n)).size<=64:=Fs hn
  have hs1:=hb1.size
  go_wp2_with fail
  refine(EG (s:=mk (Cg 117 n)) h1.bd (by omega) (by have:=h1.sz;omega)).mono ?_
  rintro e W2 ⟨rfl,k1,k2,k3⟩
  have h2:=h1.write k1 k2
  have hs2:=k2.size
  obtain⟨a2,cap2,hb2,hcap2,hmax2,ha2⟩:=h2.ab
  have s2:=B9 (i:=0) (v:=.slice a2 (l.length+1) cap2) hb2 rfl
  have f2:W2.frozen? ⟨w.heap.size,0,none⟩=false:=by simp[World.frozen?,hb2]
  obtain⟨bb2,off2,rfl,hlt2,hc2⟩:=ha2 (by simp)
  have hcap3:l.length+1<=cap2:=hcap2
  have htxt:mk (((n::l).take 1).flatMap (Cg 117))=mk (Cg 117 n):=by simp
  clear htxt
  go_wp2
  all_goals
   go_end0
   refine⟨⟨_,rfl⟩,?_,by simp;omega⟩
   first
    | exact h2.step _ _ _ _ rfl (by omega) hlt2 fun i hi=>by have:=hc2 (i+1) (by simp;omega);rw[show off2+1+i=off2+(i+1) by omega];simpa using this
    | exact h2.step _ _ _ _ rfl (by omega) hlt2 fun i hi=>by omega
set_option maxRecDepth 100000 in
theorem Ai8 {w W:World}{l:List Int}{T:ByteArray}{kb:Nat}(hU:Q5 16)(hk:W.heap[kb]?=some (.cells #[.int .i64 16] 3 (0,0)))(hL:Cb w)(hlB:∀ k,k∈DX->k<w.heap.size)(h:PrI w l T W)(hI:∀ n∈l,I64 n)(hT:T.size<=70368744177664) :
  Calls Tryz.prog 154 #[.func (Fn.func 156) #[] #[.pointer (some ⟨kb,0,none⟩)],.pointer (some ⟨w.heap.size,0,none⟩),.pointer (some ⟨w.heap.size+1,0,none⟩)] W fun e W'=>(∃ v,e=.returned v)/\PrI w l.tail (T++mk ((l.take 1).flatMap (Cg 120))) W'/\W.heap.size<=W'.heap.size:=by
 have hz:=h.sz
 go_enter Tryz.func154,Tryz.ntmps154
 rcases l with _ | ⟨n,l⟩
 ·obtain⟨a,cap,hb,hcap,hmax,ha⟩:=h.ab
  have s0:=B9 (i:=0) (v:=.slice a 0 cap) hb rfl
  go_wp2
  go_end0
  refine⟨⟨_,rfl⟩,?_,Ak6 _⟩
  show PrI w [] (T++mk []) W
  rw[KK];exact h
 ·obtain⟨a,cap,hb,hcap,hmax,ha⟩:=h.ab
  have s0:=B9 (i:=0) (v:=.slice a (l.length+1) cap) hb rfl
  obtain⟨bb,off,rfl,hlt,hc⟩:=ha (by simp)
  have c0:W.cell? ⟨bb,off,none⟩=some (.int .i64 n):=(h.bw.cell hlt).trans (hc 0 (by simp))
  have hn:=hI n (Alb ..)
  go_wp2_with fail
  refine(Xe hU (hL.below hlB h.bw) hk).mono ?_
  rintro e W1 ⟨rfl,hb1⟩
  have h1:=h.same hb1
  have z1:(mk (Cg 120 n)).size<=64:=Fs hn
  have hs1:=hb1.size
  go_wp2_with fail
  refine(EG (s:=mk (Cg 120 n)) h1.bd (by omega) (by have:=h1.sz;omega)).mono ?_
  rintro e W2 ⟨rfl,k1,k2,k3⟩
  have h2:=h1.write k1 k2
  have hs2:=k2.size
  obtain⟨a2,cap2,hb2,hcap2,hmax2,ha2⟩:=h2.ab
  have s2:=B9 (i:=0) (v:=.slice a2 (l.length+1) cap2) hb2 rfl
  have f2:W2.frozen? ⟨w.heap.size,0,none⟩=false:=by simp[World.frozen?,hb2]
  obtain⟨bb2,off2,rfl,hlt2,hc2⟩:=ha2 (by simp)
  have hcap3:l.length+1<=cap2:=hcap2
  have htxt:mk (((n::l).take 1).flatMap (Cg 120))=mk (Cg 120 n):=by simp
  clear htxt
  go_wp2
  all_goals
   go_end0
   refine⟨⟨_,rfl⟩,?_,by simp;omega⟩
   first
    | exact h2.step _ _ _ _ rfl (by omega) hlt2 fun i hi=>by have:=hc2 (i+1) (by simp;omega);rw[show off2+1+i=off2+(i+1) by omega];simpa using this
    | exact h2.step _ _ _ _ rfl (by omega) hlt2 fun i hi=>by omega
set_option maxRecDepth 100000 in
theorem Aja {w W:World}{l:List Int}{T:ByteArray}{kb:Nat}(hU:Q5 8)(hk:W.heap[kb]?=some (.cells #[.int .i64 8] 3 (0,0)))(hL:Cb w)(hlB:∀ k,k∈DX->k<w.heap.size)(h:PrI w l T W)(hI:∀ n∈l,I64 n)(hT:T.size<=70368744177664) :
  Calls Tryz.prog 154 #[.func (Fn.func 156) #[] #[.pointer (some ⟨kb,0,none⟩)],.pointer (some ⟨w.heap.size,0,none⟩),.pointer (some ⟨w.heap.size+1,0,none⟩)] W fun e W'=>(∃ v,e=.returned v)/\PrI w l.tail (T++mk ((l.take 1).flatMap (Cg 111))) W'/\W.heap.size<=W'.heap.size:=by
 have hz:=h.sz
 go_enter Tryz.func154,Tryz.ntmps154
 rcases l with _ | ⟨n,l⟩
 ·obtain⟨a,cap,hb,hcap,hmax,ha⟩:=h.ab
  have s0:=B9 (i:=0) (v:=.slice a 0 cap) hb rfl
  go_wp2
  go_end0
  refine⟨⟨_,rfl⟩,?_,Ak6 _⟩
  show PrI w [] (T++mk []) W
  rw[KK];exact h
 ·obtain⟨a,cap,hb,hcap,hmax,ha⟩:=h.ab
  have s0:=B9 (i:=0) (v:=.slice a (l.length+1) cap) hb rfl
  obtain⟨bb,off,rfl,hlt,hc⟩:=ha (by simp)
  have c0:W.cell? ⟨bb,off,none⟩=some (.int .i64 n):=(h.bw.cell hlt).trans (hc 0 (by simp))
  have hn:=hI n (Alb ..)
  go_wp2_with fail
  refine(Xe hU (hL.below hlB h.bw) hk).mono ?_
  rintro e W1 ⟨rfl,hb1⟩
  have h1:=h.same hb1
  have z1:(mk (Cg 111 n)).size<=64:=Fs hn
  have hs1:=hb1.size
  go_wp2_with fail
  refine(EG (s:=mk (Cg 111 n)) h1.bd (by omega) (by have:=h1.sz;omega)).mono ?_
  rintro e W2 ⟨rfl,k1,k2,k3⟩
  have h2:=h1.write k1 k2
  have hs2:=k2.size
  obtain⟨a2,cap2,hb2,hcap2,hmax2,ha2⟩:=h2.ab
  have s2:=B9 (i:=0) (v:=.slice a2 (l.length+1) cap2) hb2 rfl
  have f2:W2.frozen? ⟨w.heap.size,0,none⟩=false:=by simp[World.frozen?,hb2]
  obtain⟨bb2,off2,rfl,hlt2,hc2⟩:=ha2 (by simp)
  have hcap3:l.length+1<=cap2:=hcap2
  have htxt:mk (((n::l).take 1).flatMap (Cg 111))=mk (Cg 111 n):=by simp
  clear htxt
  go_wp2
  all_goals
   go_end0
   refine⟨⟨_,rfl⟩,?_,by simp;omega⟩
   first
    | exact h2.step _ _ _ _ rfl (by omega) hlt2 fun i hi=>by have:=hc2 (i+1) (by simp;omega);rw[show off2+1+i=off2+(i+1) by omega];simpa using this
    | exact h2.step _ _ _ _ rfl (by omega) hlt2 fun i hi=>by omega
theorem PrI.start {w:World}{l:List Int}{a:Option Addr}{cap:Nat}(h1:l.length<=cap)(h2:cap<=maxLen)(h:YM w a l):PrI w l (Go.Proofs.YtmdcknlpalfhhaaGreatDoor.mk []) ((w.alloc (.cells #[.slice a l.length cap] Afm)).alloc (.cells #[.pointer none,.slice none 0 0] Q3)):=by
 refine⟨⟨a,cap,?_,h1,h2,h⟩,?_,?_,by simp⟩
 ·rw[Below.heap_alloc _ _ _ (by simp)];exact heap_alloc_new _ _
 ·have:=I5.start (w.alloc (.cells #[.slice a l.length cap] Afm))
  rw[show(w.alloc (.cells #[.slice a l.length cap] Afm)).heap.size=w.heap.size+1 by simp]at this
  exact this
 ·exact((Below.refl _ w).alloc (Ak6 _) _).alloc (by simp) _
theorem Q2 (a:ByteArray)(c:UInt8):Lib.byteCells (bs a)++[.int .u8 (c.toNat:Int)]=Lib.byteCells (bs (a++mk [c])):=by
 rw[KH]
 simp[Lib.byteCells,VS]
theorem G3 {B b:Nat}{a:ByteArray}{w:World}{c:UInt8}{n:Int}(hn:n=(c.toNat:Int))(h:I5 B b a w)(hlen:a.size+1<=140737488355328)(hB:B<=w.heap.size) :
  Calls Tryz.prog 158 #[.pointer (some ⟨b,0,none⟩),.int .u8 n] w fun e w'=>e=.returned .nilIface/\I5 B b (a++mk [c]) w'/\Below B w w':=by
 subst hn
 refine(Any.Builder_WriteByte_k Tryz.lays167 Tryz.Builder_Extra_167 B b (Lib.byteCells (bs a)) (c.toNat:Int) w h (by rw[Lib.byteCells_length,← Km];exact hlen) hB).mono ?_
 rintro e w' ⟨rfl,h1,h2,h3⟩
 refine⟨rfl,?_,h2⟩
 rw[Q2]at h1
 exact .inr h1
theorem Mk {w:World}{l:List Int}{T:ByteArray}{W W':World}{c:UInt8}(h:PrI w l T W)(h1:I5 (w.heap.size+1) (w.heap.size+1) (T++mk [c]) W')(h2:Below (w.heap.size+1) W W'):PrI w l (T++mk [c]) W':=h.write h1 h2
theorem XV {c:UInt8}(h:c.toNat≠37):(c==37)=false:=by
 rw[beq_eq_false_iff_ne];rintro rfl;exact h rfl
theorem Ah9 {c:UInt8}(h:c.toNat=37):c=37:=Amc.1 h
theorem AeW {c:UInt8}{L:By}{l:List Int}(h:c.toNat≠37∨L=[]):BQ (c::L) l=c::BQ L l:=by
 cases L with
 | nil=>rfl
 | cons d r =>
  rcases h with h | h
  ·simp only[BQ,XV h,Bool.not_false,Ak4]
  ·cases h
theorem Akn {r:By}{l:List Int}:BQ (37::37::r) l=37::BQ r l:=rfl
theorem Ag0 {d:UInt8}{r:By}{l:List Int}(h1:d.toNat≠37)(h2:Gi d=true):BQ (37::d::r) l=(l.take 1).flatMap (Cg d)++BQ r l.tail:=by
 have e:BQ (37::d::r) l=bif d==37 then 37::BQ r l else bif Gi d then(match l with | []=>BQ r [] | n::l=>Cg d n++BQ r l) else 37::d::BQ r l:=rfl
 rw[e,XV h1,h2,Ak0,Ak4]
 cases l with
 | nil=>rfl
 | cons n l=>simp
theorem AeX {d:UInt8}{r:By}{l:List Int}(h1:d.toNat≠37)(h2:Gi d=false):BQ (37::d::r) l=37::d::BQ r l:=by
 have e:BQ (37::d::r) l=bif d==37 then 37::BQ r l else bif Gi d then(match l with | []=>BQ r [] | n::l=>Cg d n++BQ r l) else 37::d::BQ r l:=rfl
 rw[e,XV h1,h2];rfl
theorem MK (T:ByteArray)(c:UInt8)(r:By):T++mk (c::r)=T++mk [c]++mk r:=by rw[V1,Na];rfl
theorem AhT (T:ByteArray)(a r:By):T++mk (a++r)=T++mk a++mk r:=by rw[V1,Na]
theorem Ju (T:ByteArray)(c:UInt8):(T++mk [c]).size=T.size+1:=by rw[Amk,IF];rfl
theorem Abm {T:ByteArray}{c:UInt8}{l:List Int}(hI:∀ n∈l,I64 n):(T++mk ((l.take 1).flatMap (Cg c))).size<=T.size+64:=by
 rw[Amk]
 cases l with
 | nil=>simp[IF]
 | cons n l =>
  have:=Fs (c:=c) (hI n (Alb ..))
  simp only[List.take_succ_cons,List.take_zero,List.flatMap_cons,List.flatMap_nil,Al4]
  omega
theorem Xf {c:UInt8}(h:Gi c=true):c.toNat=100∨c.toNat=105∨c.toNat=101∨c.toNat=117∨c.toNat=120∨c.toNat=111∨c.toNat=99:=by
 simp only[Gi,Amd,beq_iff_eq]at h
 rcases h with rfl | rfl | rfl | rfl | rfl | rfl | rfl<;>simp
theorem Abp {c:UInt8}(h:Gi c=false):c.toNat≠100/\c.toNat≠105/\c.toNat≠101/\c.toNat≠117/\c.toNat≠120/\c.toNat≠111/\c.toNat≠99:=by
 simp only[Gi,Aln,beq_eq_false_iff_ne]at h
 obtain⟨h1,h2,h3,h4,h5,h6,h7⟩:=h
 refine⟨fun e=>h1 ?_,fun e=>h2 ?_,fun e=>h3 ?_,fun e=>h4 ?_,fun e=>h5 ?_,fun e=>h6 ?_,fun e=>h7 ?_⟩<;>exact Amc.1 e
theorem Aei : Cg 105=Cg 100:=by funext n;simp[Cg]
theorem Aej : Cg 101=Cg 100:=by funext n;simp[Cg]
theorem JC {W:World}{b:Nat}:Calls Tryz.prog 155 #[.int .i64 b] W fun e W'=>e=.returned (.func (Fn.func 156) #[] #[.pointer (some ⟨W.heap.size,0,none⟩)])/\W'=W.alloc (.cells #[.int .i64 b] 3):=by
 go_enter Tryz.func155,Tryz.ntmps155
 go_wp2
 go_ret
 exact⟨rfl,rfl⟩
theorem Z2 {t:ByteArray}{k:Nat}(h:k<t.size):(bs t).drop k=t[k]'h::(bs t).drop (k+1):=by
 have hl:k<(bs t).length:=by rw[← Km];exact h
 exact Al5 hl
set_option maxRecDepth 100000 in
set_option maxHeartbeats 4000000 in
theorem UP {w:World}{t:ByteArray}{l:List Int}{a:Option Addr}{cap:Nat}(hL:Cb w)(hlB:∀ k,k∈DX->k<w.heap.size)(h1:l.length<=cap)(h2:cap<=maxLen)(ha:YM w a l)(hI:∀ n∈l,I64 n)(ht:t.size<=1099511627776)
  (hU:(∃ c∈bs t,c=117∨c=120∨c=111)->Q5 10/\Q5 16/\Q5 8) :
  Calls Tryz.prog 123 #[.string t,.slice a l.length cap] w fun e w'=>e=.returned (.string (CV t l))/\Below w.heap.size w w':=by
 have hst:=PrI.start h1 h2 ha
 clear ha h1 h2
 go_enter Tryz.func123,Tryz.ntmps123
 go_wp2_with fail
 generalize ((w.alloc (.cells #[.slice a l.length cap] Afm)).alloc (.cells #[.pointer none,.slice none 0 0] Q3))=W at hst
 go_loopw [8] (fun i wr=>∃ (k:Nat) (rest:List Int) (T:ByteArray),k<=t.size/\i=.int .i64 k/\PrI w rest T wr/\T++mk (BQ ((bs t).drop k) rest)=CV t l/\T.size<=64*k/\∀ n∈rest,I64 n) (fun i _=>t.size - (intOf i).toNat)
 case atStart=>exact⟨0,l,mk [],Alc _,rfl,hst,by unfold CV;rw[Na];rfl,by simp[IF],hI⟩
 case round =>
  clear hst hI
  obtain⟨k,rest,T,hk,rfl,hp,heq,hT,hI⟩:=hrel
  by_cases hlt:k<t.size
  ·have hdk:=Z2 hlt
   rw[hdk]at heq
   have hz:=hp.sz
   by_cases hA:(t[k]'hlt).toNat≠37∨k+1=t.size
   ·have hpg:BQ ((t[k]'hlt)::(bs t).drop (k+1)) rest=(t[k]'hlt)::BQ ((bs t).drop (k+1)) rest:=AeW (hA.imp id fun h=>AlK (by rw[← Km];omega))
    rw[hpg,MK]at heq
    clear hpg hdk
    by_cases hc:(t[k]'hlt).toNat=37
    ·have hk1:k+1=t.size:=by omega
     go_wp2_with fail
     refine(G3 (c:=t[k]'hlt) (by rw[hc];rfl) hp.bd (by omega) (by omega)).mono ?_
     rintro e W2 ⟨rfl,k1,k2⟩
     have hp2:=Mk hp k1 k2
     have hs:=Ju T (t[k]'hlt)
     go_wp2
     go_roundw
     case rel=>exact⟨k+1,rest,_,by omega,by go_num,hp2,heq,by omega,hI⟩
     case measure=>simp[intOf];omega
    ·go_wp2_with fail
     refine(G3 (c:=t[k]'hlt) rfl hp.bd (by omega) (by omega)).mono ?_
     rintro e W2 ⟨rfl,k1,k2⟩
     have hp2:=Mk hp k1 k2
     have hs:=Ju T (t[k]'hlt)
     go_wp2
     go_roundw
     case rel=>exact⟨k+1,rest,_,by omega,by go_num,hp2,heq,by omega,hI⟩
     case measure=>simp[intOf];omega
   ·have hc:(t[k]'hlt).toNat=37:=by omega
    have hk1:k+1<t.size:=by omega
    have hk2:¬ k+1=t.size:=by omega
    have hdk2:=Z2 hk1
    rw[Ah9 hc,hdk2]at heq
    clear hA hdk
    by_cases h37:(t[k+1]'hk1).toNat=37
    ·rw[Ah9 h37,Akn,MK]at heq
     go_wp2_with fail
     refine(G3 (c:=37) rfl hp.bd (by omega) (by omega)).mono ?_
     rintro e W2 ⟨rfl,k1,k2⟩
     have hp2:=Mk hp k1 k2
     have hs:=Ju T 37
     go_wp2
     go_roundw
     case rel=>exact⟨k+2,rest,_,by omega,by go_num,hp2,heq,by omega,hI⟩
     case measure=>simp[intOf];omega
    ·by_cases hsh:Gi (t[k+1]'hk1)=true
     ·rw[Ag0 h37 hsh,AhT]at heq
      have hsz:=Abm (T:=T) (c:=t[k+1]'hk1) hI
      have hmem:t[k+1]'hk1∈bs t:=Array.getElem_mem_toList _
      rcases Xf hsh with hd | hd | hd | hd | hd | hd | hd
      ·rw[show t[k+1]'hk1=100 from Amc.1 hd]at heq hsz
       go_wp2_with fail
       refine(XT hL hlB hp hI (by omega)).mono ?_
       rintro e W2 ⟨⟨v,rfl⟩,hp2,_⟩
       go_wp2
       go_roundw
       case rel=>exact⟨k+2,rest.tail,_,by omega,by go_num,hp2,heq,by omega,fun n h=>hI n (Amw h)⟩
       case measure=>simp[intOf];omega
      ·rw[show t[k+1]'hk1=105 from Amc.1 hd,Aei]at heq hsz
       go_wp2_with fail
       refine(XT hL hlB hp hI (by omega)).mono ?_
       rintro e W2 ⟨⟨v,rfl⟩,hp2,_⟩
       go_wp2
       go_roundw
       case rel=>exact⟨k+2,rest.tail,_,by omega,by go_num,hp2,heq,by omega,fun n h=>hI n (Amw h)⟩
       case measure=>simp[intOf];omega
      ·rw[show t[k+1]'hk1=101 from Amc.1 hd,Aej]at heq hsz
       go_wp2_with fail
       refine(XT hL hlB hp hI (by omega)).mono ?_
       rintro e W2 ⟨⟨v,rfl⟩,hp2,_⟩
       go_wp2
       go_roundw
       case rel=>exact⟨k+2,rest.tail,_,by omega,by go_num,hp2,heq,by omega,fun n h=>hI n (Amw h)⟩
       case measure=>simp[intOf];omega
      ·have hq:=And.left (hU ⟨_,hmem,by simp[show t[k+1]'hk1=117 from Amc.1 hd]⟩)
       rw[show t[k+1]'hk1=117 from Amc.1 hd]at heq hsz
       go_wp2_with fail
       refine(JC (b:=10)).mono ?_
       rintro e W1 ⟨rfl,rfl⟩
       have hp1:=hp.same ((Below.refl _ _).alloc (Ak6 _) (.cells #[.int .i64 10] 3))
       go_wp2_with fail
       refine(Ai9 hq (heap_alloc_new _ _) hL hlB hp1 hI (by omega)).mono ?_
       rintro e W2 ⟨⟨v,rfl⟩,hp2,_⟩
       go_wp2
       go_roundw
       case rel=>exact⟨k+2,rest.tail,_,by omega,by go_num,hp2,heq,by omega,fun n h=>hI n (Amw h)⟩
       case measure=>simp[intOf];omega
      ·have hq:=(fun h=>h.2.1) (hU ⟨_,hmem,by simp[show t[k+1]'hk1=120 from Amc.1 hd]⟩)
       rw[show t[k+1]'hk1=120 from Amc.1 hd]at heq hsz
       go_wp2_with fail
       refine(JC (b:=16)).mono ?_
       rintro e W1 ⟨rfl,rfl⟩
       have hp1:=hp.same ((Below.refl _ _).alloc (Ak6 _) (.cells #[.int .i64 16] 3))
       go_wp2_with fail
       refine(Ai8 hq (heap_alloc_new _ _) hL hlB hp1 hI (by omega)).mono ?_
       rintro e W2 ⟨⟨v,rfl⟩,hp2,_⟩
       go_wp2
       go_roundw
       case rel=>exact⟨k+2,rest.tail,_,by omega,by go_num,hp2,heq,by omega,fun n h=>hI n (Amw h)⟩
       case measure=>simp[intOf];omega
      ·have hq:=(fun h=>h.2.2) (hU ⟨_,hmem,by simp[show t[k+1]'hk1=111 from Amc.1 hd]⟩)
       rw[show t[k+1]'hk1=111 from Amc.1 hd]at heq hsz
       go_wp2_with fail
       refine(JC (b:=8)).mono ?_
       rintro e W1 ⟨rfl,rfl⟩
       have hp1:=hp.same ((Below.refl _ _).alloc (Ak6 _) (.cells #[.int .i64 8] 3))
       go_wp2_with fail
       refine(Aja hq (heap_alloc_new _ _) hL hlB hp1 hI (by omega)).mono ?_
       rintro e W2 ⟨⟨v,rfl⟩,hp2,_⟩
       go_wp2
       go_roundw
       case rel=>exact⟨k+2,rest.tail,_,by omega,by go_num,hp2,heq,by omega,fun n h=>hI n (Amw h)⟩
       case measure=>simp[intOf];omega
      ·rw[show t[k+1]'hk1=99 from Amc.1 hd]at heq hsz
       go_wp2_with fail
       refine(Ajb hp hI (by omega)).mono ?_
       rintro e W2 ⟨⟨v,rfl⟩,hp2,_⟩
       go_wp2
       go_roundw
       case rel=>exact⟨k+2,rest.tail,_,by omega,by go_num,hp2,heq,by omega,fun n h=>hI n (Amw h)⟩
       case measure=>simp[intOf];omega
     ·have hno:Gi (t[k+1]'hk1)=false:=by simpa using hsh
      obtain⟨n1,n2,n3,n4,n5,n6,n7⟩:=Abp hno
      rw[AeX h37 hno,MK,MK]at heq
      go_wp2_with fail
      refine(G3 (c:=37) rfl hp.bd (by omega) (by omega)).mono ?_
      rintro e W2 ⟨rfl,k1,k2⟩
      have hp2:=Mk hp k1 k2
      have hs:=Ju T 37
      have hz2:=hp2.sz
      go_wp2_with fail
      refine(G3 (c:=t[k+1]'hk1) rfl hp2.bd (by omega) (by omega)).mono ?_
      rintro e W3 ⟨rfl,k3,k4⟩
      have hp3:=Mk hp2 k3 k4
      have hs3:=Ju (T++mk [37]) (t[k+1]'hk1)
      go_wp2
      go_roundw
      case rel=>exact⟨k+2,rest,_,by omega,by go_num,hp3,heq,by omega,hI⟩
      case measure=>simp[intOf];omega
  ·obtain rfl:k=t.size:=by omega
   rw[AlK (by rw[← Km];omega),show BQ [] rest=[] from rfl,KK]at heq
   have hz:=hp.sz
   go_wp2_with fail
   refine(LU hp.bd (by omega)).mono ?_
   rintro e W2 ⟨rfl,hb2⟩
   rw[heq]
   go_wp2
   go_ret
   exact⟨rfl,hp.bw.trans (hb2.mono (Amz _))⟩
end Go.Proofs.YtmdcknlpalfhhaaGreatDoor
namespace Go.Proofs.YtmdcknlpalfhhaaGreatDoor
open Go.RowKit Go.Lib Go.Sort
theorem VG : ∀ (g u:Nat),u<10 ^ (g+1)->KX 10 (g+1) u=Lib.decDigits u
 | g,u,h=>by
  rw[Lib.decDigits]
  unfold KX
  by_cases h10:u<10
  ·rw[Alw h10,dif_pos h10];unfold Gl;rw[Alw h10]
  ·rw[Alg h10,dif_neg h10]
   match g,h with
   | 0,h=>omega
   | g+1,h =>
    rw[VG g (u / 10) (by rw[Nat.pow_succ]at h;omega)]
    unfold Gl
    rw[Alw (by omega)]
set_option maxHeartbeats 6400000 in
set_option maxRecDepth 100000 in
theorem Aft (u:Nat)(w:World)(hu:u<4294967296)(htab:Lib.TabIs Tryz.prog w "internal/strconv.uint64pow10" .u64 Lib.pow10Tab) :
  Calls Tryz.prog 182 #[.int .u64 u,.int .i64 10] w fun e w'=>e=.returned (.string ⟨(Lib.decDigits u).toArray⟩)/\Below w.heap.size w w':=by
 by_cases hs:u<100
 ·go_enter Tryz.func182,Tryz.ntmps182
  go_wp2_with (go_at_call 103;refine(Tryz.internal_strconv_small u hs _).mono ?_;rintro e w' ⟨rfl,rfl⟩)
  go_ret
  exact⟨rfl,Below.refl _ _⟩
 ·have hu1:1<=u:=by omega
  have hu64:u<18446744073709551616:=by omega
  have hnd20:Lib.nDigits u<=20:=by have:=Lib.numDigits_eq u hu1 hu64;split at this<;>omega
  have hal:Tryz.prog.arrayLen 214=24:=by kernel_rfl
  have hsl:∀ W,(Instr.sliceAt 214 (.pointer (some ⟨w.heap.size,0,none⟩)) none (some (.int .i64 (Lib.nDigits u:Int))) none).run Tryz.prog W=.ok (.slice (some ⟨w.heap.size,0,none⟩) (Lib.nDigits u) 24) W:=fun W=>by
   rw[run_sliceAt_array_h W 214 ⟨w.heap.size,0,none⟩ (by kernel_rfl) .i64 (Lib.nDigits u:Int) (by omega) (by rw[hal];omega)]
   go_simp
  have hH0:=Lib.holds_zero0 w 214 (Lib.nDigits u) (by omega)
  have hfmt:=Tryz.internal_strconv_formatBase10 w.heap.size 0 24 u (Array.replicate (Lib.nDigits u) 0) (w.alloc (.cells Lib.zeros24 214)) hH0 (by rw[AmO];exact Lib.lt_pow_nDigits u) hu64 (by rw[AmO];omega)
  rw[AmO]at hfmt
  have HH0:=Lib.hid hH0
  clear hH0 hal
  go_enter Tryz.func182,Tryz.ntmps182
  go_wp2_with (go_at_call 104;refine(Tryz.internal_strconv_numDigits u hu1 hu64 _ (Lib.tabIs_alloc htab _)).mono ?_;rintro e w' ⟨rfl,rfl⟩)
  go_at_call 105
  refine hfmt.mono ?_
  rintro e w' ⟨rfl,k,v',dk,rfl,hF⟩
  have hcv:(convert 101 9 (.slice (some ⟨w.heap.size,0,none⟩) (Lib.nDigits u) 24)).run Tryz.prog ((putRow (fun(b:UInt8)=>Value.int .u8 (b.toNat:Int)) (w.alloc (.cells Lib.zeros24 214)) w.heap.size 0 dk).drewN k)=.ok (.string ⟨(Lib.decDigits u).toArray⟩) ((putRow (fun(b:UInt8)=>Value.int .u8 (b.toNat:Int)) (w.alloc (.cells Lib.zeros24 214)) w.heap.size 0 dk).drewN k):=by
   have h:=run_convert_bytes_back (P:=Tryz.prog) ((putRow (fun(b:UInt8)=>Value.int .u8 (b.toNat:Int)) (w.alloc (.cells Lib.zeros24 214)) w.heap.size 0 dk).drewN k) 101 9 5 ⟨w.heap.size,0,none⟩ 24 (Lib.decDigits u) Tryz.underlying101 Tryz.underlying5 Tryz.underlying9 (fun j hj=>by
    rw[Lib.row_is_numeral hF j hj,Lib.add_plain,World.cell?_drewN]
    exact cell?_putRow (fun(b:UInt8)=>Value.int .u8 (b.toNat:Int)) _ w.heap.size 0 _ dk HH0.out (by rw[hF.size,AmO]) j (by rw[hF.size];rw[Lib.decDigits_length]at hj;exact hj))
   rw[Lib.decDigits_length]at h
   exact h
  go_wp2
  go_ret
  obtain⟨os,eo⟩:=Lib.fin_at w (.cells Lib.zeros24 214) dk k 0
  refine⟨rfl,?_⟩
  rw[eo]
  exact Lib.below_grow _ w (Ak6 _) k os
theorem Ajp : Q5 10:=fun u W hu hL=>by
 have h:=Aft u W hu hL.tab
 go_enter Tryz.func157,Tryz.ntmps157
 go_wp2_with fail
 refine h.mono ?_
 rintro e w' ⟨rfl,hb⟩
 go_wp2
 go_ret
 have e:mk (Im 10 u)=⟨(Lib.decDigits u).toArray⟩:=by unfold Im mk;rw[VG 63 u (by omega)]
 rw[e]
 exact⟨rfl,hb⟩
end Go.Proofs.YtmdcknlpalfhhaaGreatDoor
namespace Go.Proofs.YtmdcknlpalfhhaaGreatDoor
open Go.RowKit
theorem Cb.lt {w:World}(h:Cb w):∀ k,k∈DX->k<w.heap.size:=fun k hk=>by
 have lt:∀ {g i:Nat} {v:Value},w.cell? ⟨g,i,none⟩=some v->g<w.heap.size:=fun{g i v} h=>by
  rcases AlL g w.heap.size with h' | h'
  ·exact h'
  ·simp[World.cell?,Array.getElem?_eq_none h']at h
 simp only[DX,AlQ,List.mem_nil_iff,or_false]at hk
 rcases hk with rfl | rfl | rfl
 all_goals first | exact lt (h.tab.cell X0 0 (by decide)) | exact lt (h.db.cell Va 0 (by decide)) | exact lt h.len.choose_spec
theorem Cb.alloc {w:World}(h:Cb w)(o:Obj):Cb (w.alloc o):=h.congr fun k hk=>Below.heap_alloc _ _ _ (h.lt k hk)
theorem PV (x:Int)(w:World)(key:bits BinOp.and IntKind.i64 x (wrap64 (x - 1))=0) :
  Calls Tryz.prog 147 #[.int .i64 x] w fun e w'=>e=.returned (.bool true)/\w'=w:=by
 go_enter Tryz.func147,Tryz.ntmps147
 go_wp2
 go_ret
 exact⟨rfl,rfl⟩
set_option maxHeartbeats 1000000 in
theorem Pj (x k idx:Nat)(w:World)(hx0:((x:Int)==0)=false)
  (key:IntKind.u64.wrap (bits BinOp.and IntKind.u64 (x:Int) (IntKind.u64.wrap (-(x:Int)))*285870213051353865) / 288230376151711744=(idx:Int))
  (hi:idx<64) (hk:k<64) (hcell:w.cell? ⟨7,idx,none⟩=some (.int .u8 k)) :
  Calls Tryz.prog 181 #[.int .u64 x] w fun e w'=>e=.returned (.int .i64 k)/\w'=w:=by
 go_enter Tryz.func181,Tryz.ntmps181
 go_wp2_with (simp only[key])
 go_ret
 exact⟨rfl,rfl⟩
theorem Ue (x k:Nat)(w:World)(h:Calls Tryz.prog 181 #[.int .u64 x] w fun e w'=>e=.returned (.int .i64 k)/\w'=w) :
  Calls Tryz.prog 148 #[.int .u64 x] w fun e w'=>e=.returned (.int .i64 k)/\w'=w:=by
 go_enter Tryz.func148,Tryz.ntmps148
 go_wp2_with fail
 refine h.mono ?_
 rintro e w' ⟨rfl,rfl⟩
 go_wp2
 go_ret
 exact⟨rfl,rfl⟩
theorem IZ {cur:Array Value}{ik:Nat}{L:By}{d:UInt8}(hcs:cur.size=65)(hik:ik+L.length=65)(hcur:∀ j,j<L.length->cur[ik+j]?=some (.int .u8 ((L.getD j 0).toNat:Int)))(h1:1<=ik) :
  ∀ j,j<(d::L).length->(cur.setIfInBounds (ik - 1) (.int .u8 (d.toNat:Int)))[ik - 1+j]?=some (.int .u8 (((d::L).getD j 0).toNat:Int)):=fun j hj=>by
 match j with
 | 0=>rw[Al7,Array.getElem?_setIfInBounds_self_of_lt (by omega)];rfl
 | j+1 =>
  rw[AmH (by omega),show ik - 1+(j+1)=ik+j by omega,hcur j (by simpa using hj)]
  rfl
theorem MC (n:Nat)(h:n<16)(h':n<(⟨#[48,49,50,51,52,53,54,55,56,57,97,98,99,100,101,102,103,104,105,106,107,108,109,110,111,112,113,114,115,116,117,118,119,120,121,122]⟩:ByteArray).size):(⟨#[48,49,50,51,52,53,54,55,56,57,97,98,99,100,101,102,103,104,105,106,107,108,109,110,111,112,113,114,115,116,117,118,119,120,121,122]⟩:ByteArray)[n]=Gl n:=by
 match n,h with
 | 0,_=>rfl
 | 1,_=>rfl
 | 2,_=>rfl
 | 3,_=>rfl
 | 4,_=>rfl
 | 5,_=>rfl
 | 6,_=>rfl
 | 7,_=>rfl
 | 8,_=>rfl
 | 9,_=>rfl
 | 10,_=>rfl
 | 11,_=>rfl
 | 12,_=>rfl
 | 13,_=>rfl
 | 14,_=>rfl
 | 15,_=>rfl
 | n+16,h=>exact absurd h (by omega)
theorem AgY (w:World):Calls Tryz.prog 147 #[.int .i64 16] w fun e w'=>e=.returned (.bool true)/\w'=w:=PV 16 w (by kernel_rfl)
theorem AjO (w:World)(hL:Cb w):Calls Tryz.prog 148 #[.int .u64 16] w fun e w'=>e=.returned (.int .i64 4)/\w'=w :=
 Ue 16 4 w (Pj 16 4 15 w rfl (by kernel_rfl) (by decide) (by decide) (hL.db.cell Va 15 (by decide)))
theorem AjE (n:Nat)(h:n<1099511627776):bits BinOp.and IntKind.u64 (n:Int) 15=((n % 16:Nat):Int):=by
 have:=bits_and_u64_nat n 15 (by omega) (by omega)
 rw[show((15:Nat):Int)=15 from rfl]at this
 rw[this,show(15:Nat)=2 ^ 4 - 1 from rfl,Am3]
set_option maxHeartbeats 4000000 in
set_option maxRecDepth 100000 in
theorem AhN (u:Nat)(w:World)(hu:u<4294967296)(hL:Cb w) :
  Calls Tryz.prog 106 #[.slice none 0 0,.int .u64 u,.int .i64 16,.bool false,.bool false] w fun e w'=>e=.returned (.tuple #[.slice none 0 0,.string (mk (Im 16 u))])/\Below w.heap.size w w':=by
 go_enter Tryz.func106,Tryz.ntmps106
 go_wp2_with (first | (go_at_call 147;refine(AgY _).mono ?_;rintro e w1 ⟨rfl,rfl⟩) | (go_at_call 148;refine(AjO _ (hL.alloc _)).mono ?_;rintro e w1 ⟨rfl,rfl⟩))
 have hZ:(w.alloc (.cells Tryz.zeroCells258 258)).heap[w.heap.size]?=some (.cells Tryz.zeroCells258 258 (0,0)):=heap_alloc_new _ _
 have hB0:Below w.heap.size w (w.alloc (.cells Tryz.zeroCells258 258)):=(Below.refl _ w).alloc (Ak6 _) _
 generalize w.alloc (.cells Tryz.zeroCells258 258)=wa at *
 go_loopw [1,13] (fun uv iv wr=>∃ (n ik:Nat) (L:By) (cur:Array Value),uv=.int .u64 n/\iv=.int .i64 ik/\ik+L.length=65/\n<16 ^ (8 - L.length)/\L.length<=8/\Im 16 u=KX 16 (64 - L.length) n++L/\wr.heap[w.heap.size]?=some (.cells cur 258 (0,0))/\cur.size=65/\(∀ j,j<L.length->cur[ik+j]?=some (.int .u8 ((L.getD j 0).toNat:Int)))/\Below w.heap.size w wr) (fun uv _ _=>(intOf uv).toNat)
 case atStart=>exact⟨u,65,[],_,rfl,rfl,rfl,by show u<16 ^ 8;omega,Alc _,by rw[Al4];rfl,hZ,by kernel_rfl,fun j hj=>by simp at hj,hB0⟩
 case round =>
  obtain⟨n,ik,L,cur,rfl,rfl,hik,hn,hL',hEq,hblk,hcs,hcur,hbel⟩:=hrel
  have hp1:16 ^ (8 - L.length)<=16 ^ 8:=Amv (by decide) (Nat.sub_le _ _)
  have hp2:16 ^ 8<=8589934592:=by decide
  have hn32:n<1099511627776:=Alr hn (Als hp1 (Als hp2 (by decide)))
  clear hp1 hp2
  have hand:=AjE n hn32
  have hlt:ik - 1<cur.size:=by omega
  have hc:wr.cell? ⟨w.heap.size,ik - 1,none⟩=some (cur.getD (ik - 1) undef):=Aj hblk (by simp[Array.getD,hlt])
  clear hlt
  have hf:wr.frozen? ⟨w.heap.size,ik - 1,none⟩=false:=Ax hblk
  by_cases hge:16<=n
  ·have hgi:(16:Int)<=(n:Int):=by omega
   have hik2:((ik - 1:Nat):Int)<65:=by omega
   have hmod:n % 16<16:=Nat.mod_lt _ (by omega)
   go_wp2
   rw[MC (n % 16) (by omega)]
   have hl8:L.length<8:=by
    rcases AlL L.length 8 with h | h
    ·exact h
    ·rw[show 8 - L.length=0 by omega]at hn;simp at hn;omega
   refine⟨⟨n / 16,ik - 1,Gl (n % 16)::L,_,congrArg _ (by omega),congrArg _ (by omega),by simp;omega,?_,by simp;omega,?_,A1 hblk _,by simp[hcs],?_,hbel.setCell (Ak6 _) _⟩,by simp[intOf];omega⟩
   ·rw[show 8 - L.length=8 - (L.length+1)+1 by omega,Nat.pow_succ]at hn
    rw[AlE]
    exact Am5 (by omega)
   ·rw[hEq,AlE,show 64 - L.length=64 - (L.length+1)+1 by omega]
    show(if n<16 then _ else _)++L=_
    rw[Alg (by omega),AlS]
    rfl
   ·exact IZ hcs hik hcur (by omega)
  ·have hgi:(n:Int)<16:=by omega
   have hik2:((ik - 1:Nat):Int)<65:=by omega
   have hal:Tryz.prog.arrayLen 258=65:=by kernel_rfl
   have hsl:∀ W,(Instr.sliceAt 258 (.pointer (some ⟨w.heap.size,0,none⟩)) (some (.int .i64 ((ik:Int) - 1))) none none).run Tryz.prog W=.ok (.slice (some ⟨w.heap.size,ik - 1,none⟩) (L.length+1) (L.length+1)) W:=fun W=>by
    rw[run_sliceAt_array_l W 258 ⟨w.heap.size,0,none⟩ (by kernel_rfl) .i64 _ (by omega) (by rw[hal];omega)]
    go_simp
    refine⟨?_,?_⟩<;>omega
   have hcells:=IZ (d:=Gl n) hcs hik hcur (by omega)
   have hblk':(wr.setCell ⟨w.heap.size,ik - 1,none⟩ (.int .u8 ((Gl n).toNat:Int))).heap[w.heap.size]?=_:=A1 hblk _
   have hcv:(convert 101 9 (.slice (some ⟨w.heap.size,ik - 1,none⟩) (L.length+1) (L.length+1))).run Tryz.prog (wr.setCell ⟨w.heap.size,ik - 1,none⟩ (.int .u8 ((Gl n).toNat:Int)))=.ok (.string ⟨(Gl n::L).toArray⟩) (wr.setCell ⟨w.heap.size,ik - 1,none⟩ (.int .u8 ((Gl n).toNat:Int))) :=
    run_convert_bytes_back (P:=Tryz.prog) _ 101 9 5 ⟨w.heap.size,ik - 1,none⟩ (L.length+1) (Gl n::L) Tryz.underlying101 Tryz.underlying5 Tryz.underlying9 fun j hj=>by
     rw[Addr.add_lit,Aj hblk' (hcells j hj),show(Gl n::L).getD j 0=(Gl n::L)[j] from by unfold List.getD;rw[Ald hj];rfl]
   have hdig:=MC n (by omega)
   have e:KX 16 (64 - L.length) n=[Gl n]:=by
    rw[show 64 - L.length=63 - L.length+1 by omega]
    show(if n<16 then _ else _)=_
    rw[Alw (by omega)]
   rw[e]at hEq
   go_wp2
   go_ret2
   exact⟨rfl,hbel.setCell (Ak6 _) _⟩
theorem AcO (u:Nat)(w:World)(hu:u<4294967296)(hL:Cb w) :
  Calls Tryz.prog 182 #[.int .u64 u,.int .i64 16] w fun e w'=>e=.returned (.string (mk (Im 16 u)))/\Below w.heap.size w w':=by
 have h:=AhN u w hu hL
 go_enter Tryz.func182,Tryz.ntmps182
 go_wp2_with fail
 refine h.mono ?_
 rintro e w' ⟨rfl,hb⟩
 go_wp2
 go_ret
 exact⟨rfl,hb⟩
theorem Ajo : Q5 16:=fun u W hu hL=>by
 have h:=AcO u W hu hL
 go_enter Tryz.func157,Tryz.ntmps157
 go_wp2_with fail
 refine h.mono ?_
 rintro e w' ⟨rfl,hb⟩
 go_wp2
 go_ret
 exact⟨rfl,hb⟩
theorem Ai6 (w:World):Calls Tryz.prog 147 #[.int .i64 8] w fun e w'=>e=.returned (.bool true)/\w'=w:=PV 8 w (by kernel_rfl)
theorem AkQ (w:World)(hL:Cb w):Calls Tryz.prog 148 #[.int .u64 8] w fun e w'=>e=.returned (.int .i64 3)/\w'=w :=
 Ue 8 3 w (Pj 8 3 7 w rfl (by kernel_rfl) (by decide) (by decide) (hL.db.cell Va 7 (by decide)))
theorem AkL (n:Nat)(h:n<1099511627776):bits BinOp.and IntKind.u64 (n:Int) 7=((n % 8:Nat):Int):=by
 have:=bits_and_u64_nat n 7 (by omega) (by omega)
 rw[show((7:Nat):Int)=7 from rfl]at this
 rw[this,show(7:Nat)=2 ^ 3 - 1 from rfl,Am3]
set_option maxHeartbeats 4000000 in
set_option maxRecDepth 100000 in
theorem AjC (u:Nat)(w:World)(hu:u<4294967296)(hL:Cb w) :
  Calls Tryz.prog 106 #[.slice none 0 0,.int .u64 u,.int .i64 8,.bool false,.bool false] w fun e w'=>e=.returned (.tuple #[.slice none 0 0,.string (mk (Im 8 u))])/\Below w.heap.size w w':=by
 go_enter Tryz.func106,Tryz.ntmps106
 go_wp2_with (first | (go_at_call 147;refine(Ai6 _).mono ?_;rintro e w1 ⟨rfl,rfl⟩) | (go_at_call 148;refine(AkQ _ (hL.alloc _)).mono ?_;rintro e w1 ⟨rfl,rfl⟩))
 have hZ:(w.alloc (.cells Tryz.zeroCells258 258)).heap[w.heap.size]?=some (.cells Tryz.zeroCells258 258 (0,0)):=heap_alloc_new _ _
 have hB0:Below w.heap.size w (w.alloc (.cells Tryz.zeroCells258 258)):=(Below.refl _ w).alloc (Ak6 _) _
 generalize w.alloc (.cells Tryz.zeroCells258 258)=wa at *
 go_loopw [1,13] (fun uv iv wr=>∃ (n ik:Nat) (L:By) (cur:Array Value),uv=.int .u64 n/\iv=.int .i64 ik/\ik+L.length=65/\n<8 ^ (11 - L.length)/\L.length<=11/\Im 8 u=KX 8 (64 - L.length) n++L/\wr.heap[w.heap.size]?=some (.cells cur 258 (0,0))/\cur.size=65/\(∀ j,j<L.length->cur[ik+j]?=some (.int .u8 ((L.getD j 0).toNat:Int)))/\Below w.heap.size w wr) (fun uv _ _=>(intOf uv).toNat)
 case atStart=>exact⟨u,65,[],_,rfl,rfl,rfl,by show u<8 ^ 11;omega,Alc _,by rw[Al4];rfl,hZ,by kernel_rfl,fun j hj=>by simp at hj,hB0⟩
 case round =>
  obtain⟨n,ik,L,cur,rfl,rfl,hik,hn,hL',hEq,hblk,hcs,hcur,hbel⟩:=hrel
  have hp1:8 ^ (11 - L.length)<=8 ^ 11:=Amv (by decide) (Nat.sub_le _ _)
  have hp2:8 ^ 11<=8589934592:=by decide
  have hn32:n<1099511627776:=Alr hn (Als hp1 (Als hp2 (by decide)))
  clear hp1 hp2
  have hand:=AkL n hn32
  have hlt:ik - 1<cur.size:=by omega
  have hc:wr.cell? ⟨w.heap.size,ik - 1,none⟩=some (cur.getD (ik - 1) undef):=Aj hblk (by simp[Array.getD,hlt])
  clear hlt
  have hf:wr.frozen? ⟨w.heap.size,ik - 1,none⟩=false:=Ax hblk
  by_cases hge:8<=n
  ·have hgi:(8:Int)<=(n:Int):=by omega
   have hik2:((ik - 1:Nat):Int)<65:=by omega
   have hmod:n % 8<8:=Nat.mod_lt _ (by omega)
   go_wp2
   rw[MC (n % 8) (by omega)]
   have hl8:L.length<11:=by
    rcases AlL L.length 11 with h | h
    ·exact h
    ·rw[show 11 - L.length=0 by omega]at hn;simp at hn;omega
   refine⟨⟨n / 8,ik - 1,Gl (n % 8)::L,_,congrArg _ (by omega),congrArg _ (by omega),by simp;omega,?_,by simp;omega,?_,A1 hblk _,by simp[hcs],?_,hbel.setCell (Ak6 _) _⟩,by simp[intOf];omega⟩
   ·rw[show 11 - L.length=11 - (L.length+1)+1 by omega,Nat.pow_succ]at hn
    rw[AlE]
    exact Am5 (by omega)
   ·rw[hEq,AlE,show 64 - L.length=64 - (L.length+1)+1 by omega]
    show(if n<8 then _ else _)++L=_
    rw[Alg (by omega),AlS]
    rfl
   ·exact IZ hcs hik hcur (by omega)
  ·have hgi:(n:Int)<8:=by omega
   have hik2:((ik - 1:Nat):Int)<65:=by omega
   have hal:Tryz.prog.arrayLen 258=65:=by kernel_rfl
   have hsl:∀ W,(Instr.sliceAt 258 (.pointer (some ⟨w.heap.size,0,none⟩)) (some (.int .i64 ((ik:Int) - 1))) none none).run Tryz.prog W=.ok (.slice (some ⟨w.heap.size,ik - 1,none⟩) (L.length+1) (L.length+1)) W:=fun W=>by
    rw[run_sliceAt_array_l W 258 ⟨w.heap.size,0,none⟩ (by kernel_rfl) .i64 _ (by omega) (by rw[hal];omega)]
    go_simp
    refine⟨?_,?_⟩<;>omega
   have hcells:=IZ (d:=Gl n) hcs hik hcur (by omega)
   have hblk':(wr.setCell ⟨w.heap.size,ik - 1,none⟩ (.int .u8 ((Gl n).toNat:Int))).heap[w.heap.size]?=_:=A1 hblk _
   have hcv:(convert 101 9 (.slice (some ⟨w.heap.size,ik - 1,none⟩) (L.length+1) (L.length+1))).run Tryz.prog (wr.setCell ⟨w.heap.size,ik - 1,none⟩ (.int .u8 ((Gl n).toNat:Int)))=.ok (.string ⟨(Gl n::L).toArray⟩) (wr.setCell ⟨w.heap.size,ik - 1,none⟩ (.int .u8 ((Gl n).toNat:Int))) :=
    run_convert_bytes_back (P:=Tryz.prog) _ 101 9 5 ⟨w.heap.size,ik - 1,none⟩ (L.length+1) (Gl n::L) Tryz.underlying101 Tryz.underlying5 Tryz.underlying9 fun j hj=>by
     rw[Addr.add_lit,Aj hblk' (hcells j hj),show(Gl n::L).getD j 0=(Gl n::L)[j] from by unfold List.getD;rw[Ald hj];rfl]
   have hdig:=MC n (by omega)
   have e:KX 8 (64 - L.length) n=[Gl n]:=by
    rw[show 64 - L.length=63 - L.length+1 by omega]
    show(if n<8 then _ else _)=_
    rw[Alw (by omega)]
   rw[e]at hEq
   go_wp2
   go_ret2
   exact⟨rfl,hbel.setCell (Ak6 _) _⟩
theorem Afs (u:Nat)(w:World)(hu:u<4294967296)(hL:Cb w) :
  Calls Tryz.prog 182 #[.int .u64 u,.int .i64 8] w fun e w'=>e=.returned (.string (mk (Im 8 u)))/\Below w.heap.size w w':=by
 have h:=AjC u w hu hL
 go_enter Tryz.func182,Tryz.ntmps182
 go_wp2_with fail
 refine h.mono ?_
 rintro e w' ⟨rfl,hb⟩
 go_wp2
 go_ret
 exact⟨rfl,hb⟩
theorem AkA : Q5 8:=fun u W hu hL=>by
 have h:=Afs u W hu hL
 go_enter Tryz.func157,Tryz.ntmps157
 go_wp2_with fail
 refine h.mono ?_
 rintro e w' ⟨rfl,hb⟩
 go_wp2
 go_ret
 exact⟨rfl,hb⟩
theorem XF {t:ByteArray}{l:List Int}{fz:Bool}(ht:t.size<=1048576)(hI:∀ n∈l,B33 n):Ai Tryz.prog 123 [] [AD t,Ad fz l] [] (AD (CV t l)):=by
 refine Ai.hand ⟨_,Tryz.func123,rfl,by kernel_rfl⟩ fun w E vs hA hL hB _ hs0=>?_
 obtain⟨u1,us1,rfl,v1,hs0⟩:=hs0.cons_inv
 obtain⟨u2,us2,rfl,v2,hs0⟩:=hs0.cons_inv
 obtain rfl:=hs0.nil_inv
 obtain rfl:=v1.sc_inv
 obtain⟨ao,cap,rfl,h1,h2,h3⟩:=AhR v2
 refine(UP hL hB h1 h2 h3 (fun n hn=>by have:=hI n hn;unfold B33 at this;unfold I64;omega) (by omega) fun _=>⟨Ajp,Ajo,AkA⟩).mono ?_
 rintro r w' ⟨rfl,hb⟩
 exact⟨_,rfl,.sc,hb⟩
theorem V4 {e:D.Env}(hw:Ay e.M):∀ (l out:List Int),(∀ x∈out,B33 x)->∀ x∈(Jg (AX e) out l).1,B33 x
 | [],out,h=>h
 | a::l,out,h=>by
  have hq:Jg (AX e) out (a::l)=bif decide ((AX e a).2≠0) then([],(AX e a).2) else Jg (AX e) (out++[(AX e a).1]) l:=rfl
  rw[hq]
  cases c:decide ((AX e a).2≠0) with
  | true=>intro x hx;cases hx
  | false =>
   refine V4 hw l _ fun x hx=>?_
   rcases AlA.1 hx with hx | hx
   ·exact h x hx
   ·obtain rfl:=Aly.1 hx
    exact(AcY hw a (by simpa using c)).1
theorem V5 {e:D.Env}{l:List Int}(hw:Ay e.M){x:Int}(hx:x∈(BM e l).1):B33 x:=V4 hw l [] (fun x hx=>by cases hx) x hx
section
variable {e : D.Env} {w:Wy}
theorem Wu (h:CK e):Ai Tryz.prog 82 [] [.agg (Af e)] [] (.agg (Ae (Ac3 e))):=by
 have hp:=h.ok.pid
 have h0:=h.p0
 have hl:(e.S.Procs.take e.Pid.toNat).length=e.Pid.toNat:=by simp;omega
 have hrow:VV.le (.sl true e.Pid.toNat 4 fun i=>Ar (e.S.Procs.getD i default)) (Au true (e.S.Procs.take e.Pid.toNat)):=by
  show VV.le _ (.sl true (e.S.Procs.take e.Pid.toNat).length 4 fun i=>Ar ((e.S.Procs.take e.Pid.toNat).getD i default))
  rw[hl]
  exact AmE (.inl rfl) fun j hj=>AQ (by rw[Ro hj])
 have hal:∀ b,decide (e.S.Alone>=((e.Pid.toNat:Nat):Int))=b->decide (e.Pid<=e.S.Alone)=b:=fun b hb=>by rw[← hb,Alq,Ak5,Ak5];omega
 refine Ah Al Am Tryz.func82 (by kernel_rfl) rfl (Aax (Ac3 e) e) ⟨e.S,No h.ok.fit,⟨h0,by omega⟩,fun h1=>⟨trivial,?_⟩,fun h1=>⟨trivial,?_⟩⟩
 ·refine Aml ⟨VV.le_refl _,VV.le_refl _,hrow,VV.le_refl _,Ama ?_,VV.le_refl _,trivial⟩
  show _=Aa (bif decide (e.Pid<=e.S.Alone) then -1 else e.S.Alone)
  rw[hal _ h1]<;>rfl
 ·refine Aml ⟨VV.le_refl _,VV.le_refl _,hrow,VV.le_refl _,Ama ?_,VV.le_refl _,trivial⟩
  show _=Aa (bif decide (e.Pid<=e.S.Alone) then -1 else e.S.Alone)
  rw[hal _ h1]<;>rfl
theorem Ael {l:List D.Process}{t j:Nat}{F:Nat->List VV}{to:Int}(ht:t<l.length)(hj:j<l.length)(hF:∀ i,i<l.length->F i=Ar (l.getD i default)) :
  (bif j.beq t then(bif Nat.beq 1 4 then[Aa to] else List.take 1 (F t)++[Aa to]++List.drop 2 (F t)) else F j)=Ar ((l.set t { l.getD t default with Loc:=to }).getD j default):=by
 rw[← PK hj,hF t ht,hF j hj]
 all_goals rfl
theorem Tq (h:CK e)(hin:w∈Bp e)(h0:0<=w.Way):AjG e w/\(0<=w.With->Sl e (CL e w).S w):=by
 obtain⟨a1,a2,a3⟩:=(T4 hin).2 h0
 obtain⟨_,_,a4,_⟩:=a3 w hin
 have hw:=h.ws (Nd a1 a2)
 have hA:CL e w∈Cc (Dl e) w.Esc:=Av (by omega)
 have hB:0<=w.With->Sl e (CL e w).S w/\w.With≠e.Pid/\w.With<e.S.Procs.length:=fun hv=>by
  obtain⟨m1,m2,m3,m4,m5,m6,m7,m8,m9,m10⟩:=(Afb hin).2 hv
  exact⟨⟨⟨⟨h.ok.fits,h.ok.may,h.ok.wf,by show -1<=w.With;omega,m3⟩,hv⟩,m5,m6,m7,m8,m9,m10⟩,m2,m3⟩
 refine⟨⟨hw.st _ hA,hw.to _ hA,fun hv=>?_⟩,fun hv=>(hB hv).1⟩
 obtain⟨m,n1,n2⟩:=hB hv
 exact⟨n1,n2,m.st,m.kB,(m.hB.ws (Nd m.b1 m.b2)).to _ (Av (by have:=m.b3;have:=m.b4;omega))⟩
theorem Afq (h:CK e)(h0:GY e=0)(hin:w∈Bp e):Ai Tryz.prog 57 [] [.agg (Af e),.agg (AZ w)] [] (.tup [.agg (Ae (goE CV e w).1),AD (goE CV e w).2.1,Aa (goE CV e w).2.2]):=by
 have hl:=Kt h
 have hcopy:=No h.ok.fit
 have hpid:=h.ok.pid
 have hp0:=h.p0
 have hq:goE CV e w=bif decide (w.Err≠0) then(YN,⟨#[]⟩,w.Err) else bif decide (w.Way<0) then(Ac3 e,⟨#[]⟩,0)
   else bif decide ((Dk CV e (CL e w).S w).2.2≠0) then(YN,⟨#[]⟩,(Dk CV e (CL e w).S w).2.2) else(KU e w (Dk CV e (CL e w).S w).1.S,(Dk CV e (CL e w).S w).2.1,0):=rfl
 have hgoes:=Tq h hin
 have hlaw:=T4 hin
 have hkeep:0<=w.Way->e.S.Procs.length<=(Dk CV e (CL e w).S w).1.S.Procs.length:=fun hw=>by
  have g:=(hgoes hw).1
  exact(VF (pr:=CV) h.ok.wf (D9.1 h.ok.fits) g.st (fun hk hr=>UG hin hw hk hr) (fun hv=>(g.v hv).2.2.1.t6 (g.v hv).2.2.2.1)).keep.len
 have hdoes:0<=w.Way->Ai Tryz.prog 85 (hsE e) [.bp 0 0,.agg (Ap (CL e w).S),.agg (AZ w)] (hsE (Dk CV e (CL e w).S w).1) (.tup [AD (Dk CV e (CL e w).S w).2.1,Aa (Dk CV e (CL e w).S w).2.2]):=fun hw=>by
  have g:=(hgoes hw).1.st
  exact Ac7 h.ok g (fun _ hv=>(hgoes hw).2 hv) fun _ _=>XF g.wf.Text fun x hx=>V5 h.ok.wf hx
 generalize goE CV e w=r at hq ⊢
 generalize Dk CV e (CL e w).S w=y at hq hdoes hkeep
 refine Ah Al Am Tryz.func57 (by kernel_rfl) rfl (Agb r e w) ⟨GY e,TW h.ok.wf h.small,fun h1=>?_,fun _=>⟨Bp e,Jj h,decide (w∈Bp e),TU (by omega),fun hb=>?_,fun _=>⟨fun hb=>?_,fun hb1=>⟨fun hb=>⟨Ac3 e,Wu h,?_⟩,fun hw=>?_⟩⟩⟩⟩
 ·rw[h0]at h1;cases h1
 ·rw[AlO hin]at hb;cases hb
 ·rw[AH]at hb
  rw[hb,Ak4]at hq
  subst hq
  exact⟨trivial,Qb⟩
 ·rw[AH]at hb1
  rw[hb1,Ak0,hb,Ak4]at hq
  subst hq
  exact⟨trivial,VV.le_refl _⟩
 rw[AH]at hb1
 rw[hb1,Ak0,hw,Ak0]at hq
 have hw0:0<=w.Way:=by have:=Alk hw;omega
 obtain⟨a1,a2,a3⟩:=hlaw.2 hw0
 obtain⟨_,_,a4,_⟩:=a3 w hin
 have hlen:=hkeep hw0
 refine⟨e.S,hcopy,Dl e,J9 h,CL e w,WE a1 a2 hw0 a4,y,hdoes hw0,fun hb=>?_,fun hb2=>⟨fun hb=>?_,fun hb=>⟨by omega,?_⟩⟩⟩
 ·rw[AH]at hb
  rw[show decide (y.2.2≠0)=true from hb,Ak4]at hq
  subst hq
  exact⟨trivial,Qb⟩
 ·have hv:0<=w.With:=Ak9 hb
  have m:=(hgoes hw0).2 hv
  obtain⟨v1,v2,_⟩:=(hgoes hw0).1.v hv
  refine⟨Dl (BE e w.With),J9 m.hB,Hu e w,WE m.b1 m.b2 m.b3 m.b4,by omega,by omega,?_⟩
  rw[AH]at hb2
  rw[show decide (y.2.2≠0)=false from hb2,Ak0]at hq
  subst hq
  refine⟨trivial,Amx ⟨Aml ⟨VV.le_refl _,VV.le_refl _,?_,VV.le_refl _,VV.le_refl _,VV.le_refl _,trivial⟩,VV.le_refl _,VV.le_refl _,trivial⟩⟩
  show VV.le (.sl true y.1.S.Procs.length 4 _) (Au true (KU e w y.1.S).Procs)
  have hg:(KU e w y.1.S).Procs=Em (Em y.1.S.Procs w.With (Hu e w).To) e.Pid (CL e w).To:=by
   unfold KU
   rw[AlO hv]<;>rfl
  rw[hg]
  show VV.le (.sl true y.1.S.Procs.length 4 _) (.sl true (Em (Em y.1.S.Procs w.With (Hu e w).To) e.Pid (CL e w).To).length 4 _)
  rw[EJ,EJ]
  refine AmE (.inl rfl) fun j hj=>AQ ?_
  exact Ael (l:=Em y.1.S.Procs w.With (Hu e w).To) (t:=e.Pid.toNat) (to:=(CL e w).To) (by rw[EJ];omega) (by rw[EJ];exact hj) fun i hi=>PK (l:=y.1.S.Procs) (t:=w.With.toNat) (p:={ y.1.S.Procs.getD w.With.toNat default with Loc:=(Hu e w).To }) (by rw[EJ]at hi;exact hi)
 ·have hv:¬ 0<=w.With:=Alk hb
  rw[AH]at hb2
  rw[show decide (y.2.2≠0)=false from hb2,Ak0]at hq
  subst hq
  refine⟨trivial,Amx ⟨Aml ⟨VV.le_refl _,VV.le_refl _,?_,VV.le_refl _,VV.le_refl _,VV.le_refl _,trivial⟩,VV.le_refl _,VV.le_refl _,trivial⟩⟩
  show VV.le (.sl true y.1.S.Procs.length 4 _) (Au true (KU e w y.1.S).Procs)
  have hg:(KU e w y.1.S).Procs=Em y.1.S.Procs e.Pid (CL e w).To:=by
   unfold KU
   rw[AlI hv]<;>rfl
  rw[hg]
  show VV.le (.sl true y.1.S.Procs.length 4 _) (.sl true (Em y.1.S.Procs e.Pid (CL e w).To).length 4 _)
  rw[EJ]
  refine AmE (.inl rfl) fun j hj=>AQ ?_
  exact PK (l:=y.1.S.Procs) (t:=e.Pid.toNat) (p:={ y.1.S.Procs.getD e.Pid.toNat default with Loc:=(CL e w).To }) hj
end
structure Gs (m:D.Model) (s:D.State):Prop where
 wf:Ay m
 may:Dq m=true
 fits:EF m s
section
variable {m : D.Model} {s:D.State} {e:D.Env} {w:Wy}
theorem Gs.check (h:Gs m s):Cf m s=0:=by
 unfold Cf
 rw[h.may,D9.2 h.fits]<;>rfl
theorem Gs.fit (h:Gs m s):Fit s:=Tt h.may (D9.2 h.fits)
theorem Gs.small (h:Gs m s):A7 s:=h.fit.small
theorem Gs.pid (h:Gs m s){i:Int}{t:Bool}{a:List Bool}(h0:0<=i/\i<s.Procs.length):CK ⟨m,s,i,t,a⟩/\GY ⟨m,s,i,t,a⟩=0:=by
 refine⟨⟨⟨D9.2 h.fits,h.may,h.wf,⟨by show -1<=i;omega,h0.2⟩⟩,h0.1⟩,?_⟩
 have h1:Cf (D.Env.mk m s i t a).M (D.Env.mk m s i t a).S=0:=h.check
 unfold GY
 rw[h1,AlI (show ¬ (D.Env.mk m s i t a).Pid<0 by show ¬ i<0;omega),AlI (show ¬ ((D.Env.mk m s i t a).S.Procs.length:Int)<=(D.Env.mk m s i t a).Pid by show ¬ (s.Procs.length:Int)<=i;omega)]<;>rfl
theorem O8 (h0:GY e=0):Fb e=(Bp e,0):=by
 unfold Fb
 rw[h0]<;>rfl
theorem Ajn (h:CK e)(hin:w∈Bp e)(hz:(goP e w).2.2=0):Whole e w (goP e w).1:=Afp h hin (fun h0=>(Tq h hin h0).1) hz
theorem ZR (h:CK e)(hin:w∈Bp e)(hz:(goP e w).2.2=0):Gs e.M (goP e w).1:=⟨h.ok.wf,h.ok.may,(Ajn h hin hz).fits⟩
theorem Lh : ∀ {L:By} {l:List Int},(∀ n∈l,I64 n)->(BQ L l).length<=L.length*64
 | [],_,_=>Alc _
 | [_],_,_=>by show 1<=1*64;omega
 | c::d::r,l,h=>by
  have i1:=Lh (L:=d::r) (l:=l) h
  have i2:=fun(l:List Int) (h:∀ n∈l,I64 n)=>Lh (L:=r) (l:=l) h
  unfold BQ
  simp only[AlE]at i1 ⊢
  cases (!(c==37)) with
  | true=>rw[Ak4,AlE];omega
  | false =>
   rw[Ak0]
   cases (d==37) with
   | true=>have:=i2 l h;rw[Ak4,AlE];omega
   | false =>
    rw[Ak0]
    cases Gi d with
    | false=>have:=i2 l h;rw[Ak0,AlE,AlE];omega
    | true =>
     rw[Ak4]
     cases l with
     | nil=>have:=i2 [] h;show(BQ r []).length<=_;omega
     | cons n l =>
      have:=i2 l fun x hx=>h x (Alp _ hx)
      have hs:=Fs (c:=d) (h n Alb)
      rw[IF]at hs
      show(Cg d n++BQ r l).length<=_
      rw[Alh];omega
theorem OP (h:CK e)(hin:w∈Bp e):(goP e w).2.1.size<=67108864:=by
 have hz:(ByteArray.mk #[]).size<=67108864:=by decide
 unfold goP goE
 cases decide (w.Err≠0) with
 | true=>exact hz
 | false =>
 rw[Ak0]
 cases c2:decide (w.Way<0) with
 | true=>exact hz
 | false =>
 rw[Ak0]
 cases decide ((Dk CV e (CL e w).S w).2.2≠0) with
 | true=>exact hz
 | false =>
 rw[Ak0]
 have h0:0<=w.Way:=by have:=Alk c2;omega
 have g:=(Tq h hin h0).1.st
 show(Dk CV e (CL e w).S w).2.1.size<=_
 unfold Dk
 split
 ·cases DN e (CL e w).S.A<;>exact hz
 split
 ·exact hz
 split
 ·exact hz
 split
 ·show(bif decide ((BM e (CL e w).S.Args).2≠0) then(⟨#[]⟩:ByteArray) else CV (CL e w).S.Text (BM e (CL e w).S.Args).1).size<=_
  cases decide ((BM e (CL e w).S.Args).2≠0) with
  | true=>exact hz
  | false =>
   rw[Ak0]
   have h1:=g.wf.Text
   have h2:=Lh (L:=bs (CL e w).S.Text) (l:=(BM e (CL e w).S.Args).1) fun x hx=>by
    have:=V5 h.ok.wf hx
    unfold B33 at this
    unfold I64
    omega
   unfold CV
   rw[IF]
   rw[← Km]at h2
   omega
 split
 ·exact hz
 split
 ·exact hz
 split<;>exact hz
theorem R0 {n:Nat}{g:Gn}(h:g∈EM e n):∃ i:Nat,i<n/\g=(BE e i,(Fb (BE e i)).1):=by
 induction n with
 | zero=>cases h
 | succ n ih =>
  rcases AlA.1 (show g∈EM e n++JK e n from h) with h | h
  ·obtain⟨i,hi,hg⟩:=ih h
   exact⟨i,by omega,hg⟩
  ·unfold JK at h
   cases c:decide (0<(Fb (BE e n)).1.length) with
   | false=>rw[c]at h;cases h
   | true =>
    rw[c]at h
    exact⟨n,by omega,Aly.1 h⟩
theorem RP {e:D.Env}:∀ {l:List Gn} {most:Int} {g:Gn},(Mq e most l).1=some g->g∈l
 | [],_,_,h=>by cases h
 | x::r,most,g,h=>by
  unfold Mq at h
  cases c:decide (x.1.Pid=e.S.Alone) with
  | true =>
   rw[c,Ak4]at h
   rw[← Ali h]
   exact Alb
  | false =>
   rw[c,Ak0]at h
   exact Alp _ (RP h)
theorem Ym {g:Gn}(h:g∈C6 e):∃ i:Nat,i<e.S.Procs.length/\g=(BE e i,(Fb (BE e i)).1):=by
 unfold C6 at h
 refine R0 (n:=e.S.Procs.length) ?_
 split at h
 ·next g' _ hq =>
  rw[Aly.1 h]
  exact RP (congrArg Prod.fst hq)
 ·exact(List.mem_filter.1 h).1
theorem Lr (h:Gs m s){g:Gn}(hg:g∈Gk m s):∃ (i:Nat) (t:Bool),i<s.Procs.length/\g=(⟨m,s,i,t,CA m s s.Procs.length⟩,Bp ⟨m,s,i,t,CA m s s.Procs.length⟩):=by
 have ha:Ho m s=CA m s s.Procs.length:=by
  unfold Ho
  rw[h.check]<;>rfl
 have key:∀ t,g∈C6 ⟨m,s,0,t,Ho m s⟩->∃ (i:Nat) (t:Bool),i<s.Procs.length/\g=(⟨m,s,i,t,CA m s s.Procs.length⟩,Bp ⟨m,s,i,t,CA m s s.Procs.length⟩):=by
  intro t hg
  obtain⟨i,hi,rfl⟩:=Ym hg
  have hi:i<s.Procs.length:=hi
  refine⟨i,t,hi,?_⟩
  rw[ha]
  have:=O8 (h.pid (i:=i) (t:=t) (a:=CA m s s.Procs.length) ⟨by omega,by omega⟩).2
  exact Prod.ext rfl (congrArg Prod.fst this)
 unfold Gk at hg
 cases c:decide (0<(C6 ⟨m,s,0,false,Ho m s⟩).length) with
 | true=>rw[c]at hg;exact key _ hg
 | false=>rw[c]at hg;exact key _ hg
theorem RL : ∀ {l:List Gn} {p:D.Env × Wy},p∈Cx l->∃ g∈l,p.1=g.1/\p.2∈g.2
 | [],_,h=>by cases h
 | g::r,p,h=>by
  rcases AlA.1 (show p∈g.2.map (fun w=>(g.1,w))++Cx r from h) with h | h
  ·obtain⟨w,hw,rfl⟩:=Amn.1 h
   exact⟨g,Alb,rfl,hw⟩
  ·obtain⟨g',h1,h2⟩:=RL h
   exact⟨g',Alp _ h1,h2⟩
theorem R9 (h:Gs m s){p:D.Env × Wy}(hp:p∈Dv m s):p.1.M=m/\p.1.S=s/\CK p.1/\GY p.1=0/\p.2∈Bp p.1:=by
 obtain⟨g,hg,h1,h2⟩:=RL hp
 obtain⟨i,t,hi,rfl⟩:=Lr h hg
 have hx:=h.pid (i:=i) (t:=t) (a:=CA m s s.Procs.length) ⟨by omega,by omega⟩
 rw[h1]
 exact⟨rfl,rfl,hx.1,hx.2,h2⟩
theorem Nh {n:Nat}:(EM e n).length<=n:=by
 induction n with
 | zero=>exact Ak6 _
 | succ n ih =>
  show(EM e n++JK e n).length<=_
  rw[Alh]
  have:(JK e n).length<=1:=by
   unfold JK
   cases decide (0<(Fb (BE e n)).1.length)<;>simp
  omega
theorem Yn : (C6 e).length<=e.S.Procs.length+1:=by
 unfold C6
 split
 ·simp
 ·exact Nat.le_succ_of_le (Als (List.length_filter_le ..) Nh)
theorem RM {K:Nat}:∀ {l:List Gn},(∀ g∈l,g.2.length<=K)->(Cx l).length<=l.length*K
 | [],_=>Alc _
 | g::r,h=>by
  show(g.2.map (fun w=>(g.1,w))++Cx r).length<=_
  have h1:=h g Alb
  have h2:=RM (l:=r) fun x hx=>h x (Alp _ hx)
  rw[Alh,Al8,AlE,Anf]
  omega
theorem Qj (h:Gs m s):(Gk m s).length<=17:=by
 have hp:=h.fits.pl
 have h1:=fun t=>Yn (e:=⟨m,s,0,t,Ho m s⟩)
 have h2:∀ t,(C6 ⟨m,s,0,t,Ho m s⟩).length<=17:=fun t=>by have:=h1 t;exact Als this (by show s.Procs.length+1<=17;omega)
 unfold Gk
 cases decide (0<(C6 ⟨m,s,0,false,Ho m s⟩).length)<;>exact h2 _
theorem Sa (h:Gs m s):(Dv m s).length<=285230080:=by
 have h1:=Qj h
 have h2:=RM (K:=16778240) (l:=Gk m s) fun g hg=>by
  obtain⟨i,t,hi,rfl⟩:=Lr h hg
  exact Kt (h.pid (i:=i) (t:=t) (a:=CA m s s.Procs.length) ⟨by omega,by omega⟩).1
 have h3:=Alo 16778240 h1
 unfold Dv
 omega
end
section
variable {m : D.Model} {s:D.State} {e:D.Env} {w:Wy}
theorem M5 {pid:Int}(h:(CI m s pid).2=true):0<=pid/\pid<s.Procs.length:=by
 unfold CI at h
 cases c:(decide (pid<0)||decide ((s.Procs.length:Int)<=pid)) with
 | true=>rw[c]at h;cases h
 | false =>
  simp only[Aln,AlB]at c
  omega
theorem P3 {pid:Int}{k:Nat}{t:ByteArray}:onS m pid (k+1) s t=bif !(CI m s pid).2||!(CI m s pid).1.Dstep then(s,t,0) else
  match(Fb ⟨m,s,pid,false,[]⟩).1.find? fun w=>decide (w.With<0) with
  | none=>(BO,noT,53)
  | some w=>bif decide ((goP ⟨m,s,pid,false,[]⟩ w).2.2≠0) then(BO,noT,(goP ⟨m,s,pid,false,[]⟩ w).2.2)
   else onS m pid k (goP ⟨m,s,pid,false,[]⟩ w).1 (t++(goP ⟨m,s,pid,false,[]⟩ w).2.1):=rfl
theorem Tc {pid:Int}:∀ {k:Nat} {s:D.State} {t:ByteArray},Gs m s->((onS m pid k s t).2.2=0->Gs m (onS m pid k s t).1)/\(onS m pid k s t).2.1.size<=t.size+k*67108864
 | 0,s,t,h=>by
  have hq:onS m pid 0 s t=bif !(CI m s pid).2||!(CI m s pid).1.Dstep then(s,t,0) else(BO,noT,53):=rfl
  rw[hq]
  cases (!(CI m s pid).2||!(CI m s pid).1.Dstep) with
  | true=>exact⟨fun _=>h,AlW _ _⟩
  | false=>exact⟨fun h=>absurd (show(53:Int)=0 from h) (by decide),Alc _⟩
 | k+1,s,t,h=>by
  rw[P3]
  cases c:(!(CI m s pid).2||!(CI m s pid).1.Dstep) with
  | true=>exact⟨fun _=>h,AlW _ _⟩
  | false =>
  rw[Ak0]
  simp only[Aln,AmX]at c
  obtain⟨hE,hx⟩:=h.pid (t:=false) (a:=[]) (M5 c.1)
  rw[O8 hx]
  cases hf:(Bp ⟨m,s,pid,false,[]⟩).find? fun w=>decide (w.With<0) with
  | none=>exact⟨fun h=>absurd (show(53:Int)=0 from h) (by decide),Alc _⟩
  | some w =>
   have hin:=Ang hf
   show((bif decide ((goP ⟨m,s,pid,false,[]⟩ w).2.2≠0) then(BO,noT,(goP ⟨m,s,pid,false,[]⟩ w).2.2) else onS m pid k (goP ⟨m,s,pid,false,[]⟩ w).1 (t++(goP ⟨m,s,pid,false,[]⟩ w).2.1)).2.2=0->Gs m (bif decide ((goP ⟨m,s,pid,false,[]⟩ w).2.2≠0) then(BO,noT,(goP ⟨m,s,pid,false,[]⟩ w).2.2) else onS m pid k (goP ⟨m,s,pid,false,[]⟩ w).1 (t++(goP ⟨m,s,pid,false,[]⟩ w).2.1)).1) /\
    (bif decide ((goP ⟨m,s,pid,false,[]⟩ w).2.2≠0) then(BO,noT,(goP ⟨m,s,pid,false,[]⟩ w).2.2) else onS m pid k (goP ⟨m,s,pid,false,[]⟩ w).1 (t++(goP ⟨m,s,pid,false,[]⟩ w).2.1)).2.1.size<=_
   cases c2:decide ((goP ⟨m,s,pid,false,[]⟩ w).2.2≠0) with
   | true=>exact⟨fun h=>absurd h (Ak9 c2),Alc _⟩
   | false =>
    rw[Ak0]
    have hz:(goP ⟨m,s,pid,false,[]⟩ w).2.2=0:=by simpa using c2
    have ht:=OP hE hin
    obtain⟨a,b⟩:=Tc (k:=k) (pid:=pid) (t:=t++(goP ⟨m,s,pid,false,[]⟩ w).2.1) (ZR hE hin hz)
    refine⟨a,Als b ?_⟩
    rw[Amk,Anf]
    omega
theorem QK {pid:Int}(h:Gs m s):Gs m (Eu m s pid):=by
 unfold Eu
 cases c:((CI m s pid).2&&(CI m s pid).1.Atomic) with
 | false=>exact h
 | true =>
  simp only[Ak2]at c
  have hp:=M5 c.1
  have f:=h.fits
  exact⟨h.wf,h.may,⟨f.g,f.cl,f.pl,f.l,⟨by show -1<=pid;omega,hp.2⟩,f.c,f.p,f.k⟩⟩
theorem ZU (h:Gs m s):Gs m { s with Alone:=-1 }:=by
 have f:=h.fits
 have:=f.a
 exact⟨h.wf,h.may,⟨f.g,f.cl,f.pl,f.l,⟨by show -1<=(-1:Int);omega,by show(-1:Int)<s.Procs.length;omega⟩,f.c,f.p,f.k⟩⟩
structure TI (m:D.Model) (n:Nx):Prop where
 gs:n.Err=0->Gs m n.State
 text:n.Text.size<=13488881664
theorem Ags (h:CK e)(hin:w∈Bp e):TI e.M (Fc e w):=by
 unfold Fc
 cases c1:decide ((goP e w).2.2≠0) with
 | true=>exact⟨fun h=>absurd h (Ak9 c1),Alc _⟩
 | false =>
 rw[Ak0]
 have hz:(goP e w).2.2=0:=by simpa using c1
 obtain⟨a,b⟩:=Tc (pid:=e.Pid) (k:=200) (t:=noT) (ZR h hin hz)
 cases c2:decide ((onS e.M e.Pid 200 (goP e w).1 noT).2.2≠0) with
 | true=>exact⟨fun h=>absurd h (Ak9 c2),Alc _⟩
 | false =>
 rw[Ak0]
 have ht:=OP h hin
 refine⟨fun _=>QK (QK (ZU (a (by simpa using c2)))),?_⟩
 show((goP e w).2.1++(onS e.M e.Pid 200 (goP e w).1 noT).2.1).size<=_
 rw[Amk]
 have:noT.size=0:=rfl
 omega
theorem Rt (h:Gs m s):(C4 m s).2=0/\(C4 m s).1.length<=285230080/\∀ n∈(C4 m s).1,TI m n:=by
 unfold C4
 rw[h.check]
 refine⟨rfl,?_,fun n hn=>?_⟩
 ·show((Dv m s).map fun p=>Fc p.1 p.2).length<=_
  rw[Al8]
  exact Sa h
 ·obtain⟨p,hp,rfl⟩:=Amn.1 (show n∈(Dv m s).map fun p=>Fc p.1 p.2 from hn)
  obtain⟨h1,h2,h3,h4,h5⟩:=R9 h hp
  have:=Ags h3 h5
  rw[h1]at this
  exact this
theorem Zm (h:Gs m s):(Fe m s).length<=285230080/\∀ n∈Fe m s,TI m n:=by
 obtain⟨_,h2,h3⟩:=Rt h
 unfold Fe
 cases decide (0<(C4 m s).1.length) with
 | true=>exact⟨h2,h3⟩
 | false =>
  refine⟨by show 1<=_;omega,fun n hn=>?_⟩
  rw[Aly.1 hn]
  exact⟨fun _=>h,Alc _⟩
theorem Qs (h:Gs m s)(hc:0<=m.Claim):(m.Claim<m.Procs.length)/\0<=s.Claim/\s.Claim<(A8 m m.Claim).Locs.length:=by
 have hk:=h.fits.k
 unfold Gy at hk
 rw[AlI (by omega:¬ m.Claim<0),Ak0]at hk
 have:=CC.1 hk
 exact⟨(GU h.may).clp,this⟩
theorem MF (h:Gs m s)(hc:0<=m.Claim):(Ao m s).length<=1024/\(∀ t∈Ao m s,inP (A8 m m.Claim).Locs.length t.To=true)/\O6 ((A8 m m.Claim).Locs.getD s.Claim.toNat default):=by
 obtain⟨h1,h2,h3⟩:=Qs h hc
 have hi:m.Claim.toNat<m.Procs.length:=by omega
 have hl:(A8 m m.Claim).Locs.getD s.Claim.toNat default∈(A8 m m.Claim).Locs:=Av (by omega)
 have hg:=Qh (DT (Cy h.may).2.1 _ hi).2 _ hl _ Alb
 exact⟨hg.1,hg.2,(h.wf.Procs.2 _ (Av hi)).Locs.2 _ hl⟩
theorem Age {c:Int}{to:Int}{n:Nx}(h:TI m n)(hc:0<=m.Claim)(ht:inP (A8 m m.Claim).Locs.length to=true):TI m (FO c to n):=by
 unfold FO
 cases c1:decide (n.Err=0) with
 | false=>exact⟨fun h=>absurd h (Alk c1),h.text⟩
 | true =>
  refine⟨fun _=>?_,h.text⟩
  have g:=h.gs (Ak9 c1)
  have f:=g.fits
  refine⟨g.wf,g.may,⟨f.g,f.cl,f.pl,f.l,f.a,f.c,f.p,?_⟩⟩
  show Gy m { n.State with Claim:=to }=true
  unfold Gy
  rw[AlI (by omega:¬ m.Claim<0),Ak0]
  exact ht
theorem Ae8 (h:Gs m s)(hc:0<=m.Claim){c:Nat}(hl:c<(Ao m s).length):(NW m s c).length<=285230080/\∀ n∈NW m s c,TI m n:=by
 obtain⟨r1,r2⟩:=Zm h
 have hto:=(MF h hc).2.1 _ (Av (d:=default) hl)
 have hq:NW m s c=bif !(Je m s c).1 then[] else bif decide ((Je m s c).2≠0) then[⟨B3 c,BO,(Je m s c).2,noT⟩] else(Fe m s).map (FO c ((Ao m s).getD c default).To):=rfl
 rw[hq]
 cases (!(Je m s c).1) with
 | true=>exact⟨Alc _,fun n hn=>by cases hn⟩
 | false =>
 rw[Ak0]
 cases c2:decide ((Je m s c).2≠0) with
 | true =>
  refine⟨by show 1<=_;omega,fun n hn=>?_⟩
  rw[Aly.1 hn]
  exact⟨fun h=>absurd h (Ak9 c2),Alc _⟩
 | false =>
  rw[Ak0]
  refine⟨by rw[Al8];exact r1,fun n hn=>?_⟩
  obtain⟨x,hx,rfl⟩:=Amn.1 hn
  exact Age (r2 x hx) hc hto
theorem M8 (h:Gs m s)(hc:0<=m.Claim):∀ {k:Nat},k<=(Ao m s).length->(DV m s k).length<=k*285230080/\∀ n∈DV m s k,TI m n
 | 0,_=>⟨Alc _,fun n hn=>by cases hn⟩
 | k+1,hk=>by
  obtain⟨a1,a2⟩:=M8 h hc (k:=k) (by omega)
  obtain⟨b1,b2⟩:=Ae8 h hc (c:=k) (by omega)
  have hq:DV m s (k+1)=DV m s k++NW m s k:=rfl
  rw[hq]
  refine⟨by rw[Alh,Anf];omega,fun n hn=>?_⟩
  rcases AlA.1 hn with hn | hn
  ·exact a2 n hn
  ·exact b2 n hn
theorem Abc (h:Gs m s):(Ex m s).2=0/\(Ex m s).1.length<=292075601920/\∀ n∈(Ex m s).1,TI m n:=by
 obtain⟨h1,h2,h3⟩:=Rt h
 have hq:Ex m s=bif decide ((C4 m s).2≠0)||decide (m.Claim<0) then C4 m s else(DV m s (Ao m s).length,0):=rfl
 rw[hq,h1]
 cases c:decide (m.Claim<0) with
 | true=>exact⟨h1,Als h2 (by omega),h3⟩
 | false =>
  have hc:0<=m.Claim:=by have:=Alk c;omega
  obtain⟨a1,a2⟩:=M8 h hc (Ak6 _)
  have:=Alo 285230080 (MF h hc).1
  exact⟨rfl,by show(DV m s (Ao m s).length).length<=_;omega,a2⟩
theorem Ag7 (h:Dq m=true):EL m m.Procs.length<=16:=by
 unfold Dq IX at h
 cases b1:decide (0<(CU m).1) with
 | true =>
  have h:decide ((40:Int)=0)=true:=by rw[b1]at h;exact h
  exact absurd h (by decide)
 | false =>
 rw[b1,Ak0]at h
 cases b2:decide (0<=E0 m) with
 | true =>
  have h:decide ((40:Int)=0)=true:=by rw[b2]at h;exact h
  exact absurd h (by decide)
 | false =>
 rw[b2,Ak0]at h
 cases b3:decide (16<EL m m.Procs.length) with
 | true =>
  have h:decide ((40:Int)=0)=true:=by rw[b3]at h;exact h
  exact absurd h (by decide)
 | false=>have:=Alk b3;omega
theorem XP (h:Dq m=true)(hc:0<=m.Claim):(A8 m m.Claim).Active<=0:=by
 have h1:=(GU h).clp
 obtain⟨_,h2,_⟩:=Cy h
 have:=G5 (n:=m.Procs.length) (f:=fun i=>!D8 m i) (by unfold E0 at h2;omega) m.Claim.toNat (by omega)
 unfold D8 at this
 simp only[Amy,Aln,AmJ,AmX]at this
 have h3:=this.2.2.2.2
 rw[AlO (by omega:((m.Claim.toNat:Nat):Int)=m.Claim)]at h3
 have h3:E6 (A8 m m.Claim)=true:=h3.resolve_left (by decide)
 unfold E6 at h3
 simp only[Ak2,Ak5]at h3
 exact h3.1.1.2
theorem Ls (h:Dq m=true):∀ {k:Nat},k<=m.Procs.length->((CX m k).length:Int)=EL m k/\∀ p∈CX m k,A2 m p=true
 | 0,_=>⟨rfl,fun p hp=>by cases hp⟩
 | k+1,hk=>by
  obtain⟨a1,a2⟩:=Ls h (k:=k) (by omega)
  have hf:Di (A8 m k)=true:=(DT (Cy h).2.1 k (by omega)).1
  unfold Di at hf
  simp only[Ak2,Ak5]at hf
  have h0:=hf.1.1.1.2
  have hq:CX m (k+1)=CX m k++List.replicate (A8 m k).Active.toNat (G4 m k (List.replicate (A8 m k).Params.toNat 0)):=rfl
  rw[hq]
  refine⟨?_,fun p hp=>?_⟩
  ·have hm:EL m (k+1)=EL m k+(A8 m k).Active:=by
    unfold EL A8
    rw[AmZ,show m.Procs[k]?=some (m.Procs.getD (k:Int).toNat default) by simp[List.getD,show k<m.Procs.length by omega]]
    simp
   rw[hm,Alh,List.length_replicate,← a1]
   omega
  ·rcases AlA.1 hp with hp | hp
   ·exact a2 p hp
   ·obtain⟨hn,rfl⟩:=List.mem_replicate.1 hp
    refine VX h ⟨by omega,by omega⟩ fun hc=>hn ?_
    have:=XP h (by omega)
    rw[← hc]at this
    omega
theorem ZH (h:Dq m=true):∀ {k:Nat},k<=m.Procs.length->(CX m k).length<=16:=fun{k} hk=>by
 have h1:=Ag7 h
 rw[← (Ls h (Ak6 _)).1]at h1
 have key:∀ {n j:Nat},(CX m n).length<=(CX m (n+j)).length:=by
  intro n j
  induction j with
  | zero=>exact Ak6 _
  | succ j ih =>
   refine Als ih ?_
   show _<=(CX m (n+j)++_).length
   rw[Alh]
   exact AlW _ _
 have:=key (n:=k) (j:=m.Procs.length - k)
 rw[show k+(m.Procs.length - k)=m.Procs.length by omega]at this
 omega
theorem Vt (hw:Ay m)(h:Dq m=true):Gs m (AP m):=by
 obtain⟨t1,t2,_⟩:=Cy h
 have t:=Pv t1
 refine⟨hw,h,⟨?_,?_,ZH h (Ak6 _),⟨AmF _,by show(0:Int)<16;decide⟩,⟨AmF _,by show(-1:Int)<((CX m m.Procs.length).length:Int);omega⟩,fun c hc=>?_,(Ls h (Ak6 _)).2,?_⟩⟩
 ·have ht:∀ i,i<m.Globals.length->DD (m.Globals.getD i default) (m.Init.getD i 0)=true:=G5 (by have:=t.types;unfold Fm at *;omega)
  exact Jp t.init.symm fun k hk=>ht k (by have:=t.init;have hk:k<m.Init.length:=hk;omega)
 ·show(m.Chans.map _).length<=32
  rw[Al8]
  exact t.chans
 ·obtain⟨k,hk,rfl⟩:=Amn.1 (show c∈m.Chans.map (fun k=>(⟨k,[]⟩:D.Chan)) from hc)
  obtain⟨i,hi,rfl⟩:∃ i,i<m.Chans.length/\m.Chans.getD i 0=k:=by
   obtain⟨i,hi,rfl⟩:=Amh hk
   exact⟨i,hi,by simp[List.getD,hi]⟩
  have h1:=t.chan i hi
  have h2:=CC.1 h1
  have h3:=t.shape (m.Chans.getD i 0).toNat (by omega)
  unfold D5 at h3
  simp only[Ak2,Ak5]at h3
  unfold Dd BP
  simp only[Ak2,Ak5]
  exact⟨⟨h1,h3.1.1.1.1⟩,Bz.2 fun j hj=>absurd hj (Amq _)⟩
 ·show Gy m (AP m)=true
  unfold Gy AP
  cases c:decide (m.Claim<0) with
  | true =>
   have:=Ak9 c
   rw[AlI (by omega:¬ 0<=m.Claim)]<;>rfl
  | false =>
   have c:=Alk c
   rw[AlO (by omega:0<=m.Claim)]
   have h1:=(GU h).clp
   have hg:EB (A8 m m.Claim)=true:=(DT t2 m.Claim.toNat (by omega)).2
   unfold EB at hg
   simp only[Ak2,Ak5]at hg
   exact hg.1.1.2
end
def Ct (m:D.Model)(s:D.State):List Nx:=bif decide (m.Claim<0)&&decide ((Ex m s).1.length=0) then[⟨B3 (-1),s,0,noT⟩] else(Ex m s).1
def Fa (v:Mv):List Nx->Nat->Int
 | [],_=>-1
 | n::r,i=>bif decide (n.Move=v) then i else Fa v r (i+1)
def He (m:D.Model):List Mv->D.State->List D.State->Nat->List D.State × Int × Int
 | [],_,out,_=>(out,0,0)
 | v::r,s,out,i =>
  bif decide (Fa v (Ct m s) 0<0) then([],43,i) else
  bif decide (((Ct m s).getD (Fa v (Ct m s) 0).toNat default).Err≠0) then(out,((Ct m s).getD (Fa v (Ct m s) 0).toNat default).Err,i)
  else He m r ((Ct m s).getD (Fa v (Ct m s) 0).toNat default).State (out++[((Ct m s).getD (Fa v (Ct m s) 0).toNat default).State]) (i+1)
theorem M2 {m:D.Model}{v:Mv}{r:List Mv}{s:D.State}{out:List D.State}{i:Nat}:He m (v::r) s out i =
  bif decide (Fa v (Ct m s) 0<0) then([],43,(i:Int)) else
  bif decide (((Ct m s).getD (Fa v (Ct m s) 0).toNat default).Err≠0) then(out,((Ct m s).getD (Fa v (Ct m s) 0).toNat default).Err,(i:Int))
  else He m r ((Ct m s).getD (Fa v (Ct m s) 0).toNat default).State (out++[((Ct m s).getD (Fa v (Ct m s) 0).toNat default).State]) (i+1):=rfl
theorem Rz {m:D.Model}:∀ (l:List Mv) (s:D.State) (out:List D.State) (i:Nat),(He m l s out i).2.1=0->∃ b:List D.State,b.length=l.length/\(He m l s out i)=(out++b,0,0)/\∀ n,n<=l.length->He m (l.take n) s out i=(out++b.take n,0,0)
 | [],s,out,i,_=>⟨[],rfl,by simp[He],fun n _=>by simp[He]⟩
 | v::r,s,out,i,h=>by
  rw[M2]at h
  rw[M2]
  cases c1:decide (Fa v (Ct m s) 0<0) with
  | true=>rw[c1]at h;exact absurd (show(43:Int)=0 from h) (by decide)
  | false =>
   rw[c1,Ak0]at h
   cases c2:decide (((Ct m s).getD (Fa v (Ct m s) 0).toNat default).Err≠0) with
   | true =>
    rw[c2,Ak4]at h
    exact absurd h (Ak9 c2)
   | false =>
    rw[c2,Ak0]at h
    obtain⟨b,h1,h2,h3⟩:=Rz r _ _ _ h
    rw[Ak0,Ak0]
    refine⟨((Ct m s).getD (Fa v (Ct m s) 0).toNat default).State::b,by simp[h1],by rw[h2];simp,fun n hn=>?_⟩
    cases n with
    | zero=>simp[He]
    | succ n =>
     rw[List.take_succ_cons,M2,c1,Ak0,c2,Ak0,h3 n (by simpa using hn)]
     simp
end Go.Proofs.YtmdcknlpalfhhaaGreatDoor
