/-
  Texts, joined: VjB, Enc, EncGood, GoodP, GdQ, VjIdx, VjTab, GdS, GdA, GdH, GdL.
-/
import Derived.Test.YtmdcknlpalfhhaaGreatDoorSkA
import Derived.Laws.BytesString
import Derived.ScopeJumps
import Derived.RangeFuncRecord
import Derived.IntWalk
import Derived.Test.YtmdcknlpalfhhaaGreatDoorProg
import Derived.KernelRfl
namespace Go.Proofs.YtmdcknlpalfhhaaGreatDoor
open Go.RowKit
section
structure Sd (nb:Bool) (ri:Nat->Option Nat) (rg:Nat->Nat->Option Nat) (E1:AF) (φ1:Phi) (E2:AF) (φ2:Phi):Prop where
 fz:∀ k,E2.fz k->E1.fz k
 br:nb=false->∀ k,E2.br k->E1.br k
 bx:∀ id i b,ri id=some i->φ1 id=some (.box b)->φ2 i=some (.box b)
 ar:∀ id i gen g c len hd,ri id=some i->rg id gen=some g->φ1 id=some (.arr c len hd)->gen<=c->∃ c2,φ2 i=some (.arr c2 len hd)/\g<=c2/\(g=c2->gen=c)
def Fg (og:Nat->Nat):Pl->Pl
 | .box b=>.box b
 | .arr c n hd=>.arr (og c) n hd
theorem Ox {og:Nat->Nat}{p:Pl}{k:Nat}:PlB (Fg og p) k ↔ PlB p k:=by cases p<;>exact Iff.rfl
section
variable {w : World} {nb:Bool} {ri:Nat->Option Nat} {rg:Nat->Nat->Option Nat} {og:Nat->Nat} {E1 E2:AF} {φ1 φ2:Phi}
theorem EY (h:Sd nb ri rg E1 φ1 E2 φ2):∀ (k:Nat) (x:VV) (v:Value),V w E1 (some φ1) x v->V w E2 (some φ2) (Mn nb ri rg k x) v
 | 0,_,_,_=>.dead
 | k+1,x,v,hv=>by
  have memc:∀ {x:VV},V w E1 (some φ1) x v->x.mem=true->V w E2 (some φ2) x v:=fun hv hm =>
   (hv.mem (E':=⟨E1.fz,E2.br,0,[]⟩) (m':=some φ2) hm rfl).less h.fz fun _ h=>h
  have rec':∀ (cs:List VV) (vs:Array Value),vs.size=cs.length->(∀ (j:Nat) x,cs[j]?=some x->V w E1 (some φ1) x (vs.getD j undef)) ->
    vs.size=(cs.map (Mn nb ri rg k)).length/\∀ (j:Nat) x,(cs.map (Mn nb ri rg k))[j]?=some x->V w E2 (some φ2) x (vs.getD j undef):=by
   intro cs vs h1 h2
   refine⟨by simp[h1],fun j x hx=>?_⟩
   rw[Alh]at hx
   obtain⟨y,hy,rfl⟩:=Ak5.1 hx
   exact EY h k y _ (h2 j y hy)
  cases x with
  | dead=>exact .dead
  | sc u=>exact memc hv rfl
  | nl=>exact memc hv rfl
  | er b=>exact memc hv rfl
  | sl fz n sz f =>
   cases fz with
   | true=>exact memc hv rfl
   | false =>
    cases nb with
    | true=>exact .dead
    | false=>exact(hv.lies (m':=some φ2) rfl).less h.fz (h.br rfl)
  | tp cs =>
   cases nb with
   | true=>exact .dead
   | false =>
    obtain⟨b,off,rfl,h1,h2,u,h3,h4⟩:=hv.tp_inv
    exact .tp u h1 (fun e=>h2 (h.br rfl _ e)) h3 fun j x hx=>(h4 j x hx).less h.fz (h.br rfl)
  | bp id off =>
   obtain⟨b,hb,rfl⟩:=hv.bp_inv
   simp only[Mn]
   cases hq:ri id with
   | none=>exact .dead
   | some i=>exact .bp (h.bx id i b hq hb)
  | ow id gen n =>
   obtain⟨c,len,hd,hd0,hph,hg,h0,hcur⟩:=hv.ow_inv
   simp only[Mn]
   cases hq:ri id with
   | none=>exact .dead
   | some i =>
    cases hq2:rg id gen with
    | none=>exact .dead
    | some g =>
     obtain⟨c2,a1,a2,a3⟩:=h.ar id i gen g c len hd hq hq2 hph hg
     exact .ow a1 a2 h0 fun e=>hcur (a3 e)
  | ep id gen sz r o =>
   obtain⟨c,len,hd,b,hph,hg,rfl,hcur⟩:=hv.ep_inv
   simp only[Mn]
   cases hq:ri id with
   | none=>exact .dead
   | some i =>
    cases hq2:rg id gen with
    | none=>exact .dead
    | some g =>
     obtain⟨c2,a1,a2,a3⟩:=h.ar id i gen g c len hd hq hq2 hph hg
     exact .ep a1 a2 fun e=>hcur (a3 e)
  | agg cs =>
   obtain⟨vs,rfl,h1,h2⟩:=hv.agg_inv
   obtain⟨g1,g2⟩:=rec' cs vs h1 h2
   exact .agg g1 g2
  | tup cs =>
   cases hv with | tup h1 h2 =>
   obtain⟨g1,g2⟩:=rec' cs _ h1 h2
   exact .tup g1 g2
  | fn g cs =>
   cases hv with | fn h1 h2 =>
   obtain⟨g1,g2⟩:=rec' cs _ h1 h2
   exact .fn g1 g2
theorem Mm (h:Sd nb ri rg (E1.up φ1) φ1 (E2.up φ2) φ2){o:Ob}{p:Pl}(ho:ObV w E1 φ1 o p):ObV w E2 φ2 (UJ nb ri rg og o) (Fg og p):=by
 cases o with
 | box cs =>
  cases p with
  | arr=>exact ho.elim
  | box b =>
   obtain⟨c,ty,h1,h2⟩:=ho
   refine⟨c,ty,h1,by simp[h2.1],fun j x hx=>?_⟩
   rw[Alh]at hx
   obtain⟨y,hy,rfl⟩:=Ak5.1 hx
   exact EY h _ y _ (h2.2 j y hy)
 | gone g =>
  cases p with
  | box b=>exact ho.elim
  | arr c n hd=>obtain⟨rfl,rfl⟩:=ho;exact⟨rfl,rfl⟩
 | arr fr g n sz f =>
  cases p with
  | box b=>exact ho.elim
  | arr c n' hd =>
   obtain⟨rfl,rfl,hrow⟩:=ho
   have key:∀ (f':Nat->List VV),(∀ i,i<n->(f' i).length=(f i).length)->(∀ (i j:Nat) (x:VV),i<n->(f' i)[j]?=some x->∀ u,(∀ y,(f i)[j]?=some y->IB w E1 φ1 fr y u)->IB w E2 φ2 fr x u)->KV w E2 φ2 fr n sz f' hd:=by
    intro f' hl hc
    match hd,hrow with
    | none,hrow=>exact hrow
    | some (b,cap),hrow =>
     obtain⟨cs,ty,h1,h2,h3,h4,h5,h6,h7⟩:=hrow
     exact⟨cs,ty,h1,h2,h3,h4,fun i hi=>(hl i hi).trans (h5 i hi),fun i j x hi hx=>hc i j x hi hx _ fun y hy=>h6 i j y hi hy,h7⟩
   cases fr with
   | true=>exact⟨rfl,rfl,key f (fun _ _=>rfl) fun i j x _ hx u hu=>V.less (hu x hx) h.fz fun _ h=>h⟩
   | false =>
    refine⟨rfl,rfl,key _ (fun i hi=>by simp[UG,hi]) fun i j x hi hx u hu=>?_⟩
    simp only[UG,Ak2,Alh,List.getElem?_range hi,Ams,Amc]at hx
    obtain⟨y,hy,rfl⟩:=Ak5.1 hx
    exact EY h _ y _ (hu y hy)
end
theorem DT : ∀ {ids:List Nat} {id j:Nat},idx ids id=some j->ids[j]?=some id
 | [],_,_,h=>by cases h
 | i::is,id,j,h=>by
  simp only[idx]at h
  cases hq:Nat.beq i id with
  | true =>
   rw[hq]at h
   simp only[AkQ,AkP]at h
   subst h
   rw[AkT hq];rfl
  | false =>
   rw[hq]at h
   simp only[AkN,Ak5]at h
   obtain⟨j',hj,rfl⟩:=h
   have:=DT hj
   simpa using this
theorem FY {nx:Nat}:∀ {ids:List Nat},Ex nx ids=true->∀ (j:Nat) id,ids[j]?=some id->id<nx
 | [],_,j,id,h=>by simp at h
 | i::is,hk,j,id,h=>by
  simp only[Ex,AkO]at hk
  match j,h with
  | 0,h=>simp only[AkZ,AkP]at h;subst h;exact Ak7 hk.1.1
  | j+1,h=>exact FY hk.2 j id h
theorem Lw {nx:Nat}:∀ {ids:List Nat},Ex nx ids=true->∀ (j:Nat) id,ids[j]?=some id->idx ids id=some j
 | [],_,j,id,h=>by simp at h
 | i::is,hk,j,id,h=>by
  simp only[Ex,AkO]at hk
  match j,h with
  | 0,h=>simp only[AkZ,AkP]at h;subst h;simp[idx]
  | j+1,h =>
   have h':is[j]?=some id:=h
   have hne:i≠id:=by
    rintro rfl
    have:=JK hk.1.2
    rw[Zn.2 (Alv h')]at this
    cases this
   simp only[idx,B7 hne,AkN,Lw hk.2 j id h',Ams]
theorem Qd {ids:List Nat}{id:Nat}(h:idx ids id=none):∀ j:Nat,ids[j]?≠some id:=by
 intro j hj
 induction ids generalizing j with
 | nil=>simp at hj
 | cons i is ih =>
  simp only[idx]at h
  cases hq:Nat.beq i id with
  | true=>rw[hq]at h;cases h
  | false =>
   rw[hq]at h
   simp only[AkN,Option.map_eq_none_iff]at h
   match j,hj with
   | 0,hj=>simp only[AkZ,AkP]at hj;subst hj;simp at hq
   | j+1,hj=>exact ih h j hj
def GG (ids:List Nat)(φ:Phi)(k:Nat):Prop:=∃ id,idx ids id=none/\Blk φ id k
def CQ (ids:List Nat)(φ:Phi):Phi:=fun j=>(ids[j]?).bind fun id=>(φ id).map (Fg fun _=>0)
section
variable {w : World} {E E':AF} {φ:Phi} {st:St} {ids:List Nat} {Hc:Nat->Ob}
theorem IS {j:Nat}{p:Pl}(h:CQ ids φ j=some p):∃ id q,ids[j]?=some id/\φ id=some q/\p=Fg (fun _=>0) q:=by
 unfold CQ at h
 cases hq:ids[j]? with
 | none=>rw[hq]at h;cases h
 | some id =>
  rw[hq]at h
  simp only[Amj,Ak5]at h
  obtain⟨q,hq,rfl⟩:=h
  exact⟨id,q,rfl,hq,rfl⟩
theorem G4 {j id:Nat}(h:ids[j]?=some id):CQ ids φ j=(φ id).map (Fg fun _=>0):=by unfold CQ;rw[h];rfl
theorem KG {j k:Nat}:Blk (CQ ids φ) j k ↔ ∃ id,ids[j]?=some id/\Blk φ id k:=by
 constructor
 ·intro h
  obtain⟨p,hp,hb⟩:=AI.1 h
  obtain⟨id,q,h1,h2,rfl⟩:=IS hp
  exact⟨id,h1,AI.2 ⟨q,h2,Ox.1 hb⟩⟩
 ·rintro⟨id,h1,h2⟩
  obtain⟨q,hq,hb⟩:=AI.1 h2
  exact AI.2 ⟨Fg (fun _=>0) q,by rw[G4 h1,hq];rfl,Ox.2 hb⟩
theorem FD {k:Nat}:Own (CQ ids φ) k ↔ ∃ (j:Nat) (id:Nat),ids[j]?=some id/\Blk φ id k :=
 ⟨fun⟨j,h⟩=>let ⟨id,h1,h2⟩:=KG.1 h;⟨j,id,h1,h2⟩,fun⟨j,id,h1,h2⟩=>⟨j,KG.2 ⟨id,h1,h2⟩⟩⟩
theorem DQ {k:Nat}:Own φ k ↔ GG ids φ k∨Own (CQ ids φ) k:=by
 rw[FD]
 constructor
 ·rintro⟨id,h⟩
  cases hq:idx ids id with
  | none=>exact .inl ⟨id,hq,h⟩
  | some j=>exact .inr ⟨j,id,DT hq,h⟩
 ·rintro(⟨id,_,h⟩ | ⟨j,id,_,h⟩)
  ·exact⟨id,h⟩
  ·exact⟨id,h⟩
theorem HRel.gen (h:HRel E Hc φ w){id c len:Nat}{hd:Option (Nat × Nat)}(e:φ id=some (.arr c len hd)):(Hc id).gen=c:=by
 have:=h.ob id _ e
 cases hq:Hc id with
 | box cs=>rw[hq]at this;exact this.elim
 | arr fr g n sz f=>rw[hq]at this;exact this.1
 | gone g=>rw[hq]at this;exact this.1
theorem FC (h:HRel E st.H φ w)(h1:∀ k,E'.fz k->E.fz k∨GG ids φ k)(h2:∀ k,E'.br k->E.br k∨GG ids φ k) :
  Sd false (idx ids) (Zw st) (E.up φ) φ (E'.up (CQ ids φ)) (CQ ids φ):=by
 refine⟨?_,fun _=>?_,fun id i b hi hb=>?_,fun id i gen g c len hd hi hg hph hgc=>?_⟩
 ·rintro k (hk1 | hk1)
  ·exact(h1 k hk1).imp (fun h=>h) fun h=>DQ.2 (.inl h)
  ·exact .inr (DQ.2 (.inr hk1))
 ·rintro k (hk1 | hk1)
  ·exact(h2 k hk1).imp (fun h=>h) fun h=>DQ.2 (.inl h)
  ·exact .inr (DQ.2 (.inr hk1))
 ·rw[G4 (DT hi),hb];rfl
 ·have hgen:=h.gen hph
  unfold Zw at hg
  rw[hgen]at hg
  cases hq:Nat.beq gen c with
  | false=>rw[hq]at hg;cases hg
  | true =>
   rw[hq]at hg
   simp only[AkQ,AkP]at hg
   subst hg
   exact⟨0,by rw[G4 (DT hi),hph];rfl,AkU _,fun _=>AkT hq⟩
theorem HRel.lend (h:HRel E st.H φ w)(hk:Ex st.nx ids=true)(h1:∀ k,E'.fz k->E.fz k∨GG ids φ k)(h2:∀ k,E'.br k->E.br k∨GG ids φ k)(h3:∀ k,E'.br k->E'.fz k){H':Nat->Ob}(hH:∀ (j id:Nat),ids[j]?=some id->H' j=D9 st ids id) :
  HRel E' H' (CQ ids φ) w:=by
 refine⟨h3,fun j p e=>?_,fun i j k hi hj=>?_,fun k hk1 hf=>?_⟩
 ·obtain⟨id,q,e1,e2,rfl⟩:=IS e
  rw[hH j id e1]
  exact Mm (FC h h1 h2) (h.ob id q e2)
 ·obtain⟨a,ha1,ha2⟩:=KG.1 hi
  obtain⟨b,hb1,hb2⟩:=KG.1 hj
  obtain rfl:=h.inj a b k ha2 hb2
  have e1:=Lw hk i a ha1
  have e2:=Lw hk j a hb1
  rw[e1]at e2
  simpa using e2
 ·obtain⟨j,id,e1,e2⟩:=FD.1 hk1
  rcases h1 k hf with hf | ⟨id',e3,e4⟩
  ·exact h.free k ⟨id,e2⟩ hf
  ·obtain rfl:=h.inj id id' k e2 e4
   exact Qd e3 j e1
end
end
section
def PlK : Pl->Pl->Prop
 | .box b,q=>q=.box b
 | .arr _ _ _,q=>∃ c n hd,q=.arr c n hd
theorem PlK.refl (p:Pl):PlK p p:=by cases p with
 | box b=>rfl
 | arr c n hd=>exact⟨c,n,hd,rfl⟩
theorem PlK.trans {p q r:Pl}(h:PlK p q)(k:PlK q r):PlK p r:=by
 cases p with
 | box b=>simp only[PlK]at h;subst h;exact k
 | arr c n hd=>obtain⟨_,_,_,rfl⟩:=h;exact k
theorem IA.kind {p q:Pl}(h:IA p q):PlK p q:=by
 cases p with
 | box b=>exact h
 | arr c n hd=>obtain⟨c',n',hd',e,_⟩:=h;exact⟨c',n',hd',e⟩
structure Fr (b:Nat) (w:World) (φ:Phi) (w':World) (φ':Phi):Prop where
 os:w'.os=w.os
 tape:w'.tape=w.tape
 output:w'.output=w.output
 size:w.heap.size<=w'.heap.size
 block:∀ k,k<w.heap.size->¬ Own φ k->w'.heap[k]?=w.heap[k]?
 new:∀ k,Own φ' k->Own φ k∨w.heap.size<=k
 kind:∀ id p,id<b->φ id=some p->∃ p',φ' id=some p'/\PlK p p'
theorem Fr.refl (b:Nat)(w:World)(φ:Phi):Fr b w φ w φ:=⟨rfl,rfl,rfl,AkU _,fun _ _ _=>rfl,fun _ h=>.inl h,fun _ p _ h=>⟨p,h,PlK.refl p⟩⟩
theorem Amf {b:Nat}{w w':World}{φ φ':Phi}(h:Ext w φ w' φ'):Fr b w φ w' φ' :=
 ⟨h.os,h.tape,h.output,h.size,h.block,h.new,fun id p _ e=>let ⟨p',e',hp⟩:=h.up id p e;⟨p',e',hp.kind⟩⟩
theorem Fr.trans {b:Nat}{w w' w'':World}{φ φ' φ'':Phi}(h:Fr b w φ w' φ')(k:Fr b w' φ' w'' φ''):Fr b w φ w'' φ'' where
 os:=k.os.trans h.os
 tape:=k.tape.trans h.tape
 output:=k.output.trans h.output
 size:=Alg h.size k.size
 block:=fun b hb hn=>(k.block b (Ale hb h.size) fun e=>by
  rcases h.new b e with e | e
  ·exact hn e
  ·omega).trans (h.block b hb hn)
 new:=fun b e=>by
  rcases k.new b e with e | e
  ·exact h.new b e
  ·exact .inr (Alg h.size e)
 kind:=fun id p hb e=>by
  obtain⟨q,e1,h1⟩:=h.kind id p hb e
  obtain⟨r,e2,h2⟩:=k.kind id q hb e1
  exact⟨r,e2,h1.trans h2⟩
def Hm (P:Program)(f:FuncId):Prop:=∃ fn,P.funcs[f]?=some fn/\fn.body.isNone=false/\(fn.name == "runtime.NumGoroutine")=false
def Bn (hs:List Ob):Nat->Ob:=fun id=>hs.getD id (.gone 0)
structure Aj (P:Program) (f:FuncId) (hs:List Ob) (xs:List VV) (hs':List Ob) (r:VV):Prop where
 callable:Hm P f
 call:∀ (w:World) (E:AF) (φ:Phi) (vs:Array Value),Old E φ w->HRel E (Bn hs) φ w->(∀ id,φ id≠none ↔ id<hs.length)->CT w (E.up φ) (some φ) xs vs ->
  Calls P f vs w fun e w'=>∃ v φ',e=.returned v/\HRel E (Bn hs') φ' w'/\Fr hs.length w φ w' φ'/\(∀ id,φ' id≠none ↔ id<hs'.length)/\V w' (E.up φ') (some φ') r v
def Jf (P:Program)(O:Orc):Prop:=∀ f hs xs,(∀ p∈(O.run f hs xs).2,p)->Aj P f hs xs (O.run f hs xs).1.1 (O.run f hs xs).1.2
theorem Qy {nb:Bool}{st:St}{ids:List Nat}:∀ {os:List Ob} {j0 j:Nat},(He nb st ids j0 os)[j]?=(os[j]?).map (TH nb st ids (j0+j))
 | [],_,_=>by simp[He]
 | o::os,j0,0=>by simp[He]
 | o::os,j0,j+1=>by
  simp only[He,AlA]
  rw[Qy,show j0+1+j=j0+(j+1) by omega]
theorem KS {nb:Bool}{st:St}{ids:List Nat}:∀ {os:List Ob} {j0:Nat},(He nb st ids j0 os).length=os.length
 | [],_=>rfl
 | o::os,j0=>by simp[He,KS]
def Di (P:Program)(E:AF)(φ:Phi)(nx:Nat)(obs:List Ob)(x:VV)(o:Oper)(a:Act)(w:World):Prop :=
 ∀ (K:Act->World->Prop) (Q:Exit->Act->World->Prop),(∀ v w' pls,Eh w E φ nx obs pls w'->V w' (E.up (addP φ nx pls)) (some (addP φ nx pls)) x v->K (a.put o.dst v) w')->o.wp P a w K Q
theorem Di.of {P:Program}{E:AF}{φ:Phi}{nx:Nat}{obs:List Ob}{x:VV}{a:Act}{w:World}{o:Oper}{S:Sem Value}(he:execOp a.eval o=(do pure (.value (← S)):Sem Next))
  (h:∃ v w' pls,S.run P w=.ok v w'/\Eh w E φ nx obs pls w'/\V w' (E.up (addP φ nx pls)) (some (addP φ nx pls)) x v):Di P E φ nx obs x o a w:=by
 obtain⟨v,w',pls,hr,h1,h2⟩:=h
 intro K Q hK
 unfold Oper.wp
 rw[he,Sem.run_bind,hr]
 exact hK v w' pls h1 h2
theorem AlW {P:Program}{E:AF}{φ:Phi}{nx:Nat}{x:VV}{a:Act}{w:World}{o:Oper}{S:Sem Value}(he:execOp a.eval o=(do pure (.value (← S)):Sem Next))
  (h:∃ v,S.run P w=.ok v w/\V w (E.up φ) (some φ) x v):Di P E φ nx [] x o a w:=by
 obtain⟨v,hr,h2⟩:=h
 exact Di.of he ⟨v,w,[],hr,Eh.none (Below.refl _ _),by rw[F9];exact h2⟩
section
variable {P : Program} {T:TypeId->TE} {O:Orc} {w:World} {E:AF} {φ:Phi} {st:St} {Hc:Nat->Ob} {a:Act}
theorem Yv {o:Oper}{c:Call}{f:Operand}{g:FuncId}{vs:Array Value}(ho:o.op=.call c)(hf:c.callee=.value f)(hv:a.eval f=.func (.func g) #[] vs)(hc:Hm P g)
  {K:Act->World->Prop} {Q:Exit->Act->World->Prop} {R:Ending->World->Prop} (hcall:Calls P g (c.args.map a.eval++vs) w R) (hK:∀ e w',R e w'->∃ v,e=.returned v/\K (a.put o.dst v) w'):o.wp P a w K Q:=by
 obtain⟨fn,hfn,hb,hnm⟩:=hc
 have hrun:(execOp a.eval o).run P w=.ok (.enter g (c.args.map a.eval++vs)) w:=by
  unfold execOp
  rw[ho]
  simp only[resolve,hf,hv,Deferred.ofValue,Sem.run_bind,Sem.run_pure,Result.andThen_ok,invoke,callFunc,run_program,hfn,hnm,hb,Amw,if_false,Array.empty_append]
 unfold Oper.wp
 rw[hrun,Oper.upon_enter]
 refine hcall.mono ?_
 intro e w' h
 obtain⟨v,rfl,hk⟩:=hK e w' h
 exact hk
theorem AhE {c:Call}{caps:List VV}{vs:Array Value}{R:VV->Value->Prop}(h2:∀ y∈c.args.toList,R (st.val y) (a.eval y))(e1:vs.size=caps.length)(e2:∀ (j:Nat) x,caps[j]?=some x->R x (vs.getD j undef)) :
  (c.args.map a.eval++vs).size=(c.args.toList.map st.val++caps).length/\∀ (j:Nat) x,(c.args.toList.map st.val++caps)[j]?=some x->R x ((c.args.map a.eval++vs).getD j undef):=by
 refine⟨by simp[e1],fun j x hx=>?_⟩
 by_cases hj:j<c.args.size
 ·rw[Ak0 (by simpa using hj)]at hx
  rw[Alh]at hx
  obtain⟨z,hz,rfl⟩:=Ak5.1 hx
  have:=h2 z (Alv hz)
  have hz':c.args[j]=z:=by have:=(AkR.1 hz).2;simpa using this
  have e:(c.args.map a.eval++vs).getD j undef=a.eval z:=by
   simp[Array.getD,hj,hz',show j<c.args.size+vs.size by omega]
  rw[e];exact this
 ·rw[Ak8 (by simp;omega)]at hx
  have:=e2 _ x hx
  have hjl:=(AkR.1 hx).1
  simp at hjl this
  have e:(c.args.map a.eval++vs).getD j undef=vs[j - c.args.size]'(by omega):=by
   simp[Array.getD,Array.getElem_append,hj,show j<c.args.size+vs.size by omega]
  rw[e]
  rw[AlR (by omega)]at this
  exact this
theorem AbI {ids:List Nat}{j g c:Nat}(h:g<=c):Il st ids j g<=Il st ids j c/\(Il st ids j g=Il st ids j c->g=c):=by
 unfold Il
 cases ids[j]? with
 | some id=>exact⟨by show(st.H id).gen+1+g<=(st.H id).gen+1+c;omega,fun e=>by have e':(st.H id).gen+1+g=(st.H id).gen+1+c:=e;omega⟩
 | none=>exact⟨h,fun e=>e⟩
theorem Aeh {og:Nat->Nat}(h:∀ g,og g=g)(p:Pl):Fg og p=p:=by cases p<;>simp[Fg,h]
theorem AcR {w':World}{φ2:Phi}{os:List Ob}{r:VV}{v:Value}{nx:Nat}(hnx:nx=st.nx)(hid:∀ i,i<os.length->φ (nx+i)=none)
  (h1:HRel (E.up φ).lend (Bn os) φ2 w') (h2:Fr 0 w (fun _=>none) w' φ2) (h3:∀ id,φ2 id≠none ↔ id<os.length) (h4:V w' ((E.up φ).lend.up φ2) (some φ2) r v) :
  ∃ pls,Eh w E φ nx (He true st [] 0 os) pls w'/\V w' (E.up (addP φ nx pls)) (some (addP φ nx pls)) (ZM true st [] r) v:=by
 subst hnx
 let pls:List Pl:=(List.range os.length).map fun j=>(φ2 j).getD (.box 0)
 have hpls:∀ (j:Nat) p,pls[j]?=some p ↔ φ2 j=some p:=by
  intro j p
  show((List.range os.length).map fun j=>(φ2 j).getD (.box 0))[j]?=some p ↔ _
  rw[Alh]
  by_cases hj:j<os.length
  ·obtain⟨q,hq⟩:=Amz.1 ((h3 j).2 hj)
   simp[hj,hq]
  ·have:φ2 j=none:=Alf fun h=>hj ((h3 j).1 h)
   simp[hj,this]
 have hlen:pls.length=os.length:=by simp[pls]
 have hnone:∀ k,¬ Own (fun _=>none:Phi) k:=by
  rintro k ⟨id,hb⟩
  obtain⟨p,hp,_⟩:=AI.1 hb
  cases hp
 have hroom:Room w pls w':=by
  refine⟨⟨h2.os,h2.tape,h2.output,h2.size,fun k hk=>h2.block k hk (hnone k)⟩,fun i p k hi hb=>?_,fun i j p q k hi hj hpb hqb=>?_⟩
  ·exact(h2.new k ⟨i,AI.2 ⟨p,(hpls i p).1 hi,hb⟩⟩).resolve_left (hnone k)
  ·exact h1.inj i j k (AI.2 ⟨p,(hpls i p).1 hi,hpb⟩) (AI.2 ⟨q,(hpls j q).1 hj,hqb⟩)
 have hid':∀ i,i<pls.length->φ (st.nx+i)=none:=fun i hi=>hid i (by rw[← hlen];exact hi)
 have hrel:Sd true (fun j=>some (Gv st [] j)) (fun j g=>some (Il st [] j g)) ((E.up φ).lend.up φ2) φ2 (E.up (addP φ st.nx pls)) (addP φ st.nx pls):=by
  have hout:∀ j,Gv st [] j=st.nx+j:=fun j=>by simp[Gv]
  refine⟨?_,fun e=>Bool.noConfusion e,fun id i b hi hb=>?_,fun id i gen g c len hd hi hg hph hgc=>?_⟩
  ·rintro k (hk | hk)
   ·exact .inl (.inl hk)
   ·rcases(hroom.own hid').1 hk with hk | ⟨i,p,hi,hb⟩
    ·exact .inl (.inr hk)
    ·exact .inr ⟨i,AI.2 ⟨p,(hpls i p).1 hi,hb⟩⟩
  ·simp only[AkP]at hi
   rw[← hi,hout]
   exact DM ((hpls id _).2 hb)
  ·simp only[AkP]at hi hg
   rw[← hi,hout]
   have hg':g=gen:=by rw[← hg];rfl
   subst hg'
   exact⟨c,DM ((hpls id _).2 hph),hgc,fun e=>e⟩
 refine⟨pls,⟨hroom,by rw[hlen,KS],fun i o p hi hp=>?_⟩,EY hrel _ _ _ h4⟩
 rw[Qy]at hi
 obtain⟨o',ho',rfl⟩:=Ak5.1 hi
 have hob:=h1.ob i p ((hpls i p).1 hp)
 have hoo:Bn os i=o':=by simp[Bn,ho']
 rw[hoo]at hob
 have:=Mm (og:=Il st [] (0+i)) hrel hob
 rw[Aeh (og:=Il st [] (0+i)) fun g=>rfl]at this
 exact this
end
end
section
section
variable {P : Program} {T:TypeId->TE} {O:Orc} {w:World} {E:AF} {φ:Phi} {st:St} {Hc:Nat->Ob} {a:Act} {ids:List Nat}
def NW (E:AF)(ids:List Nat)(φ:Phi):AF:=⟨fun k=>E.fz k∨GG ids φ k,fun k=>E.br k∨GG ids φ k,0,[]⟩
def F6 (st:St)(ids:List Nat)(n:Nat)(φ φ2:Phi):Phi:=fun k =>
 match idx ids k with
 | some j=>(φ2 j).map (Fg (Il st ids j))
 | none=>if st.nx<=k/\k<st.nx+(n - ids.length) then(φ2 (k - st.nx+ids.length)).map (Fg (Il st ids (k - st.nx+ids.length))) else φ k
theorem Ms {j id:Nat}(h:ids[j]?=some id):Gv st ids j=id:=by unfold Gv;rw[h]
theorem PW {j:Nat}(h:ids.length<=j):Gv st ids j=st.nx+(j - ids.length):=by
 unfold Gv
 rw[Al6 h]
theorem Ajb (hk:Ex st.nx ids=true){k:Nat}(h:st.nx<=k):idx ids k=none:=by
 cases hq:idx ids k with
 | none=>rfl
 | some j=>have:=FY hk j k (DT hq);omega
theorem AfA (hk:Ex st.nx ids=true){n j:Nat}{φ2:Phi}(hj:j<n):F6 st ids n φ φ2 (Gv st ids j)=(φ2 j).map (Fg (Il st ids j)):=by
 unfold F6
 rcases Alw j ids.length with h | h
 ·have e:ids[j]?=some ids[j]:=Ak1 h
  rw[Ms e,Lw hk j _ e]
 ·rw[PW h,Ajb hk (by omega)]
  simp only
  rw[Alj (by omega),show st.nx+(j - ids.length) - st.nx+ids.length=j by omega]
theorem Sa {n k:Nat}{φ2:Phi}{p:Pl}(h:F6 st ids n φ φ2 k=some p) :
  (∃ j q,k=Gv st ids j/\φ2 j=some q/\p=Fg (Il st ids j) q)∨(idx ids k=none/\φ k=some p/\¬ (st.nx<=k/\k<st.nx+(n - ids.length))):=by
 unfold F6 at h
 cases hq:idx ids k with
 | some j =>
  rw[hq]at h
  obtain⟨q,e1,e2⟩:=Ak5.1 h
  exact .inl ⟨j,q,(Ms (DT hq)).symm,e1,e2.symm⟩
 | none =>
  rw[hq]at h
  simp only at h
  split at h
  ·rename_i hc
   obtain⟨q,e1,e2⟩:=Ak5.1 h
   exact .inl ⟨_,q,by rw[PW (by omega)];omega,e1,e2.symm⟩
  ·rename_i hc;exact .inr ⟨rfl,h,hc⟩
theorem AcQ (hH:HRel E st.H φ w)(hfr:∀ id,st.nx<=id->φ id=none)(hlv:∀ id,id<st.nx->φ id≠none)(hk:Ex st.nx ids=true){w':World}{φ2:Phi}{os:List Ob}{r:VV}{v:Value}(hlen:ids.length<=os.length)
  (h1:HRel (NW E ids φ) (Bn os) φ2 w') (h2:Fr ids.length w (CQ ids φ) w' φ2) (h3:∀ id,φ2 id≠none ↔ id<os.length) (h4:V w' ((NW E ids φ).up φ2) (some φ2) r v) {H':Nat->Ob} (hH':∀ j,j<os.length->H' (Gv st ids j)=TH false st ids j (Bn os j))
  (hH'':∀ k,k<st.nx->idx ids k=none->H' k=st.H k) :
  ∃ φ',HRel E H' φ' w'/\Ext w φ w' φ'/\(∀ id,φ' id≠none ↔ φ id≠none∨(st.nx<=id/\id<st.nx+(os.length - ids.length)))/\V w' (E.up φ') (some φ') (ZM false st ids r) v:=by
 refine⟨F6 st ids os.length φ φ2,?_⟩
 have hat:∀ {j:Nat},j<os.length->F6 st ids os.length φ φ2 (Gv st ids j)=(φ2 j).map (Fg (Il st ids j)):=fun hj=>AfA hk hj
 have hlt2:∀ {j:Nat} {q:Pl},φ2 j=some q->j<os.length:=fun e=>(h3 _).1 (by rw[e];simp)
 have hltφ:∀ {k:Nat} {p:Pl},φ k=some p->k<st.nx:=by
  intro k p e
  rcases Alw k st.nx with h | h
  ·exact h
  ·rw[hfr k h]at e;cases e
 have hblk:∀ {i k:Nat},Blk (F6 st ids os.length φ φ2) i k->(∃ j,i=Gv st ids j/\j<os.length/\Blk φ2 j k)∨(idx ids i=none/\Blk φ i k):=by
  intro i k hb
  obtain⟨p,hp,hpb⟩:=AI.1 hb
  rcases Sa hp with⟨j,q,e1,e2,rfl⟩ | ⟨e1,e2,_⟩
  ·exact .inl ⟨j,e1,hlt2 e2,AI.2 ⟨q,e2,Ox.1 hpb⟩⟩
  ·exact .inr ⟨e1,AI.2 ⟨p,e2,hpb⟩⟩
 have hblk':∀ {j k:Nat},Blk φ2 j k->Blk (F6 st ids os.length φ φ2) (Gv st ids j) k:=by
  intro j k hb
  obtain⟨p,hp,hpb⟩:=AI.1 hb
  exact AI.2 ⟨_,by rw[hat (hlt2 hp),hp];rfl,Ox.2 hpb⟩
 have hblk'':∀ {i k:Nat},idx ids i=none->Blk φ i k->Blk (F6 st ids os.length φ φ2) i k:=by
  intro i k hi hb
  obtain⟨p,hp,hpb⟩:=AI.1 hb
  have:=hltφ hp
  refine AI.2 ⟨p,?_,hpb⟩
  unfold F6
  rw[hi]
  simp only
  rw[Ak3 (by omega),hp]
 have apart:∀ {j i k:Nat},Blk φ2 j k->idx ids i=none->Blk φ i k->False:=fun h5 h6 h7=>h1.free _ ⟨_,h5⟩ (.inr ⟨_,h6,h7⟩)
 have hown:∀ {k:Nat},Own (F6 st ids os.length φ φ2) k ↔ Own φ2 k∨GG ids φ k:=by
  intro k
  constructor
  ·rintro⟨i,hb⟩
   rcases hblk hb with⟨j,_,_,hb⟩ | ⟨hi,hb⟩
   ·exact .inl ⟨j,hb⟩
   ·exact .inr ⟨i,hi,hb⟩
  ·rintro(⟨j,hb⟩ | ⟨i,hi,hb⟩)
   ·exact⟨_,hblk' hb⟩
   ·exact⟨i,hblk'' hi hb⟩
 have hrel:Sd false (fun j=>some (Gv st ids j)) (fun j g=>some (Il st ids j g)) ((NW E ids φ).up φ2) φ2 (E.up (F6 st ids os.length φ φ2)) (F6 st ids os.length φ φ2):=by
  refine⟨?_,fun _=>?_,fun id i b hi hb=>?_,fun id i gen g c len hd hi hg hph hgc=>?_⟩
  ·rintro k (hk1 | hk1)
   ·exact .inl (.inl hk1)
   ·rcases hown.1 hk1 with h | h
    ·exact .inr h
    ·exact .inl (.inr h)
  ·rintro k (hk1 | hk1)
   ·exact .inl (.inl hk1)
   ·rcases hown.1 hk1 with h | h
    ·exact .inr h
    ·exact .inl (.inr h)
  ·simp only[AkP]at hi
   rw[← hi,hat (hlt2 hb),hb];rfl
  ·simp only[AkP]at hi hg
   subst hi;subst hg
   obtain⟨m1,m2⟩:=AbI (st:=st) (ids:=ids) (j:=id) hgc
   exact⟨_,by rw[hat (hlt2 hph),hph];rfl,m1,m2⟩
 have hext:Ext w φ w' (F6 st ids os.length φ φ2):=by
  refine⟨h2.os,h2.tape,h2.output,h2.size,fun k hk1 hn=>h2.block k hk1 fun h=>hn (DQ.2 (.inr h)),fun id p e=>?_,fun k hk1=>?_⟩
  ·cases hq:idx ids id with
   | none =>
    have:=hltφ e
    refine⟨p,?_,IA.refl p⟩
    unfold F6
    rw[hq]
    simp only
    rw[Ak3 (by omega),e]
   | some j =>
    have hj:=DT hq
    have hjl:j<ids.length:=(AkR.1 hj).1
    obtain⟨p2,e2,hp2⟩:=h2.kind j (Fg (fun _=>0) p) hjl (by rw[G4 hj,e];rfl)
    refine⟨Fg (Il st ids j) p2,?_,?_⟩
    ·have:=hat (j:=j) (by omega)
     rw[Ms hj,e2]at this
     exact this
    ·cases p with
     | box b=>simp only[Fg,PlK]at hp2;subst hp2;rfl
     | arr c n hd =>
      obtain⟨c',n',hd',rfl⟩:=hp2
      have hg:=hH.gen e
      have:Il st ids j c'=c+1+c':=by unfold Il;rw[hj];simp only[hg]
      exact⟨_,_,_,rfl,by omega,fun e'=>by omega⟩
  ·rcases hown.1 hk1 with h | ⟨i,hi,hb⟩
   ·exact(h2.new k h).imp (fun h=>DQ.2 (.inr h)) fun h=>h
   ·exact .inl ⟨i,hb⟩
 refine⟨⟨hH.sub,fun k p e=>?_,fun i j k hi hj=>?_,fun k hk1 hf=>?_⟩,hext,fun id=>?_,EY hrel _ _ _ h4⟩
 ·rcases Sa e with⟨j,q,rfl,e2,rfl⟩ | ⟨e1,e2,_⟩
  ·rw[hH' j (hlt2 e2)]
   exact Mm hrel (h1.ob j q e2)
  ·rw[hH'' k (hltφ e2) e1]
   refine(hH.ob k p e2).ext hext fun b hb hlt=>h2.block b hlt ?_
   intro ho
   obtain⟨j,id',a1,a2⟩:=FD.1 ho
   have:=hH.inj k id' b (AI.2 ⟨p,e2,hb⟩) a2
   subst this
   exact Qd e1 j a1
 ·rcases hblk hi with⟨i',rfl,_,hb1⟩ | ⟨hi1,hb1⟩<;>rcases hblk hj with⟨j',rfl,_,hb2⟩ | ⟨hj1,hb2⟩
  ·rw[h1.inj i' j' k hb1 hb2]
  ·exact(apart hb1 hj1 hb2).elim
  ·exact(apart hb2 hi1 hb1).elim
  ·exact hH.inj i j k hb1 hb2
 ·rcases hown.1 hk1 with h | ⟨i,hi,hb⟩
  ·exact h1.free k h (.inl hf)
  ·exact hH.free k ⟨i,hb⟩ hf
 ·constructor
  ·intro hn
   cases hq:idx ids id with
   | some j=>exact .inl (hlv id (FY hk j id (DT hq)))
   | none =>
    unfold F6 at hn
    rw[hq]at hn
    simp only at hn
    split at hn
    ·rename_i hc;exact .inr hc
    ·exact .inl hn
  ·intro hn
   unfold F6
   cases hq:idx ids id with
   | some j =>
    have hj:=DT hq
    have hjl:j<ids.length:=(AkR.1 hj).1
    have:=(h3 j).2 (by omega)
    simpa using this
   | none =>
    simp only
    split
    ·have:=(h3 (id - st.nx+ids.length)).2 (by omega)
     simpa using this
    ·rename_i hc;exact hn.resolve_right hc
theorem AiC (hO:Jf P O)(hH:HRel E Hc φ w)(hHc:∀ id,id<st.nx->Hc id=st.H id)(hz:Old E φ w){o:Oper}{c:Call}{f:Operand}(ho:o.op=.call c)(hf:c.callee=.value f)
  (h1:V w (E.up φ) (some φ) (st.val f) (a.eval f)) (h2:∀ y∈c.args.toList,V w (E.up φ) (some φ) (st.val y) (a.eval y)) (hc:∀ p∈(Ib O st (st.val f) (c.args.toList.map st.val)).chk,p) :
  ((Ib O st (st.val f) (c.args.toList.map st.val)).put=none/\((∀ i,i<(Ib O st (st.val f) (c.args.toList.map st.val)).new.length->φ (st.nx+i)=none) ->
    Di P E φ st.nx (Ib O st (st.val f) (c.args.toList.map st.val)).new (Ib O st (st.val f) (c.args.toList.map st.val)).val o a w)) ∨
  (∃ H',(Ib O st (st.val f) (c.args.toList.map st.val)).put=some H'/\((∀ id,st.nx<=id->φ id=none)->(∀ id,id<st.nx->φ id≠none)->HRel E st.H φ w ->
    Ys P E φ (Jk H' st.nx (Ib O st (st.val f) (c.args.toList.map st.val)).new) st.nx (st.nx+(Ib O st (st.val f) (c.args.toList.map st.val)).new.length) (Ib O st (st.val f) (c.args.toList.map st.val)).val o a w)):=by
 generalize hx:st.val f=x at *
 unfold Ib at hc ⊢
 cases hask:AfY O.lend st x (c.args.toList.map st.val) with
 | none=>rw[hask]at hc;exact Ak hc
 | some q =>
  obtain⟨g,ids,hs,xs⟩:=q
  rw[hask]at hc
  simp only at hc ⊢
  unfold AfY at hask
  split at hask
  ·rename_i g' caps
   generalize hv:a.eval f=vf at h1
   cases h1 with | fn e1 e2 =>
   rename_i vs
   obtain⟨l1,l2⟩:=AhE (c:=c) (st:=st) (a:=a) (R:=V w (E.up φ) (some φ)) h2 e1 e2
   cases hld:O.lend g' with
   | false =>
    rw[hld]at hask
    simp only[AkN]at hask
    split at hask
    ·rename_i xs' hsn
     simp only[AkP,Alu]at hask
     obtain⟨rfl,rfl,rfl,rfl⟩:=hask
     generalize hrun:O.run g' [] xs'=q at hc ⊢
     obtain⟨⟨os,r⟩,ck⟩:=q
     simp only[hld]at hc ⊢
     have hb:DO st false [] os r={ val:=ZM true st [] r,new:=He true st [] 0 os,put:=none }:=by simp[DO,Nat.ble]
     rw[hb]at hc ⊢
     refine .inl ⟨rfl,fun hid=>?_⟩
     simp only[Res.also,Al9]at hc hid ⊢
     have hsp:=hO g' [] xs' (by rw[hrun];exact hc)
     rw[hrun]at hsp
     obtain⟨m1,m2⟩:=De hsn
     have hHlt:∀ {k:Nat},Own φ k->k<w.heap.size:=fun h=>hH.lt h
     have hnil:CQ [] φ=fun _=>none:=by funext j;simp[CQ]
     have hHc':HRel ((E.up φ).lend) (Bn []) (CQ [] φ) w:=by
      refine⟨fun k h=>h.elim,fun j p e=>?_,fun i j k h=>?_,fun k h=>?_⟩
      ·rw[hnil]at e;cases e
      ·rw[hnil]at h;obtain⟨p,hp,_⟩:=AI.1 h;cases hp
      ·rw[hnil]at h;obtain⟨j,h⟩:=h;obtain⟨p,hp,_⟩:=AI.1 h;cases hp
     have hcall:=hsp.call w (E.up φ).lend (CQ [] φ) (c.args.map a.eval++vs) ⟨(by
       rintro k (hk | hk)
       ·exact hz.lt k hk
       ·exact hHlt hk),hz.lib.at',hz.lib.lt,fun k _ ho=>by rw[hnil]at ho;obtain⟨j,ho⟩:=ho;obtain⟨p,hp,_⟩:=AI.1 ho;cases hp⟩ hHc' (fun id=>by rw[hnil];simp) ⟨by rw[l1,m1],fun j y hy=>by
       obtain⟨x,hx,hxy⟩:=m2 j y hy
       have:=PA (H:=st.Hg) hH (fun id=>by
        unfold St.Hg
        cases hq:Nat.blt id st.nx with
        | false=>exact .inl rfl
        | true=>exact .inr (hHc id (Ak7 hq)).symm) _ x y _ (l2 j x hx) hxy
       refine(this.held (m:=some (CQ [] φ))).less ?_ ?_
       ·rintro k (hk | hk)
        ·exact hk
        ·rw[hnil]at hk;obtain⟨j,h⟩:=hk;obtain⟨p,hp,_⟩:=AI.1 h;cases hp
       ·rintro k (hk | hk)
        ·exact hk
        ·rw[hnil]at hk;obtain⟨j,h⟩:=hk;obtain⟨p,hp,_⟩:=AI.1 h;cases hp⟩
     intro K Q hK
     refine Yv ho hf hv hsp.callable hcall ?_
     rintro e w' ⟨v,φ2,rfl,k1,k2,k3,k4⟩
     refine⟨v,rfl,?_⟩
     rw[hnil]at k2
     obtain⟨pls,n1,n2⟩:=AcR (st:=st) rfl (fun i hi=>hid i (by rw[KS];exact hi)) k1 k2 k3 k4
     exact hK v w' pls n1 n2
    ·cases hask
   | true =>
    rw[hld]at hask
    simp only[AkQ]at hask
    generalize PL st 64 ((c.args.toList.map st.val++caps).flatMap (Jc 8)) []=is at hask
    cases hok:Ex st.nx is with
    | false=>rw[hok]at hask;cases hask
    | true =>
     rw[hok]at hask
     simp only[AkQ,AkP,Alu]at hask
     obtain⟨rfl,rfl,rfl,rfl⟩:=hask
     generalize hrun:O.run g' (is.map (D9 st is)) ((c.args.toList.map st.val++caps).map (Iq st is))=q at hc ⊢
     obtain⟨⟨os,r⟩,ck⟩:=q
     simp only[hld]at hc ⊢
     unfold DO at hc ⊢
     cases hle:Nat.ble is.length os.length with
     | false=>rw[hle]at hc;exact(hc False (by simp[Res.bad,Res.also])).elim
     | true =>
      rw[hle]at hc
      simp only[AkQ,Amy]at hc ⊢
      have hlen:=Ak7 hle
      refine .inr ⟨_,rfl,fun hfr hlv hHs=>?_⟩
      simp only[Res.also,Al9]at hc ⊢
      have hsp:=hO g' _ _ (by rw[hrun];exact hc)
      rw[hrun]at hsp
      have hE1:∀ k,(NW E is φ).fz k->E.fz k∨GG is φ k:=fun _ h=>h
      have hE2:∀ k,(NW E is φ).br k->E.br k∨GG is φ k:=fun _ h=>h
      have hHc':=hHs.lend (E':=NW E is φ) hok hE1 hE2 (fun k h=>h.imp (hHs.sub k) fun h=>h) (H':=Bn (is.map (D9 st is))) (fun j id e=>by simp[Bn,e])
      have hrl:=FC (E':=NW E is φ) hHs hE1 hE2
      have hcall:=hsp.call w (NW E is φ) (CQ is φ) (c.args.map a.eval++vs) ⟨(by
        rintro k (hk | ⟨id,_,hk⟩)
        ·exact hz.lt k hk
        ·exact hHs.lt ⟨id,hk⟩),hz.lib.at',hz.lib.lt,fun k hk ho=>hz.lib.out k hk ((FD.1 ho).elim fun _ h=>h.elim fun id h=>⟨id,h.2⟩)⟩ hHc' (fun j=>by
        rw[AlU]
        constructor
        ·intro h
         obtain⟨p,hp⟩:=Amz.1 h
         obtain⟨id,_,e1,_⟩:=IS hp
         exact(AkR.1 e1).1
        ·intro h
         have e1:is[j]?=some is[j]:=Ak1 h
         rw[G4 e1]
         have:=hlv _ (FY hok j _ e1)
         simpa using this) ⟨by rw[l1];simp,fun j y hy=>by
        rw[Alh]at hy
        obtain⟨x,hx,rfl⟩:=Ak5.1 hy
        exact EY hrl _ _ _ (l2 j x hx)⟩
      intro K Q hK
      refine Yv ho hf hv hsp.callable hcall ?_
      rintro e w' ⟨v,φ2,rfl,k1,k2,k3,k4⟩
      refine⟨v,rfl,?_⟩
      rw[AlU]at k2
      have hnl:((He false st is 0 os).drop is.length).length=os.length - is.length:=by rw[List.length_drop,KS]
      obtain⟨φ',p1,p2,p3,p4⟩:=AcQ hHs hfr hlv hok hlen k1 k2 k3 k4 (H':=Jk (fun k=>match idx is k with
       | some j=>(He false st is 0 os).getD j (.gone 0)
       | none=>st.H k) st.nx ((He false st is 0 os).drop is.length)) (fun j hj=>by
        have hoj:os[j]?=some os[j]:=Ak1 hj
        have hbj:(He false st is 0 os)[j]?=some (TH false st is j (Bn os j)):=by
         rw[Qy,Alk,hoj];simp[Bn,hoj]
        rcases Alw j is.length with h | h
        ·have e:is[j]?=some is[j]:=Ak1 h
         rw[Ms e,Ke (.inl (FY hok j _ e)),Lw hok j _ e]
         simp only[List.getD,hbj,Amc]
        ·rw[PW h]
         refine ZP ?_
         rw[All,show is.length+(j - is.length)=j by omega]
         exact hbj) (fun k hk hi=>by rw[Ke (.inl hk),hi])
      exact hK v w' φ' p1 p2 (by rw[hnl];exact p3) p4
  ·cases hask
end
end
section
section
variable {P : Program} {T:TypeId->TE} {O:Orc} {w:World} {E:AF} {φ:Phi} {st:St} {Hc:Nat->Ob} {a:Act}
def AfK (w:World)(E:AF)(φ:Phi)(st:St)(a:Act):Op->Prop
 | .pick c x y=>V w (E.up φ) (some φ) (st.val c) (a.eval c)/\(a.eval c=.bool true->V w (E.up φ) (some φ) (st.val x) (a.eval x))/\(a.eval c=.bool false->V w (E.up φ) (some φ) (st.val y) (a.eval y))
 | op=>∀ y∈op.operands.toList,V w (E.up φ) (some φ) (st.val y) (a.eval y)
theorem UQ {ps:Array (Nat × Operand)}(h:∀ y∈(ps.toList.map (·.2)),V w (E.up φ) (some φ) (st.val y) (a.eval y)) :
  (ps.toList.map fun p=>(p.1,st.val p.2)).length=(ps.map fun(i,x)=>(i,a.eval x)).toList.length/\∀ (j:Nat) p q,(ps.toList.map fun p=>(p.1,st.val p.2))[j]?=some p->(ps.map fun(i,x)=>(i,a.eval x)).toList[j]?=some q->p.1=q.1/\V w (E.up φ) (some φ) p.2 q.2:=by
 refine⟨by simp,fun j p q hp hq=>?_⟩
 rw[Alh]at hp
 rw[Array.toList_map,Alh]at hq
 obtain⟨z,hz,rfl⟩:=Ak5.1 hp
 rw[hz]at hq
 simp only[Ams,AkP]at hq
 subst hq
 exact⟨rfl,h _ (Amd.2 ⟨z,Alv hz,rfl⟩)⟩
theorem Ub {xs:List VV}{ts:List TypeId}(hc:∀ p∈(YC T xs ts).chk,p):∃ x t,xs=[x]/\ts=[t] :=
 match xs,ts,hc with
 | [x],[t],_=>⟨x,t,rfl,rfl⟩
 | [],_,hc=>Ak hc
 | _::_::_,_,hc=>Ak hc
 | [_],[],hc=>Ak hc
 | [_],_::_::_,hc=>Ak hc
theorem Uc {xs:List VV}{ts:List TypeId}(hc:∀ p∈(Pb T st xs ts).chk,p):∃ x y t,xs=[x,y]/\ts=[t,t]:=by
 unfold Pb at hc
 split at hc
 ·rename_i x y t t'
  cases hq:Nat.beq t t' with
  | false=>rw[hq]at hc;exact Ak hc
  | true=>have:=AkT hq;subst this;exact⟨x,y,t,rfl,rfl⟩
 ·exact Ak hc
theorem Rb {b:Bool}{xs:List VV}(hc:∀ p∈(vmm b xs).chk,p):∃ k x y,xs=[.sc (.int k x),.sc (.int k y)]:=by
 unfold vmm at hc
 split at hc
 ·rename_i k x k' y
  cases hq:decide (k=k') with
  | false=>rw[hq]at hc;exact Ak hc
  | true=>have:=AkW hq;subst this;exact⟨k,x,y,rfl⟩
 ·exact Ak hc
theorem WI {β:Type}{f:Operand->β}{args:Array Operand}{x y:β}(h:args.toList.map f=[x,y]):∃ u v,args=#[u,v]/\f u=x/\f v=y:=by
 have hl:args.toList.length=2:=by have:=congrArg List.length h;simpa using this
 match hm:args.toList,hl with
 | [u,v],_ =>
  rw[hm]at h
  simp only[AlH,Ami,List.cons.injEq,and_true]at h
  exact⟨u,v,Array.ext' (by simpa using hm),h.1,h.2⟩
theorem Abw {t:TypeId}{n:Nat}{ps:List (Nat × VV)}:(Cp T st t n ps).put=none:=by
 unfold Cp
 split
 ·generalize (_&&_:Bool)=q
  cases q with
  | false=>rfl
  | true =>
   simp only[AkQ]
   split
   ·rename_i cs _
    cases cs.all VV.one<;>rfl
   ·rfl
 ·rfl
theorem AbO {t:TypeId}{n:Nat}{ps:List (Nat × VV)}(hc:∀ p∈(Cp T st t n ps).chk,p):(Cp T st t n ps).new.length≠0:=by
 revert hc
 unfold Cp
 split
 ·generalize (_&&_:Bool)=q
  cases q with
  | false=>intro hc;exact Ak hc
  | true =>
   simp only[AkQ]
   split
   ·rename_i cs _
    cases cs.all VV.one with
    | false=>intro hc;exact Ak hc
    | true=>intro _ h;cases h
   ·intro hc;exact Ak hc
 ·intro hc;exact Ak hc
theorem Aem {t:TypeId}{x y:VV}:(NP T st t x y).put=none:=by
 unfold NP
 split
 ·generalize (_&&_:Bool)=q;cases q<;>rfl
 ·rfl
theorem Abu {t:TypeId}{zx zy:VV}(hc:∀ p∈(HM T st t zx zy).chk,p):∃ H',(HM T st t zx zy).put=some H':=by
 revert hc
 unfold HM
 split
 ·rename_i id off
  generalize (_&&_:Bool)=q
  cases q with
  | false=>intro hc;exact Ak hc
  | true =>
   simp only[AkQ]
   split
   ·cases Nat.ble (off+zy.cells.length) (List.length _) with
    | false=>intro hc;exact Ak hc
    | true=>intro _;exact⟨_,rfl⟩
   ·intro hc;exact Ak hc
 ·generalize (_&&_:Bool)=q
  cases q with
  | false=>intro hc;exact Ak hc
  | true =>
   simp only[AkQ]
   split
   ·split
    ·generalize (_&&_:Bool)=q
     cases q with
     | false=>intro hc;exact Ak hc
     | true=>intro _;exact⟨_,rfl⟩
    ·intro hc;exact Ak hc
   ·intro hc;exact Ak hc
 ·intro hc;exact Ak hc
theorem Xo {t:TypeId}{zx zy:VV}(hc:∀ p∈(ES T st t zx zy).chk,p):∃ H',(ES T st t zx zy).put=some H':=by
 revert hc
 unfold ES
 split
 ·generalize (_&&_:Bool)=q
  cases q with
  | false=>intro hc;exact Ak hc
  | true =>
   simp only[AkQ]
   split
   ·split
    ·intro _;exact⟨_,rfl⟩
    ·generalize (_&&_:Bool)=q
     cases q with
     | false=>intro hc;exact Ak hc
     | true =>
      simp only[AkQ]
      split
      ·generalize (_&&_:Bool)=q
       cases q with
       | false=>intro hc;exact Ak hc
       | true=>intro _;exact⟨_,rfl⟩
      ·generalize (_&&_:Bool)=q
       cases q with
       | false=>intro hc;exact Ak hc
       | true =>
        simp only[AkQ]
        split
        ·generalize (_&&_:Bool)=q
         cases q with
         | false=>intro hc;exact Ak hc
         | true=>intro _;exact⟨_,rfl⟩
        ·intro hc;exact Ak hc
      ·intro hc;exact Ak hc
    ·intro hc;exact Ak hc
   ·intro hc;exact Ak hc
 ·intro hc;exact Ak hc
theorem AjZ {b:Bool}{k:IntKind}{x y:Int}:∃ v,((bif b then Builtin.max_ #[] 0 #[.int k x,.int k y] else Builtin.min_ #[] 0 #[.int k x,.int k y]):Sem Value).run P w=.ok v w/\V w E (some φ) (vmm b [.sc (.int k x),.sc (.int k y)]).val v:=by
 cases b with
 | true =>
  refine⟨.int k (max x y),?_,?_⟩
  ·have:(if y > x then y else x)=max x y:=by split<;>omega
   simp[Builtin.max_,Builtin.max2,this]
  ·simp only[vmm,decide_true,AkQ,Res.ok];exact .sc
 | false =>
  refine⟨.int k (min x y),?_,?_⟩
  ·have:(if y<x then y else x)=min x y:=by split<;>omega
   simp[Builtin.min_,Builtin.min2,this]
  ·simp only[vmm,decide_true,AkQ,AkN,Res.ok];exact .sc
theorem Ad3 (hT:TOk P T)(hH:HRel E Hc φ w)(hHc:∀ id,id<st.nx->Hc id=st.H id){t:TypeId}{x:VV}{vx:Value}(hx:V w (E.up φ) (some φ) x vx)(hc:∀ p∈(Jo T st t x).chk,p) :
  ∃ v,(Instr.loadAt t vx).run P w=.ok v w/\V w (E.up φ) (some φ) (Jo T st t x).val v:=by
 cases x with
 | bp id off =>
  simp only[Jo]at hc ⊢
  cases hq:Nat.blt id st.nx with
  | false=>rw[hq]at hc;exact Ak hc
  | true =>
   rw[hq]at hc
   simp only[AkQ]at hc ⊢
   obtain⟨b,hb,e⟩:=hx.bp_inv
   have hob:=hH.ob id _ hb
   rw[hHc id (Ak7 hq)]at hob
   cases hHi:st.H id with
   | arr=>rw[hHi]at hc;exact Ak hc
   | gone=>rw[hHi]at hc;exact Ak hc
   | box cs =>
    rw[hHi]at hob hc
    obtain⟨c,ty,h2,h3⟩:=hob
    rw[e]
    refine Xf hT (u:=fun j=>c.getD (off+j) undef) (fun j x hx=>?_) (fun j x hx=>?_) hc
    ·rw[All]at hx
     exact GF h2 (by rw[h3.1];exact(AkR.1 hx).1)
    ·rw[All]at hx
     exact h3.2 _ x hx
 | ep id gen sz i o =>
  simp only[Jo]at hc ⊢
  cases hq:Nat.blt id st.nx with
  | false=>rw[hq]at hc;exact Ak hc
  | true =>
   rw[hq]at hc
   simp only[AkQ]at hc ⊢
   obtain⟨c,len,hd,b,hph,hg,e,hcur⟩:=hx.ep_inv
   have hob:=hH.ob id _ hph
   rw[hHc id (Ak7 hq)]at hob
   cases hHi:st.H id with
   | box cs=>rw[hHi]at hc;exact Ak hc
   | gone=>rw[hHi]at hc;exact Ak hc
   | arr fr g n s f =>
    rw[hHi]at hob hc
    obtain⟨rfl,rfl,hrow⟩:=hob
    simp only at hc ⊢
    cases hq2:(Nat.beq gen g&&Nat.beq s sz) with
    | false=>rw[hq2]at hc;exact Ak hc
    | true =>
     rw[hq2]at hc
     simp only[AkQ]at hc ⊢
     rw[AkO]at hq2
     have hsz:=AkT hq2.2
     subst hsz
     obtain⟨hil,cap,rfl⟩:=hcur (AkT hq2.1)
     obtain⟨cs,ty,h1,h2,h3,h4,h5,h6,h7⟩:=hrow
     rw[e]
     have hj:∀ (j:Nat) y,((f i).drop o)[j]?=some y->(f i)[o+j]?=some y/\i*s+o+j<cs.size:=by
      intro j y hy
      rw[All]at hy
      have:=(AkR.1 hy).1
      rw[h5 i hil]at this
      have h8:(i+1)*s<=cap*s:=Ala _ (by omega)
      rw[AlL]at h8
      exact⟨hy,by rw[h2];omega⟩
     refine Xf hT (u:=fun j=>cs.getD (i*s+o+j) undef) (fun j y hy=>GF h1 (hj j y hy).2) (fun j y hy=>?_) hc
     have:=(h6 i (o+j) y hil (hj j y hy).1).held
     rw[← AlQ]at this
     exact this
 | tp cs =>
  simp only[Jo]at hc ⊢
  obtain⟨b,off,e,h1,h2,u,h3,h4⟩:=hx.tp_inv
  rw[e]
  exact Xf hT h3 (fun j x hx=>(h4 j x hx).held) hc
 | _=>exact Ak hc
theorem VM {vs:Array Value}{cs:List VV}{ty:TypeId}(hid:φ st.nx=none)(hs:CT w (E.up φ) (some φ) cs vs) :
  Eh w E φ st.nx [.box cs] [.box w.heap.size] (w.alloc (.cells vs ty))/\V (w.alloc (.cells vs ty)) (E.up (addP φ st.nx [.box w.heap.size])) (some (addP φ st.nx [.box w.heap.size])) (.bp st.nx 0) (.pointer (some ⟨w.heap.size,0,none⟩)):=by
 have hroom:Room w [.box w.heap.size] (w.alloc (.cells vs ty)):=Room.one ((Below.refl _ w).alloc (AkU _) _) fun k hk=>by simp only[PlB]at hk;omega
 have hext:=hroom.ext (φ:=φ) (nx:=st.nx) fun i hi=>by
  simp only[Alo,AlK,Alk,AmU]at hi
  subst hi;exact hid
 exact⟨Eh.one hroom ⟨vs,ty,heap_alloc_new _ _,hs.ext hext⟩,.bp (DM (i:=0) rfl)⟩
theorem Ad1 {src dst e:TypeId}(hs:P.underlying src=some (.slice e))(he:P.underlying e=some (.int .u8))(hd:P.underlying dst=some .string){b off n cap:Nat}{f:Nat->List VV}{u:Nat->Value}{E':AF}{m:Option Phi}
  (h2:∀ i x,i<n->(f i)[0]?=some x->w.cell? ⟨b,off+i,none⟩=some (u i)) (h3:∀ i x,i<n->(f i)[0]?=some x->V w E' m x (u i)) (hc:∀ p∈(T7 n f).chk,p) :
  ∃ v,(convert src dst (.slice (some ⟨b,off,none⟩) n cap)).run P w=.ok v w/\V w (E.up φ) (some φ) (T7 n f).val v:=by
 have hb:∀ i,i<n->XP (f i)=true:=fun i hi=>Alt.1 (hc (((List.range n).all fun i=>XP (f i))=true) (by unfold T7;exact AkY ..)) i (AlD.2 hi)
 refine⟨_,?_,.sc⟩
 rw[run_convert_bytes_string w src dst e _ n cap hs he hd]
 have hl:=run_loadCells_list (P:=P) w ⟨b,off,none⟩ (((List.range n).map fun i=>AhX (f i)).map (Value.int .u8)) (fun j v hj=>by
  rw[Alh,Alh]at hj
  obtain⟨_,hk,rfl⟩:=Ak5.1 hj
  obtain⟨i,hk',rfl⟩:=Ak5.1 hk
  have hi:i=j/\j<n:=by
   rw[AkR]at hk'
   obtain⟨h,e⟩:=hk'
   simp at h e
   exact⟨e.symm,h⟩
  obtain⟨rfl,hi⟩:=hi
  have:=hb i hi
  match hf:f i,this with
  | [.sc (.int .u8 k)],_ =>
   have e1:=h2 i _ hi (by rw[hf];rfl)
   have e2:=(h3 i _ hi (by rw[hf];rfl)).sc_inv
   have:(⟨b,off,none⟩:Addr).add i=⟨b,off+i,none⟩:=by unfold Addr.add;split<;>simp_all
   rw[this,e1,e2];rfl)
 simp only[AlU,AmS]at hl
 rw[run_bytesToString w _ n cap _ hl]
 rfl
theorem Agg (hT:TOk P T)(hH:HRel E Hc φ w)(hHc:∀ id,id<st.nx->Hc id=st.H id){s d:TypeId}{x:VV}{vx:Value}(hx:V w (E.up φ) (some φ) x vx)(hc:∀ p∈(Sr T st s d x).chk,p) :
  ∃ v,(convert s d vx).run P w=.ok v w/\V w (E.up φ) (some φ) (Sr T st s d x).val v:=by
 unfold Sr at hc ⊢
 split at hc
 ·rename_i e hs hd
  split at hc
  ·rename_i id gen n he
   cases hq:Nat.blt id st.nx with
   | false=>rw[hq]at hc;exact Ak hc
   | true =>
    rw[hq]at hc
    simp only[AkQ]at hc ⊢
    obtain⟨c,len,hd',hd0,hph,hg,h0,hcur⟩:=hx.ow_inv
    have hob:=hH.ob id _ hph
    rw[hHc id (Ak7 hq)]at hob
    split at hc
    ·rename_i g _ sz f hHi
     rw[hHi]at hob
     obtain⟨rfl,rfl,hrow⟩:=hob
     cases hq2:(Nat.beq gen g&&Nat.beq sz 1) with
     | false=>rw[hq2]at hc;exact Ak hc
     | true =>
      rw[hq2]at hc
      simp only[AkQ]at hc ⊢
      rw[AkO]at hq2
      obtain rfl:=AkT hq2.1
      obtain rfl:=AkT hq2.2
      obtain⟨rfl,hn⟩:=hcur rfl
      match hd0,h0,hrow with
      | none,h0,_ =>
       obtain⟨rfl,rfl⟩:=h0
       refine⟨_,?_,.sc⟩
       rw[run_convert_bytes_string w s d e _ 0 0 (hT.sl hs) (hT.int he) (hT.str hd)]
       rfl
      | some (b,cap),h0,hrow =>
       obtain⟨rfl,_⟩:=h0
       obtain⟨cs,ty,k1,k2,k3,k4,k5,k6,k7⟩:=hrow
       refine Ad1 (off:=0) (u:=fun i=>cs.getD (i*1+0) undef) (hT.sl hs) (hT.int he) (hT.str hd) (fun i x hi hx=>?_) (fun i x hi hx=>(k6 i 0 x (by omega) hx).held) hc
       have:=GF k1 (k:=0+i) (by omega)
       simpa using this
    ·exact Ak hc
  ·rename_i fz n sz f he
   cases hq2:(Nat.beq sz 1) with
   | false=>rw[hq2]at hc;exact Ak hc
   | true =>
    rw[hq2]at hc
    simp only[AkQ]at hc ⊢
    obtain rfl:=AkT hq2
    obtain⟨a,cap,rfl,_,_,h4⟩:=hx.sl_inv
    rcases Nat.eq_zero_or_pos n with rfl | hp
    ·refine⟨.string ByteArray.empty,?_,.sc⟩
     rw[run_convert_bytes_string w s d e _ 0 cap (hT.sl hs) (hT.int he) (hT.str hd)]
     cases a with
     | none=>rfl
     | some a =>
      have hl:=run_loadCells_list (P:=P) w a [] (fun j v hj=>by simp at hj)
      exact run_bytesToString w a 0 cap [] hl
    ·obtain⟨b,off,rfl,_,_,h5,u,h6,h7⟩:=h4 hp
     exact Ad1 (u:=fun i=>u i 0) (hT.sl hs) (hT.int he) (hT.str hd) (fun i x hi hx=>by have:=h6 i 0 x hi hx;simpa using this) (fun i x hi hx=>h7 i 0 x hi hx) hc
  ·rename_i he
   rw[hx.nl_inv]
   refine⟨_,?_,.sc⟩
   rw[run_convert_bytes_string w s d e _ 0 0 (hT.sl hs) (hT.int he) (hT.str hd)]
   rfl
  ·exact Ak hc
 ·exact AiB hT hx hc
theorem O9 (hT:TOk P T)(hH:HRel E Hc φ w)(hz:Old E φ w){o:Oper}{t:TypeId}{n:Nat}{ps:Array (Nat × Operand)}(hop:o.op=.buildSlice t n ps)(hr:AfK w E φ st a (.buildSlice t n ps)){R:Res}
  (hR:R=bif O.gd then Pa T t n (ps.toList.map fun p=>(p.1,st.val p.2)) else Cp T st t n (ps.toList.map fun p=>(p.1,st.val p.2))) (hc:∀ p∈R.chk,p) :
  (R.put=none/\((∀ i,i<R.new.length->φ (st.nx+i)=none)->Di P E φ st.nx R.new R.val o a w)) ∨
  (∃ H',R.put=some H'/\((∀ id,st.nx<=id->φ id=none)->(∀ id,id<st.nx->φ id≠none)->HRel E st.H φ w ->
   Ys P E φ (Jk H' st.nx R.new) st.nx (st.nx+R.new.length) R.val o a w)):=by
 have hp:=UQ (st:=st) (a:=a) (φ:=φ) (E:=E) (w:=w) (ps:=ps) (by have hr':∀ y∈(Op.buildSlice t n ps).operands.toList,V w (E.up φ) (some φ) (st.val y) (a.eval y):=hr;simpa[Op.operands] using hr')
 refine .inl ?_
 cases hgd:O.gd with
 | true =>
  rw[hgd,AkQ]at hR
  obtain⟨h1,h2,v,w',h3,h4,h5⟩:=AiA hT (fun k hk=>hk.elim (hz.lt k) fun ho=>hH.lt ho) hp.1 hp.2 (by rw[hR]at hc;exact hc)
  rw[← hR]at h1 h2 h5
  rw[h1]
  refine⟨h2,fun _=>Di.of (S:=Instr.buildSlice t n (ps.map fun(i,x)=>(i,a.eval x))) (by unfold execOp;rw[hop]) ?_⟩
  exact⟨v,w',[],h3,Eh.none h4,by rw[F9];exact h5⟩
 | false =>
  rw[hgd,AkN]at hR
  subst hR
  refine⟨Abw,fun hid=>Di.of (S:=Instr.buildSlice t n (ps.map fun(i,x)=>(i,a.eval x))) (by unfold execOp;rw[hop]) ?_⟩
  have hnew:=AbO hc
  exact(SN hT (by have:=hid 0 (by omega);simpa using this) hp.1 hp.2 hc).2
theorem WC (hT:TOk P T)(hO:Jf P O)(hH:HRel E Hc φ w)(hHc:∀ id,id<st.nx->Hc id=st.H id)(hz:Old E φ w){o:Oper}(hr:AfK w E φ st a o.op)(hc:∀ p∈(vop T O st o.op).chk,p) :
  ((vop T O st o.op).put=none/\((∀ i,i<(vop T O st o.op).new.length->φ (st.nx+i)=none)->Di P E φ st.nx (vop T O st o.op).new (vop T O st o.op).val o a w)) ∨
  (∃ H',(vop T O st o.op).put=some H'/\((∀ id,st.nx<=id->φ id=none)->(∀ id,id<st.nx->φ id≠none)->HRel E st.H φ w ->
   Ys P E φ (Jk H' st.nx (vop T O st o.op).new) st.nx (st.nx+(vop T O st o.op).new.length) (vop T O st o.op).val o a w)):=by
 cases hop:o.op<;>rw[hop]at hr hc<;>simp only[vop]at hc ⊢
 case move x=>exact .inl ⟨rfl,fun _=>AlW (S:=pure (a.eval x)) (by unfold execOp;rw[hop];rfl) ⟨_,rfl,hr x (by simp[Op.operands])⟩⟩
 case assign x=>exact .inl ⟨rfl,fun _=>AlW (S:=pure (a.eval x)) (by unfold execOp;rw[hop];rfl) ⟨_,rfl,hr x (by simp[Op.operands])⟩⟩
 case pick c x y=>exact .inl ⟨rfl,fun _=>AlW (by unfold execOp;rw[hop];simp only[pure_bind,bind_assoc]) (Aiy hr.1 hr.2.1 hr.2.2 hc)⟩
 case binOp op t x y t' =>
  obtain⟨v,h1,h2⟩:=AiD (w:=w) hT (ox:=x) (oy:=y) (hr x (by simp[Op.operands])) (hr y (by simp[Op.operands])) (fun c e=>by rw[e];rfl) hc
  exact .inl ⟨rfl,fun _=>AlW (by unfold execOp;rw[hop]) ⟨v,h1,h2⟩⟩
 case unOp op t x=>exact .inl ⟨rfl,fun _=>AlW (by unfold execOp;rw[hop]) (AkG (hr x (by simp[Op.operands])) hc)⟩
 case fieldAddr s x f=>exact .inl ⟨rfl,fun _=>AlW (by unfold execOp;rw[hop]) (Abl hT (hr x (by simp[Op.operands])) hc)⟩
 case field s x f=>exact .inl ⟨rfl,fun _=>AlW (by unfold execOp;rw[hop]) (Agf hT (hr x (by simp[Op.operands])) hc)⟩
 case indexAddr t x i=>exact .inl ⟨rfl,fun _=>AlW (by unfold execOp;rw[hop]) (Abk hT (hr x (by simp[Op.operands])) (hr i (by simp[Op.operands])) (fun k hk=>hk.imp (hH.sub k) fun h=>h) hc)⟩
 case index t x i=>exact .inl ⟨rfl,fun _=>AlW (by unfold execOp;rw[hop]) (Age hT (hr x (by simp[Op.operands])) (hr i (by simp[Op.operands])) hc)⟩
 case extract x i=>exact .inl ⟨rfl,fun _=>AlW (by unfold execOp;rw[hop]) (Abm (hr x (by simp[Op.operands])) hc)⟩
 case convert s d x=>exact .inl ⟨rfl,fun _=>AlW (by unfold execOp;rw[hop]) (Agg hT hH hHc (hr x (by simp[Op.operands])) hc)⟩
 case load t x=>exact .inl ⟨rfl,fun _=>AlW (by unfold execOp;rw[hop]) (Ad3 hT hH hHc (hr x (by simp[Op.operands])) hc)⟩
 case slice t x lo hi mx =>
  cases mx with
  | some _=>exact Ak hc
  | none =>
   refine .inl ⟨rfl,fun _=>AlW (S:=Instr.sliceAt t (a.eval x) (lo.map a.eval) (hi.map a.eval) none) (by unfold execOp;rw[hop];rfl) (Agc hT (hr x (by simp[Op.operands])) ?_ ?_ hc)⟩
   ·cases lo with
    | none=>trivial
    | some l=>exact hr l (by simp[Op.operands])
   ·cases hi with
    | none=>trivial
    | some l=>exact hr l (by simp[Op.operands])
 case build t ps =>
  have hp:=UQ (st:=st) (a:=a) (φ:=φ) (E:=E) (w:=w) (ps:=ps) (by have hr':∀ y∈(Op.build t ps).operands.toList,V w (E.up φ) (some φ) (st.val y) (a.eval y):=hr;simpa[Op.operands] using hr')
  exact .inl ⟨rfl,fun _=>AlW (by unfold execOp;rw[hop]) (Agh hT hp.1 hp.2 hc)⟩
 case buildSlice t n ps=>exact O9 hT hH hz hop hr rfl hc
 case makeSlice t n m =>
  exact .inl ⟨Aem,fun _=>Di.of (S:=Instr.makeSlice t (a.eval n) (a.eval m)) (by unfold execOp;rw[hop]) (Aiz hT (hr n (by simp[Op.operands])) (hr m (by simp[Op.operands])) hc).2⟩
 case nilCheck x =>
  have hx:=hr x (by simp[Op.operands])
  refine .inl ⟨rfl,fun _=>?_⟩
  intro K Q hK
  have run:∀ v,((∃ b,v=.pointer (some b))∨∃ g cs,v=.func (.func g) #[] cs)->a.eval x=v->(execOp a.eval o).run P w=.ok (.value v) w:=by
   rintro v (⟨b,rfl⟩ | ⟨g,cs,rfl⟩) e<;>(unfold execOp;rw[hop];simp only[e];rfl)
  have key:(execOp a.eval o).run P w=.ok (.value (a.eval x)) w/\V w (E.up φ) (some φ) (Ajy (st.val x)).val (a.eval x):=by
   generalize st.val x=z at hx hc ⊢
   cases z with
   | bp id off =>
    obtain⟨b,hb,e2⟩:=hx.bp_inv
    exact⟨run _ (.inl ⟨_,e2⟩) rfl,hx⟩
   | ep id gen sz i off =>
    obtain⟨_,_,_,b,_,_,e2,_⟩:=hx.ep_inv
    exact⟨run _ (.inl ⟨_,e2⟩) rfl,hx⟩
   | tp cs =>
    obtain⟨b,off,e2,_⟩:=hx.tp_inv
    exact⟨run _ (.inl ⟨_,e2⟩) rfl,hx⟩
   | fn g cs =>
    cases g with
    | func g =>
     refine⟨run _ (.inr ?_) rfl,hx⟩
     generalize a.eval x=v at hx
     cases hx with | fn h1 h2=>exact⟨g,_,rfl⟩
    | _=>exact Ak hc
   | _=>exact Ak hc
  unfold Oper.wp
  rw[key.1]
  exact hK _ w [] (Eh.none (Below.refl _ _)) (by rw[F9];exact key.2)
 case makeFunc f first caps =>
  cases hq:first.isEmpty with
  | false=>rw[hq]at hc;exact Ak hc
  | true =>
   have h0:first=#[]:=by simpa using hq
   subst h0
   refine .inl ⟨rfl,fun _=>?_⟩
   refine AlW (S:=Instr.makeFunc f ((#[]:Array Operand).map a.eval) (caps.map a.eval)) (by unfold execOp;rw[hop]) ⟨.func f #[] (caps.map a.eval),by simp[Instr.makeFunc],?_⟩
   show V w (E.up φ) (some φ) (.fn f (caps.toList.map st.val)) _
   refine .fn (by simp) fun j y hy=>?_
   rw[Alh]at hy
   obtain⟨z,hz,rfl⟩:=Ak5.1 hy
   have hm:=hr z (by simp[Op.operands];exact Array.mem_toList_iff.1 (Alv hz))
   obtain⟨hj,rfl⟩:=AkR.1 hz
   have e:(caps.map a.eval).getD j undef=a.eval caps.toList[j]:=by
    have:j<caps.size:=by simpa using hj
    simp[Array.getD,this]
   rw[e];exact hm
 case box e x =>
  cases hq:LX (st.val x) with
  | false=>rw[hq]at hc;exact Ak hc
  | true =>
   simp only[AkQ]
   refine .inl ⟨by trivial,fun hid=>?_⟩
   intro K Q hK
   unfold Oper.wp execOp
   rw[hop]
   simp only[Instr.box,newVar,newRow,Sem.run_bind,Sem.run_pure,Result.andThen_ok,run_newObj]
   obtain⟨n1,n2⟩:=VM (ty:=e) (by have:=hid 0 (by simp);simpa using this) ((hr x (by simp[Op.operands])).cells hq)
   exact hK _ _ _ n1 n2
 case alloc e =>
  cases hq:(T e).k.known with
  | false=>rw[hq]at hc;exact Ak hc
  | true =>
   simp only[AkQ]
   obtain⟨ie,z,hie,hs,hz',hzz⟩:=hT.size (BR hq)
   refine .inl ⟨by trivial,fun hid=>?_⟩
   intro K Q hK
   unfold Oper.wp execOp
   rw[hop]
   simp only[Instr.alloc,zeroValue,typeInfo,newVar,newRow,Sem.run_bind,Sem.run_pure,Result.andThen_ok,run_program,hie,hz',run_newObj]
   obtain⟨n1,n2⟩:=VM (ty:=e) (E:=E) (st:=st) (vs:=z.cells) (cs:=z.cells.toList.map litVV) (by have:=hid 0 (by simp);simpa using this) (CT.zero z.cells)
   rw[hzz]at hK
   exact hK _ _ _ n1 n2
 case store t x y =>
  obtain⟨H',hH'⟩:=Abu hc
  refine .inr ⟨H',hH',fun _ _ hHs=>?_⟩
  obtain⟨H2,h1,h2,h3,h4⟩:=Agb hT hHs hz.lt hop (hr x (by simp[Op.operands])) (hr y (by simp[Op.operands])) hc
  rw[hH']at h1
  simp only[AkP]at h1
  subst h1
  rw[h2,h3]
  intro K Q hK
  refine h4 K Q fun v w' φ' g1 g2 g3 g4=>hK v w' φ' (by simpa[Jk] using g1) g2 (fun id=>?_) g4
  rw[g3]
  refine⟨fun h=>h.imp (fun h=>h) fun h=>by omega,fun h=>h.imp (fun h=>h) fun h=>?_⟩
  simp only[AlK]at h
  omega
 case call c =>
  cases hcl:c.callee with
  | value f =>
   rw[hcl]at hc
   exact AiC hO hH hHc hz hop hcl (hr f (by simp[Op.operands,Call.operands,hcl])) (fun y hy=>hr y (by simp[Op.operands,Call.operands,hcl];right;simpa using hy)) hc
  | invoke r n=>rw[hcl]at hc;exact Ak hc
  | builtin b =>
   rw[hcl]at hc
   cases b<;>try exact Ak hc
   case append =>
    replace hc:∀ p∈(Pb T st (c.args.toList.map st.val) c.argTypes.toList).chk,p:=hc
    obtain⟨x',y',t,e1,e2⟩:=Uc hc
    obtain⟨x,y,hargs,rfl,rfl⟩:=WI e1
    have htys:c.argTypes=#[t,t]:=Array.ext' (by simpa using e2)
    have hx:=hr x (by simp[Op.operands,Call.operands,hcl,hargs])
    have hy:=hr y (by simp[Op.operands,Call.operands,hcl,hargs])
    have hv:Pb T st (c.args.toList.map st.val) c.argTypes.toList=ES T st t (st.val x) (st.val y):=by rw[e1,e2];simp[Pb]
    show((Pb T st (c.args.toList.map st.val) c.argTypes.toList).put=none/\_)∨_
    rw[hv]at hc ⊢
    obtain⟨H',hH'⟩:=Xo hc
    refine .inr ⟨H',hH',fun hfr hlv hHs=>?_⟩
    obtain⟨H2,h1,h2⟩:=Ad4 (ty:=o.type) hT hHs hz.lt hfr hx hy hc
    rw[hH']at h1
    simp only[AkP]at h1
    subst h1
    refine Ys.of (S:=Builtin.append_ #[t,t] o.type #[a.eval x,a.eval y]) ?_ h2
    unfold execOp
    rw[hop]
    simp only[resolve,hcl,hargs,htys,invoke,builtin,AmD,AlH,Ami,pure_bind]
   case len =>
    refine .inl ⟨rfl,fun _=>?_⟩
    replace hc:∀ p∈(YC T (c.args.toList.map st.val) c.argTypes.toList).chk,p:=hc
    show Di P E φ st.nx [] (YC T (c.args.toList.map st.val) c.argTypes.toList).val o a w
    have shape:∃ x t,c.args=#[x]/\c.argTypes=#[t]:=by
     obtain⟨x',t,e1,e2⟩:=Ub hc
     have hl:c.args.toList.length=1:=by have:=congrArg List.length e1;simpa using this
     match hm:c.args.toList,hl with
     | [x],_=>exact⟨x,t,Array.ext' (by simpa using hm),Array.ext' (by simpa using e2)⟩
    obtain⟨x,t,hargs,htys⟩:=shape
    have hx:=hr x (by simp[Op.operands,Call.operands,hcl,hargs])
    rw[hargs,htys]at hc ⊢
    obtain⟨v,h1,h2⟩:=Aj0 (w:=w) (ty:=o.type) hT hx hc
    intro K Q hK
    unfold Oper.wp execOp
    rw[hop]
    simp only[resolve,hcl,hargs,htys,Sem.run_bind,Sem.run_pure,Result.andThen_ok,invoke,builtin,AmD,AlH,Ami,h1]
    exact hK v w [] (Eh.none (Below.refl _ _)) (by rw[F9];exact h2)
   case max =>
    refine .inl ⟨rfl,fun _=>?_⟩
    replace hc:∀ p∈(vmm true (c.args.toList.map st.val)).chk,p:=hc
    show Di P E φ st.nx [] (vmm true (c.args.toList.map st.val)).val o a w
    obtain⟨k,x',y',e1⟩:=Rb hc
    obtain⟨x,y,hargs,e2,e3⟩:=WI e1
    have hx:=hr x (by simp[Op.operands,Call.operands,hcl,hargs])
    have hy:=hr y (by simp[Op.operands,Call.operands,hcl,hargs])
    rw[e2]at hx
    rw[e3]at hy
    rw[e1]
    intro K Q hK
    unfold Oper.wp execOp
    rw[hop]
    obtain⟨v,h1,h2⟩:=AjZ (P:=P) (w:=w) (E:=E.up φ) (φ:=φ) (b:=true) (k:=k) (x:=x') (y:=y')
    simp only[AkQ]at h1
    have h1':(Builtin.max_ c.argTypes o.type #[.int k x',.int k y']).run P w=.ok v w:=h1
    simp only[resolve,hcl,hargs,Sem.run_bind,Sem.run_pure,Result.andThen_ok,invoke,builtin,AmD,AlH,Ami,hx.sc_inv,hy.sc_inv,h1']
    exact hK v w [] (Eh.none (Below.refl _ _)) (by rw[F9];exact h2)
   case min =>
    refine .inl ⟨rfl,fun _=>?_⟩
    replace hc:∀ p∈(vmm false (c.args.toList.map st.val)).chk,p:=hc
    show Di P E φ st.nx [] (vmm false (c.args.toList.map st.val)).val o a w
    obtain⟨k,x',y',e1⟩:=Rb hc
    obtain⟨x,y,hargs,e2,e3⟩:=WI e1
    have hx:=hr x (by simp[Op.operands,Call.operands,hcl,hargs])
    have hy:=hr y (by simp[Op.operands,Call.operands,hcl,hargs])
    rw[e2]at hx
    rw[e3]at hy
    rw[e1]
    intro K Q hK
    unfold Oper.wp execOp
    rw[hop]
    obtain⟨v,h1,h2⟩:=AjZ (P:=P) (w:=w) (E:=E.up φ) (φ:=φ) (b:=false) (k:=k) (x:=x') (y:=y')
    simp only[AkN]at h1
    have h1':(Builtin.min_ c.argTypes o.type #[.int k x',.int k y']).run P w=.ok v w:=h1
    simp only[resolve,hcl,hargs,Sem.run_bind,Sem.run_pure,Result.andThen_ok,invoke,builtin,AmD,AlH,Ami,hx.sc_inv,hy.sc_inv,h1']
    exact hK v w [] (Eh.none (Below.refl _ _)) (by rw[F9];exact h2)
 all_goals exact Ak hc
end
end
section
def Res.base (r:Res)(st:St):Nat->Ob :=
 match r.put with
 | some H'=>H'
 | none=>st.H
def St.after (st:St)(o:Oper)(r:Res):St :=
 St.put { st with H:=Jk (r.base st) st.nx r.new,nx:=st.nx+r.new.length } o.dst r.val
def Afv : VV->Option Bool
 | .sc (.bool b)=>some b
 | _=>none
def Lg (ops:Array Oper)(st:St)(pcs:List Bool)(o:Oper):Option Bool :=
 match o.guard with
 | none=>some true
 | some (j,want) =>
  match pcs[j]?,(ops[j]?).bind (·.dst) with
  | some p,some d =>
   match Afv (st.t d) with
   | some b=>some (p&&(b==want))
   | none=>none
  | _,_=>none
def AcI : List Prop->Prop->Prop
 | [],K=>K
 | p::ps,K=>p/\AcI ps K
def Qo (pc:Bool):List Prop->Prop->Prop
 | [],K=>K
 | p::ps,K=>(pc=true->p)/\Qo pc ps K
def Ji (M:Array Nat)(i j:Nat):Bool:=(M.getD i 0).testBit j
def Lv : Op->Bool
 | .load .. | .store .. | .alloc _ | .box .. | .buildSlice .. | .makeSlice .. | .convert ..=>true
 | .call c=>match c.callee with
  | .builtin .len | .builtin .max | .builtin .min=>false
  | _=>true
 | _=>false
def tpB (st:St):Op->Bool
 | .load _ a=>match st.val a with
  | .tp _=>true
  | _=>false
 | _=>false
def Du (st:St)(op:Op):Bool:=Lv op&&!tpB st op
def CH (st:St):Op->Option Nat
 | .load _ a=>match st.val a with
  | .bp id _=>bif Nat.blt id st.nx then some id else none
  | .ep id _ _ _ _=>bif Nat.blt id st.nx then some id else none
  | _=>none
 | _=>none
def Kj (ld:FuncId->Bool)(st:St):Op->Option (FuncId × List Nat × List Ob × List VV)
 | .call c =>
  match c.callee with
  | .value f=>AfY ld st (st.val f) (c.args.toList.map st.val)
  | _=>none
 | _=>none
def Adx (st:St):Op->Option (List Nat)
 | .store _ a _=>match st.val a with
  | .bp id _=>some [id]
  | _=>none
 | _=>none
def EU (ld:FuncId->Bool)(st:St)(op:Op):Option (List Nat) :=
 match Kj ld st op with
 | some q=>bif ld q.1 then some q.2.1 else none
 | none=>Adx st op
structure Fl where
 p:Bool
 l:Bool
 s:Option Nat
 t:Option (List Nat)
def esc : Option Nat->Option (List Nat)->Bool
 | some id,some ids=>!(ids.any (Nat.beq id))
 | _,_=>false
def Yg (f g:Fl):Bool:=(g.p&&f.l&&!(esc f.s g.t))||(g.l&&f.p&&!(esc g.s f.t))
def Res.flag (r:Res)(l:Bool)(s:Option Nat)(t:Option (List Nat)):Fl:=⟨r.put.isSome,l,s,t⟩
def Jd (dr:Bool)(ops:Array Oper)(fl:List Fl)(k:Nat)(g:Fl):Bool:=!dr||(List.range k).all fun s =>
 match fl[s]? with
 | some f=>!(Yg f g)||Ji (Region.before ops) k s
 | none=>false
def LS (T:TypeId->TE)(O:Nat->Orc)(dr:Bool)(ops:Array Oper):Nat->List Oper->St->List Bool->List Fl->(St->Prop)->Prop
 | _,[],st,_,_,K=>K st
 | k,o::rest,st,pcs,fl,K =>
  match Lg ops st pcs o with
  | none=>False
  | some pc =>
   bif Jd dr ops fl k ((vop T (O k) st o.op).flag (Du st o.op) (CH st o.op) (EU (O k).lend st o.op)) then
    match o.guard,(vop T (O k) st o.op).new,(vop T (O k) st o.op).put with
    | none,_,_=>AcI (vop T (O k) st o.op).chk (LS T O dr ops (k+1) rest (st.after o (vop T (O k) st o.op)) (pcs++[pc]) (fl++[(vop T (O k) st o.op).flag (Du st o.op) (CH st o.op) (EU (O k).lend st o.op)]) K)
    | some _,[],none=>Qo pc (vop T (O k) st o.op).chk (LS T O dr ops (k+1) rest (st.after o (vop T (O k) st o.op)) (pcs++[pc]) (fl++[(vop T (O k) st o.op).flag (Du st o.op) (CH st o.op) (EU (O k).lend st o.op)]) K)
    | _,_,_=>False
   else False
theorem JW {K:Prop}:∀ {l:List Prop},AcI l K->(∀ p∈l,p)/\K
 | [],h=>⟨fun p hp=>by simp at hp,h⟩
 | q::l,h=>by
  obtain⟨h1,h2⟩:=JW h.2
  refine⟨fun p hp=>?_,h2⟩
  rcases AlC.1 hp with rfl | hp
  ·exact h.1
  ·exact h1 p hp
theorem IZ {pc:Bool}{K:Prop}:∀ {l:List Prop},Qo pc l K->(pc=true->∀ p∈l,p)/\K
 | [],h=>⟨fun _ p hp=>by simp at hp,h⟩
 | q::l,h=>by
  obtain⟨h1,h2⟩:=IZ h.2
  refine⟨fun hpc p hp=>?_,h2⟩
  rcases AlC.1 hp with rfl | hp
  ·exact h.1 hpc
  ·exact h1 hpc p hp
section
variable (T : TypeId->TE) (O:Nat->Orc) (ops:Array Oper) (st0:St)
def AR : Nat->St × List Bool
 | 0=>(st0,[])
 | i+1 =>
  match ops[i]? with
  | none=>AR i
  | some o=>((AR i).1.after o (vop T (O i) (AR i).1 o.op),(AR i).2++[(Lg ops (AR i).1 (AR i).2 o).getD false])
def rPc (i:Nat):Bool :=
 match ops[i]? with
 | none=>false
 | some o=>(Lg ops (AR T O ops st0 i).1 (AR T O ops st0 i).2 o).getD false
def rR (i:Nat):Res :=
 match ops[i]? with
 | none=>.bad
 | some o=>vop T (O i) (AR T O ops st0 i).1 o.op
def rL (i:Nat):Bool :=
 match ops[i]? with
 | none=>false
 | some o=>Du (AR T O ops st0 i).1 o.op
def rSo (i:Nat):Option Nat :=
 match ops[i]? with
 | none=>none
 | some o=>CH (AR T O ops st0 i).1 o.op
def rTc (i:Nat):Option (List Nat) :=
 match ops[i]? with
 | none=>none
 | some o=>EU (O i).lend (AR T O ops st0 i).1 o.op
def rFl (i:Nat):Fl:=(rR T O ops st0 i).flag (rL T O ops st0 i) (rSo T O ops st0 i) (rTc T O ops st0 i)
def rF (i:Nat):List Fl:=(List.range i).map fun j=>rFl T O ops st0 j
end
section
variable {P : Program} {T:TypeId->TE} {O:Nat->Orc} {ops:Array Oper} {st0:St}
theorem Ig {i:Nat}{o:Oper}(ho:ops[i]?=some o):(AR T O ops st0 (i+1)).1=(AR T O ops st0 i).1.after o (rR T O ops st0 i)/\(AR T O ops st0 (i+1)).2=(AR T O ops st0 i).2++[rPc T O ops st0 i]:=by
 simp only[AR,rR,rPc,ho]
 exact⟨trivial,trivial⟩
theorem UF : ∀ (i:Nat),i<=ops.size->(AR T O ops st0 i).2.length=i/\∀ k,k<i->(AR T O ops st0 i).2[k]?=some (rPc T O ops st0 k)
 | 0,_=>⟨rfl,fun k hk=>by omega⟩
 | i+1,hi=>by
  obtain⟨h1,h2⟩:=UF i (by omega)
  have ho:ops[i]?=some (ops[i]'(by omega)):=by simp[show i<ops.size by omega]
  obtain⟨_,e⟩:=Ig (T:=T) (O:=O) (st0:=st0) ho
  rw[e]
  refine⟨by simp[h1],fun k hk=>?_⟩
  by_cases hki:k<i
  ·rw[Ak0 (by omega)];exact h2 k hki
  ·obtain rfl:k=i:=by omega
   rw[Ak8 (by omega)];simp[h1]
structure Hl (dr:Bool) (T:TypeId->TE) (O:Nat->Orc) (ops:Array Oper) (st0:St) (i:Nat) (o:Oper):Prop where
 pc:Lg ops (AR T O ops st0 i).1 (AR T O ops st0 i).2 o=some (rPc T O ops st0 i)
 chk:rPc T O ops st0 i=true->∀ p∈(rR T O ops st0 i).chk,p
 plain:o.guard≠none->(rR T O ops st0 i).new=[]/\(rR T O ops st0 i).put=none
 ord:dr=true->∀ s,s<i->Yg (rFl T O ops st0 s) (rFl T O ops st0 i)=true->Ji (Region.before ops) i s=true
theorem GH {dr:Bool}{K:St->Prop}:∀ (l:List Oper) (i:Nat),l=ops.toList.drop i->i<=ops.size->LS T O dr ops i l (AR T O ops st0 i).1 (AR T O ops st0 i).2 (rF T O ops st0 i) K ->
  (∀ j o,i<=j->ops[j]?=some o->Hl dr T O ops st0 j o)/\K (AR T O ops st0 ops.size).1
 | [],i,hl,hi,h=>by
  have hlen:=congrArg List.length hl
  simp at hlen
  obtain rfl:i=ops.size:=by omega
  refine⟨fun j o hj ho=>?_,h⟩
  have:=(AkX.1 ho).1
  omega
 | o::rest,i,hl,hi,h=>by
  have hlen:=congrArg List.length hl
  simp at hlen
  have hi':i<ops.size:=by omega
  have ho:ops[i]?=some o:=by
   have:=congrArg (·[0]?) hl
   simp only[AkZ,All,AlT]at this
   simpa using this.symm
  have hrest:rest=ops.toList.drop (i+1):=by
   have:=congrArg List.tail hl
   simpa using this
  obtain⟨e1,e2⟩:=Ig (T:=T) (O:=O) (st0:=st0) ho
  simp only[LS]at h
  split at h
  ·exact h.elim
  ·rename_i pc hpc
   have hp:rPc T O ops st0 i=pc:=by simp only[rPc,ho,hpc,Amc]
   have hr:rR T O ops st0 i=vop T (O i) (AR T O ops st0 i).1 o.op:=by simp only[rR,ho]
   have hL:(rR T O ops st0 i).flag (Du (AR T O ops st0 i).1 o.op) (CH (AR T O ops st0 i).1 o.op) (EU (O i).lend (AR T O ops st0 i).1 o.op)=rFl T O ops st0 i:=by simp only[rFl,rL,rSo,rTc,ho]
   rw[← hr,hL]at h
   have eF:rF T O ops st0 i++[rFl T O ops st0 i]=rF T O ops st0 (i+1):=by
    unfold rF
    rw[List.range_succ,AmJ]
    rfl
   cases hpu:Jd dr ops (rF T O ops st0 i) i (rFl T O ops st0 i) with
   | false=>rw[hpu]at h;exact h.elim
   | true =>
   rw[hpu]at h
   simp only[AkQ]at h
   have hord:dr=true->∀ s,s<i->Yg (rFl T O ops st0 s) (rFl T O ops st0 i)=true->Ji (Region.before ops) i s=true:=by
    intro hdr s hs hn
    unfold Jd at hpu
    rw[hdr,Amy,Am3]at hpu
    have hx:=Alt.1 hpu s (AlD.2 hs)
    have hf:(rF T O ops st0 i)[s]?=some (rFl T O ops st0 s):=by
     unfold rF
     rw[Alh,List.getElem?_range hs];rfl
    rw[hf]at hx
    simp only[hn]at hx
    simpa using hx
   have key:Hl dr T O ops st0 i o/\LS T O dr ops (i+1) rest ((AR T O ops st0 i).1.after o (rR T O ops st0 i)) ((AR T O ops st0 i).2++[pc]) (rF T O ops st0 (i+1)) K:=by
    rw[eF]at h
    split at h
    ·rename_i hg
     obtain⟨h1,h2⟩:=JW h
     exact⟨⟨by rw[hpc,hp],fun _=>h1,fun hn=>absurd hg hn,hord⟩,h2⟩
    ·rename_i hg hn hp2
     obtain⟨h1,h2⟩:=IZ h
     exact⟨⟨by rw[hpc,hp],fun hq=>h1 (by rw[← hp];exact hq),fun _=>⟨hn,hp2⟩,hord⟩,h2⟩
    ·exact h.elim
   obtain⟨hg,hx⟩:=key
   rw[← hp,← e1,← e2]at hx
   obtain⟨h3,h4⟩:=GH rest (i+1) hrest hi' hx
   refine⟨fun j oj hj hoj=>?_,h4⟩
   by_cases hji:j=i
   ·subst hji
    rw[ho]at hoj
    simp only[AkP]at hoj
    subst hoj
    exact hg
   ·exact h3 j oj (by omega) hoj
theorem ZO (st:St)(o:Oper)(r:Res)(t:Nat):(st.after o r).t t=if o.dst=some t then r.val else st.t t:=by
 have h0:∀ (s:St) (d:Option Nat),(s.put d r.val).t t=if d=some t then r.val else s.t t:=by
  intro s d
  cases d with
  | none=>simp[St.put]
  | some d =>
   simp only[St.put]
   cases hq:Nat.beq t d with
   | true=>have:=AkT hq;subst this;simp
   | false =>
    have hne:d≠t:=by rintro rfl;simp at hq
    simp[hne]
 unfold St.after
 rw[h0]
theorem Mj {t:Nat}:∀ (i:Nat),i<=ops.size->(∀ j o,j<i->ops[j]?=some o->o.dst≠some t)->(AR T O ops st0 i).1.t t=st0.t t
 | 0,_,_=>rfl
 | i+1,hi,h=>by
  have ho:ops[i]?=some (ops[i]'(by omega)):=by simp[show i<ops.size by omega]
  rw[(Ig ho).1,ZO,Ak3 (h i _ (by omega) ho)]
  exact Mj i (by omega) fun j o hj=>h j o (by omega)
theorem Jz {t j:Nat}{oj:Oper}(hoj:ops[j]?=some oj)(hd:oj.dst=some t):∀ (i:Nat),i<=ops.size->j<i->(∀ k o,k<i->k≠j->ops[k]?=some o->o.dst≠some t)->(AR T O ops st0 i).1.t t=(rR T O ops st0 j).val
 | 0,_,hj,_=>by omega
 | i+1,hi,hj,h=>by
  have ho:ops[i]?=some (ops[i]'(by omega)):=by simp[show i<ops.size by omega]
  rw[(Ig ho).1,ZO]
  by_cases hji:j=i
  ·subst hji
   rw[ho]at hoj
   simp only[AkP]at hoj
   rw[hoj,Alj hd]
  ·rw[Ak3 (h i _ (by omega) (by omega) ho)]
   exact Jz hoj hd i (by omega) (by omega) fun k o hk=>h k o (by omega)
end
end
section
def ME (ops:Array Oper):Nat->Nat->Nat->Bool
 | 0,_,_=>false
 | f+1,i,j =>
  match(ops[j]?).bind (·.guard) with
  | none=>true
  | some g =>
   match(ops[i]?).bind (·.guard) with
   | none=>false
   | some h=>h==g||ME ops f h.1 j
def pickOk (ops:Array Oper)(n i:Nat)(c:Operand)(want:Bool)(j:Nat):Bool :=
 match(ops[j]?).bind (·.guard),c with
 | some (k,w),.tmp t=>w==want&&(ops[k]?).bind (·.dst)==some t&&ME ops n i k&&Nat.blt k i
 | _,_=>false
def rdB (ops:Array Oper)(M:Array Nat)(i:Nat)(ok:Nat->Bool):Operand->Bool
 | .tmp t=>(List.range ops.size).all fun j =>
  match ops[j]? with
  | some oj=>!(oj.dst==some t)||Nat.beq j i||(bif Nat.blt j i then Ji M i j&&ok j else Ji M j i)
  | none=>true
 | _=>true
def Xl (ops:Array Oper)(M:Array Nat)(i:Nat):Op->Bool
 | .pick c x y=>rdB ops M i (ME ops ops.size i) c&&rdB ops M i (fun j=>ME ops ops.size i j||pickOk ops ops.size i c true j) x&&rdB ops M i (fun j=>ME ops ops.size i j||pickOk ops ops.size i c false j) y
 | op=>op.operands.toList.all (rdB ops M i (ME ops ops.size i))
def opB (ops:Array Oper)(M:Array Nat)(N i:Nat)(o:Oper):Bool :=
 (o.after.toList.all fun e=>!Region.binds .any e||Nat.blt e.on i) &&
 ((List.range ops.size).all fun j=>!Ji M i j||o.after.toList.any fun e=>Region.binds .any e&&(Nat.beq e.on j||Ji M e.on j)) &&
 (match o.dst with
  | none=>true
  | some d=>Nat.blt d N&&(List.range ops.size).all fun j=>Nat.beq j i||!((ops[j]?).bind (·.dst)==some d)) &&
 (match o.guard with
  | none=>true
  | some (k,_)=>Nat.blt k i&&Ji M i k) &&
 Xl ops M i o.op
def Jh (ops:Array Oper)(N:Nat):Bool :=
 let M:=Region.before ops
 (List.range ops.size).all fun i =>
  match ops[i]? with
  | some o=>opB ops M N i o
  | none=>false
def AcX (ops:Array Oper)(M:Array Nat)(i:Nat)(ok:Nat->Bool)(y:Operand):Prop :=
 ∀ t,y=.tmp t->∀ (j:Nat) oj,ops[j]?=some oj->oj.dst=some t->j≠i->(j<i->Ji M i j=true/\ok j=true)/\(i<j->Ji M j i=true)
structure Lb (ops:Array Oper) (M:Array Nat) (N:Nat):Prop where
 low:∀ (i:Nat) o e,ops[i]?=some o->e∈o.after->Region.binds .any e=true->e.on<i
 mask:∀ (i:Nat) o j,ops[i]?=some o->j<ops.size->Ji M i j=true->∃ e∈o.after,Region.binds .any e=true/\(e.on=j∨Ji M e.on j=true)
 dst:∀ (i:Nat) o d,ops[i]?=some o->o.dst=some d->d<N
 uniq:∀ (i j:Nat) oi oj d,ops[i]?=some oi->ops[j]?=some oj->oi.dst=some d->oj.dst=some d->i=j
 guard:∀ (i:Nat) o k w,ops[i]?=some o->o.guard=some (k,w)->k<i/\Ji M i k=true
 reads:∀ (i:Nat) o,ops[i]?=some o->(∀ c x y,o.op≠.pick c x y)->∀ y∈o.op.operands.toList,AcX ops M i (ME ops ops.size i) y
 pick:∀ (i:Nat) o c x y,ops[i]?=some o->o.op=.pick c x y->AcX ops M i (ME ops ops.size i) c/\AcX ops M i (fun j=>ME ops ops.size i j||pickOk ops ops.size i c true j) x/\AcX ops M i (fun j=>ME ops ops.size i j||pickOk ops ops.size i c false j) y
theorem Y9 {ops:Array Oper}{M:Array Nat}{i:Nat}{ok:Nat->Bool}{y:Operand}(h:rdB ops M i ok y=true):AcX ops M i ok y:=by
 rintro t rfl j oj hj hd hne
 simp only[rdB,Alt,AlD]at h
 have:=h j (AkX.1 hj).1
 rw[hj]at this
 simp only[hd,AmW,Amy,Am3]at this
 have hb:Nat.beq j i=false:=by
  cases hq:Nat.beq j i with
  | true=>exact absurd (AkT hq) hne
  | false=>rfl
 rw[hb,Am3]at this
 constructor
 ·intro hlt
  have hl:Nat.blt j i=true:=Nat.ble_eq_true_of_le hlt
  rw[hl,AkQ,AkO]at this
  exact this
 ·intro hlt
  have hl:Nat.blt j i=false:=by
   cases hq:Nat.blt j i with
   | true=>have:=Ak7 hq;omega
   | false=>rfl
  rw[hl,AkN]at this
  exact this
theorem JC {ops:Array Oper}{N:Nat}(h:Jh ops N=true):Lb ops (Region.before ops) N:=by
 have hop:∀ (i:Nat) o,ops[i]?=some o->opB ops (Region.before ops) N i o=true:=by
  intro i o ho
  have:=Alt.1 h i (AlD.2 (AkX.1 ho).1)
  simp only[ho]at this
  exact this
 have split:∀ (i:Nat) o,ops[i]?=some o->_:=fun i o ho=>by
  have:=hop i o ho
  unfold opB at this
  simp only[AkO]at this
  exact this
 refine⟨?_,?_,?_,?_,?_,?_,?_⟩
 ·intro i o e ho he hb
  obtain⟨⟨⟨⟨h1,_⟩,_⟩,_⟩,_⟩:=split i o ho
  have:=Alt.1 h1 e (by simpa using he)
  rw[hb]at this
  exact Ak7 (by simpa[Nat.blt] using this)
 ·intro i o j ho hj hb
  obtain⟨⟨⟨⟨_,h1⟩,_⟩,_⟩,_⟩:=split i o ho
  have:=Alt.1 h1 j (AlD.2 hj)
  rw[hb,Amy,Am3,List.any_eq_true]at this
  obtain⟨e,he,hq⟩:=this
  rw[AkO,AlV]at hq
  exact⟨e,by simpa using he,hq.1,hq.2.imp AkT id⟩
 ·intro i o d ho hd
  obtain⟨⟨⟨⟨_,_⟩,h1⟩,_⟩,_⟩:=split i o ho
  rw[hd]at h1
  simp only[AkO]at h1
  exact Ak7 h1.1
 ·intro i j oi oj d hi hj hdi hdj
  obtain⟨⟨⟨⟨_,_⟩,h1⟩,_⟩,_⟩:=split i oi hi
  rw[hdi]at h1
  simp only[AkO]at h1
  have:=Alt.1 h1.2 j (AlD.2 (AkX.1 hj).1)
  rw[hj,Amj,hdj]at this
  simp only[AmW,Amy,Bool.or_false]at this
  exact(AkT this).symm
 ·intro i o k w ho hg
  obtain⟨⟨⟨⟨_,_⟩,_⟩,h1⟩,_⟩:=split i o ho
  rw[hg]at h1
  simp only[AkO]at h1
  exact⟨Ak7 h1.1,h1.2⟩
 ·intro i o ho hnp y hy
  obtain⟨⟨⟨⟨_,_⟩,_⟩,_⟩,h1⟩:=split i o ho
  unfold Xl at h1
  split at h1
  ·rename_i c x y' e;exact absurd e (hnp c x y')
  ·exact Y9 (Alt.1 h1 y hy)
 ·intro i o c x y ho hp
  obtain⟨⟨⟨⟨_,_⟩,_⟩,_⟩,h1⟩:=split i o ho
  rw[hp]at h1
  simp only[Xl,AkO]at h1
  exact⟨Y9 h1.1.1,Y9 h1.1.2,Y9 h1.2⟩
section
variable {ops : Array Oper} {M:Array Nat} {N:Nat}
def NI (ops:Array Oper)(D:Nat->Bool):Prop:=∀ (i:Nat) o e,ops[i]?=some o->D i=true->e∈o.after->Region.binds .any e=true->D e.on=true
theorem DE (hR:Lb ops M N){D:Nat->Bool}(hD:NI ops D):∀ (i:Nat) o (j:Nat),ops[i]?=some o->(∀ e∈o.after,Region.binds .any e=true->D e.on=true)->j<ops.size->Ji M i j=true->D j=true:=by
 intro i
 induction i using Nat.strongRecOn with
 | _ i ih =>
  intro o j ho hdeps hj hb
  obtain⟨e,he,hbd,hq⟩:=hR.mask i o j ho hj hb
  have hDe:=hdeps e he hbd
  rcases hq with hq | hq
  ·rw[← hq];exact hDe
  ·have hlt:=hR.low i o e ho he hbd
   have hil:=(AkX.1 ho).1
   have hoe:ops[e.on]?=some (ops[e.on]'(by omega)):=by simp[show e.on<ops.size by omega]
   exact ih e.on hlt _ j hoe (fun e' he' hb'=>hD e.on _ e' hoe hDe he' hb') hj hq
end
end
section
section
variable {dr : Bool} {P:Program} {T:TypeId->TE} {O:Nat->Orc} {ops:Array Oper} {st0:St} {M:Array Nat} {N:Nat} {E:AF} {w0:World} {φ0:Phi}
theorem St.put_nx (s:St)(d:Option Nat)(x:VV):(s.put d x).nx=s.nx:=by cases d<;>rfl
theorem St.put_H (s:St)(d:Option Nat)(x:VV):(s.put d x).H=s.H:=by cases d<;>rfl
theorem Gz {i:Nat}{o:Oper}(ho:ops[i]?=some o):(AR T O ops st0 (i+1)).1.nx=(AR T O ops st0 i).1.nx+(rR T O ops st0 i).new.length /\
  (AR T O ops st0 (i+1)).1.H=Jk ((rR T O ops st0 i).base (AR T O ops st0 i).1) (AR T O ops st0 i).1.nx (rR T O ops st0 i).new:=by
 rw[(Ig (T:=T) (O:=O) (st0:=st0) ho).1]
 unfold St.after
 rw[St.put_nx,St.put_H]
 exact⟨rfl,rfl⟩
theorem Hr (i m:Nat)(him:i<=m)(hm:m<=ops.size):(AR T O ops st0 i).1.nx<=(AR T O ops st0 m).1.nx:=by
 induction m with
 | zero=>(obtain rfl:i=0:=(by omega));exact AkU _
 | succ m ih =>
  by_cases hi:i=m+1
  ·subst hi;exact AkU _
  ·have h1:=ih (by omega) (by omega)
   have ho:ops[m]?=some (ops[m]'(by omega)):=by simp[show m<ops.size by omega]
   rw[(Gz (T:=T) (O:=O) (st0:=st0) ho).1]
   omega
theorem Kx (i m:Nat)(him:i<=m)(hm:m<=ops.size)(hp:∀ s o,i<=s->s<m->ops[s]?=some o->(rR T O ops st0 s).put=none) :
  ∀ id,id<(AR T O ops st0 i).1.nx->(AR T O ops st0 m).1.H id=(AR T O ops st0 i).1.H id:=by
 induction m with
 | zero=>(obtain rfl:i=0:=(by omega));exact fun _ _=>rfl
 | succ m ih =>
  by_cases hi:i=m+1
  ·subst hi;exact fun _ _=>rfl
  ·intro id hid
   have h2:=ih (by omega) (by omega) (fun s o hs1 hs2=>hp s o hs1 (by omega)) id hid
   have hnx:=Hr (T:=T) (O:=O) (ops:=ops) (st0:=st0) i m (by omega) (by omega)
   have ho:ops[m]?=some (ops[m]'(by omega)):=by simp[show m<ops.size by omega]
   rw[(Gz (T:=T) (O:=O) (st0:=st0) ho).2,Ke (.inl (by omega))]
   unfold Res.base
   rw[hp m _ (by omega) (by omega) ho]
   exact h2
theorem Ad9 {i j:Nat}{o:Oper}{ob:Ob}(ho:ops[i]?=some o)(hn:(rR T O ops st0 i).new[j]?=some ob) :
  (AR T O ops st0 (i+1)).1.H ((AR T O ops st0 i).1.nx+j)=ob:=by
 rw[(Gz (T:=T) (O:=O) (st0:=st0) ho).2]
 exact ZP hn
def AgS (D:Nat):Deferred:={ target:=.collected D,args:=#[] }
def QQ (E:AF)(ds:List Deferred)(w:World):Prop:=E.lo<=w.heap.size/\∃ Ds:List Nat,ds=Ds.map AgS/\Ds.Nodup/\∀ D,D∈Ds->w.heap[D]?=some (.deferred (some []))/\E.fz D/\E.br D/\D ∉ D8/\E.lo<=D
theorem QQ.nil {E:AF}{w:World}(h:E.lo<=w.heap.size):QQ E [] w:=⟨h,[],rfl,List.nodup_nil,fun _ h=>by cases h⟩
theorem QQ.of {E E':AF}{ds:List Deferred}{w w':World}(h:QQ E ds w)(hs:w.heap.size<=w'.heap.size)(hb:∀ k,k<w.heap.size->E.fz k->w'.heap[k]?=w.heap[k]?)(h1:∀ k,E.fz k->E'.fz k)(h2:∀ k,E.br k->E'.br k)(hl:E'.lo=E.lo):QQ E' ds w':=by
 obtain⟨h0,Ds,e,hn,h⟩:=h
 refine⟨by omega,Ds,e,hn,fun D hD=>?_⟩
 obtain⟨a1,a2,a3,a4,a5⟩:=h D hD
 exact⟨(hb D (AkX.1 a1).1 a2).trans a1,h1 _ a2,h2 _ a3,a4,by omega⟩
theorem QQ.ext {E:AF}{ds:List Deferred}{w w':World}{φ φ':Phi}(h:QQ E ds w)(hf:∀ k,Own φ k->¬ E.fz k)(e:Ext w φ w' φ'):QQ E ds w' :=
 h.of e.size (fun k hk hz=>e.block k hk fun ho=>hf k ho hz) (fun _ h=>h) (fun _ h=>h) rfl
structure RI (P:Program) (T:TypeId->TE) (O:Nat->Orc) (ops:Array Oper) (st0:St) (N:Nat) (E:AF) (w0:World) (φ0:Phi) (D:Nat->Bool) (φ:Phi) (a:Act) (w:World):Prop where
 sz:a.tmps.size=N
 df:a.defers=E.ds/\∀ w φ,Ext w0 φ0 w φ->QQ E E.ds w
 ext:Ext w0 φ0 w φ
 old:Old E φ w
 out:∀ t,(∀ (i:Nat) o,ops[i]?=some o->D i=true->o.dst≠some t)->V w (E.up φ) (some φ) (st0.t t) (a.tmps.getD t undef)
 inn:∀ (i:Nat) o t,ops[i]?=some o->D i=true->o.dst=some t->(rPc T O ops st0 i=true->V w (E.up φ) (some φ) (rR T O ops st0 i).val (a.tmps.getD t undef))/\(rPc T O ops st0 i=false->a.tmps.getD t undef=undef)
 al:∀ (i:Nat) o,ops[i]?=some o->D i=false->∀ j,j<(rR T O ops st0 i).new.length->φ ((AR T O ops st0 i).1.nx+j)=none
 lv:∀ id,id<st0.nx->φ id≠none
 nw:∀ (i:Nat) o,ops[i]?=some o->D i=true->∀ j,j<(rR T O ops st0 i).new.length->φ ((AR T O ops st0 i).1.nx+j)≠none
 st:∃ m,m<=ops.size/\(∀ (s:Nat) o,ops[s]?=some o->(rR T O ops st0 s).put≠none->(D s=true ↔ s<m))/\(m<ops.size->(rR T O ops st0 m).put≠none) /\
  HRel E (AR T O ops st0 m).1.H φ w/\∀ id,(AR T O ops st0 m).1.nx<=id->φ id=none
theorem Mo (a:Act)(d:Option Nat)(v:Value)(t:Nat)(hd:∀ k,d=some k->k<a.tmps.size):(a.put d v).tmps.getD t undef=if d=some t then v else a.tmps.getD t undef:=by
 cases d with
 | none=>simp[Act.put]
 | some d =>
  have:=hd d rfl
  simp only[Act.put,Alx,AkP]
  by_cases h:d=t
  ·subst h;simp[this]
  ·rw[Amt h,Ak3 h]
theorem NR {op:Op}{st:St}(h:Du st op=false):Lv op=false∨∃ t a cs,op=.load t a/\st.val a=.tp cs:=by
 unfold Du at h
 cases hl:Lv op with
 | false=>exact .inl rfl
 | true =>
  rw[hl]at h
  have h':tpB st op=true:=by simpa using h
  unfold tpB at h'
  split at h'
  ·rename_i t a
   split at h'
   ·rename_i cs hv;exact .inr ⟨t,a,cs,rfl,hv⟩
   ·cases h'
  ·cases h'
theorem Xn {O:Orc}{op:Op}{st:St}(h:Lv op=false):(vop T O st op).new=[]/\(vop T O st op).put=none:=by
 cases op<;>first | exact⟨rfl,rfl⟩ | cases h | skip
 case slice t x lo hi mx=>cases mx<;>exact⟨rfl,rfl⟩
 case call c =>
  simp only[vop,Lv]at h ⊢
  cases hc:c.callee with
  | value f=>rw[hc]at h;simp at h
  | invoke r n=>exact⟨rfl,rfl⟩
  | builtin b=>cases b<;>first | exact⟨rfl,rfl⟩ | (rw[hc]at h;simp at h)
theorem RA {O:Orc}{op:Op}{st:St}(h:Du st op=false):(vop T O st op).new=[]/\(vop T O st op).put=none:=by
 rcases NR h with h | ⟨t,a,cs,rfl,_⟩
 ·exact Xn h
 ·exact⟨rfl,rfl⟩
theorem AgW {O:Orc}{op:Op}{st:St}(h:(vop T O st op).new.length≠0∨(vop T O st op).put≠none):Du st op=true:=by
 cases hq:Du st op with
 | true=>rfl
 | false =>
  obtain⟨h1,h2⟩:=RA (T:=T) (O:=O) (st:=st) hq
  rw[h1,h2]at h
  simp at h
theorem Aei {O:Orc}{op:Op}{st:St}(h:Lv op=false)(H:Nat->Ob):vop T O { st with H:=H } op=vop T O st op:=by
 cases op<;>first | rfl | cases h | skip
 case slice t x lo hi mx=>cases mx<;>rfl
 case call c =>
  simp only[vop,Lv]at h ⊢
  cases hc:c.callee with
  | value f=>rw[hc]at h;simp at h
  | invoke r n=>rfl
  | builtin b=>cases b<;>first | rfl | (rw[hc]at h;simp at h)
theorem Agt {O:Orc}{op:Op}{st:St}(h:Du st op=false)(H:Nat->Ob):vop T O { st with H:=H } op=vop T O st op:=by
 rcases NR h with h | ⟨t,a,cs,rfl,hv⟩
 ·exact Aei h H
 ·have hv':St.val { st with H:=H } a=.tp cs:=by rw[← hv];cases a<;>rfl
  simp only[vop,hv,hv',Jo]
theorem M0 {st:St}{op:Op}{id:Nat}(h:CH st op=some id):∃ t a,op=.load t a/\id<st.nx/\((∃ o,st.val a=.bp id o)∨∃ g sz i o,st.val a=.ep id g sz i o):=by
 cases op<;>simp only[CH,reduceCtorEq]at h
 rename_i t a
 split at h
 ·rename_i j o hv
  cases hq:Nat.blt j st.nx with
  | false=>rw[hq]at h;cases h
  | true =>
   rw[hq]at h
   simp only[AkQ,AkP]at h
   subst h
   exact⟨t,a,rfl,Ak7 hq,.inl ⟨o,hv⟩⟩
 ·rename_i j g sz i o hv
  cases hq:Nat.blt j st.nx with
  | false=>rw[hq]at h;cases h
  | true =>
   rw[hq]at h
   simp only[AkQ,AkP]at h
   subst h
   exact⟨t,a,rfl,Ak7 hq,.inr ⟨g,sz,i,o,hv⟩⟩
 ·cases h
theorem Uz {O:Orc}{op:Op}{st:St}{id:Nat}(h:CH st op=some id):(vop T O st op).new=[]/\(vop T O st op).put=none:=by
 obtain⟨t,a,rfl,_⟩:=M0 h
 exact⟨rfl,rfl⟩
theorem Aie {O:Orc}{op:Op}{st:St}{id:Nat}(h:CH st op=some id){H:Nat->Ob}(hH:H id=st.H id):vop T O { st with H:=H } op=vop T O st op:=by
 obtain⟨t,a,rfl,_,hv⟩:=M0 h
 have e:St.val { st with H:=H } a=st.val a:=by cases a<;>rfl
 rcases hv with⟨o,hv⟩ | ⟨g,sz,i,o,hv⟩
 ·simp only[vop,e,hv,Jo,hH]
 ·simp only[vop,e,hv,Jo,hH]
def NX (st:St)(op:Op):Bool:=Du st op&&(CH st op).isNone
theorem Ag8 {O:Orc}{op:Op}{st:St}(h:(vop T O st op).new.length≠0∨(vop T O st op).put≠none):NX st op=true:=by
 unfold NX
 rw[AgW h,AlI]
 cases hs:CH st op with
 | none=>rfl
 | some id =>
  obtain⟨h1,h2⟩:=Uz (T:=T) (O:=O) hs
  rw[h1,h2]at h
  simp at h
theorem Xx (hdr:dr=true)(hG:∀ (j:Nat) o,ops[j]?=some o->Hl dr T O ops st0 j o){i s:Nat}{oi os:Oper}(hi:ops[i]?=some oi)(hp:(rR T O ops st0 i).put≠none)(hs:ops[s]?=some os)(hl:NX (AR T O ops st0 s).1 os.op=true) :
  (s<i->Ji (Region.before ops) i s=true)/\(i<s->Ji (Region.before ops) s i=true):=by
 unfold NX at hl
 rw[AkO,Option.isNone_iff_eq_none]at hl
 have hL:rL T O ops st0 s=true:=by simp only[rL,hs];exact hl.1
 have hS:rSo T O ops st0 s=none:=by simp only[rSo,hs];exact hl.2
 have hP:=Option.isSome_iff_ne_none.2 hp
 refine⟨fun h=>(hG i oi hi).ord hdr s h ?_,fun h=>(hG s os hs).ord hdr i h ?_⟩
 ·simp[Yg,rFl,Res.flag,hP,hL,hS,esc]
 ·simp[Yg,rFl,Res.flag,hP,hL,hS,esc]
theorem UT (hdr:dr=true)(hG:∀ (j:Nat) o,ops[j]?=some o->Hl dr T O ops st0 j o){i s id:Nat}{oi os:Oper}(hi:ops[i]?=some oi)(hp:(rR T O ops st0 i).put≠none)(hs:ops[s]?=some os)(hl:Du (AR T O ops st0 s).1 os.op=true)(hso:CH (AR T O ops st0 s).1 os.op=some id) :
  esc (some id) (rTc T O ops st0 i)=true∨((s<i->Ji (Region.before ops) i s=true)/\(i<s->Ji (Region.before ops) s i=true)):=by
 have hL:rL T O ops st0 s=true:=by simp only[rL,hs];exact hl
 have hS:rSo T O ops st0 s=some id:=by simp only[rSo,hs];exact hso
 have hP:=Option.isSome_iff_ne_none.2 hp
 cases he:esc (some id) (rTc T O ops st0 i) with
 | true=>exact .inl rfl
 | false =>
  refine .inr ⟨fun h=>(hG i oi hi).ord hdr s h ?_,fun h=>(hG s os hs).ord hdr i h ?_⟩
  ·simp[Yg,rFl,Res.flag,hP,hL,hS,he]
  ·simp[Yg,rFl,Res.flag,hP,hL,hS,he]
theorem T8 {T:TypeId->TE}{O:Orc}{st:St}{op:Op}{q:FuncId × List Nat × List Ob × List VV}(h:Kj O.lend st op=some q) :
  vop T O st op=(DO st (O.lend q.1) q.2.1 (O.run q.1 q.2.2.1 q.2.2.2).1.1 (O.run q.1 q.2.2.1 q.2.2.2).1.2).also (O.run q.1 q.2.2.1 q.2.2.2).2:=by
 cases op<;>simp only[Kj,reduceCtorEq]at h
 rename_i c
 split at h
 ·rename_i f hf
  simp only[vop,hf,Ib,h]
 ·cases h
theorem Tm : ∀ {ids:List Nat} {id:Nat},ids.any (Nat.beq id)=false->idx ids id=none
 | [],_,_=>rfl
 | i::is,id,h=>by
  simp only[Am2,Ald]at h
  have hb:Nat.beq i id=false:=by
   cases hq:Nat.beq i id with
   | false=>rfl
   | true =>
    have:=AkT hq
    subst this
    have h1:=h.1
    simp at h1
  simp only[idx,hb,AkN,Tm h.2,Option.map_none]
theorem Adt {i id:Nat}(he:esc (some id) (rTc T O ops st0 i)=true):(rR T O ops st0 i).base (AR T O ops st0 i).1 id=(AR T O ops st0 i).1.H id:=by
 cases ho:ops[i]? with
 | none=>simp only[rTc,ho,esc]at he;cases he
 | some o =>
  simp only[rTc,ho]at he
  simp only[rR,ho]
  unfold EU at he
  split at he
  ·rename_i q hq
   cases hld:(O i).lend q.1 with
   | false=>rw[hld]at he;simp[esc]at he
   | true =>
    rw[hld]at he
    simp only[AkQ,esc,Amn]at he
    rw[T8 hq,hld]
    unfold Res.base Res.also DO
    cases hb:Nat.ble q.2.1.length ((O i).run q.1 q.2.2.1 q.2.2.2).1.1.length with
    | false=>rfl
    | true =>
     simp only[AkQ,Tm he]
  ·unfold Adx at he
   split at he
   ·rename_i t a x hop
    split at he
    ·rename_i id' off hv
     have hne:Nat.beq id id'=false:=by
      simp only[esc,Am2,List.any_nil,Bool.or_false,Amn]at he
      exact he
     rw[hop]
     simp only[vop,hv,HM,Res.base]
     cases (Nat.blt id' (AR T O ops st0 i).1.nx&&(T t).k.known&&Nat.beq ((AR T O ops st0 i).1.val x).cells.length (T t).sz&&((AR T O ops st0 i).1.val x).cells.all VV.one) with
     | false=>rfl
     | true =>
      rw[AkQ]
      cases (AR T O ops st0 i).1.H id' with
      | box cs =>
       cases hb:Nat.ble (off+((AR T O ops st0 i).1.val x).cells.length) cs.length with
       | false=>simp only[hb,AkN];rfl
       | true=>simp only[hb,AkQ,hne,AkN]
      | _=>rfl
    ·simp[esc]at he
   ·simp[esc]at he
theorem PK {id:Nat}(i m:Nat)(him:i<=m)(hm:m<=ops.size)(hid:id<(AR T O ops st0 i).1.nx)(hp:∀ s o,i<=s->s<m->ops[s]?=some o->(rR T O ops st0 s).put=none∨esc (some id) (rTc T O ops st0 s)=true) :
  (AR T O ops st0 m).1.H id=(AR T O ops st0 i).1.H id:=by
 induction m with
 | zero=>(obtain rfl:i=0:=(by omega));rfl
 | succ m ih =>
  by_cases hi:i=m+1
  ·subst hi;rfl
  ·have h2:=ih (by omega) (by omega) (fun s o hs1 hs2=>hp s o hs1 (by omega))
   have hnx:=Hr (T:=T) (O:=O) (ops:=ops) (st0:=st0) i m (by omega) (by omega)
   have ho:ops[m]?=some (ops[m]'(by omega)):=by simp[show m<ops.size by omega]
   rw[(Gz (T:=T) (O:=O) (st0:=st0) ho).2,Ke (.inl (by omega))]
   rcases hp m _ (by omega) (by omega) ho with h | h
   ·unfold Res.base
    rw[h]
    exact h2
   ·rw[Adt h];exact h2
end
end
section
section
variable {dr : Bool} {P:Program} {T:TypeId->TE} {O:Nat->Orc} {ops:Array Oper} {st0:St} {M:Array Nat} {N:Nat} {E:AF} {w0:World} {φ0:Phi} {D:Nat->Bool} {φ:Phi} {a:Act} {w:World}
def Mr (D:Nat->Bool)(i:Nat)(j:Nat):Bool:=j==i||D j
theorem D7 {i j:Nat}:Mr D i j=true ↔ j=i∨D j=true:=by simp[Mr]
section
variable (hR : Lb ops M N) (hG:∀ (j:Nat) o,ops[j]?=some o->Hl dr T O ops st0 j o)
include hR hG
omit hR in
theorem OC {i:Nat}{o:Oper}(ho:ops[i]?=some o)(hg:o.guard=none):rPc T O ops st0 i=true:=by
 have:=(hG i o ho).pc
 simp only[Lg,hg,AkP]at this
 exact this.symm
theorem OB {i k:Nat}{want:Bool}{o:Oper}(ho:ops[i]?=some o)(hg:o.guard=some (k,want)) :
  ∃ ok d b,ops[k]?=some ok/\ok.dst=some d/\(rR T O ops st0 k).val=.sc (.bool b)/\k<i/\rPc T O ops st0 i=(rPc T O ops st0 k&&(b==want)):=by
 have hgd:=(hG i o ho).pc
 obtain⟨hki,_⟩:=hR.guard i o k want ho hg
 have hi:=(AkX.1 ho).1
 have hok:ops[k]?=some (ops[k]'(by omega)):=by simp[show k<ops.size by omega]
 have hp:=(UF (T:=T) (O:=O) (ops:=ops) (st0:=st0) i (by omega)).2 k hki
 simp only[Lg,hg,hp,hok,Amj]at hgd
 split at hgd
 ·rename_i p d e1 e2
  simp only[AkP]at e1
  subst e1
  split at hgd
  ·rename_i b hb
   simp only[AkP]at hgd
   rw[Jz hok e2 i (by omega) hki (fun k' o' _ hne ho' hd'=>hne (hR.uniq k' k o' _ d ho' hok hd' e2))]at hb
   refine⟨_,d,b,hok,e2,?_,hki,hgd.symm⟩
   unfold Afv at hb
   split at hb
   ·rename_i b' e3;simp only[AkP]at hb;subst hb;exact e3
   ·cases hb
  ·cases hgd
 ·cases hgd
theorem ZB : ∀ (f i j:Nat),i<ops.size->j<ops.size->ME ops f i j=true->rPc T O ops st0 i=true->rPc T O ops st0 j=true
 | 0,_,_,_,_,h,_=>by cases h
 | f+1,i,j,hi,hj,h,hp=>by
  have hoi:ops[i]?=some (ops[i]'hi):=by simp[hi]
  have hoj:ops[j]?=some (ops[j]'hj):=by simp[hj]
  simp only[ME,hoi,hoj,Amj]at h
  split at h
  ·rename_i hg;exact OC hG hoj hg
  ·rename_i g hg
   split at h
   ·cases h
   ·rename_i h0 hg0
    rw[AlV]at h
    obtain⟨k,w1⟩:=h0
    obtain⟨k2,w2⟩:=g
    obtain⟨ok,d,b,h1,h2,h3,h4,h5⟩:=OB hR hG hoi hg0
    rcases h with h | h
    ·have e:(k,w1)=(k2,w2):=by simpa using h
     simp only[Alu]at e
     obtain⟨rfl,rfl⟩:=e
     obtain⟨ok',d',b',h1',h2',h3',h4',h5'⟩:=OB hR hG hoj hg
     rw[h3]at h3'
     simp only[VV.sc.injEq,Value.bool.injEq]at h3'
     subst h3'
     rw[h5',← h5];exact hp
    ·rw[h5,AkO]at hp
     exact ZB f k j (by omega) hj h hp.1
end
theorem Oy (hR:Lb ops M N)(hcl:NI ops D)(h:RI P T O ops st0 N E w0 φ0 D φ a w){i:Nat}{o:Oper}(ho:ops[i]?=some o)(hi:D i=false)(hdeps:∀ e∈o.after,Region.binds .any e=true->D e.on=true)
  {ok:Nat->Bool} {y:Operand} (hrd:AcX ops M i ok y) (hok:∀ j,j<ops.size->ok j=true->rPc T O ops st0 j=true):V w (E.up φ) (some φ) ((AR T O ops st0 i).1.val y) (a.eval y):=by
 have hil:=(AkX.1 ho).1
 cases y with
 | const v=>exact V.litC v
 | global g=>exact .dead
 | func f=>exact .fn rfl fun j x hx=>by simp at hx
 | tmp t =>
  show V w _ _ ((AR T O ops st0 i).1.t t) (a.tmps.getD t undef)
  by_cases hex:∃ j oj,ops[j]?=some oj/\oj.dst=some t/\j≠i
  ·obtain⟨j,oj,hj,hd,hne⟩:=hex
   have hjl:=(AkX.1 hj).1
   obtain⟨h1,h2⟩:=hrd t rfl j oj hj hd hne
   rcases Alw j i with hlt | hge
   ·obtain⟨hm,hk⟩:=h1 hlt
    have hDj:=DE hR hcl i o j ho hdeps hjl hm
    rw[Jz hj hd i (by omega) hlt (fun k' o' _ hne' ho' hd'=>hne' (hR.uniq k' j o' oj t ho' hj hd' hd))]
    exact(h.inn j oj t hj hDj hd).1 (hok j hjl hk)
   ·have hgt:i<j:=by omega
    have hm:=h2 hgt
    have hDj:D j=false:=by
     cases hq:D j with
     | false=>rfl
     | true =>
      have:=DE hR hcl j oj i hj (fun e he hb=>hcl j oj e hj hq he hb) hil hm
      rw[hi]at this;cases this
    rw[Mj i (by omega) (fun k' o' hk' ho' hd'=>by have:=hR.uniq k' j o' oj t ho' hj hd' hd;omega)]
    exact h.out t fun k' o' ho' hD' hd'=>by
     have:=hR.uniq k' j o' oj t ho' hj hd' hd
     subst this
     rw[hDj]at hD';cases hD'
  ·have hno:∀ (k':Nat) o',ops[k']?=some o'->o'.dst=some t->k'=i:=fun k' o' ho' hd'=>Alf fun hne=>hex ⟨k',o',ho',hd',hne⟩
   rw[Mj i (by omega) (fun k' o' hk' ho' hd'=>by have:=hno k' o' ho' hd';omega)]
   exact h.out t fun k' o' ho' hD' hd'=>by
    have:=hno k' o' ho' hd'
    subst this
    rw[hi]at hD';cases hD'
theorem Aas (hR:Lb ops M N)(hG:∀ (j:Nat) o,ops[j]?=some o->Hl dr T O ops st0 j o)(hcl:NI ops D)(h:RI P T O ops st0 N E w0 φ0 D φ a w){i:Nat}{o:Oper}(ho:ops[i]?=some o)
  (hdeps:∀ e∈o.after,Region.binds .any e=true->D e.on=true):Region.wanted o (yielded ops a.tmps)=rPc T O ops st0 i:=by
 have hil:=(AkX.1 ho).1
 unfold Region.wanted
 cases hg:o.guard with
 | none=>simp only;exact(OC hG ho hg).symm
 | some g =>
  obtain⟨k,want⟩:=g
  obtain⟨ok,d,b,h1,h2,h3,h4,h5⟩:=OB hR hG ho hg
  have hDk:=DE hR hcl i o k ho hdeps (by omega) (hR.guard i o k want ho hg).2
  obtain⟨g1,g2⟩:=h.inn k ok d h1 hDk h2
  have hd:d<a.tmps.size:=by rw[h.sz];exact hR.dst k ok d h1 h2
  have hget:a.tmps[d]?=some (a.tmps.getD d undef):=by simp[Array.getD,hd]
  simp only[yielded,h1,Amj,h2,hget]
  rw[h5]
  cases hp:rPc T O ops st0 k with
  | true =>
   have:=g1 hp
   rw[h3]at this
   rw[this.sc_inv]
   simp only[AlI]
   cases b<;>cases want<;>rfl
  | false =>
   rw[g2 hp]
   rfl
end
end
section
section
variable {dr : Bool} {P:Program} {T:TypeId->TE} {O:Nat->Orc} {ops:Array Oper} {st0:St} {M:Array Nat} {N:Nat} {E:AF} {w0:World} {φ0:Phi} {D:Nat->Bool} {φ:Phi} {a:Act} {w:World}
theorem RI.more (hR:Lb ops M N)(h:RI P T O ops st0 N E w0 φ0 D φ a w){i:Nat}{o:Oper}(ho:ops[i]?=some o){φ':Phi}{w':World}{v:Value}(he:Ext w φ w' φ')
  (hv1:rPc T O ops st0 i=true->V w' (E.up φ') (some φ') (rR T O ops st0 i).val v) (hv2:rPc T O ops st0 i=false->v=undef)
  (hphi:∀ id,φ' id≠none ↔ φ id≠none∨((AR T O ops st0 i).1.nx<=id/\id<(AR T O ops st0 i).1.nx+(rR T O ops st0 i).new.length))
  (hst:∃ m,m<=ops.size/\(∀ (s:Nat) o,ops[s]?=some o->(rR T O ops st0 s).put≠none->(Mr D i s=true ↔ s<m))/\(m<ops.size->(rR T O ops st0 m).put≠none) /\
   HRel E (AR T O ops st0 m).1.H φ' w'/\∀ id,(AR T O ops st0 m).1.nx<=id->φ' id=none) :
  RI P T O ops st0 N E w0 φ0 (Mr D i) φ' (a.put o.dst v) w':=by
 have hd:∀ k,o.dst=some k->k<a.tmps.size:=fun k hk=>by rw[h.sz];exact hR.dst i o k ho hk
 refine⟨?_,?_,h.ext.trans he,h.old.ext he,fun t ht=>?_,fun j oj t hj hD hdj=>?_,fun j oj hj hD jj hjj=>?_,fun id hid=>(hphi id).2 (.inl (h.lv id hid)),fun j oj hj hD jj hjj=>?_,hst⟩
 ·rw[← h.sz];cases o.dst<;>simp[Act.put]
 ·exact⟨(by cases o.dst<;>rfl:(a.put o.dst v).defers=a.defers).trans h.df.1,h.df.2⟩
 ·rw[Mo a _ v t hd,Ak3 (ht i o ho (D7.2 (.inl rfl)))]
  exact(h.out t fun j oj hj hD=>ht j oj hj (D7.2 (.inr hD))).ext he
 ·by_cases hji:j=i
  ·subst hji
   rw[ho]at hj
   simp only[AkP]at hj
   subst hj
   rw[Mo a _ v t hd,Alj hdj]
   exact⟨hv1,hv2⟩
  ·have hDj:D j=true:=(D7.1 hD).resolve_left hji
   have hne:o.dst≠some t:=fun e=>hji (hR.uniq j i oj o t hj ho hdj e)
   rw[Mo a _ v t hd,Ak3 hne]
   obtain⟨h1,h2⟩:=h.inn j oj t hj hDj hdj
   exact⟨fun hp=>(h1 hp).ext he,h2⟩
 ·have hne:j≠i:=by rintro rfl;rw[D7.2 (.inl rfl)]at hD;cases hD
  have hDj:D j=false:=by
   cases hq:D j with
   | false=>rfl
   | true=>rw[D7.2 (.inr hq)]at hD;cases hD
  have hjl:=(AkX.1 hj).1
  have hil:=(AkX.1 ho).1
  apply Alf
  intro hn
  rcases(hphi _).1 hn with h1 | ⟨h1,h2⟩
  ·exact h1 (h.al j oj hj hDj jj hjj)
  ·rcases Alw j i with hlt | hge
   ·have a1:=(Gz (T:=T) (O:=O) (st0:=st0) hj).1
    have a2:=Hr (T:=T) (O:=O) (ops:=ops) (st0:=st0) (j+1) i (by omega) (by omega)
    omega
   ·have a1:=(Gz (T:=T) (O:=O) (st0:=st0) ho).1
    have a2:=Hr (T:=T) (O:=O) (ops:=ops) (st0:=st0) (i+1) j (by omega) (by omega)
    omega
 ·rcases D7.1 hD with rfl | hDj
  ·exact(hphi _).2 (.inr ⟨by omega,by omega⟩)
  ·exact(hphi _).2 (.inl (h.nw j oj hj hDj jj hjj))
theorem RI.live (h:RI P T O ops st0 N E w0 φ0 D φ a w){i:Nat}(hi:i<=ops.size)(hD:∀ s o,s<i->ops[s]?=some o->NX (AR T O ops st0 s).1 o.op=true->D s=true):∀ id,id<(AR T O ops st0 i).1.nx->φ id≠none:=by
 induction i with
 | zero=>exact fun id hid=>h.lv id hid
 | succ i ih =>
  intro id hid
  have ho:ops[i]?=some (ops[i]'(by omega)):=by simp[show i<ops.size by omega]
  have e:=(Gz (T:=T) (O:=O) (st0:=st0) ho).1
  rcases Alw id (AR T O ops st0 i).1.nx with hlt | hge
  ·exact ih (by omega) (fun s o hs=>hD s o (by omega)) id hlt
  ·have hl:NX (AR T O ops st0 i).1 (ops[i]'(by omega)).op=true:=by
    have hr:rR T O ops st0 i=vop T (O i) (AR T O ops st0 i).1 (ops[i]'(by omega)).op:=by simp only[rR,ho]
    refine Ag8 (T:=T) (O:=O i) (st:=(AR T O ops st0 i).1) (.inl ?_)
    rw[← hr];omega
   have:=h.nw i _ ho (hD i _ (by omega) ho hl) (id - (AR T O ops st0 i).1.nx) (by omega)
   rw[show(AR T O ops st0 i).1.nx+(id - (AR T O ops st0 i).1.nx)=id by omega]at this
   exact this
theorem Ta : ∀ (n k:Nat),k+n=ops.size->∃ m',k<=m'/\m'<=ops.size/\(∀ s,k<=s->s<m'->(rR T O ops st0 s).put=none)/\(m'<ops.size->(rR T O ops st0 m').put≠none)
 | 0,k,hk=>⟨k,AkU _,by omega,fun s h1 h2=>by omega,fun h=>by omega⟩
 | n+1,k,hk=>by
  by_cases hq:(rR T O ops st0 k).put=none
  ·obtain⟨m',a1,a2,a3,a4⟩:=Ta n (k+1) (by omega)
   refine⟨m',by omega,a2,fun s h1 h2=>?_,a4⟩
   by_cases hsk:s=k
   ·subst hsk;exact hq
   ·exact a3 s (by omega) h2
  ·exact⟨k,AkU _,by omega,fun s h1 h2=>by omega,fun _=>hq⟩
theorem RI.step (hT:TOk P T)(hO:∀ i,Jf P (O i))(hR:Lb ops (Region.before ops) N)(hG:∀ (j:Nat) o,ops[j]?=some o->Hl dr T O ops st0 j o)(hcl:NI ops D)(h:RI P T O ops st0 N E w0 φ0 D φ a w){i:Nat}{o:Oper}(ho:ops[i]?=some o)(hi:D i=false)
  (hdeps:∀ e∈o.after,Region.binds .any e=true->D e.on=true) (hsq:dr=false->∀ s,s<ops.size->(D s=true ↔ s<i)) {K:Act->World->Prop} {Q:Exit->Act->World->Prop} (hK:∀ φ' a' w',RI P T O ops st0 N E w0 φ0 (Mr D i) φ' a' w'->K a' w'):wpOp P ops Q i K a w:=by
 have hil:=(AkX.1 ho).1
 have hwant:=Aas hR hG hcl h ho hdeps
 have hr:rR T O ops st0 i=vop T (O i) (AR T O ops st0 i).1 o.op:=by simp only[rR,ho]
 unfold wpOp
 simp only[ho]
 rw[hwant]
 obtain⟨m,hm,hput,hmp,hH,hfr⟩:=h.st
 have stay:(rR T O ops st0 i).put=none->∀ (s:Nat) o',ops[s]?=some o'->(rR T O ops st0 s).put≠none->(Mr D i s=true ↔ s<m):=fun hnp s o' hs hp=>by
  rw[D7]
  constructor
  ·rintro(rfl | hD)
   ·exact absurd hnp hp
   ·exact(hput s o' hs hp).1 hD
  ·intro hlt;exact .inr ((hput s o' hs hp).2 hlt)
 have still:(rR T O ops st0 i).new=[]->∀ id,φ id≠none ↔ φ id≠none∨((AR T O ops st0 i).1.nx<=id/\id<(AR T O ops st0 i).1.nx+(rR T O ops st0 i).new.length):=fun hn id=>by
  rw[hn]
  exact⟨.inl,fun h=>h.resolve_right (by simp only[AlK];omega)⟩
 cases hpc:rPc T O ops st0 i with
 | false =>
  simp only[Amw,if_false]
  have hg:o.guard≠none:=fun e=>by rw[OC hG ho e]at hpc;cases hpc
  obtain⟨hnn,hnp⟩:=(hG i o ho).plain hg
  exact hK φ _ _ (h.more hR ho (Ext.refl _ _) (fun e=>by rw[hpc]at e;cases e) (fun _=>rfl) (still hnn) ⟨m,hm,stay hnp,hmp,hH,hfr⟩)
 | true =>
  simp only[if_true]
  refine .inl ?_
  have hchk:=(hG i o ho).chk hpc
  have hreads:∀ (H:Nat->Ob),AfK w E φ { (AR T O ops st0 i).1 with H:=H } a o.op:=by
   intro H
   have hgi:∀ j,j<ops.size->ME ops ops.size i j=true->rPc T O ops st0 j=true:=fun j hj hg=>ZB hR hG _ i j hil hj hg hpc
   have hval:∀ y,St.val { (AR T O ops st0 i).1 with H:=H } y=(AR T O ops st0 i).1.val y:=by intro y;cases y<;>rfl
   by_cases hpk:∃ c x y,o.op=.pick c x y
   ·obtain⟨c,x,y,e⟩:=hpk
    obtain⟨r1,r2,r3⟩:=hR.pick i o c x y ho e
    rw[e]
    have hc:=Oy hR hcl h ho hi hdeps r1 hgi
    have hpick:∀ (want:Bool) j,a.eval c=.bool want->j<ops.size->(ME ops ops.size i j||pickOk ops ops.size i c want j)=true->rPc T O ops st0 j=true:=by
     intro want j hev hj hq
     rw[AlV]at hq
     rcases hq with hq | hq
     ·exact hgi j hj hq
     ·unfold pickOk at hq
      split at hq
      ·rename_i k w' t hgj
       simp only[AkO]at hq
       obtain⟨⟨⟨q1,q2⟩,q3⟩,q4⟩:=hq
       have hw':w'=want:=by simpa using q1
       subst hw'
       have hoj:ops[j]?=some (ops[j]'hj):=by simp[hj]
       rw[hoj,Amj]at hgj
       obtain⟨ok,d,b,h1,h2,h3,h4,h5⟩:=OB hR hG hoj hgj
       rw[h1,Amj,h2]at q2
       have hdt:d=t:=by simpa using q2
       subst hdt
       have hki:=Ak7 q4
       have hpk:=hgi k (by omega) q3
       have hv:(AR T O ops st0 i).1.val (.tmp d)=.sc (.bool b):=by
        show(AR T O ops st0 i).1.t d=_
        rw[Jz h1 h2 i (by omega) hki (fun k' o' _ hne' ho' hd'=>hne' (hR.uniq k' k o' ok d ho' h1 hd' h2))]
        exact h3
       rw[hv]at hc
       have hb:=hc.sc_inv
       rw[hev]at hb
       simp only[Value.bool.injEq]at hb
       rw[h5,hpk,hb]
       simp
      ·cases hq
    refine⟨by rw[hval];exact hc,fun hev=>?_,fun hev=>?_⟩
    ·rw[hval];exact Oy hR hcl h ho hi hdeps r2 fun j hj hq=>hpick true j hev hj hq
    ·rw[hval];exact Oy hR hcl h ho hi hdeps r3 fun j hj hq=>hpick false j hev hj hq
   ·have hnp:∀ c x y,o.op≠.pick c x y:=fun c x y e=>hpk ⟨c,x,y,e⟩
    have hall:∀ y∈o.op.operands.toList,V w (E.up φ) (some φ) (St.val { (AR T O ops st0 i).1 with H:=H } y) (a.eval y):=by
     intro y hy
     rw[hval]
     exact Oy hR hcl h ho hi hdeps (hR.reads i o ho hnp y hy) hgi
    cases hop:o.op<;>first | (rw[hop]at hall;exact hall) | exact absurd hop (hnp _ _ _)
  cases hl:Du (AR T O ops st0 i).1 o.op with
  | false =>
   obtain⟨hnn,hnp⟩:=RA (T:=T) (O:=O i) (st:=(AR T O ops st0 i).1) hl
   rw[← hr]at hnn hnp
   have hvop:vop T (O i) { (AR T O ops st0 i).1 with H:=(AR T O ops st0 m).1.H } o.op=rR T O ops st0 i:=by rw[Agt hl,hr]
   have hok:=WC (st:={ (AR T O ops st0 i).1 with H:=(AR T O ops st0 m).1.H }) hT (hO i) hH (fun _ _=>rfl) h.old (hreads _) (by rw[hvop];exact hchk)
   rw[hvop]at hok
   rcases hok with⟨_,hq⟩ | ⟨H',h1,_⟩
   ·refine hq (fun j hj=>by rw[hnn]at hj;simp at hj) _ _ fun v w' pls hn hV=>?_
    have hpl:pls=[]:=Alp (by rw[hn.len,hnn];rfl)
    subst hpl
    rw[F9]at hV
    exact hK φ _ _ (h.more hR ho (Ext.of_below hn.below) (fun _=>hV) (fun e=>by rw[hpc]at e;cases e) (still hnn) ⟨m,hm,stay hnp,hmp,hH.below hn.below,hfr⟩)
   ·rw[hnp]at h1;cases h1
  | true =>
  cases hso:CH (AR T O ops st0 i).1 o.op with
  | some id =>
   obtain⟨hnn,hnp⟩:=Uz (T:=T) (O:=O i) hso
   rw[← hr]at hnn hnp
   have hid:φ id≠none/\id<(AR T O ops st0 i).1.nx:=by
    obtain⟨t,x,hop,hlt,hv⟩:=M0 hso
    refine⟨?_,hlt⟩
    have hx:=hreads (AR T O ops st0 i).1.H
    rw[hop]at hx
    have hx':V w (E.up φ) (some φ) ((AR T O ops st0 i).1.val x) (a.eval x):=hx x (by simp[Op.operands])
    rcases hv with⟨off,hv⟩ | ⟨g,sz,j,off,hv⟩
    ·rw[hv]at hx'
     obtain⟨b,hb,_⟩:=hx'.bp_inv
     rw[hb];simp
    ·rw[hv]at hx'
     obtain⟨c,len,hd,b,hb,_⟩:=hx'.ep_inv
     rw[hb];simp
   have hidm:id<(AR T O ops st0 m).1.nx:=by
    rcases Alw id (AR T O ops st0 m).1.nx with h' | h'
    ·exact h'
    ·exact absurd (hfr id h') hid.1
   have hsame:(AR T O ops st0 m).1.H id=(AR T O ops st0 i).1.H id:=by
    rcases Nat.le_total i m with him | hmi
    ·refine PK i m him hm hid.2 fun s os hs1 hs2 hs=>?_
     by_cases hq:(rR T O ops st0 s).put=none
     ·exact .inl hq
     ·have hDs:=(hput s os hs hq).2 hs2
      have hsi:s≠i:=by rintro rfl;exact hq hnp
      have hsl:=(AkX.1 hs).1
      cases hdr:dr with
      | false=>have:=(hsq hdr s hsl).1 hDs;omega
      | true =>
       rcases UT hdr hG hs hq ho hl hso with h' | ⟨h',_⟩
       ·exact .inr h'
       ·have hb:=h' (by omega)
        have:=DE hR hcl s os i hs (fun e he hb'=>hcl s os e hs hDs he hb') hil hb
        rw[hi]at this;cases this
    ·refine(PK m i hmi (Nat.le_of_lt hil) hidm fun s os hs1 hs2 hs=>?_).symm
     by_cases hq:(rR T O ops st0 s).put=none
     ·exact .inl hq
     ·have hDs:¬ D s=true:=fun hD=>by have:=(hput s os hs hq).1 hD;omega
      have hsl:=(AkX.1 hs).1
      cases hdr:dr with
      | false=>exact absurd ((hsq hdr s hsl).2 hs2) hDs
      | true =>
       rcases UT hdr hG hs hq ho hl hso with h' | ⟨_,h'⟩
       ·exact .inr h'
       ·exact absurd (DE hR hcl i o s ho hdeps hsl (h' hs2)) hDs
   have hvop:vop T (O i) { (AR T O ops st0 i).1 with H:=(AR T O ops st0 m).1.H } o.op=rR T O ops st0 i:=by rw[Aie hso hsame,hr]
   have hok:=WC (st:={ (AR T O ops st0 i).1 with H:=(AR T O ops st0 m).1.H }) hT (hO i) hH (fun _ _=>rfl) h.old (hreads _) (by rw[hvop];exact hchk)
   rw[hvop]at hok
   rcases hok with⟨_,hq⟩ | ⟨H',h1,_⟩
   ·refine hq (fun j hj=>by rw[hnn]at hj;simp at hj) _ _ fun v w' pls hn hV=>?_
    have hpl:pls=[]:=Alp (by rw[hn.len,hnn];rfl)
    subst hpl
    rw[F9]at hV
    exact hK φ _ _ (h.more hR ho (Ext.of_below hn.below) (fun _=>hV) (fun e=>by rw[hpc]at e;cases e) (still hnn) ⟨m,hm,stay hnp,hmp,hH.below hn.below,hfr⟩)
   ·rw[hnp]at h1;cases h1
  | none =>
   have hhd:NX (AR T O ops st0 i).1 o.op=true:=by unfold NX;rw[hl,hso];rfl
   have him:i<=m:=by
    rcases Alw m i with hlt | hge
    ·exfalso
     have hml:m<ops.size:=by omega
     have hom:ops[m]?=some (ops[m]'hml):=by simp[hml]
     have hpm:=hmp hml
     have:D m=true:=by
      cases hdr:dr with
      | false=>exact(hsq hdr m hml).2 hlt
      | true=>exact DE hR hcl i o m ho hdeps (by omega) ((Xx hdr hG hom hpm ho hhd).2 hlt)
     have:=(hput m _ hom hpm).1 this
     omega
    ·exact hge
   have hnop:(rR T O ops st0 i).put=none->∀ s o',i<=s->s<m->ops[s]?=some o'->(rR T O ops st0 s).put=none:=by
    intro hip s o' hs1 hs2 hs
    apply Alf
    intro hq
    have hDs:=(hput s o' hs hq).2 hs2
    by_cases hsi:s=i
    ·subst hsi;exact hq hip
    ·cases hdr:dr with
     | false=>have:=(hsq hdr s (by omega)).1 hDs;omega
     | true =>
      have hb:=(Xx hdr hG hs hq ho hhd).1 (by omega)
      have:=DE hR hcl s o' i hs (fun e he hb'=>hcl s o' e hs hDs he hb') hil hb
      rw[hi]at this;cases this
   have key:∀ {Hc:Nat->Ob},HRel E Hc φ w->(∀ id,id<(AR T O ops st0 i).1.nx->Hc id=(AR T O ops st0 i).1.H id)->_:=fun{Hc} hHc hk =>
    WC (st:=(AR T O ops st0 i).1) (o:=o) (a:=a) (Hc:=Hc) hT (hO i) hHc hk h.old (hreads _) (by rw[← hr];exact hchk)
   by_cases hip:(rR T O ops st0 i).put=none
   ·have hnop':=hnop hip
    have hkeep:=Kx (T:=T) (O:=O) (st0:=st0) i m him hm hnop'
    have hok:=key hH hkeep
    rw[← hr]at hok
    rcases hok with⟨_,hq⟩ | ⟨H',h1,_⟩
    ·have hal:=h.al i o ho hi
     refine hq hal _ _ fun v w' pls hn hV=>?_
     have hext:=hn.ext hal
     have hphi:∀ id,addP φ (AR T O ops st0 i).1.nx pls id≠none ↔ φ id≠none∨((AR T O ops st0 i).1.nx<=id/\id<(AR T O ops st0 i).1.nx+(rR T O ops st0 i).new.length):=by
      intro id
      rw[← hn.len]
      by_cases hc:(AR T O ops st0 i).1.nx<=id/\id<(AR T O ops st0 i).1.nx+pls.length
      ·refine⟨fun _=>.inr hc,fun _=>?_⟩
       unfold addP
       rw[Alj hc,Ak1 (by omega)]
       simp
      ·unfold addP
       rw[Ak3 hc]
       exact⟨.inl,fun h=>h.resolve_right hc⟩
     have him1:i+1<=m:=by
      rcases Alw i m with hlt | hge
      ·exact hlt
      ·exfalso
       obtain rfl:i=m:=by omega
       exact hmp hil hip
     have n4:=Kx (T:=T) (O:=O) (st0:=st0) (i+1) m him1 hm (fun s o' hs1 hs2 hs=>hnop' s o' (by omega) hs2 hs)
     have n5:=Hr (T:=T) (O:=O) (ops:=ops) (st0:=st0) (i+1) m him1 hm
     have n6:=(Gz (T:=T) (O:=O) (st0:=st0) ho).1
     refine hK _ _ _ (h.more hR ho hext (fun _=>hV) (fun e=>by rw[hpc]at e;cases e) hphi ⟨m,hm,stay hip,hmp,hH.news h.old.lt hn hal (fun _ _=>rfl) (fun j ob hj=>?_),fun k hk=>?_⟩)
     ·have hjl:=(AkR.1 hj).1
      rw[n4 _ (by omega)]
      exact Ad9 ho hj
     ·rw[DC (.inr (by rw[hn.len];omega))]
      exact hfr k (by omega)
    ·rw[hip]at h1;cases h1
   ·
    have hmi:m=i:=by
     rcases Alw i m with hlt | hge
     ·have:=(hput i o ho hip).2 hlt;rw[hi]at this;cases this
     ·omega
    subst hmi
    have hok:=key hH (fun _ _=>rfl)
    rw[← hr]at hok
    rcases hok with⟨h1,_⟩ | ⟨H',h1,hq⟩
    ·exact absurd h1 hip
    have hlive:=h.live hm (fun s o' hs hos hl'=>by
     cases hdr:dr with
     | false=>exact(hsq hdr s (by omega)).2 hs
     | true =>
      have:=(Xx hdr hG ho hip hos hl').1 hs
      exact DE hR hcl m o s ho hdeps (by omega) this)
    obtain⟨m',hm1,hm2,hm3,hm4⟩:∃ m',m<m'/\m'<=ops.size/\(∀ s,m<s->s<m'->(rR T O ops st0 s).put=none)/\(m'<ops.size->(rR T O ops st0 m').put≠none):=by
     obtain⟨m',a1,a2,a3,a4⟩:=Ta (T:=T) (O:=O) (ops:=ops) (st0:=st0) (ops.size - (m+1)) (m+1) (by omega)
     exact⟨m',by omega,a2,fun s h1 h2=>a3 s (by omega) h2,a4⟩
    have n4:=Kx (T:=T) (O:=O) (st0:=st0) (m+1) m' hm1 hm2 (fun s o' hs1 hs2 hs=>hm3 s (by omega) hs2)
    have n5:=Hr (T:=T) (O:=O) (ops:=ops) (st0:=st0) (m+1) m' hm1 hm2
    obtain⟨n6,n7⟩:=Gz (T:=T) (O:=O) (st0:=st0) ho
    have hbase:(rR T O ops st0 m).base (AR T O ops st0 m).1=H':=by unfold Res.base;rw[h1]
    rw[hbase]at n7
    refine hq hfr hlive hH _ _ fun v w' φ' g1 g2 g3 g4=>?_
    have hin:∀ k,φ' k≠none->k<(AR T O ops st0 (m+1)).1.nx:=by
     intro k hk
     rcases(g3 k).1 hk with h' | h'
     ·rcases Alw k (AR T O ops st0 m).1.nx with h'' | h''
      ·omega
      ·exact absurd (hfr k h'') h'
     ·omega
    refine hK _ _ _ (h.more hR ho g2 (fun _=>g4) (fun e=>absurd e (by rw[hpc];simp)) g3 ⟨m',hm2,fun s o' hs' hp=>?_,hm4,g1.congr fun k hk=>?_,fun k hk=>?_⟩)
    ·rw[D7]
     constructor
     ·rintro(rfl | hD)
      ·exact hm1
      ·have:=(hput s o' hs' hp).1 hD;omega
     ·intro hlt
      by_cases hsm:s=m
      ·exact .inl hsm
      ·rcases Alw s m with h' | h'
       ·exact .inr ((hput s o' hs' hp).2 h')
       ·exact absurd (hm3 s (by omega) hlt) hp
    ·rw[n4 k (hin k hk),n7]
    ·apply Alf
     intro hk'
     have:=hin k hk'
     omega
end
end
section
structure Rel (N:Nat) (E:AF) (st:St) (φ:Phi) (a:Act) (w:World):Prop where
 sz:a.tmps.size=N
 df:a.defers=E.ds/\QQ E E.ds w
 old:Old E φ w
 tm:∀ t,V w (E.up φ) (some φ) (st.t t) (a.tmps.getD t undef)
 hp:HRel E st.H φ w
 fr:∀ id,st.nx<=id->φ id=none
 lv:∀ id,id<st.nx->φ id≠none
def Aci (ops:Array Oper):List Nat:=ops.toList.filterMap fun o=>bif o.guard.isSome then o.dst else none
def clr (ops:Array Oper)(st:St):St :=
 match Aci ops with
 | []=>st
 | l=>{ st with t:=fun i=>bif l.any (Nat.beq i) then .dead else st.t i }
theorem Rel.drew {N:Nat}{E:AF}{st:St}{φ:Phi}{a:Act}{w:World}(h:Rel N E st φ a w):Rel N E st φ a { w with drawn:=w.drawn+1 }/\Ext w φ { w with drawn:=w.drawn+1 } φ:=by
 have he:Ext w φ { w with drawn:=w.drawn+1 } φ:=⟨rfl,rfl,rfl,AkU _,fun _ _ _=>rfl,Hy.refl φ,fun _ h=>.inl h⟩
 exact⟨⟨h.sz,⟨h.df.1,h.df.2.ext h.hp.free he⟩,h.old.ext he,fun t=>(h.tm t).ext he,h.hp.same he fun _ _=>rfl,h.fr,h.lv⟩,he⟩
theorem R8 {p q:Nat->Bool}(hpq:∀ x,q x=true->p x=true){i:Nat}(hp:p i=true)(hq:q i=false):∀ (l:List Nat),i∈l->l.countP q<l.countP p
 | [],h=>by simp at h
 | x::l,h=>by
  have hle:l.countP q<=l.countP p:=List.countP_mono_left fun x _=>hpq x
  rcases AlC.1 h with rfl | h
  ·rw[Am8 (by simp[hq]),AmK hp];omega
  ·have ih:=R8 hpq hp hq l h
   cases hx:q x with
   | true=>rw[AmK hx,AmK (hpq x hx)];omega
   | false =>
    rw[Am8 (by simp[hx])]
    cases hx':p x with
    | true=>rw[AmK hx'];omega
    | false=>rw[Am8 (by simp[hx'])];exact ih
section
variable {dr : Bool} {P:Program} {T:TypeId->TE} {O:Nat->Orc} {ops:Array Oper} {st0:St} {N:Nat} {E:AF} {w0:World} {φ0:Phi} {M:Array Nat}
theorem RI.start {a:Act}(h:Rel N E st0 φ0 a w0):RI P T O ops st0 N E w0 φ0 (fun _=>false) φ0 a w0:=by
 obtain⟨m,_,a2,a3,a4⟩:=Ta (T:=T) (O:=O) (ops:=ops) (st0:=st0) ops.size 0 (by omega)
 have n3:=Hr (T:=T) (O:=O) (ops:=ops) (st0:=st0) 0 m (AkV _) a2
 have n4:=Kx (T:=T) (O:=O) (ops:=ops) (st0:=st0) 0 m (AkV _) a2 (fun s o' hs1 hs2 hs=>a3 s (by omega) hs2)
 refine⟨h.sz,⟨h.df.1,fun _ _ e=>h.df.2.ext h.hp.free e⟩,Ext.refl _ _,h.old,fun t _=>h.tm t,fun i o t _ hD=>by (simp at hD),fun i o ho _ j hj=>?_,h.lv,fun i o _ hD=>by (simp at hD),m,a2,fun s o ho hp=>?_,a4,?_,fun id hid=>h.fr id (Alg n3 hid)⟩
 ·have n5:=Hr (T:=T) (O:=O) (ops:=ops) (st0:=st0) 0 i (AkV _) (Nat.le_of_lt (AkX.1 ho).1)
  exact h.fr _ (Alg n5 (AlJ _ _))
 ·constructor
  ·intro h;simp at h
  ·intro hlt;exact absurd (a3 s (by omega) hlt) hp
 ·refine h.hp.congr fun k hk=>n4 k ?_
  rcases Alw k st0.nx with h' | h'
  ·exact h'
  ·exact absurd (h.fr k h') hk
theorem RI.finish (hR:Lb ops M N)(hG:∀ (j:Nat) o,ops[j]?=some o->Hl dr T O ops st0 j o){D:Nat->Bool}(hD:∀ i,i<ops.size->D i=true){φ:Phi}{a:Act}{w:World}(h:RI P T O ops st0 N E w0 φ0 D φ a w) :
  Rel N E (clr ops (AR T O ops st0 ops.size).1) φ a w:=by
 obtain⟨m,hm,hput,hmp,hH,hfr⟩:=h.st
 have hmn:m=ops.size:=by
  rcases Alw m ops.size with hlt | hge
  ·have ho:ops[m]?=some (ops[m]'hlt):=by simp[hlt]
   have:=(hput m _ ho (hmp hlt)).1 (hD m hlt)
   omega
  ·omega
 subst hmn
 have hclr:(clr ops (AR T O ops st0 ops.size).1).H=(AR T O ops st0 ops.size).1.H/\(clr ops (AR T O ops st0 ops.size).1).nx=(AR T O ops st0 ops.size).1.nx:=by unfold clr;split<;>exact⟨rfl,rfl⟩
 have htm:∀ t,(∀ (i:Nat) o,ops[i]?=some o->o.dst=some t->o.guard=none)->V w (E.up φ) (some φ) ((AR T O ops st0 ops.size).1.t t) (a.tmps.getD t undef):=by
  intro t ht
  by_cases hex:∃ (i:Nat) (o:Oper),ops[i]?=some o/\o.dst=some t
  ·obtain⟨i,o,ho,hd⟩:=hex
   have hil:=(AkX.1 ho).1
   rw[Jz ho hd _ (AkU _) hil (fun k o' _ hne ho' hd'=>hne (hR.uniq k i o' o t ho' ho hd' hd))]
   exact(h.inn i o t ho (hD i hil) hd).1 (OC hG ho (ht i o ho hd))
  ·rw[Mj _ (AkU _) (fun i (o:Oper) _ ho hd=>hex ⟨i,o,ho,hd⟩)]
   exact h.out t fun i o ho _ hd=>hex ⟨i,o,ho,hd⟩
 refine⟨h.sz,⟨h.df.1,h.df.2 _ _ h.ext⟩,h.old,fun t=>?_,by rw[hclr.1];exact hH,by rw[hclr.2];exact hfr,by rw[hclr.2];exact h.live (AkU _) fun s o hs _ _=>hD s hs⟩
 have hno:(Aci ops).any (Nat.beq t)=false->V w (E.up φ) (some φ) ((AR T O ops st0 ops.size).1.t t) (a.tmps.getD t undef):=by
  intro hno
  refine htm t fun i o ho hd=>?_
  cases hg:o.guard with
  | none=>rfl
  | some g =>
   exfalso
   have hmem:t∈Aci ops:=by
    unfold Aci
    rw[List.mem_filterMap]
    exact⟨o,by have:=Array.mem_of_getElem? ho;simpa using this,by simp[hg,hd]⟩
   have:=List.any_eq_false.1 hno t hmem
   simp at this
 unfold clr
 split
 ·rename_i hl;exact hno (by rw[hl];rfl)
 ·show V w _ _ (bif (Aci ops).any (Nat.beq t) then VV.dead else _) _
  cases hq:(Aci ops).any (Nat.beq t) with
  | true=>exact .dead
  | false=>exact hno hq
theorem AfE (hdr:dr=true)(hT:TOk P T)(hO:∀ i,Jf P (O i))(hR:Lb ops (Region.before ops) N)(hG:∀ (j:Nat) o,ops[j]?=some o->Hl dr T O ops st0 j o){Q:Exit->Act->World->Prop}
  (hQ:∀ D φ a w,(∀ i,i<ops.size->D i=true)->RI P T O ops st0 N E w0 φ0 D φ a w->Q .normal a w) :
  ∀ (fuel:Nat) (listed:Array Bool) (φ:Phi) (a:Act) (w:World),listed.size=ops.size->NI ops (fun i=>listed.getD i false)->(List.range ops.size).countP (fun i=>!listed.getD i false)<=fuel ->
   RI P T O ops st0 N E w0 φ0 (fun i=>listed.getD i false) φ a w->wpAny P .any ops Q fuel listed a w:=by
 have hnil:∀ (listed:Array Bool),listed.size=ops.size->Region.ready .any ops listed=[]->∀ i,i<ops.size->listed.getD i false=true:=by
  intro listed hs hr i
  induction i using Nat.strongRecOn with
  | _ i ih =>
   intro hi
   cases hq:listed.getD i false with
   | true=>rfl
   | false =>
    exfalso
    have ho:ops[i]?=some (ops[i]'hi):=by simp[hi]
    have hil:i<listed.size:=by omega
    have:i∈Region.ready .any ops listed:=mem_ready.2 ⟨by simp[Array.getD,hil]at hq ⊢;exact hq,_,ho,fun e he hb=>ih e.on (hR.low i _ e ho he hb) (by have:=hR.low i _ e ho he hb;omega)⟩
    rw[hr]at this
    simp at this
 intro fuel
 induction fuel with
 | zero =>
  intro listed φ a w hs hcl hc h
  have hall:∀ i,i<ops.size->listed.getD i false=true:=by
   intro i hi
   have:=List.countP_eq_zero.1 (Nat.le_zero.1 hc) i (AlD.2 hi)
   simpa using this
  refine⟨?_,hQ _ φ a w hall h⟩
  rw[List.eq_nil_iff_forall_not_mem]
  intro j hj
  obtain⟨h0,o,ho,_⟩:=mem_ready.1 hj
  have hjl:j<listed.size:=by rw[hs];exact(AkX.1 ho).1
  have:=hall j (by omega)
  simp[Array.getD,hjl]at h0 this
  rw[h0]at this
  simp at this
 | succ fuel ih =>
  intro listed φ a w hs hcl hc h
  refine⟨fun hr=>hQ _ φ a w (hnil listed hs hr) h,fun i hi=>?_⟩
  obtain⟨h0,o,ho,hdeps⟩:=mem_ready.1 hi
  have hil:i<ops.size:=(AkX.1 ho).1
  have hif:listed.getD i false=false:=by
   have:i<listed.size:=by omega
   simp[Array.getD,this]at h0 ⊢;exact h0
  have hplus:(fun j=>(listed.setIfInBounds i true).getD j false)=Mr (fun j=>listed.getD j false) i:=by
   funext j
   simp only[Mr]
   by_cases hji:j=i
   ·subst hji;simp[Array.getD,show j<listed.size by omega]
   ·rw[getD_set_ne false (Ne.symm hji)];simp[hji]
  refine h.step hT hO hR hG hcl ho hif hdeps (fun e=>by rw[hdr]at e;cases e) fun φ' a' w' h'=>ih _ φ' a' w' (by simpa using hs) ?_ ?_ (by rw[hplus];exact h')
  ·rw[hplus]
   intro k ok e hk hD he hb
   rcases D7.1 hD with rfl | hD
   ·rw[ho]at hk
    simp only[AkP]at hk
    subst hk
    exact D7.2 (.inr (hdeps e he hb))
   ·exact D7.2 (.inr (hcl k ok e hk hD he hb))
  ·have hlt:=R8 (p:=fun j=>!listed.getD j false) (q:=fun j=>!(listed.setIfInBounds i true).getD j false) (fun x hx=>by
    have e:(listed.setIfInBounds i true).getD x false=Mr (fun j=>listed.getD j false) i x:=congrFun hplus x
    simp only[e,Mr,Bool.not_or,AkO]at hx
    exact hx.2) (i:=i) (by simp only[hif,Bool.not_false]) (by
     have e:(listed.setIfInBounds i true).getD i false=Mr (fun j=>listed.getD j false) i i:=congrFun hplus i
     simp only[e,Mr,AmW,Bool.true_or,Amy]) (List.range ops.size) (AlD.2 hil)
   omega
theorem Nc (hT:TOk P T)(hO:∀ i,Jf P (O i))(hR:Lb ops (Region.before ops) N)(hG:∀ (j:Nat) o,ops[j]?=some o->Hl dr T O ops st0 j o){Q:Exit->Act->World->Prop}
  (hQ:∀ D φ a w,(∀ i,i<ops.size->D i=true)->RI P T O ops st0 N E w0 φ0 D φ a w->Q .normal a w) :
  ∀ (n k:Nat) (φ:Phi) (a:Act) (w:World),k+n=ops.size->RI P T O ops st0 N E w0 φ0 (fun i=>decide (i<k)) φ a w->wpOps P ops Q (List.range' k n) a w
 | 0,k,φ,a,w,hk,h=>hQ _ φ a w (fun i hi=>by simp;omega) h
 | n+1,k,φ,a,w,hk,h=>by
  rw[List.range'_succ,wpOps_cons]
  have ho:ops[k]?=some (ops[k]'(by omega)):=by simp[show k<ops.size by omega]
  have hcl:NI ops (fun i=>decide (i<k)):=by
   intro i o e hi hD he hb
   have:=hR.low i o e hi he hb
   simp at hD ⊢;omega
  refine h.step hT hO hR hG hcl ho (by simp) (fun e he hb=>by have:=hR.low k _ e ho he hb;simpa using this) (fun _ s _=>by simp) fun φ' a' w' h'=>Nc hT hO hR hG hQ n (k+1) φ' a' w' (by omega) ?_
  have e:(fun i=>decide (i<k+1))=Mr (fun i=>decide (i<k)) k:=by
   funext i
   simp only[Mr]
   by_cases hik:i=k
   ·subst hik;simp
   ·have:(i<k+1) ↔ i<k:=by omega
    simp[this,hik]
  rw[e];exact h'
theorem Abo (hT:TOk P T)(hO:∀ i,Jf P (O i))(hmx:P.follows .mixedOrders=true)(hB:Jh ops N=true){K:St->Prop}{id:Nat}{draw:Bool}{a:Act}(h:LS T O draw ops 0 ops.toList st0 [] [] fun st'=>K (clr ops st'))(hrel:Rel N E st0 φ0 a w0) :
  (Code.region id ops draw).wp P (fun e a' w'=>e=.normal/\∃ st' φ',K st'/\Rel N E st' φ' a' w'/\Ext w0 φ0 w' φ') a w0:=by
 have hR:=JC hB
 obtain⟨hG',hK⟩:=GH (T:=T) (O:=O) (st0:=st0) ops.toList 0 (by simp) (AkV _) h
 have hG:∀ (j:Nat) o,ops[j]?=some o->Hl draw T O ops st0 j o:=fun j o=>hG' j o (AkV _)
 cases draw with
 | false =>
  refine wp_region ?_
  rw[AmY]
  refine Nc hT hO hR hG (fun D φ a w hD hI=>⟨rfl,_,φ,hK,hI.finish hR hG hD,hI.ext⟩) ops.size 0 φ0 a w0 (by omega) ?_
  have e:(fun i=>decide (i<0))=fun _=>false:=by funext i;simp
  rw[e];exact RI.start hrel
 | true =>
  obtain⟨hrel',hext⟩:=hrel.drew
  refine wp_region_any hmx ?_
  refine AfE rfl hT hO hR hG (w0:={ w0 with drawn:=w0.drawn+1 }) (φ0:=φ0) (fun D φ a w hD hI=>⟨rfl,_,φ,hK,hI.finish hR hG hD,hext.trans hI.ext⟩) ops.size _ φ0 a _ (by simp) ?_ ?_ ?_
  ·intro i o e hi hD
   have h0:(Array.replicate ops.size false).getD i false=false:=by simp[Array.getD]
   exact absurd (h0.symm.trans hD) (by simp)
  ·have:=List.countP_le_length (p:=fun i=>!(Array.replicate ops.size false).getD i false) (l:=List.range ops.size)
   simpa using this
  ·have e:(fun i=>(Array.replicate ops.size false).getD i false)=fun _=>false:=by funext i;simp[Array.getD]
   rw[e];exact RI.start hrel'
end
structure Shp where
 α:Type
 enc:α->List Ob × VV
 lend:Bool:=false
abbrev Shs:=FuncId->Shp
def Shs.ld (Sh:Shs):FuncId->Bool:=fun f=>(Sh f).lend
def GY (ld:FuncId->Bool)(g:Bool):Orc:=⟨ld,fun _ _ _=>(([],.dead),[False]),g⟩
theorem PZ (ld:FuncId->Bool)(g:Bool):(GY ld g).lend=ld:=rfl
def Ho (P:Program)(T:TypeId->TE)(Sh:Shs)(dr:Bool)(ops:Array Oper):Nat->List Oper->St->List Bool->List Fl->(St->Prop)->Prop
 | _,[],st,_,_,K=>K st
 | k,o::rest,st,pcs,fl,K =>
  match Lg ops st pcs o with
  | none=>False
  | some pc =>
   match Kj Sh.ld st o.op,o.guard with
   | some q,none=>∃ y:(Sh q.1).α,Aj P q.1 q.2.2.1 q.2.2.2 ((Sh q.1).enc y).1 ((Sh q.1).enc y).2 /\
     (bif Jd dr ops fl k ((DO st (Sh.ld q.1) q.2.1 ((Sh q.1).enc y).1 ((Sh q.1).enc y).2).flag (Du st o.op) (CH st o.op) (EU Sh.ld st o.op)) then
      AcI (DO st (Sh.ld q.1) q.2.1 ((Sh q.1).enc y).1 ((Sh q.1).enc y).2).chk
       (Ho P T Sh dr ops (k+1) rest (st.after o (DO st (Sh.ld q.1) q.2.1 ((Sh q.1).enc y).1 ((Sh q.1).enc y).2)) (pcs++[pc]) (fl++[(DO st (Sh.ld q.1) q.2.1 ((Sh q.1).enc y).1 ((Sh q.1).enc y).2).flag (Du st o.op) (CH st o.op) (EU Sh.ld st o.op)]) K) else False)
   | some q,some _=>∃ y:(Sh q.1).α,(pc=true->Aj P q.1 q.2.2.1 q.2.2.2 ((Sh q.1).enc y).1 ((Sh q.1).enc y).2) /\
     (bif Jd dr ops fl k ((DO st (Sh.ld q.1) q.2.1 ((Sh q.1).enc y).1 ((Sh q.1).enc y).2).flag (Du st o.op) (CH st o.op) (EU Sh.ld st o.op)) then
     match(DO st (Sh.ld q.1) q.2.1 ((Sh q.1).enc y).1 ((Sh q.1).enc y).2).new,(DO st (Sh.ld q.1) q.2.1 ((Sh q.1).enc y).1 ((Sh q.1).enc y).2).put,(DO st (Sh.ld q.1) q.2.1 ((Sh q.1).enc y).1 ((Sh q.1).enc y).2).chk with
     | [],none,[]=>Ho P T Sh dr ops (k+1) rest (st.after o (DO st (Sh.ld q.1) q.2.1 ((Sh q.1).enc y).1 ((Sh q.1).enc y).2)) (pcs++[pc]) (fl++[(DO st (Sh.ld q.1) q.2.1 ((Sh q.1).enc y).1 ((Sh q.1).enc y).2).flag (Du st o.op) (CH st o.op) (EU Sh.ld st o.op)]) K
     | _,_,_=>False
     else False)
   | none,g =>
    bif Jd dr ops fl k ((vop T (GY Sh.ld g.isSome) st o.op).flag (Du st o.op) (CH st o.op) (EU Sh.ld st o.op)) then
     match g,(vop T (GY Sh.ld g.isSome) st o.op).new,(vop T (GY Sh.ld g.isSome) st o.op).put with
     | none,_,_=>AcI (vop T (GY Sh.ld g.isSome) st o.op).chk (Ho P T Sh dr ops (k+1) rest (st.after o (vop T (GY Sh.ld g.isSome) st o.op)) (pcs++[pc]) (fl++[(vop T (GY Sh.ld g.isSome) st o.op).flag (Du st o.op) (CH st o.op) (EU Sh.ld st o.op)]) K)
     | some _,[],none=>Qo pc (vop T (GY Sh.ld g.isSome) st o.op).chk (Ho P T Sh dr ops (k+1) rest (st.after o (vop T (GY Sh.ld g.isSome) st o.op)) (pcs++[pc]) (fl++[(vop T (GY Sh.ld g.isSome) st o.op).flag (Du st o.op) (CH st o.op) (EU Sh.ld st o.op)]) K)
     | _,_,_=>False
    else False
theorem O8 {T:TypeId->TE}{O:Orc}{st:St}{op:Op}{q:FuncId × List Nat × List Ob × List VV}(h:Kj O.lend st op=some q) :
  vop T O st op=(DO st (O.lend q.1) q.2.1 (O.run q.1 q.2.2.1 q.2.2.2).1.1 (O.run q.1 q.2.2.1 q.2.2.2).1.2).also (O.run q.1 q.2.2.1 q.2.2.2).2:=by
 cases op<;>simp only[Kj,reduceCtorEq]at h
 rename_i c
 split at h
 ·rename_i f hf
  simp only[vop,hf,Ib,h]
 ·cases h
theorem OL {K:Prop}:∀ {l:List Prop},(∀ p∈l,p)->K->AcI l K
 | [],_,hk=>hk
 | p::_,h,hk=>⟨h p (AkY ..),OL (fun q hq=>h q (Alb _ hq)) hk⟩
theorem KP {pc:Bool}{K:Prop}:∀ {l:List Prop},(pc=true->∀ p∈l,p)->K->Qo pc l K
 | [],_,hk=>hk
 | p::_,h,hk=>⟨fun hpc=>h hpc p (AkY ..),KP (fun hpc q hq=>h hpc q (Alb _ hq)) hk⟩
theorem Fj {dr:Bool}{T:TypeId->TE}{O O':Nat->Orc}{ops:Array Oper}{K:St->Prop}:∀ (l:List Oper) (k:Nat) (st:St) (pcs:List Bool) (fl:List Fl),(∀ i,k<=i->O i=O' i)->LS T O dr ops k l st pcs fl K->LS T O' dr ops k l st pcs fl K
 | [],_,_,_,_,_,h=>h
 | o::rest,k,st,pcs,fl,he,h=>by
  have e:=he k (AkU _)
  simp only[LS]at h ⊢
  split
  ·rename_i hg;rw[hg]at h;exact h
  ·rename_i pc hg
   rw[hg]at h
   simp only at h
   rw[← e]
   cases hpu:Jd dr ops fl k ((vop T (O k) st o.op).flag (Du st o.op) (CH st o.op) (EU (O k).lend st o.op)) with
   | false=>rw[hpu]at h;exact h.elim
   | true =>
    rw[hpu]at h
    simp only[AkQ]at h ⊢
    split
    ·rename_i hgd
     rw[hgd]at h
     simp only at h
     obtain⟨h1,h2⟩:=JW h
     exact OL h1 (Fj rest (k+1) _ _ _ (fun i hi=>he i (by omega)) h2)
    ·rename_i gd hgd hn hp
     rw[hgd,hn,hp]at h
     simp only at h
     obtain⟨h1,h2⟩:=IZ h
     exact KP h1 (Fj rest (k+1) _ _ _ (fun i hi=>he i (by omega)) h2)
    ·rename_i x1 x2
     split at h
     ·rename_i hgd;exact absurd hgd x1
     ·rename_i gd hgd hn hp;exact absurd hp (x2 gd hgd hn)
     ·exact h.elim
theorem DI {dr:Bool}{P:Program}{T:TypeId->TE}{Sh:Shs}{ops:Array Oper}{K:St->Prop}:∀ (l:List Oper) (k:Nat) (st:St) (pcs:List Bool) (fl:List Fl),Ho P T Sh dr ops k l st pcs fl K ->
  ∃ O:Nat->Orc,(∀ i,Jf P (O i))/\LS T O dr ops k l st pcs fl K
 | [],_,_,_,_,h=>⟨fun _=>GY Sh.ld false,fun _ f hs xs h=>(h False (by simp[GY])).elim,h⟩
 | o::rest,k,st,pcs,fl,h=>by
  simp only[Ho]at h
  split at h
  ·exact h.elim
  ·rename_i pc hg
   have fin:∀ (Ok:Orc),Jf P Ok->∀ (O':Nat->Orc),(∀ i,Jf P (O' i))->∃ O:Nat->Orc,(∀ i,Jf P (O i))/\O k=Ok/\∀ i,k+1<=i->O' i=O i:=by
    intro Ok h1 O' h2
    refine⟨fun i=>if i=k then Ok else O' i,fun i=>?_,Alj rfl,fun i hi=>(Ak3 (by omega)).symm⟩
    show Jf P (if i=k then Ok else O' i)
    split
    ·exact h1
    ·exact h2 i
   split at h
   ·rename_i q hq hgd
    obtain⟨y,hy,hk⟩:=h
    cases hpu:Jd dr ops fl k ((DO st (Sh.ld q.1) q.2.1 ((Sh q.1).enc y).1 ((Sh q.1).enc y).2).flag (Du st o.op) (CH st o.op) (EU Sh.ld st o.op)) with
    | false=>rw[hpu]at hk;exact hk.elim
    | true =>
     rw[hpu]at hk
     simp only[AkQ]at hk
     obtain⟨hc1,hc2⟩:=JW hk
     obtain⟨O',h2,h3⟩:=DI rest (k+1) _ _ _ hc2
     obtain⟨O,o1,o2,o3⟩:=fin ⟨Sh.ld,fun f hs ys=>((Sh q.1).enc y,[Aj P f hs ys ((Sh q.1).enc y).1 ((Sh q.1).enc y).2]),false⟩ (fun f hs ys hp=>hp _ (AkY ..)) O' h2
     refine⟨O,o1,?_⟩
     have ev:vop T (O k) st o.op=(DO st (Sh.ld q.1) q.2.1 ((Sh q.1).enc y).1 ((Sh q.1).enc y).2).also [Aj P q.1 q.2.2.1 q.2.2.2 ((Sh q.1).enc y).1 ((Sh q.1).enc y).2]:=by
      rw[o2]
      exact O8 (O:=⟨Sh.ld,fun f hs ys=>((Sh q.1).enc y,[Aj P f hs ys ((Sh q.1).enc y).1 ((Sh q.1).enc y).2]),false⟩) hq
     have ep:∀ ps,Jd dr ops fl k (((DO st (Sh.ld q.1) q.2.1 ((Sh q.1).enc y).1 ((Sh q.1).enc y).2).also ps).flag (Du st o.op) (CH st o.op) (EU Sh.ld st o.op))=true:=fun ps=>hpu
     have el:(O k).lend=Sh.ld:=by rw[o2]
     simp only[LS,hg,hgd,ev,el,ep,AkQ]
     refine OL ?_ (Fj rest (k+1) _ _ _ o3 h3)
     intro p hp
     rcases Als.1 hp with hp | hp
     ·exact hc1 p hp
     ·simp only[Aln]at hp;subst hp;exact hy
   ·rename_i q gd hq hgd
    obtain⟨y,hy,hk⟩:=h
    cases hpu:Jd dr ops fl k ((DO st (Sh.ld q.1) q.2.1 ((Sh q.1).enc y).1 ((Sh q.1).enc y).2).flag (Du st o.op) (CH st o.op) (EU Sh.ld st o.op)) with
    | false=>rw[hpu]at hk;exact hk.elim
    | true =>
    rw[hpu]at hk
    simp only[AkQ]at hk
    split at hk
    ·rename_i e1 e2 e3
     obtain⟨O',h2,h3⟩:=DI rest (k+1) _ _ _ hk
     obtain⟨O,o1,o2,o3⟩:=fin ⟨Sh.ld,fun f hs ys=>((Sh q.1).enc y,[Aj P f hs ys ((Sh q.1).enc y).1 ((Sh q.1).enc y).2]),false⟩ (fun f hs ys hp=>hp _ (AkY ..)) O' h2
     refine⟨O,o1,?_⟩
     have ev:vop T (O k) st o.op=(DO st (Sh.ld q.1) q.2.1 ((Sh q.1).enc y).1 ((Sh q.1).enc y).2).also [Aj P q.1 q.2.2.1 q.2.2.2 ((Sh q.1).enc y).1 ((Sh q.1).enc y).2]:=by
      rw[o2]
      exact O8 (O:=⟨Sh.ld,fun f hs ys=>((Sh q.1).enc y,[Aj P f hs ys ((Sh q.1).enc y).1 ((Sh q.1).enc y).2]),false⟩) hq
     have ep:∀ ps,Jd dr ops fl k (((DO st (Sh.ld q.1) q.2.1 ((Sh q.1).enc y).1 ((Sh q.1).enc y).2).also ps).flag (Du st o.op) (CH st o.op) (EU Sh.ld st o.op))=true:=fun ps=>hpu
     have en:∀ ps,((DO st (Sh.ld q.1) q.2.1 ((Sh q.1).enc y).1 ((Sh q.1).enc y).2).also ps).new=[]:=fun _=>e1
     have eu:∀ ps,((DO st (Sh.ld q.1) q.2.1 ((Sh q.1).enc y).1 ((Sh q.1).enc y).2).also ps).put=none:=fun _=>e2
     have el:(O k).lend=Sh.ld:=by rw[o2]
     simp only[LS,hg,hgd,ev,el,ep,AkQ,en,eu]
     refine KP ?_ (Fj rest (k+1) _ _ _ o3 h3)
     intro hpc p hp
     rcases Als.1 hp with hp | hp
     ·rw[e3]at hp;simp at hp
     ·simp only[Aln]at hp;subst hp;exact hy hpc
    ·exact hk.elim
   ·rename_i hnt
    have bad:∀ g,Jf P (GY Sh.ld g):=fun g f hs xs h=>(h False (by simp[GY])).elim
    generalize o.guard.isSome=gg at h
    cases hpu:Jd dr ops fl k ((vop T (GY Sh.ld gg) st o.op).flag (Du st o.op) (CH st o.op) (EU Sh.ld st o.op)) with
    | false=>rw[hpu]at h;exact h.elim
    | true =>
     rw[hpu]at h
     simp only[AkQ]at h
     split at h
     ·rename_i hgd
      obtain⟨h1,h2⟩:=JW h
      obtain⟨O',h3,h4⟩:=DI rest (k+1) _ _ _ h2
      obtain⟨O,o1,o2,o3⟩:=fin _ (bad gg) O' h3
      refine⟨O,o1,?_⟩
      simp only[LS,hg,hgd,o2,PZ,hpu,AkQ]
      exact OL h1 (Fj rest (k+1) _ _ _ o3 h4)
     ·rename_i gd hgd hn hp
      obtain⟨h1,h2⟩:=IZ h
      obtain⟨O',h3,h4⟩:=DI rest (k+1) _ _ _ h2
      obtain⟨O,o1,o2,o3⟩:=fin _ (bad gg) O' h3
      refine⟨O,o1,?_⟩
      simp only[LS,hg,hgd,o2,PZ,hpu,AkQ,hn,hp]
      exact KP h1 (Fj rest (k+1) _ _ _ o3 h4)
     ·exact h.elim
theorem Xj {P:Program}{T:TypeId->TE}{Sh:Shs}{ops:Array Oper}{st0:St}{N:Nat}{E:AF}{w0:World}{φ0:Phi}(hT:TOk P T)(hmx:P.follows .mixedOrders=true)(hB:Jh ops N=true){K:St->Prop}{id:Nat}{draw:Bool}{a:Act}
  (h:Ho P T Sh draw ops 0 ops.toList st0 [] [] fun st'=>K (clr ops st')) (hrel:Rel N E st0 φ0 a w0) :
  (Code.region id ops draw).wp P (fun e a' w'=>e=.normal/\∃ st' φ',K st'/\Rel N E st' φ' a' w'/\Ext w0 φ0 w' φ') a w0:=by
 obtain⟨O,hO,hx⟩:=DI ops.toList 0 st0 [] [] h
 exact Abo hT hO hmx hB hx hrel
end
section
structure AF.Le (E E':AF):Prop where
 fz:∀ k,E.fz k->E'.fz k
 br:∀ k,E.br k->E'.br k
 lo:E'.lo=E.lo
theorem AF.Le.refl (E:AF):E.Le E:=⟨fun _ h=>h,fun _ h=>h,rfl⟩
theorem AF.Le.trans {E E' E'':AF}(h:E.Le E')(k:E'.Le E''):E.Le E'':=⟨fun i x=>k.fz i (h.fz i x),fun i x=>k.br i (h.br i x),k.lo.trans h.lo⟩
structure Sat (P:Program) (N b:Nat) (p:List Nat) (c:Code) (K:Exit->St->Prop) (st:St):Prop where
 h:∀ (E:AF) (φ:Phi) (a:Act) (w:World),Rel N E st φ a w->c.wp P (fun e a' w'=>∃ E' st' φ',E.Le E'/\K e st'/\Rel N E' st' φ' a' w'/\Fr b w φ w' φ') a w
def BK (i:Nat):List (Nat × VV)->VV
 | []=>.dead
 | (j,x)::l=>bif Nat.beq i j then x else BK i l
def Aq (l:List (Nat × VV))(hs:List Ob):St:={ t:=fun i=>BK i l,H:=Bn hs,nx:=hs.length }
def Nb (st:St)(b:Nat)(refs:List Nat):List Nat:=PL st 64 ((List.range b).flatMap (fun i=>(st.H i).refs)++refs) (List.range b)
def RG (st:St)(b:Nat)(ids:List Nat):Bool:=Ex st.nx ids&&(List.range b).all fun i =>
 match idx ids i with
 | some j=>Nat.beq j i
 | none=>false
def OH (b:Nat)(keep:List Nat)(st:St):List Nat:=Nb st b (keep.flatMap fun i=>Jc 8 (st.t i))
def okF (b:Nat)(keep:List Nat)(st:St):Bool:=RG st b (OH b keep st)
def forgetIds (keep:List Nat)(st:St)(ids:List Nat):St:=Aq (keep.map fun i=>(i,Iq st ids (st.t i))) (ids.map (D9 st ids))
def forget (b:Nat)(keep:List Nat)(st:St):St:=forgetIds keep st (OH b keep st)
structure Ann where
 keep:List Nat->List Nat
 base:Nat:=0
 cut:List Nat->Bool:=fun _=>false
def AdU (K:Exit->St->Prop)(next:St->Prop):Exit->St->Prop
 | .normal,st=>next st
 | e,st=>K e st
def Nt (id:Nat)(K:Exit->St->Prop):Exit->St->Prop
 | .exit j,st=>bif Nat.beq j id then K .normal st else K (.exit j) st
 | e,st=>K e st
def AeF (b:Nat)(keep:List Nat)(J:St->Prop)(K:Exit->St->Prop):Exit->St->Prop
 | .normal,st=>bif okF b keep st then J (forget b keep st) else False
 | e,st=>K e st
def RP (l b:Nat)(keep:List Nat)(J:St->Prop)(K:Exit->St->Prop):Exit->St->Prop
 | .goto l',st=>bif Nat.beq l' l&&okF b keep st then J (forget b keep st) else False
 | e,st=>K e st
def xc (P:Program)(T:TypeId->TE)(Sh:Shs)(N:Nat)(L:Ann):List Nat->Code->(Exit->St->Prop)->St->Prop
 | _,.skip,K,st=>K .normal st
 | _,.label _,K,st=>K .normal st
 | _,.region _ ops dr,K,st=>Ho P T Sh dr ops 0 ops.toList st [] [] fun st'=>K .normal (clr ops st')
 | p,.seq x y,K,st=>xc P T Sh N L (0::p) x (AdU K fun st'=>bif L.cut (1::p) then(bif okF L.base (L.keep (1::p)) st' then Sat P N L.base (1::p) y K (forget L.base (L.keep (1::p)) st') else False) else xc P T Sh N L (1::p) y K st') st
 | p,.cond c x y,K,st=>match st.val c with
  | .sc (.bool b)=>(b=true->xc P T Sh N L (0::p) x K st)/\(b=false->xc P T Sh N L (1::p) y K st)
  | _=>False
 | p,.block id c,K,st=>xc P T Sh N L (0::p) c (Nt id K) st
 | _,.exit id,K,st=>K (.exit id) st
 | _,.goto l,K,st=>K (.goto l) st
 | _,.ret,K,st=>K .ret st
 | p,.loop c,K,st=>bif okF L.base (L.keep p) st then Sat P N L.base p (.loop c) K (forget L.base (L.keep p) st) else False
 | p,.scope c,K,st=>bif okF L.base (L.keep p) st then Sat P N L.base p (.scope c) K (forget L.base (L.keep p) st) else False
 | _,_,_,_=>False
def EA : List Nat->Code->Code
 | 0::q,.seq x _=>EA q x
 | 1::q,.seq _ y=>EA q y
 | 0::q,.cond _ x _=>EA q x
 | 1::q,.cond _ _ y=>EA q y
 | 0::q,.block _ c=>EA q c
 | 0::q,.loop c=>EA q c
 | 0::q,.scope c=>EA q c
 | [],c=>c
 | _,_=>.skip
def RO (P:Program)(T:TypeId->TE)(Sh:Shs)(N:Nat)(L:Ann):List Nat->List Nat->Code->(Exit->St->Prop)->Exit->St->Prop
 | 0::q,p,.seq x y,K=>RO P T Sh N L q (0::p) x (AdU K fun st'=>bif L.cut (1::p) then(bif okF L.base (L.keep (1::p)) st' then Sat P N L.base (1::p) y K (forget L.base (L.keep (1::p)) st') else False) else xc P T Sh N L (1::p) y K st')
 | 1::q,p,.seq _ y,K=>RO P T Sh N L q (1::p) y K
 | 0::q,p,.cond _ x _,K=>RO P T Sh N L q (0::p) x K
 | 1::q,p,.cond _ _ y,K=>RO P T Sh N L q (1::p) y K
 | 0::q,p,.block id c,K=>RO P T Sh N L q (0::p) c (Nt id K)
 | _,_,_,K=>K
def EM (N:Nat):Code->Bool
 | .region _ ops _=>Jh ops N
 | .seq x y=>EM N x&&EM N y
 | .cond _ x y=>EM N x&&EM N y
 | .block _ c=>EM N c
 | _=>true
section
variable {P : Program} {T:TypeId->TE} {Sh:Shs} {N b:Nat} {L:Ann} {E:AF} {w:World} {φ:Phi} {a:Act} {st:St}
theorem RK {f:Nat->VV}(i:Nat):∀ (l:List Nat),BK i (l.map fun j=>(j,f j))=if i∈l then f i else .dead
 | []=>rfl
 | j::l=>by
  simp only[AlH,BK]
  cases hq:Nat.beq i j with
  | true=>have:=AkT hq;subst this;simp
  | false =>
   have hne:i≠j:=by rintro rfl;simp at hq
   rw[AkN,RK i l]
   simp[hne]
theorem RF {ids:List Nat}(h:RG st b ids=true):Ex st.nx ids=true/\∀ (i:Nat),i<b->ids[i]?=some i:=by
 unfold RG at h
 rw[AkO]at h
 refine⟨h.1,fun i hi=>?_⟩
 have:=Alt.1 h.2 i (AlD.2 hi)
 split at this
 ·rename_i j hj
  have e:=AkT this
  subst e
  exact DT hj
 ·cases this
theorem Zp {ids:List Nat}(hk:∀ (i:Nat),i<b->ids[i]?=some i):Fr b w φ w (CQ ids φ) :=
 ⟨rfl,rfl,rfl,AkU _,fun _ _ _=>rfl,fun _ h=>.inl (DQ.2 (.inr h)),fun id p hb e=>⟨Fg (fun _=>0) p,by rw[G4 (hk id hb),e];rfl,by
  cases p with
  | box b=>rfl
  | arr c n hd=>exact⟨_,_,_,rfl⟩⟩⟩
theorem FA {ids:List Nat}(hk:Ex st.nx ids=true)(hlv:∀ id,id<st.nx->φ id≠none)(j:Nat):CQ ids φ j≠none ↔ j<ids.length:=by
 constructor
 ·intro h
  obtain⟨p,hp⟩:=Amz.1 h
  obtain⟨id,_,e1,_⟩:=IS hp
  exact(AkR.1 e1).1
 ·intro h
  have e1:ids[j]?=some ids[j]:=Ak1 h
  rw[G4 e1]
  have:=hlv _ (FY hk j _ e1)
  simpa using this
theorem Rel.forgetIds (h:Rel N E st φ a w){keep ids:List Nat}(hk:RG st b ids=true):∃ φ',Rel N E (forgetIds keep st ids) φ' a w/\Fr b w φ w φ':=by
 obtain⟨hk1,hk2⟩:=RF hk
 refine⟨CQ ids φ,⟨h.sz,h.df,h.old.sub fun _ ho=>(FD.1 ho).elim fun _ h=>h.elim fun id h=>⟨id,h.2⟩,fun t=>?_,h.hp.lend hk1 (fun _ h=>.inl h) (fun _ h=>.inl h) h.hp.sub (fun j id e=>by simp[Go.Proofs.YtmdcknlpalfhhaaGreatDoor.forgetIds,Aq,Bn,e]),fun id hid=>?_,fun id hid=>?_⟩,Zp hk2⟩
 ·show V w _ _ (BK t (keep.map fun i=>(i,Iq st ids (st.t i)))) _
  rw[RK]
  split
  ·exact EY (FC h.hp (fun _ h=>.inl h) fun _ h=>.inl h) _ _ _ (h.tm t)
  ·exact .dead
 ·have hid':ids.length<=id:=by have:(ids.map (D9 st ids)).length<=id:=hid;simpa using this
  exact Alf fun hn=>by have:=(FA hk1 h.lv id).1 hn;omega
 ·have hid':id<ids.length:=by have:id<(ids.map (D9 st ids)).length:=hid;simpa using this
  exact(FA hk1 h.lv id).2 hid'
theorem Rel.forget (h:Rel N E st φ a w){keep:List Nat}(hk:okF b keep st=true):∃ φ',Rel N E (forget b keep st) φ' a w/\Fr b w φ w φ':=h.forgetIds hk
theorem HA (hT:TOk P T)(hmx:P.follows .mixedOrders=true):∀ (c:Code),EM N c=true->∀ (p:List Nat) (K:Exit->St->Prop) (st:St),xc P T Sh N L p c K st->Sat P N L.base p c K st
 | .skip,_,p,K,st,h=>⟨fun E φ a w hr=>wp_skip ⟨E,st,φ,.refl E,h,hr,Fr.refl _ _ _⟩⟩
 | .label l,_,p,K,st,h=>⟨fun E φ a w hr=>wp_label ⟨E,st,φ,.refl E,h,hr,Fr.refl _ _ _⟩⟩
 | .exit id,_,p,K,st,h=>⟨fun E φ a w hr=>wp_exit ⟨E,st,φ,.refl E,h,hr,Fr.refl _ _ _⟩⟩
 | .goto l,_,p,K,st,h=>⟨fun E φ a w hr=>wp_goto ⟨E,st,φ,.refl E,h,hr,Fr.refl _ _ _⟩⟩
 | .ret,_,p,K,st,h=>⟨fun E φ a w hr=>wp_ret ⟨E,st,φ,.refl E,h,hr,Fr.refl _ _ _⟩⟩
 | .loop c,_,p,K,st,h=>⟨fun E φ a w hr=>by
  simp only[xc]at h
  cases hq:okF L.base (L.keep p) st with
  | false=>rw[hq]at h;exact h.elim
  | true =>
   rw[hq]at h
   obtain⟨φ1,hr1,hf1⟩:=hr.forget hq
   exact Amb (h.h E φ1 a w hr1) fun _ _ _ ⟨E',st',φ',h0,h1,h2,h3⟩=>⟨E',st',φ',h0,h1,h2,hf1.trans h3⟩⟩
 | .scope c,_,p,K,st,h=>⟨fun E φ a w hr=>by
  simp only[xc]at h
  cases hq:okF L.base (L.keep p) st with
  | false=>rw[hq]at h;exact h.elim
  | true =>
   rw[hq]at h
   obtain⟨φ1,hr1,hf1⟩:=hr.forget hq
   exact Amb (h.h E φ1 a w hr1) fun _ _ _ ⟨E',st',φ',h0,h1,h2,h3⟩=>⟨E',st',φ',h0,h1,h2,hf1.trans h3⟩⟩
 | .rangeFunc ..,_,p,K,st,h=>h.elim
 | .refuse _,_,p,K,st,h=>h.elim
 | .region id ops draw,hB,p,K,st,h=>⟨fun E φ a w hr =>
  Amb (Xj (id:=id) (draw:=draw) hT hmx hB (K:=fun st'=>K .normal st') h hr) fun e a' w' ⟨he,st',φ',h1,h2,h3⟩=>⟨E,st',φ',.refl E,by rw[he];exact h1,h2,Amf h3⟩⟩
 | .seq x y,hB,p,K,st,h=>⟨fun E φ a w hr=>by
  simp only[EM,AkO]at hB
  refine wp_seq (Amb ((HA hT hmx x hB.1 _ _ st h).h E φ a w hr) ?_)
  rintro e a' w' ⟨E',st',φ',h0,h1,h2,h3⟩
  cases e with
  | normal =>
   have key:Sat P N L.base (1::p) y K st':=by
    simp only[AdU]at h1
    cases hcut:L.cut (1::p) with
    | false=>rw[hcut]at h1;exact HA hT hmx y hB.2 _ K st' h1
    | true =>
     rw[hcut,AkQ]at h1
     cases hq:okF L.base (L.keep (1::p)) st' with
     | false=>rw[hq]at h1;exact h1.elim
     | true =>
      rw[hq]at h1
      exact⟨fun E φ a w hr=>by
       obtain⟨φ1,hr1,hf1⟩:=hr.forget hq
       exact Amb (h1.h E φ1 a w hr1) fun _ _ _ ⟨E',st',φ',h0,h1,h2,h3⟩=>⟨E',st',φ',h0,h1,h2,hf1.trans h3⟩⟩
   exact Amb (key.h E' φ' a' w' h2) fun e a'' w'' ⟨E'',st'',φ'',g0,g1,g2,g3⟩=>⟨E'',st'',φ'',h0.trans g0,g1,g2,h3.trans g3⟩
  | _=>exact⟨E',st',φ',h0,h1,h2,h3⟩⟩
 | .cond c x y,hB,p,K,st,h=>⟨fun E φ a w hr=>by
  simp only[EM,AkO]at hB
  have hc:V w (E.up φ) (some φ) (st.val c) (a.eval c):=by
   cases c with
   | tmp t=>exact hr.tm t
   | const v=>exact V.litC v
   | global g=>exact .dead
   | func f=>exact .fn rfl fun j x hx=>by simp at hx
  simp only[xc]at h
  split at h
  ·rename_i b e
   rw[e]at hc
   refine wp_cond (t:=b) hc.sc_inv ?_
   cases b with
   | true=>exact(HA hT hmx x hB.1 _ K st (h.1 rfl)).h E φ a w hr
   | false=>exact(HA hT hmx y hB.2 _ K st (h.2 rfl)).h E φ a w hr
  ·exact h.elim⟩
 | .block id c,hB,p,K,st,h=>⟨fun E φ a w hr=>by
  refine wp_block (Amb ((HA hT hmx c hB _ _ st h).h E φ a w hr) ?_)
  rintro e a' w' ⟨E',st',φ',h0,h1,h2,h3⟩
  cases e with
  | exit j =>
   simp only[Exit.inBlock]
   by_cases hj:j=id
   ·subst hj
    simp only[Nt,Al5,AkQ]at h1
    rw[Alj rfl]
    exact⟨E',st',φ',h0,h1,h2,h3⟩
   ·have hb:Nat.beq j id=false:=by
     cases hq:Nat.beq j id with
     | true=>exact absurd (AkT hq) hj
     | false=>rfl
    simp only[Nt,hb,AkN]at h1
    rw[Ak3 hj]
    exact⟨E',st',φ',h0,h1,h2,h3⟩
  | _=>exact⟨E',st',φ',h0,h1,h2,h3⟩⟩
theorem GL {p:Nat->Prop}(h:∃ g,p g):∃ g,p g/\∀ g',p g'->g<=g':=by
 obtain⟨g,hg⟩:=h
 induction g using Nat.strongRecOn with
 | _ g ih =>
  by_cases hx:∃ g',g'<g/\p g'
  ·obtain⟨g',hlt,hp⟩:=hx;exact ih g' hlt hp
  ·exact⟨g,hg,fun g' hp=>Nat.le_of_not_lt fun hlt=>hx ⟨g',hlt,hp⟩⟩
theorem KX {c:Code}{Q:Exit->Act->World->Prop}{a:Act}{w:World}(J:Nat->Act->World->Prop)(h0:∃ g,J g a w)
  (round:∀ g a w,J g a w->c.wp P (Exit.then (fun a' w'=>∃ g',g'<g/\J g' a' w') Q) a w):(Code.loop c).wp P Q a w:=by
 classical
 let μ:Act->World->Nat:=fun a w=>if h:∃ g,J g a w then Classical.choose (GL h) else 0
 have hμ:∀ a w,(h:∃ g,J g a w)->J (μ a w) a w/\∀ g',J g' a w->μ a w<=g':=by
  intro a w h
  have e:μ a w=Classical.choose (GL h):=dif_pos h
  rw[e];exact Classical.choose_spec (GL h)
 refine wp_loop (fun a w=>∃ g,J g a w) μ h0 ?_
 intro a w hx
 refine Amb (round _ a w (hμ a w hx).1) fun e a' w' h=>?_
 cases e with
 | normal =>
  obtain⟨g',hlt,hj⟩:=h
  exact⟨⟨g',hj⟩,Nat.lt_of_le_of_lt ((hμ _ _ ⟨g',hj⟩).2 g' hj) hlt⟩
 | _=>exact h
def VV.le (x y:VV):Prop:=∀ (w:World) (E:AF) (m:Option Phi) (v:Value),V w E m x v->V w E m y v
theorem VV.le_refl (x:VV):VV.le x x:=fun _ _ _ _ h=>h
theorem AlE {fz:Bool}{n:Nat}{f:Nat->List VV}:VV.le .nl (.sl fz 0 n f):=by
 intro w E m v h
 rw[h.nl_inv]
 exact .nil (AkV _)
def leL : List VV->List VV->Prop
 | [],[]=>True
 | x::xs,y::ys=>VV.le x y/\leL xs ys
 | _,_=>False
theorem Qa : ∀ (l:List VV),leL l l
 | []=>trivial
 | x::xs=>⟨VV.le_refl x,Qa xs⟩
theorem H6 : ∀ {l l':List VV},leL l l'->l.length=l'.length/\∀ (j:Nat) y,l'[j]?=some y->∃ x,l[j]?=some x/\VV.le x y
 | [],[],_=>⟨rfl,fun j y h=>by simp at h⟩
 | x::l,y::l',h=>by
  obtain⟨h1,h2⟩:=H6 h.2
  refine⟨by simp[h1],fun j z hz=>?_⟩
  match j,hz with
  | 0,hz=>simp only[AkZ,AkP]at hz;subst hz;exact⟨x,rfl,h.1⟩
  | j+1,hz=>exact h2 j z hz
theorem Amg {fz:Bool}{n s s':Nat}{f f':Nat->List VV}(hs:s=s'∨n=0)(h:∀ i,i<n->leL (f i) (f' i)):VV.le (.sl fz n s f) (.sl fz n s' f'):=by
 intro w E m v hv
 obtain⟨a,cap,rfl,h1,h2,h3⟩:=hv.sl_inv
 refine AmF h1 h2 fun hn=>?_
 obtain rfl:=hs.resolve_right (by omega)
 obtain⟨b,off,e,k1,k2,k3,u,k4,k5⟩:=h3 hn
 refine⟨b,off,e,k1,k2,fun i hi=>by rw[← (H6 (h i hi)).1];exact k3 i hi,u,fun i j y hi hy=>?_,fun i j y hi hy=>?_⟩
 ·obtain⟨x,hx,_⟩:=(H6 (h i hi)).2 j y hy
  exact k4 i j x hi hx
 ·obtain⟨x,hx,hle⟩:=(H6 (h i hi)).2 j y hy
  exact hle _ _ _ _ (k5 i j x hi hx)
theorem Al8 {l l':List VV}(h:leL l l'):VV.le (.agg l) (.agg l'):=by
 intro w E m v hv
 obtain⟨vs,rfl,h1,h2⟩:=hv.agg_inv
 obtain⟨k1,k2⟩:=H6 h
 exact .agg (h1.trans k1) fun j y hy=>let ⟨x,hx,hle⟩:=k2 j y hy;hle _ _ _ _ (h2 j x hx)
theorem Amq {l l':List VV}(h:leL l l'):VV.le (.tup l) (.tup l'):=by
 intro w E m v hv
 cases hv with | tup h1 h2 =>
 obtain⟨k1,k2⟩:=H6 h
 exact .tup (h1.trans k1) fun j y hy=>let ⟨x,hx,hle⟩:=k2 j y hy;hle _ _ _ _ (h2 j x hx)
def Ob.le (o o':Ob):Prop:=∀ (w:World) (E:AF) (φ:Phi) (p:Pl),ObV w E φ o p->ObV w E φ o' p
theorem Ob.le_refl (o:Ob):Ob.le o o:=fun _ _ _ _ h=>h
theorem Ob.le_box {l l':List VV}(h:leL l l'):Ob.le (.box l) (.box l'):=by
 intro w E φ p hp
 cases p with
 | arr=>exact hp.elim
 | box b =>
  obtain⟨c,ty,h1,h2⟩:=hp
  obtain⟨k1,k2⟩:=H6 h
  exact⟨c,ty,h1,h2.1.trans k1,fun j y hy=>let ⟨x,hx,hle⟩:=k2 j y hy;hle _ _ _ _ (h2.2 j x hx)⟩
theorem AlB {fr:Bool}{g n s:Nat}{f f':Nat->List VV}(h:∀ i,i<n->leL (f i) (f' i)):Ob.le (.arr fr g n s f) (.arr fr g n s f'):=by
 intro w E φ p hp
 cases p with
 | box b=>exact hp.elim
 | arr g' n' hd =>
  obtain⟨rfl,rfl,hrow⟩:=hp
  refine⟨rfl,rfl,?_⟩
  match hd,hrow with
  | none,hrow=>exact hrow
  | some (b,cap),hrow =>
   obtain⟨c,ty,h1,h2,h3,h4,h5,h6,h7⟩:=hrow
   refine⟨c,ty,h1,h2,h3,h4,fun i hi=>by rw[← (H6 (h i hi)).1];exact h5 i hi,fun i j y hi hy=>?_,h7⟩
   obtain⟨x,hx,hle⟩:=(H6 (h i hi)).2 j y hy
   cases fr with
   | true=>exact hle _ _ _ _ (h6 i j x hi hx)
   | false=>exact hle _ _ _ _ (h6 i j x hi hx)
def leO : List Ob->List Ob->Prop
 | [],[]=>True
 | o::os,o'::os'=>Ob.le o o'/\leO os os'
 | _,_=>False
theorem Ea : ∀ (l:List Ob),leO l l
 | []=>trivial
 | x::xs=>⟨Ob.le_refl x,Ea xs⟩
theorem Gj : ∀ {l l':List Ob},leO l l'->l.length=l'.length/\∀ (j:Nat),Ob.le (Bn l j) (Bn l' j)
 | [],[],_=>⟨rfl,fun j=>Ob.le_refl _⟩
 | x::l,y::l',h=>by
  obtain⟨h1,h2⟩:=Gj h.2
  refine⟨by simp[h1],fun j=>?_⟩
  match j with
  | 0=>exact h.1
  | j+1=>exact h2 j
theorem HRel.le {l l':List Ob}(h:HRel E (Bn l) φ w)(hl:leO l l'):HRel E (Bn l') φ w :=
 ⟨h.sub,fun id p e=>(Gj hl).2 id _ _ _ _ (h.ob id p e),h.inj,h.free⟩
def leT : List (Nat × VV)->List (Nat × VV)->Prop
 | [],[]=>True
 | (i,x)::l,(j,y)::l'=>(i=j/\VV.le x y)/\leT l l'
 | _,_=>False
theorem AV : ∀ (l:List (Nat × VV)),leT l l
 | []=>trivial
 | (_,x)::xs=>⟨⟨rfl,VV.le_refl x⟩,AV xs⟩
theorem P8 : ∀ {l l':List (Nat × VV)},leT l l'->∀ t,VV.le (BK t l) (BK t l')
 | [],[],_,_=>VV.le_refl _
 | (i,x)::l,(j,y)::l',h,t=>by
  obtain⟨⟨rfl,h1⟩,h2⟩:=h
  simp only[BK]
  cases Nat.beq t i with
  | true=>exact h1
  | false=>exact P8 h2 t
theorem Sat.le {p:List Nat}{c:Code}{K:Exit->St->Prop}{l l':List (Nat × VV)}{hs hs':List Ob}(h1:leT l l')(h2:leO hs hs')(h:Sat P N b p c K (Aq l' hs')):Sat P N b p c K (Aq l hs) :=
 ⟨fun E φ a w hr=>h.h E φ a w ⟨hr.sz,hr.df,hr.old,fun t=>P8 h1 _ _ _ _ _ (hr.tm t),hr.hp.le h2,fun id hid=>hr.fr id (by
  show hs.length<=id
  rw[(Gj h2).1];exact hid),fun id hid=>hr.lv id (by
  show id<hs.length
  rw[(Gj h2).1];exact hid)⟩⟩
theorem Ni {t:Nat}{x y:VV}:∀ {l:List (Nat × VV)} {k:Nat},l[k]?=some (t,x)->∀ i,BK i (l.set k (t,y))=BK i l∨(BK i l=x/\BK i (l.set k (t,y))=y)
 | [],k,h,i=>by simp at h
 | (j,z)::l,0,h,i=>by
  simp only[AkZ,AkP,Alu]at h
  obtain⟨rfl,rfl⟩:=h
  simp only[List.set_cons_zero,BK]
  cases Nat.beq i j with
  | true=>exact .inr ⟨rfl,rfl⟩
  | false=>exact .inl rfl
 | (j,z)::l,k+1,h,i=>by
  simp only[List.set_cons_succ,BK]
  cases Nat.beq i j with
  | true=>exact .inl rfl
  | false=>exact Ni (l:=l) (k:=k) h i
theorem Sat.own {p:List Nat}{c:Code}{K:Exit->St->Prop}{l:List (Nat × VV)}{hs:List Ob}(k t sz:Nat)(f:Nat->List VV)(hk:l[k]?=some (t,.nl))(h:Sat P N b p c K (Aq (l.set k (t,.ow hs.length 0 0)) (hs++[.arr true 0 0 sz f]))):Sat P N b p c K (Aq l hs):=by
 refine⟨fun E φ a w hr=>?_⟩
 have hnone:φ hs.length=none:=hr.fr _ (AkU _)
 have hroom:Room w [Pl.arr 0 0 none] w:=Room.one (Below.refl _ _) fun k hk=>by obtain⟨_,e'⟩:=hk;cases e'
 have hidn:∀ i,i<[Ob.arr true 0 0 sz f].length->φ (hs.length+i)=none:=fun i hi=>by
  simp only[Alo,AlK,Alk,AmU]at hi
  subst hi;exact hnone
 have hnews:Eh w E φ hs.length [Ob.arr true 0 0 sz f] [Pl.arr 0 0 none] w:=Eh.one hroom ⟨rfl,rfl,rfl⟩
 have hext:=hnews.ext hidn
 have hat:addP φ hs.length [Pl.arr 0 0 none] hs.length=some (.arr 0 0 none):=DM (i:=0) rfl
 have hlt:∀ id,φ id≠none->id<hs.length:=fun id hn=>by
  rcases Alw id hs.length with h' | h'
  ·exact h'
  ·exact absurd (hr.fr id h') hn
 refine Amb (h.h E (addP φ hs.length [Pl.arr 0 0 none]) a w ⟨hr.sz,hr.df,hr.old.ext hext,fun t'=>?_,?_,fun id hid=>?_,fun id hid=>?_⟩) fun e a' w' ⟨E',st',φ',h0,h1,h2,h3⟩=>⟨E',st',φ',h0,h1,h2,(Amf hext).trans h3⟩
 ·show V w _ _ (BK t' _) _
  have hv:V w _ _ (BK t' l) _:=hr.tm t'
  rcases Ni (y:=.ow hs.length 0 0) hk t' with e | ⟨e1,e2⟩
  ·rw[e];exact hv.ext hext
  ·rw[e2]
   rw[e1]at hv
   rw[hv.nl_inv]
   exact .ow hat (AkU _) (hd0:=none) ⟨rfl,rfl⟩ fun _=>⟨rfl,AkU _⟩
 ·refine hr.hp.news hr.old.lt hnews hidn (fun k hk=>?_) fun i o ho=>?_
  ·have:=hlt k hk
   show Bn (hs++_) k=Bn hs k
   simp[Bn,Ak0 this]
  ·show Bn (hs++_) (hs.length+i)=o
   unfold Bn
   rw[Ak2,Ak8 (by omega),show hs.length+i - hs.length=i by omega,ho]
   rfl
 ·have hid':(hs++[Ob.arr true 0 0 sz f]).length<=id:=hid
  simp only[Ak4,Alo,AlK]at hid'
  rw[DC (.inr (by simp;omega))]
  exact hr.fr id (by show hs.length<=id;omega)
 ·have hid':id<(hs++[Ob.arr true 0 0 sz f]).length:=hid
  simp only[Ak4,Alo,AlK]at hid'
  by_cases he:id=hs.length
  ·subst he;rw[hat];simp
  ·rw[DC (.inl (by omega))]
   exact hr.lv id (by show id<hs.length;omega)
structure QM (st st':St):Prop where
 t:∀ t,VV.le (st.t t) (st'.t t)
 H:∀ id,Ob.le (st.H id) (st'.H id)
 nx:st.nx=st'.nx
theorem QM.refl (st:St):QM st st:=⟨fun _=>VV.le_refl _,fun _=>Ob.le_refl _,rfl⟩
theorem QM.mk' {l l':List (Nat × VV)}{hs hs':List Ob}(h1:leT l l')(h2:leO hs hs'):QM (Aq l hs) (Aq l' hs'):=⟨P8 h1,(Gj h2).2,(Gj h2).1⟩
theorem AQ {l l':List VV}(h:l=l'):leL l l':=by subst h;exact Qa l
theorem Al0 {x y:VV}(h:x=y):VV.le x y:=by subst h;exact VV.le_refl x
theorem Rel.le {st':St}(h:Rel N E st φ a w)(hl:QM st st'):Rel N E st' φ a w :=
 ⟨h.sz,h.df,h.old,fun t=>hl.t t _ _ _ _ (h.tm t),⟨h.hp.sub,fun id p e=>hl.H id _ _ _ _ (h.hp.ob id p e),h.hp.inj,h.hp.free⟩,fun id hid=>h.fr id (by rw[hl.nx];exact hid),fun id hid=>h.lv id (by rw[hl.nx];exact hid)⟩
def Cv (st st':St):Prop:=∀ (N:Nat) (E:AF) (φ:Phi) (a:Act) (w:World),Rel N E st φ a w->∃ φ',Rel N E st' φ' a w/\Ext w φ w φ'
theorem QM.cv {st st':St}(h:QM st st'):Cv st st':=fun _ _ φ _ w hr=>⟨φ,hr.le h,Ext.refl w φ⟩
theorem Cv.trans {st st' st'':St}(h:Cv st st')(k:Cv st' st''):Cv st st'':=fun N E φ a w hr =>
 let ⟨φ1,r1,e1⟩:=h N E φ a w hr
 let ⟨φ2,r2,e2⟩:=k N E φ1 a w r1
 ⟨φ2,r2,e1.trans e2⟩
theorem Sat.cv {p:List Nat}{c:Code}{K:Exit->St->Prop}{st st':St}(h:Cv st st')(k:Sat P N b p c K st'):Sat P N b p c K st :=
 ⟨fun E φ a w hr =>
  let ⟨_,r1,e1⟩:=h N E φ a w hr
  Amb (k.h E _ a w r1) fun _ _ _ ⟨E',st',φ',h0,h1,h2,h3⟩=>⟨E',st',φ',h0,h1,h2,(Amf e1).trans h3⟩⟩
theorem AmP {l:List (Nat × VV)}{hs:List Ob}{cs:List VV}(i j sz:Nat)(f:Nat->List VV)(hi:hs[i]?=some (.box cs))(hj:cs[j]?=some .nl) :
  Cv (Aq l hs) (Aq l (hs.set i (.box (cs.set j (.ow hs.length 0 0)))++[.arr true 0 0 sz f])):=by
 intro N E φ a w hr
 have hnone:φ hs.length=none:=hr.fr _ (AkU _)
 have hroom:Room w [Pl.arr 0 0 none] w:=Room.one (Below.refl _ _) fun k hk=>by obtain⟨_,e'⟩:=hk;cases e'
 have hidn:∀ i,i<[Ob.arr true 0 0 sz f].length->φ (hs.length+i)=none:=fun i hi=>by
  simp only[Alo,AlK,Alk,AmU]at hi
  subst hi;exact hnone
 have hnews:Eh w E φ hs.length [Ob.arr true 0 0 sz f] [Pl.arr 0 0 none] w:=Eh.one hroom ⟨rfl,rfl,rfl⟩
 have hext:=hnews.ext hidn
 have hat:addP φ hs.length [Pl.arr 0 0 none] hs.length=some (.arr 0 0 none):=DM (i:=0) rfl
 have hil:i<hs.length:=(AkR.1 hi).1
 have hlt:∀ id,φ id≠none->id<hs.length:=fun id hn=>by
  rcases Alw id hs.length with h' | h'
  ·exact h'
  ·exact absurd (hr.fr id h') hn
 have hp:=hr.hp.news (H':=Bn (hs++[.arr true 0 0 sz f])) hr.old.lt hnews hidn (fun k hk=>by
  have:=hlt k hk
  show Bn (hs++_) k=Bn hs k
  simp[Bn,Ak0 this]) fun i o ho=>by
  show Bn (hs++_) (hs.length+i)=o
  unfold Bn
  rw[Ak2,Ak8 (by omega),show hs.length+i - hs.length=i by omega,ho]
  rfl
 refine⟨addP φ hs.length [Pl.arr 0 0 none],⟨hr.sz,hr.df,hr.old.ext hext,fun t=>V.ext (hr.tm t) hext,⟨hp.sub,fun id p e=>?_,hp.inj,hp.free⟩,fun id hid=>?_,fun id hid=>?_⟩,hext⟩
 ·have hob:=hp.ob id p e
  show ObV w E _ (Bn (hs.set i _++_) id) p
  by_cases he:id=i
  ·subst he
   have e1:Bn (hs++[Ob.arr true 0 0 sz f]) id=.box cs:=by simp[Bn,Ak0 hil,hi]
   have e2:Bn (hs.set id (.box (cs.set j (.ow hs.length 0 0)))++[Ob.arr true 0 0 sz f]) id=.box (cs.set j (.ow hs.length 0 0)):=by
    simp[Bn,Ak0,hil]
   rw[e1]at hob
   rw[e2]
   cases p with
   | arr=>exact hob.elim
   | box b =>
    obtain⟨c,ty,h1,h2⟩:=hob
    refine⟨c,ty,h1,by simp[h2.1],fun k x hx=>?_⟩
    rw[AmT]at hx
    split at hx
    ·rename_i hjk
     subst hjk
     split at hx
     ·simp only[AkP]at hx
      subst hx
      have:=h2.2 j _ hj
      rw[this.nl_inv]
      exact .ow hat (AkU _) (hd0:=none) ⟨rfl,rfl⟩ fun _=>⟨rfl,AkU _⟩
     ·cases hx
    ·exact h2.2 k x hx
  ·have e1:Bn (hs.set i (.box (cs.set j (.ow hs.length 0 0)))++[Ob.arr true 0 0 sz f]) id=Bn (hs++[Ob.arr true 0 0 sz f]) id:=by
    rcases Alw id hs.length with h' | h'
    ·simp[Bn,Ak0,h',List.getElem_set_ne (Ne.symm he)]
    ·simp[Bn,Ak8,h']
   rw[e1];exact hob
 ·have hid':(hs.set i (.box (cs.set j (.ow hs.length 0 0)))++[Ob.arr true 0 0 sz f]).length<=id:=hid
  simp only[Ak4,AlG,Alo,AlK]at hid'
  rw[DC (.inr (by simp;omega))]
  exact hr.fr id (by show hs.length<=id;omega)
 ·have hid':id<(hs.set i (.box (cs.set j (.ow hs.length 0 0)))++[Ob.arr true 0 0 sz f]).length:=hid
  simp only[Ak4,AlG,Alo,AlK]at hid'
  by_cases he:id=hs.length
  ·subst he;rw[hat];simp
  ·rw[DC (.inl (by omega))]
   exact hr.lv id (by show id<hs.length;omega)
theorem Cv.pub {l:List (Nat × VV)}{hs:List Ob}{k t id gen n n' sz:Nat}{f:Nat->List VV}(hk:l[k]?=some (t,.ow id gen n))(ho:hs[id]?=some (.arr true gen n' sz f)) :
  Cv (Aq l hs) (Aq (l.set k (t,.sl true n sz f)) (hs.set id (.gone (gen+1)))):=by
 intro N E φ a w hr
 have hil:id<hs.length:=(AkR.1 ho).1
 have e0:Bn hs id=.arr true gen n' sz f:=by simp[Bn,ho]
 have hpub:Fw (Bn hs) 1 (.ow id gen n)=some (.sl true n sz f,[id]):=by
  unfold Fw
  simp only[e0,Al5,AkQ]
 have hg:=hr.hp.gone (ids:=[id])
 have eH:El [id] (Bn hs)=Bn (hs.set id (.gone (gen+1))):=by
  funext j
  unfold El
  by_cases hj:j=id
  ·subst hj
   simp only[Am2,List.any_nil,Al5,Bool.true_or,AkQ,e0]
   simp[Bn,hil]
  ·have:Nat.beq j id=false:=by
    cases hq:Nat.beq j id with
    | true=>exact absurd (AkT hq) hj
    | false=>rfl
   simp only[Am2,List.any_nil,this,Bool.or_false,AkN]
   simp[Bn,Am0 (Ne.symm hj)]
 refine⟨B9 [id] φ,⟨hr.sz,hr.df,hr.old.ext CB,fun t'=>?_,?_,fun j hj=>?_,fun j hj=>?_⟩,CB⟩
 ·show V w _ _ (BK t' _) _
  have hv:V w _ _ (BK t' l) _:=hr.tm t'
  rcases Ni (y:=.sl true n sz f) hk t' with e | ⟨e1,e2⟩
  ·rw[e];exact hv.ext CB
  ·rw[e2]
   rw[e1]at hv
   exact(IQ hr.hp (ids:=[id]) 1 _ _ _ _ hv hpub (fun i hi=>hi)).mem rfl rfl
 ·show HRel E (Bn (hs.set id (.gone (gen+1)))) _ w
  rw[← eH];exact hg
 ·have hj':(hs.set id (.gone (gen+1))).length<=j:=hj
  rw[AlG]at hj'
  exact CA.2 (hr.fr j hj')
 ·have hj':j<(hs.set id (.gone (gen+1))).length:=hj
  rw[AlG]at hj'
  exact fun h=>hr.lv j hj' (CA.1 h)
def Up (J:St->Prop)(st:St):Prop:=∃ st',Cv st st'/\J st'
theorem Up.mk {J:St->Prop}{l l':List (Nat × VV)}{hs hs':List Ob}(h1:leT l l')(h2:leO hs hs')(h:J (Aq l' hs')):Up J (Aq l hs):=⟨_,(QM.mk' h1 h2).cv,h⟩
theorem Up.of {J:St->Prop}{st:St}(h:J st):Up J st:=⟨st,(QM.refl st).cv,h⟩
theorem Up.cv {J:St->Prop}{st st':St}(h:Cv st st')(k:Up J st'):Up J st:=let ⟨_,k1,k2⟩:=k;⟨_,h.trans k1,k2⟩
theorem AdZ (hT:TOk P T)(hmx:P.follows .mixedOrders=true){lc:Code}(c:Code){K:Exit->St->Prop}{st:St}{p:List Nat}(Sh:Shs)(L:Ann)(keep:List Nat)(J:Nat->St->Prop)(hlc:lc=.loop c)(hB:EM N c=true)(hJ:∃ g,Up (J g) st)
  (round:∀ g st,J g st->xc P T Sh N L (0::p) c (AeF L.base keep (fun st'=>∃ g',g'<g/\Up (J g') st') K) st):Sat P N L.base p lc K st:=by
 subst hlc
 refine⟨fun E φ a w hr=>?_⟩
 obtain⟨g0,st0,hle0,hg0⟩:=hJ
 obtain⟨φ0,hr0,he0⟩:=hle0 N E φ a w hr
 refine KX (fun g a' w'=>∃ E' st' φ',E.Le E'/\J g st'/\Rel N E' st' φ' a' w'/\Fr L.base w φ w' φ') ⟨g0,E,st0,φ0,.refl E,hg0,hr0,Amf he0⟩ ?_
 rintro g a' w' ⟨E',st',φ',h0,h1,h2,h3⟩
 refine Amb ((HA hT hmx c hB _ _ st' (round g st' h1)).h E' φ' a' w' h2) ?_
 rintro e a'' w'' ⟨E'',st'',φ'',g0,g1,g2,g3⟩
 cases e with
 | normal =>
  simp only[AeF]at g1
  cases hq:okF L.base keep st'' with
  | false=>rw[hq]at g1;exact g1.elim
  | true =>
   rw[hq]at g1
   obtain⟨g',k2,st1,hle1,k3⟩:=g1
   obtain⟨φ3,r3,f3⟩:=g2.forget hq
   obtain⟨φ4,r4,e4⟩:=hle1 _ _ _ _ _ r3
   exact⟨g',k2,E'',st1,φ4,h0.trans g0,k3,r4,h3.trans (g3.trans (f3.trans (Amf e4)))⟩
 | _=>exact⟨E'',st'',φ'',h0.trans g0,g1,g2,h3.trans g3⟩
theorem N7 {c rest:Code}{Q:Exit->Act->World->Prop}{a:Act}{w:World}(l:Nat)(J:Nat->Act->World->Prop)(hf:findLabel c l=some rest)
  (first:c.wp P (Exit.jump l (fun a w=>∃ g,J g a w) Q) a w)
  (pass:∀ g a w,J g a w->rest.wp P (Exit.jump l (fun a' w'=>∃ g',g'<g/\J g' a' w') Q) a w):(Code.scope c).wp P Q a w:=by
 classical
 let μ:Act->World->Nat:=fun a w=>if h:∃ g,J g a w then Classical.choose (GL h) else 0
 have hμ:∀ a w,(h:∃ g,J g a w)->J (μ a w) a w/\∀ g',J g' a w->μ a w<=g':=by
  intro a w h
  have e:μ a w=Classical.choose (GL h):=dif_pos h
  rw[e];exact Classical.choose_spec (GL h)
 refine wp_scope_jumps l (fun a w=>∃ g,J g a w) μ hf first ?_
 intro a w hx
 refine Amb (pass _ a w (hμ a w hx).1) fun e a' w' h=>?_
 cases e with
 | goto l' =>
  obtain⟨h1,g',hlt,hj⟩:=h
  exact⟨h1,⟨g',hj⟩,Nat.lt_of_le_of_lt ((hμ _ _ ⟨g',hj⟩).2 g' hj) hlt⟩
 | _=>exact h
theorem Abd (hT:TOk P T)(hmx:P.follows .mixedOrders=true){lc:Code}(c rest:Code){K:Exit->St->Prop}{st:St}{p:List Nat}(Sh:Shs)(L:Ann)(keep:List Nat)(l:Nat)(J:Nat->St->Prop)(hlc:lc=.scope c)(hf:findLabel c l=some rest)(hB:EM N c=true)(hB':EM N rest=true)
  (first:xc P T Sh N L (0::p) c (RP l L.base keep (fun st'=>∃ g,Up (J g) st') K) st)
  (pass:∀ g st,J g st->xc P T Sh N L (1::p) rest (RP l L.base keep (fun st'=>∃ g',g'<g/\Up (J g') st') K) st):Sat P N L.base p lc K st:=by
 subst hlc
 refine⟨fun E φ a w hr=>?_⟩
 have conv:∀ (J1:St->Prop) (J2:Act->World->Prop) (E1:AF) (φ1:Phi) (w1:World),E.Le E1->Fr L.base w φ w1 φ1->(∀ E' st' φ' a' w',E.Le E'->J1 st'->Rel N E' st' φ' a' w'->Fr L.base w φ w' φ'->J2 a' w')->∀ e a' w',(∃ E' st' φ',E1.Le E'/\RP l L.base keep J1 K e st'/\Rel N E' st' φ' a' w'/\Fr L.base w1 φ1 w' φ') ->
   Exit.jump l J2 (fun e a' w'=>∃ E' st' φ',E.Le E'/\K e st'/\Rel N E' st' φ' a' w'/\Fr L.base w φ w' φ') e a' w':=by
  rintro J1 J2 E1 φ1 w1 hE1 hf1 hJ e a' w' ⟨E',st',φ',g0,g1,g2,g3⟩
  cases e with
  | goto l' =>
   simp only[RP]at g1
   cases hq:(Nat.beq l' l&&okF L.base keep st') with
   | false=>rw[hq]at g1;exact g1.elim
   | true =>
    rw[hq]at g1
    rw[AkO]at hq
    obtain⟨φ3,r3,f3⟩:=g2.forget hq.2
    exact⟨AkT hq.1,hJ E' _ φ3 _ _ (hE1.trans g0) g1 r3 (hf1.trans (g3.trans f3))⟩
  | _=>exact⟨E',st',φ',hE1.trans g0,g1,g2,hf1.trans g3⟩
 refine N7 l (fun g a' w'=>∃ E' st' φ',E.Le E'/\J g st'/\Rel N E' st' φ' a' w'/\Fr L.base w φ w' φ') hf ?_ ?_
 ·exact Amb ((HA hT hmx c hB _ _ st first).h E φ a w hr) (conv _ _ E φ w (.refl E) (Fr.refl _ _ _) fun E' st' φ' a' w' h0 ⟨g,st1,hle,hg⟩ h2 h3=>let ⟨φ4,r4,e4⟩:=hle _ _ _ _ _ h2;⟨g,E',st1,φ4,h0,hg,r4,h3.trans (Amf e4)⟩)
 ·rintro g a' w' ⟨E',st',φ',h0,h1,h2,h3⟩
  exact Amb ((HA hT hmx rest hB' _ _ st' (pass g st' h1)).h E' φ' a' w' h2) (conv _ _ E' φ' w' h0 h3 fun E'' st' φ' a' w' h0 ⟨g',hlt,st1,hle,hg⟩ h2 h3=>let ⟨φ4,r4,e4⟩:=hle _ _ _ _ _ h2;⟨g',hlt,E'',st1,φ4,h0,hg,r4,h3.trans (Amf e4)⟩)
end
end
section
def St.init (hs:List Ob)(xs:List VV):St:={ t:=fun i=>xs.getD i .dead,H:=Bn hs,nx:=hs.length }
def YA (T:TypeId->TE)(st:St):ResultVar->Option VV
 | .tmp t=>some (st.t t)
 | .cell p t=>match Jo T st t (st.t p) with
  | { val:=x,new:=_,put:=_,chk:=[] }=>some x
  | _=>none
def Ra (T:TypeId->TE)(st:St):List ResultVar->Option (List VV)
 | []=>some []
 | r::rs=>match YA T st r,Ra T st rs with
  | some x,some xs=>some (x::xs)
  | _,_=>none
def O6 (T:TypeId->TE)(st:St)(rs:List ResultVar):Option VV :=
 match Ra T st rs with
 | some [x]=>some x
 | some xs=>some (.tup xs)
 | none=>none
def Zi (b:Nat)(st:St)(x:VV):Option (List Ob × VV) :=
 bif RG st b (Nb st b (Jc 8 x)) then some ((Nb st b (Jc 8 x)).map (D9 st (Nb st b (Jc 8 x))),Iq st (Nb st b (Jc 8 x)) x) else none
def Zh (T:TypeId->TE)(pub:Bool)(b:Nat)(rs:List ResultVar)(st:St):Option (List Ob × VV) :=
 match O6 T st rs with
 | some x =>
  bif pub then
   match Fw st.H (st.nx+4) x with
   | some (y,ids)=>Zi b { st with H:=El ids st.H } y
   | none=>none
  else Zi b st x
 | none=>none
def Aj5 (T:TypeId->TE)(pub:Bool)(b:Nat)(rs:List ResultVar)(hs:List Ob)(r:VV):Exit->St->Prop
 | .normal,st | .ret,st=>match Zh T pub b rs st with
  | some (hs',r')=>leO hs' hs/\VV.le r' r
  | none=>False
 | _,_=>False
section
variable {P : Program} {T:TypeId->TE} {Sh:Shs} {N b:Nat} {L:Ann} {w:World} {E:AF} {φ:Phi} {st:St} {a:Act}
theorem Adl (hT:TOk P T)(h:Rel N E st φ a w){r:ResultVar}{x:VV}(hr:YA T st r=some x) :
  ∃ v,(match r with | .tmp t=>pure (a.tmps.getD t undef) | .cell p t=>do loadVar t (← asAddr (a.tmps.getD p undef)):Sem Value).run P w=.ok v w/\V w (E.up φ) (some φ) x v:=by
 cases r with
 | tmp t =>
  simp only[YA,AkP]at hr
  subst hr
  exact⟨_,rfl,h.tm t⟩
 | cell p t =>
  simp only[YA]at hr
  split at hr
  ·rename_i y n u hl
   simp only[AkP]at hr
   subst hr
   have hp:=h.tm p
   obtain⟨v,e1,e2⟩:=Ad3 (P:=P) hT h.hp (fun _ _=>rfl) hp (t:=t) (by rw[hl];intro p hp;simp at hp)
   rw[hl]at e2
   refine⟨v,?_,e2⟩
   have haddr:∃ ad,a.tmps.getD p undef=.pointer (some ad):=by
    generalize a.tmps.getD p undef=vp at hp
    generalize st.t p=z at hp hl
    cases z with
    | bp id off=>obtain⟨b,_,e⟩:=hp.bp_inv;exact⟨_,e⟩
    | ep id gen sz i o=>obtain⟨_,_,_,b,_,_,e,_⟩:=hp.ep_inv;exact⟨_,e⟩
    | tp cs=>obtain⟨b,off,e,_⟩:=hp.tp_inv;exact⟨_,e⟩
    | _=>simp[Jo,Res.bad]at hl
   obtain⟨ad,e⟩:=haddr
   rw[e]at e1
   simp only[e,asAddr,Sem.run_bind,Sem.run_pure,Result.andThen_ok]
   simpa[Instr.loadAt,Instr.sureAddr] using e1
  ·cases hr
theorem Ua (hT:TOk P T)(h:Rel N E st φ a w):∀ (rs:List ResultVar) (xs:List VV),Ra T st rs=some xs ->
  ∃ vs:List Value,(rs.mapM (fun r=>match r with | .tmp t=>pure (a.tmps.getD t undef) | .cell p t=>do loadVar t (← asAddr (a.tmps.getD p undef)):ResultVar->Sem Value)).run P w=.ok vs w/\CT w (E.up φ) (some φ) xs vs.toArray
 | [],xs,hx=>by
  simp only[Ra,AkP]at hx
  subst hx
  exact⟨[],rfl,rfl,fun j x h=>by simp at h⟩
 | r::rs,xs,hx=>by
  simp only[Ra]at hx
  split at hx
  ·rename_i x xs' h1 h2
   simp only[AkP]at hx
   subst hx
   obtain⟨v,e1,e2⟩:=Adl hT h h1
   obtain⟨vs,g1,g2⟩:=Ua hT h rs xs' h2
   refine⟨v::vs,?_,by simp[← g2.1],fun j y hy=>?_⟩
   ·rw[List.mapM_cons]
    simp only[Sem.run_bind,e1,g1,Result.andThen_ok,Sem.run_pure]
   ·match j,hy with
    | 0,hy=>simp only[AkZ,AkP]at hy;subst hy;exact e2
    | j+1,hy =>
     have:=g2.2 j y hy
     simpa[Alx] using this
  ·cases hx
theorem T9 (hT:TOk P T)(h:Rel N E st φ a w){fn:Func}{r:VV}(hr:O6 T st fn.results.toList=some r):∃ v,(results fn a.tmps).run P w=.ok v w/\V w (E.up φ) (some φ) r v:=by
 unfold O6 at hr
 cases hx:Ra T st fn.results.toList with
 | none=>rw[hx]at hr;cases hr
 | some xs =>
  obtain⟨vs,g1,g2⟩:=Ua hT h _ xs hx
  have hrun:(results fn a.tmps).run P w=.ok (if h:vs.toArray.size=1 then vs.toArray[0] else .tuple vs.toArray) w:=by
   unfold results
   rw[Array.mapM_eq_mapM_toList,Sem.run_bind,Sem.run_map]
   have key:∀ (r:Result (List Value)),r=.ok vs w->((r.andThen fun a w'=>Result.ok a.toArray w').andThen fun a w'=>Sem.run P (pure (if h:a.size=1 then a[0] else Value.tuple a)) w')=.ok (if h:vs.toArray.size=1 then vs.toArray[0] else .tuple vs.toArray) w:=by rintro _ rfl;rfl
   exact key _ g1
  refine⟨_,hrun,?_⟩
  rw[hx]at hr
  match xs,hr,g2 with
  | [],hr,g2 =>
   simp only[AkP]at hr
   subst hr
   have h0:vs.toArray.size=0:=g2.1
   rw[dif_neg (by omega)]
   exact .tup g2.1 g2.2
  | [x],hr,g2 =>
   simp only[AkP]at hr
   subst hr
   have h0:vs.toArray.size=1:=g2.1
   rw[dif_pos h0]
   have:=g2.2 0 x rfl
   simp only[Array.getD]at this
   rw[dif_pos (by omega)]at this
   exact this
  | x::y::xs,hr,g2 =>
   simp only[AkP]at hr
   subst hr
   have h0:vs.toArray.size=xs.length+2:=by rw[g2.1];simp
   rw[dif_neg (by omega)]
   exact .tup g2.1 g2.2
def fnB (fn:Func)(n:Nat):Bool:=fn.body.isSome&&EM fn.ntmps (fn.body.getD .skip)&&!(fn.name == "runtime.NumGoroutine")&&Nat.ble n fn.ntmps
def Ym (fn:Func):Code:=fn.body.getD .skip
theorem US (h:HRel E st.H φ w)(hlv:∀ id,id<st.nx->φ id≠none){x:VV}{v:Value}(hx:V w (E.up φ) (some φ) x v){hs:List Ob}{r:VV}(ho:Zi b st x=some (hs,r)) :
  ∃ φ',HRel E (Bn hs) φ' w/\Fr b w φ w φ'/\(∀ id,φ' id≠none ↔ id<hs.length)/\V w (E.up φ') (some φ') r v:=by
 unfold Zi at ho
 generalize Nb st b (Jc 8 x)=ids at ho
 cases hk:RG st b ids with
 | false=>rw[hk]at ho;cases ho
 | true =>
  rw[hk]at ho
  simp only[AkQ,AkP,Alu]at ho
  obtain⟨rfl,rfl⟩:=ho
  obtain⟨hk1,hk2⟩:=RF hk
  refine⟨CQ ids φ,h.lend hk1 (fun _ h=>.inl h) (fun _ h=>.inl h) h.sub (fun j id e=>by simp[Bn,e]),Zp hk2,fun id=>?_,EY (FC h (fun _ h=>.inl h) fun _ h=>.inl h) _ _ _ hx⟩
  rw[AlU]
  exact FA hk1 hlv id
theorem Aew (hT:TOk P T)(h:Rel N E st φ a w){fn:Func}{pub:Bool}{hs:List Ob}{r:VV}(ho:Zh T pub b fn.results.toList st=some (hs,r)) :
  ∃ v φ',(results fn a.tmps).run P w=.ok v w/\HRel E (Bn hs) φ' w/\Fr b w φ w φ'/\(∀ id,φ' id≠none ↔ id<hs.length)/\V w (E.up φ') (some φ') r v:=by
 unfold Zh at ho
 split at ho
 ·rename_i x hx
  obtain⟨v,h1,h2⟩:=T9 hT h hx
  cases pub with
  | false =>
   obtain⟨φ',k1,k2,k3,k4⟩:=US h.hp h.lv h2 ho
   exact⟨v,φ',h1,k1,k2,k3,k4⟩
  | true =>
   simp only[AkQ]at ho
   split at ho
   ·rename_i y ids hp
    have h3:=IQ (ids:=ids) h.hp _ x y v ids h2 hp fun _ h=>h
    obtain⟨φ',k1,k2,k3,k4⟩:=US (st:={ st with H:=El ids st.H }) (h.hp.gone (ids:=ids)) (fun id hid e=>h.lv id hid (CA.1 e)) (V.held (V.unhold h3)) ho
    exact⟨v,φ',h1,k1,(Amf CB).trans k2,k3,k4⟩
   ·cases ho
 ·cases ho
theorem V.over {E':AF}{w':World}{m:Option Phi}{x:VV}{v:Value}(h:V w (E'.up φ) m x v)(hs:w.heap.size<=w'.heap.size)(hA:∀ k,k<w.heap.size->¬ E'.fz k->w'.heap[k]?=w.heap[k]?/\¬ E.fz k)(hR:∀ k,k<w.heap.size->¬ E'.br k->w'.heap[k]?=w.heap[k]?/\¬ E.br k):V w' (E.up φ) m x v :=
 h.mono hs (fun k hk hn=>let ⟨h1,h2⟩:=hA k hk fun e=>hn (.inl e);⟨h1,fun e=>e.elim h2 fun h=>hn (.inr h)⟩) (fun k hk hn=>let ⟨h1,h2⟩:=hR k hk fun e=>hn (.inl e);⟨h1,fun e=>e.elim h2 fun h=>hn (.inr h)⟩) (by cases m with
  | none=>trivial
  | some φ=>exact Hy.refl φ)
theorem HRel.over {E':AF}{w':World}{H:Nat->Ob}(h:HRel E' H φ w)(hb:∀ k,E.br k->E.fz k)(hs:w.heap.size<=w'.heap.size)(hA:∀ k,k<w.heap.size->¬ E'.fz k->w'.heap[k]?=w.heap[k]?/\¬ E.fz k)(hR:∀ k,k<w.heap.size->¬ E'.br k->w'.heap[k]?=w.heap[k]?/\¬ E.br k):HRel E H φ w':=by
 have own:∀ {id p k},φ id=some p->PlB p k->w'.heap[k]?=w.heap[k]?:=fun{id p k} e hp=>by
  have ho:Own φ k:=⟨id,AI.2 ⟨p,e,hp⟩⟩
  exact(hA k (h.lt ho) (h.free k ho)).1
 refine⟨hb,fun id p e=>?_,h.inj,fun k hk=>(hA k (h.lt hk) (h.free k hk)).2⟩
 have ho:=h.ob id p e
 generalize H id=o at ho ⊢
 cases o with
 | box cs =>
  cases p with
  | box b =>
   obtain⟨c,ty,a1,a2⟩:=ho
   exact⟨c,ty,(own e rfl).trans a1,a2.1,fun j x hx=>(a2.2 j x hx).over hs hA hR⟩
  | arr=>exact ho.elim
 | arr fr g n sz f =>
  cases p with
  | box b=>exact ho.elim
  | arr g' n' hd =>
   obtain⟨rfl,rfl,ho⟩:=ho
   refine⟨rfl,rfl,?_⟩
   match hd,ho,e with
   | none,ho,_=>exact ho
   | some (b,cap),ho,e =>
    obtain⟨c,ty,a1,a2,a3,a4,a5,a6,a7⟩:=ho
    refine⟨c,ty,(own e ⟨cap,rfl⟩).trans a1,a2,a3,a4,a5,fun i j x hi hx=>?_,a7⟩
    have:=a6 i j x hi hx
    cases fr with
    | true=>exact V.mono (E:=(E'.up φ).hold) (E':=(E.up φ).hold) this hs (fun k hk hn=>let ⟨h1,h2⟩:=hA k hk fun e=>hn (.inl e);⟨h1,fun e=>e.elim h2 fun h=>hn (.inr h)⟩) (fun _ _ hn=>(hn trivial).elim) trivial
    | false=>exact V.over (E:=E) (E':=E') this hs hA hR
 | gone g =>
  cases p with
  | box b=>exact ho.elim
  | arr g' n' hd=>exact ho
theorem Rel.over {E':AF}{w':World}(h:Rel N E' st φ a w)(hb:∀ k,E.br k->E.fz k)(hs:w.heap.size<=w'.heap.size)(hA:∀ k,k<w.heap.size->¬ E'.fz k->w'.heap[k]?=w.heap[k]?/\¬ E.fz k)(hR:∀ k,k<w.heap.size->¬ E'.br k->w'.heap[k]?=w.heap[k]?/\¬ E.br k)
  (hz:∀ k,E.fz k->k<w'.heap.size) (hd:QQ E E.ds w') (hl:∀ k,k∈D8->w'.heap[k]?=w.heap[k]?):Rel N E st φ { a with defers:=E.ds } w' :=
 ⟨h.sz,⟨rfl,hd⟩,⟨hz,h.old.lib.at'.congr hl,fun k hk=>Ale (h.old.lib.lt k hk) hs,h.old.lib.out⟩,fun t=>(h.tm t).over hs hA hR,h.hp.over hb hs hA hR,h.fr,h.lv⟩
def IJ : List Nat->World->World
 | [],w=>w
 | D::Ds,w=>IJ Ds (w.putObj D (.deferred none))
theorem Kv : ∀ {Ds:List Nat} {w:World},(IJ Ds w).heap.size=w.heap.size
 | [],_=>rfl
 | D::Ds,w=>(Kv (Ds:=Ds)).trans (by simp)
theorem Rp : ∀ {Ds:List Nat} {w:World},(IJ Ds w).os=w.os/\(IJ Ds w).tape=w.tape/\(IJ Ds w).output=w.output
 | [],_=>⟨rfl,rfl,rfl⟩
 | D::Ds,w=>Rp (Ds:=Ds) (w:=w.putObj D (.deferred none))
theorem GR {k:Nat}:∀ {Ds:List Nat} {w:World},k ∉ Ds->(IJ Ds w).heap[k]?=w.heap[k]?
 | [],_,_=>rfl
 | D::Ds,w,h=>by
  simp only[AlC,not_or]at h
  exact(GR (Ds:=Ds) h.2).trans (World.putObj_heap_other h.1)
theorem Mz {fn:Func}{tmps:Array Value}{R:Ending->World->Prop}:∀ (Ds:List Nat) (w:World),Ds.Nodup->(∀ D,D∈Ds->w.heap[D]?=some (.deferred (some [])))->(∃ v,(results fn tmps).run P (IJ Ds w)=.ok v (IJ Ds w)/\R (.returned v) (IJ Ds w))->LeavesInM Fence.wide 0 P fn tmps R (Ds.map AgS) .returning w
 | [],w,_,_,h=>h
 | D::Ds,w,hn,hm,h=>by
  rw[Am4]at hn
  exact⟨by simp,.inl ⟨D,_,rfl,run_takeDeferred (hm D (AkY ..)),Mz Ds _ hn.2 (fun D' hD'=>(World.putObj_heap_other fun e=>hn.1 (by rw[← e];exact hD')).trans (hm D' (Alb _ hD'))) h⟩⟩
theorem Qw {f:FuncId}{fn:Func}{c:Code}{args:Array Value}{R:Ending->World->Prop}(hf:P.funcs[f]?=some fn)(hb:fn.body=some c)
  (h:c.wp P (fun e a w=>(e=.normal∨e=.ret)/\∃ Ds:List Nat,a.defers=Ds.map AgS/\Ds.Nodup/\(∀ D,D∈Ds->w.heap[D]?=some (.deferred (some []))) /\
   ∃ v,(results fn a.tmps).run P (IJ Ds w)=.ok v (IJ Ds w)/\R (.returned v) (IJ Ds w)) { tmps:=args++Array.replicate (fn.ntmps - args.size) undef,defers:=[] } w):Calls P f args w R:=by
 refine(callsIn_wide (n:=0)).1 (callsIn_of_wp_marks hf hb trivial (wpIn_mono (wpIn_wide.2 h) ?_) rfl)
 rintro e a w ⟨he,Ds,hd,hn,hD,hv⟩
 have key:LeavesInM Fence.wide 0 P fn a.tmps R a.defers .returning w:=by rw[hd];exact Mz Ds w hn hD hv
 rcases he with rfl | rfl<;>exact key
def Ae0 (P:Program)(T:TypeId->TE)(Sh:Shs)(L:Ann)(pub:Bool)(fn:Func)(hs:List Ob)(xs:List VV)(hs':List Ob)(r:VV):Prop :=
 xc P T Sh fn.ntmps L [] (Ym fn) (Aj5 T pub L.base fn.results.toList hs' r) (St.init hs xs)
theorem Adj (hT:TOk P T)(hmx:P.follows .mixedOrders=true){f:FuncId}{fn:Func}{hs:List Ob}{xs:List VV}{hs':List Ob}{r:VV}(Sh:Shs)(L:Ann)(pub:Bool)(hf:P.funcs[f]?=some fn)
  (hfn:fnB fn xs.length=true) (hb:L.base=hs.length) (h:Ae0 P T Sh L pub fn hs xs hs' r):Aj P f hs xs hs' r:=by
 unfold Ae0 Ym at h
 unfold fnB at hfn
 simp only[AkO,Amn]at hfn
 obtain⟨⟨⟨hb1,hB⟩,hn⟩,hx⟩:=hfn
 obtain⟨c,hbd⟩:=Option.isSome_iff_exists.1 hb1
 rw[hbd,Amc]at h hB
 refine⟨⟨fn,hf,by rw[hbd];rfl,hn⟩,fun w E φ vs hz hH hφ hs1=>?_⟩
 have hxl:=Ak7 hx
 obtain⟨E1,hE1,e1,e2,e3⟩:∃ E1:AF,E1.lo=w.heap.size/\E1.fz=E.fz/\E1.br=E.br/\E1.ds=[]:=⟨⟨E.fz,E.br,w.heap.size,[]⟩,rfl,rfl,rfl,rfl⟩
 have le1:∀ k,E.fz k->E1.fz k:=fun k h=>by rw[e1];exact h
 have le2:∀ k,E.br k->E1.br k:=fun k h=>by rw[e2];exact h
 have le3:∀ k,E1.fz k->E.fz k:=fun k h=>by rw[e1]at h;exact h
 have le4:∀ k,E1.br k->E.br k:=fun k h=>by rw[e2]at h;exact h
 have hrel:Rel fn.ntmps E1 (St.init hs xs) φ { tmps:=vs++Array.replicate (fn.ntmps - vs.size) undef,defers:=[] } w:=by
  refine⟨?_,⟨e3.symm,by rw[e3];exact .nil (AmH hE1)⟩,⟨fun k hk=>hz.lt k (le3 k hk),hz.lib⟩,fun t=>?_,hH.over (fun k h=>le1 k (hH.sub k (le4 k h))) (AkU _) (fun _ _ h=>⟨rfl,fun e=>h (le3 _ e)⟩) (fun _ _ h=>⟨rfl,fun e=>h (le4 _ e)⟩),fun id hid=>?_,fun id hid=>(hφ id).2 hid⟩
  ·simp[hs1.1];omega
  ·show V w _ _ (xs.getD t .dead) _
   cases hq:xs[t]? with
   | none=>rw[Ak2,hq];exact .dead
   | some x =>
    have ht:t<vs.size:=by rw[hs1.1];exact(AkR.1 hq).1
    rw[Ak2,hq]
    have:=hs1.2 t x hq
    have e:(vs++Array.replicate (fn.ntmps - vs.size) undef).getD t undef=vs.getD t undef:=by
     simp[Am6 ht]
    rw[e]
    exact this.over (AkU _) (fun _ _ h=>⟨rfl,fun e=>h (le3 _ e)⟩) fun _ _ h=>⟨rfl,fun e=>h (le4 _ e)⟩
  ·have hid':hs.length<=id:=hid
   exact Alf fun hn=>by have:=(hφ id).1 hn;omega
 refine Qw hf hbd (Amb ((HA hT hmx c hB _ _ _ h).h E1 φ _ w hrel) ?_)
 rintro e a' w' ⟨E',st',φ',h0,h1,h2,h3⟩
 have key:(match Zh T pub L.base fn.results.toList st' with
  | some (hs'',r')=>leO hs'' hs'/\VV.le r' r
  | none=>False)->∃ Ds:List Nat,a'.defers=Ds.map AgS/\Ds.Nodup/\(∀ D,D∈Ds->w'.heap[D]?=some (.deferred (some []))) /\
   ∃ v,(results fn a'.tmps).run P (IJ Ds w')=.ok v (IJ Ds w')/\∃ v' φ'',Ending.returned v=.returned v'/\HRel E (Bn hs') φ'' (IJ Ds w')/\Fr hs.length w φ (IJ Ds w') φ''/\(∀ id,φ'' id≠none ↔ id<hs'.length)/\V (IJ Ds w') (E.up φ'') (some φ'') r v':=by
  intro hres
  obtain⟨hds,hlo,Ds,hd,hnd,hm⟩:=h2.df
  rw[← hds]at hd
  have hz':∀ k,E.fz k->k<w'.heap.size:=fun k hk=>h2.old.lt k (h0.fz k (le1 k hk))
  have hr2:Rel fn.ntmps { E with lo:=0,ds:=[] } st' φ' { a' with defers:=[] } (IJ Ds w'):=by
   refine h2.over (fun k h=>hH.sub k h) (AmH Kv.symm) (fun k _ hn=>⟨GR fun h=>hn (hm k h).2.1,fun h=>hn (h0.fz k (le1 k h))⟩) (fun k _ hn=>⟨GR fun h=>hn (hm k h).2.2.1,fun h=>hn (h0.br k (le2 k h))⟩)
    (fun k hk=>by rw[Kv];exact hz' k hk) (.nil (AkV _)) fun k hk=>GR fun h=>(hm k h).2.2.2.1 hk
  have hf2:Fr L.base w φ (IJ Ds w') φ':=by
   obtain⟨s1,s2,s3⟩:=Rp (Ds:=Ds) (w:=w')
   refine⟨s1.trans h3.os,s2.trans h3.tape,s3.trans h3.output,by rw[Kv];exact h3.size,fun k hk hn=>?_,h3.new,h3.kind⟩
   rw[GR fun h=>?_]
   ·exact h3.block k hk hn
   ·have:=(hm k h).2.2.2.2
    rw[h0.lo,hE1]at this
    omega
  split at hres
  ·rename_i hs'' r' ho
   obtain⟨v,φ'',g1,g2,g3,g4,g5⟩:=Aew hT hr2 ho
   have hl:=(Gj hres.1).1
   refine⟨Ds,hd,hnd,fun D hD=>(hm D hD).1,v,g1,v,φ'',rfl,(g2.le hres.1).over hH.sub (AkU _) (fun _ _ h=>⟨rfl,h⟩) (fun _ _ h=>⟨rfl,h⟩),?_,fun id=>by rw[← hl];exact g4 id,(hres.2 _ _ _ _ g5).over (AkU _) (fun _ _ h=>⟨rfl,h⟩) (fun _ _ h=>⟨rfl,h⟩)⟩
   rw[← hb]
   exact hf2.trans g3
  ·exact hres.elim
 cases e with
 | normal=>exact⟨.inl rfl,key h1⟩
 | ret=>exact⟨.inr rfl,key h1⟩
 | _=>exact h1.elim
theorem Aj.le {f:FuncId}{hs hs' hs1 hs2:List Ob}{xs xs1:List VV}{r r':VV}(h:Aj P f hs xs hs' r)(h1:leO hs1 hs)(h2:leL xs1 xs)(h3:leO hs' hs2)(h4:VV.le r r'):Aj P f hs1 xs1 hs2 r':=by
 refine⟨h.callable,fun w E φ vs hz hH hφ hs0=>?_⟩
 obtain⟨k1,k2⟩:=H6 h2
 have hl1:=(Gj h1).1
 have hl3:=(Gj h3).1
 refine(h.call w E φ vs hz (hH.le h1) (fun id=>by rw[← hl1];exact hφ id) ⟨hs0.1.trans k1,fun j y hy=>let ⟨x,hx,hle⟩:=k2 j y hy;hle _ _ _ _ (hs0.2 j x hx)⟩).mono ?_
 rintro e w' ⟨v,φ',e1,g1,g2,g3,g4⟩
 exact⟨v,φ',e1,g1.le h3,by rw[hl1];exact g2,fun id=>by rw[← hl3];exact g3 id,h4 _ _ _ _ g4⟩
end
end
section
structure Ctx where
 P:Program
 T:TypeId->TE
 Sh:Shs
 N:Nat
 L:Ann
 code:Code
 p0:List Nat
 K0:Exit->St->Prop
def Ctx.goal (c:Ctx)(st:St):Prop:=xc c.P c.T c.Sh c.N c.L c.p0 c.code c.K0 st
def Ctx.sub (c:Ctx)(rel:List Nat):Code:=EA rel c.code
def Ctx.k (c:Ctx)(rel:List Nat):Exit->St->Prop:=RO c.P c.T c.Sh c.N c.L rel c.p0 c.code c.K0
def Ctx.at (c:Ctx)(rel:List Nat):List Nat:=rel.reverse++c.p0
def AB (c:Ctx)(rel:List Nat)(st:St):Prop:=Sat c.P c.N c.L.base (c.at rel) (c.sub rel) (c.k rel) st
def Ctx.loop (c:Ctx)(rel:List Nat)(J:St->Prop):Ctx :=
 { c with code:=EA (rel++[0]) c.code,p0:=0::c.at rel,K0:=AeF c.L.base (c.L.keep (c.at rel)) J (c.k rel) }
def Ctx.first (c:Ctx)(rel:List Nat)(l:Nat)(J:St->Prop):Ctx :=
 { c with code:=EA (rel++[0]) c.code,p0:=0::c.at rel,K0:=RP l c.L.base (c.L.keep (c.at rel)) J (c.k rel) }
def Ctx.pass (c:Ctx)(rel:List Nat)(l:Nat)(J:St->Prop):Ctx :=
 { c with code:=(findLabel (EA (rel++[0]) c.code) l).getD .skip,p0:=1::c.at rel,K0:=RP l c.L.base (c.L.keep (c.at rel)) J (c.k rel) }
def Ctx.cut (c:Ctx)(rel:List Nat):Ctx:={ c with code:=EA rel c.code,p0:=c.at rel,K0:=c.k rel }
def CR (P:Program)(T:TypeId->TE)(Sh:Shs)(L:Ann)(pub:Bool)(fn:Func)(hs':List Ob)(r:VV):Ctx :=
 ⟨P,T,Sh,fn.ntmps,L,Ym fn,[],Aj5 T pub L.base fn.results.toList hs' r⟩
theorem Abg {c:Ctx}(hT:TOk c.P c.T)(hmx:c.P.follows .mixedOrders=true){rel:List Nat}{st:St}(J:Nat->St->Prop)(hl:c.sub rel=.loop (EA (rel++[0]) c.code))(hB:EM c.N (EA (rel++[0]) c.code)=true)(hJ:∃ g,Up (J g) st)
  (round:∀ g st,J g st->(c.loop rel fun st'=>∃ g',g'<g/\Up (J g') st').goal st):AB c rel st :=
 AdZ (L:=c.L) (p:=c.at rel) (K:=c.k rel) hT hmx _ c.Sh (c.L.keep (c.at rel)) J hl hB hJ round
theorem Xb {c:Ctx}(hT:TOk c.P c.T)(hmx:c.P.follows .mixedOrders=true){rel:List Nat}{st:St}(l:Nat)(J:Nat->St->Prop)(hl:c.sub rel=.scope (EA (rel++[0]) c.code))(hf:(findLabel (EA (rel++[0]) c.code) l).isSome=true)
  (hB:EM c.N (EA (rel++[0]) c.code)=true) (hB':EM c.N ((findLabel (EA (rel++[0]) c.code) l).getD .skip)=true)
  (first:(c.first rel l fun st'=>∃ g,Up (J g) st').goal st) (pass:∀ g st,J g st->(c.pass rel l fun st'=>∃ g',g'<g/\Up (J g') st').goal st):AB c rel st:=by
 obtain⟨rest,hr⟩:=Option.isSome_iff_exists.1 hf
 have e:(findLabel (EA (rel++[0]) c.code) l).getD .skip=rest:=by rw[hr];rfl
 refine Abd (L:=c.L) (p:=c.at rel) (K:=c.k rel) hT hmx _ rest c.Sh (c.L.keep (c.at rel)) l J hl hr hB (by rw[← e];exact hB') first fun g st h=>?_
 rw[← e]
 exact pass g st h
theorem AB.le {c:Ctx}{rel:List Nat}{l l':List (Nat × VV)}{hs hs':List Ob}(h1:leT l l')(h2:leO hs hs')(h:AB c rel (Aq l' hs')):AB c rel (Aq l hs):=Sat.le h1 h2 h
theorem AB.own {c:Ctx}{rel:List Nat}{l:List (Nat × VV)}{hs:List Ob}(k t sz:Nat)(f:Nat->List VV)(hk:l[k]?=some (t,.nl))(h:AB c rel (Aq (l.set k (t,.ow hs.length 0 0)) (hs++[.arr true 0 0 sz f]))):AB c rel (Aq l hs):=Sat.own k t sz f hk h
structure Bc (A:Prop):Prop where
 out:A
theorem Ali {A Q:Prop}(e:A=Q)(h:Q):Bc A:=⟨e.mpr h⟩
theorem Ah {P:Program}{T:TypeId->TE}(hT:TOk P T)(hmx:P.follows .mixedOrders=true){f:FuncId}{fn:Func}{hs:List Ob}{xs:List VV}{hs':List Ob}{r:VV}{Sh:Shs}{L:Ann}{pub:Bool}{Q:Prop}(hf:P.funcs[f]?=some fn)
  (hfn:fnB fn xs.length=true) (hb:L.base=hs.length) (e:(CR P T Sh L pub fn hs' r).goal (St.init hs xs)=Q) (h:Q):Aj P f hs xs hs' r :=
 Adj hT hmx Sh L pub hf hfn hb (e.mpr h)
theorem KN {c:Ctx}(hT:TOk c.P c.T)(hmx:c.P.follows .mixedOrders=true){rel:List Nat}{st:St}{Q:Prop}(hB:EM c.N (EA rel c.code)=true)(e:(c.cut rel).goal st=Q)(h:Q):AB c rel st :=
 HA (L:=c.L) hT hmx _ hB _ _ _ (e.mpr h)
theorem Br {c:Ctx}(hT:TOk c.P c.T)(hmx:c.P.follows .mixedOrders=true){rel:List Nat}{st:St}(J:Nat->St->Prop)(hl:c.sub rel=.loop (EA (rel++[0]) c.code))(hB:EM c.N (EA (rel++[0]) c.code)=true)(hJ:∃ g,Up (J g) st)
  (round:∀ g st,J g st->Bc ((c.loop rel fun st'=>∃ g',g'<g/\Up (J g') st').goal st)):AB c rel st :=
 Abg hT hmx J hl hB hJ fun g st h=>(round g st h).out
theorem Abb {c:Ctx}(hT:TOk c.P c.T)(hmx:c.P.follows .mixedOrders=true){rel:List Nat}{st:St}(l:Nat)(J:Nat->St->Prop)(hl:c.sub rel=.scope (EA (rel++[0]) c.code))(hf:(findLabel (EA (rel++[0]) c.code) l).isSome=true)
  (hB:EM c.N (EA (rel++[0]) c.code)=true) (hB':EM c.N ((findLabel (EA (rel++[0]) c.code) l).getD .skip)=true)
  (first:Bc ((c.first rel l fun st'=>∃ g,Up (J g) st').goal st)) (pass:∀ g st,J g st->Bc ((c.pass rel l fun st'=>∃ g',g'<g/\Up (J g') st').goal st)):AB c rel st :=
 Xb hT hmx l J hl hf hB hB' first.out fun g st h=>(pass g st h).out
end
section
section
variable {w : World} {E:AF} {m:Option Phi} {v:Value}
theorem V.unmap {φ:Phi}(hφ:∀ id,φ id=none){x:VV}(h:V w E (some φ) x v):V w E none x v:=by
 generalize hm:some φ=m0 at h
 induction h with
 | dead=>exact .dead
 | sc=>exact .sc
 | nl=>exact .nl
 | nil h=>exact .nil h
 | sl u h1 h2 h3 h4 h5 h6 h7 _=>exact .sl u h1 h2 h3 h4 h5 h6 h7
 | tp u h1 h2 h3 h4 _=>exact .tp u h1 h2 h3 h4
 | bp h=>obtain rfl:=Ak9 hm;rw[hφ]at h;cases h
 | ow h=>obtain rfl:=Ak9 hm;rw[hφ]at h;cases h
 | ep h=>obtain rfl:=Ak9 hm;rw[hφ]at h;cases h
 | agg h1 h2 ih=>exact .agg h1 fun j x hx=>ih j x hx hm
 | tup h1 h2 ih=>exact .tup h1 fun j x hx=>ih j x hx hm
 | fn h1 h2 ih=>exact .fn h1 fun j x hx=>ih j x hx hm
 | er h=>exact .er h
theorem CT.cons_inv {x:VV}{xs:List VV}{vs:Array Value}(h:CT w E m (x::xs) vs):∃ u us,vs=#[u]++us/\V w E m x u/\CT w E m xs us:=by
 obtain⟨l⟩:=vs
 match l,h with
 | [],h=>have:=h.1;simp at this
 | u::l,h =>
  refine⟨u,l.toArray,by simp,h.2 0 x rfl,by have:=h.1;simpa using this,fun j y hy=>?_⟩
  have:=h.2 (j+1) y hy
  simpa[Alx] using this
theorem CT.nil_inv {vs:Array Value}(h:CT w E m [] vs):vs=#[]:=by
 have:=h.1;exact Array.eq_empty_of_size_eq_zero (by simpa using this)
theorem V.agg2_inv {x y:VV}(h:V w E m (.agg [x,y]) v):∃ a b,v=.agg #[a,b]/\V w E m x a/\V w E m y b:=by
 obtain⟨vs,rfl,h1,h2⟩:=h.agg_inv
 obtain⟨l⟩:=vs
 match l,h1,h2 with
 | [a,b],_,h2=>exact⟨a,b,rfl,h2 0 x rfl,h2 1 y rfl⟩
theorem WE {x y:VV}{a b:Value}(h1:V w E m x a)(h2:V w E m y b):V w E m (.agg [x,y]) (.agg #[a,b]):=by
 refine .agg rfl fun j z hz=>?_
 match j,hz with
 | 0,hz=>simp only[AkZ,AkP]at hz;subst hz;exact h1
 | 1,hz=>simp only[AlA,AkZ,AkP]at hz;subst hz;exact h2
 | j+2,hz=>simp at hz
theorem Su {x y:VV}{a b:Value}(h1:V w E m x a)(h2:V w E m y b):V w E m (.tup [x,y]) (.tuple #[a,b]):=by
 refine .tup rfl fun j z hz=>?_
 match j,hz with
 | 0,hz=>simp only[AkZ,AkP]at hz;subst hz;exact h1
 | 1,hz=>simp only[AlA,AkZ,AkP]at hz;subst hz;exact h2
 | j+2,hz=>simp at hz
theorem Adp {x y z:VV}{a b c:Value}(h1:V w E m x a)(h2:V w E m y b)(h3:V w E m z c):V w E m (.tup [x,y,z]) (.tuple #[a,b,c]):=by
 refine .tup rfl fun j z hz=>?_
 match j,hz with
 | 0,hz=>simp only[AkZ,AkP]at hz;subst hz;exact h1
 | 1,hz=>simp only[AlA,AkZ,AkP]at hz;subst hz;exact h2
 | 2,hz=>simp only[AlA,AkZ,AkP]at hz;subst hz;exact h3
 | j+3,hz=>simp at hz
end
theorem Aj.hand {P:Program}{f:FuncId}{xs:List VV}{r:VV}(hc:Hm P f)
  (h:∀ (w:World) (E:AF) (vs:Array Value),(∀ k,E.fz k->k<w.heap.size)->Cn w->(∀ k,k∈D8->k<w.heap.size)->(∀ k,E.br k->E.fz k)->CT w E none xs vs->Calls P f vs w fun e w'=>∃ v,e=.returned v/\V w' E none r v/\Below w.heap.size w w'):Aj P f [] xs [] r:=by
 refine⟨hc,fun w E φ vs hz hH hφ hs=>?_⟩
 have hnone:∀ id,φ id=none:=fun id=>Alf fun hn=>by have:=(hφ id).1 hn;simp at this
 refine(h w (E.up φ) vs ?_ hz.lib.at' hz.lib.lt ?_ ⟨hs.1,fun j x hx=>(hs.2 j x hx).unmap hnone⟩).mono ?_
 ·rintro k (hk | hk)
  ·exact hz.lt k hk
  ·exact hH.lt hk
 ·exact fun k hk=>hk.imp (hH.sub k) fun h=>h
 ·rintro e w' ⟨v,rfl,hV,hB⟩
  exact⟨v,φ,rfl,hH.below hB,Amf (Ext.of_below hB),hφ,hV.held⟩
theorem Aj.start {P:Program}{f:FuncId}{xs:List VV}{r:VV}(h:Aj P f [] xs [] r){w:World}{vs:Array Value}(hL:Cn w)(hB:∀ k,k∈D8->k<w.heap.size)(hs:CT w ⟨fun _=>False,fun _=>False,0,[]⟩ none xs vs) :
  Calls P f vs w fun e w'=>∃ v,e=.returned v/\Below w.heap.size w w'/\V w' ⟨fun _=>False,fun _=>False,0,[]⟩ none r v:=by
 have hno:∀ k,¬ Own (fun _=>none:Phi) k:=by
  rintro k ⟨id,hb⟩
  obtain⟨p,hp,_⟩:=AI.1 hb
  cases hp
 refine(h.call w ⟨fun _=>False,fun _=>False,0,[]⟩ (fun _=>none) vs ⟨fun _ h=>h.elim,hL,hB,fun k _ ho=>hno k ho⟩ ⟨fun _ h=>h,fun id p e=>(by cases e),fun i j k hb=>(hno k ⟨i,hb⟩).elim,fun k hk=>(hno k hk).elim⟩ (fun id=>by simp) ⟨hs.1,fun j x hx=>?_⟩).mono ?_
 ·exact((hs.2 j x hx).held).less (fun k hk=>hk.elim (fun h=>h) (hno k)) fun k hk=>hk.elim (fun h=>h) (hno k)
 ·rintro e w' ⟨v,φ',rfl,_,h2,h3,h4⟩
  have hnone:∀ id,φ' id=none:=fun id=>Alf fun hn=>by have:=(h3 id).1 hn;simp at this
  refine⟨v,rfl,⟨h2.os,h2.tape,h2.output,h2.size,fun k hk=>h2.block k hk (hno k)⟩,(h4.unmap hnone).less (fun _ h=>h.elim) fun _ h=>h.elim⟩
end
def Aa (n:Int):VV:=.sc (.int .i64 n)
def Ac (b:Bool):VV:=.sc (.bool b)
def AP (s:ByteArray):VV:=.sc (.string s)
structure Ev {α:Type} (p:Pkg α) (enc:α->List VV) (wf:α->Prop):Prop where
 ok:∀ {w:World} {E:AF} {m:Option Phi} {cs:List Value} {x:α},(∀ k,¬ E.fz k)->p.mu x<=1048576->Is p w cs x->cs.length=(enc x).length/\(∀ (j:Nat) (y:VV),(enc x)[j]?=some y->V w E m y (cs.getD j undef))/\wf x
namespace Ev
def wInt (k:IntKind)(n:Int):Prop:=(Lit.int k n).wf=true
theorem imp {α:Type}{p:Pkg α}{e e':α->List VV}{wf wf':α->Prop}(h:Ev p e wf)(he:∀ x,e x=e' x)(hw:∀ x,wf x->wf' x):Ev p e' wf':=⟨fun{w E m cs x} hE hm k=>by
 obtain⟨h1,h2,h3⟩:=h.ok (E:=E) (m:=m) hE hm k
 rw[← he x]
 exact⟨h1,h2,hw x h3⟩⟩
theorem int (k:IntKind):Ev (Pkg.int k) (fun n=>[.sc (.int k n)]) (wInt k):=⟨fun{w E m cs x} _ _ h=>by
 obtain⟨rfl,hw⟩:=XO.1 h
 refine⟨rfl,fun j y hy=>?_,hw⟩
 match j,hy with
 | 0,hy=>simp only[AkZ,AkP]at hy;subst hy;exact .sc
 | j+1,hy=>simp at hy⟩
theorem bool : Ev Pkg.bool (fun b=>[.sc (.bool b)]) (fun _=>True):=⟨fun{w E m cs x} _ _ h=>by
 obtain rfl:=Ag4.1 h
 refine⟨rfl,fun j y hy=>?_,trivial⟩
 match j,hy with
 | 0,hy=>simp only[AkZ,AkP]at hy;subst hy;exact .sc
 | j+1,hy=>simp at hy⟩
theorem str : Ev Pkg.str (fun b=>[.sc (.string b)]) (fun b=>b.size<=1048576):=⟨fun{w E m cs x} _ hm h=>by
 obtain⟨rfl,hs⟩:=Aja.1 h
 have hm':x.size+1<=1048576:=hm
 refine⟨rfl,fun j y hy=>?_,by omega⟩
 match j,hy with
 | 0,hy=>simp only[AkZ,AkP]at hy;subst hy;exact .sc
 | j+1,hy=>simp at hy⟩
theorem unit : Ev Pkg.unit (fun _=>[]) (fun _=>True):=⟨fun{w E m cs x} _ _ h=>by
 obtain rfl:=Zu.1 h
 exact⟨rfl,fun j y hy=>by simp at hy,trivial⟩⟩
theorem cons {α β:Type}{p:Pkg α}{q:Pkg β}{e1:α->List VV}{e2:β->List VV}{w1:α->Prop}{w2:β->Prop}{n:Nat}(h1:Ev p e1 w1)(h2:Ev q e2 w2):Ev (Pkg.cons n p q) (fun y=>e1 y.1++e2 y.2) (fun y=>w1 y.1/\w2 y.2):=⟨fun{w E m cs x} hE hm h=>by
 obtain⟨a,b,rfl,ha,k1,k2⟩:=Ag3.1 h
 have hm':p.mu x.1+q.mu x.2<=1048576:=hm
 obtain⟨l1,v1,f1⟩:=h1.ok (E:=E) (m:=m) hE (by omega) k1
 obtain⟨l2,v2,f2⟩:=h2.ok (E:=E) (m:=m) hE (by omega) k2
 refine⟨by simp[l1,l2],fun j y hy=>?_,f1,f2⟩
 by_cases hj:j<(e1 x.1).length
 ·rw[Ak0 hj]at hy
  have:=v1 j y hy
  rw[Ak2,Ak0 (by omega),← Ak2]
  exact this
 ·rw[Ak8 (by omega)]at hy
  have:=v2 _ y hy
  rw[Ak2,Ak8 (by omega),l1,← Ak2]
  exact this⟩
theorem via {α β:Type}{p:Pkg α}{e:α->List VV}{wf:α->Prop}(f:β->α)(h:Ev p e wf):Ev (Pkg.via f p) (fun y=>e (f y)) (fun y=>wf (f y)):=⟨fun{w E m cs x} hE hm k=>h.ok hE (by have hm':p.mu (f x)+1<=1048576:=hm;omega) (AeO.1 k)⟩
theorem mem_sum {α:Type}{μ:α->Nat}:∀ {l:List α} {y:α},y∈l->μ y<=Rd.sum μ l
 | x::l,y,h=>by
  rcases AlC.1 h with rfl | h
  ·simp only[Rd.sum];omega
  ·have:=mem_sum (μ:=μ) h;simp only[Rd.sum];omega
 | [],_,h=>by cases h
theorem len_sum {α:Type}{μ:α->Nat}(h1:∀ x,1<=μ x):∀ (l:List α),l.length<=Rd.sum μ l
 | []=>by simp
 | x::l=>by have:=len_sum h1 l;have:=h1 x;simp only[Rd.sum,Alo];omega
theorem one_sum {α:Type}{μ:α->Nat}:∀ (l:List α),1<=Rd.sum μ l
 | []=>by simp[Rd.sum]
 | x::l=>by have:=one_sum (μ:=μ) l;simp only[Rd.sum];omega
theorem slice {α:Type}{p:Pkg α}{e:α->List VV}{wf:α->Prop}{size bytes:Nat}(d:α)(h:Ev p e wf)(hl:∀ x,(e x).length=size)(hp:∀ x,1<=p.mu x):Ev (Pkg.slice size bytes p) (fun l=>[.sl true l.length size fun i=>e (l.getD i d)]) (fun l=>l.length<=1048576/\∀ y∈l,wf y):=⟨fun{w E m cs x} hE hmu k=>by
 have hmu':Rd.sum p.mu x<=1048576:=hmu
 have hmem:∀ y∈x,p.mu y<=1048576:=fun y hy=>Alg (mem_sum hy) hmu'
 obtain⟨v,rfl⟩:∃ v,cs=[v]:=by
  obtain⟨ao,cap,e',_⟩:=k
  exact⟨_,e'⟩
 obtain⟨ao,cap,rfl,k1,k2,k3⟩:=Qc k
 refine⟨rfl,fun j y hy=>?_,Alg (len_sum hp x) hmu',fun y hy=>?_⟩
 ·match j,hy with
  | 0,hy =>
   simp only[AkZ,AkP]at hy
   subst hy
   refine AmF k1 k2 fun hp=>?_
   obtain⟨b,off,rfl,hb,hel⟩:=k3 hp
   have hat:∀ i,i<x.length->∃ es:List Value,es.length=size/\(∀ k,k<size->w.cell? ⟨b,off+i*size+k,none⟩=es[k]?)/\Is p w es (x.getD i d):=fun i hi=>hel i (x.getD i d) (by simp[List.getD,hi])
   refine⟨b,off,rfl,hb,hE b,fun i _=>hl _,fun i j=>(w.cell? ⟨b,off+i*size+j,none⟩).getD undef,fun i j y hi hy=>?_,fun i j y hi hy=>?_⟩
   ·obtain⟨es,h4,h5,h6⟩:=hat i hi
    have hj:j<size:=by rw[← hl (x.getD i d)];exact(AkR.1 hy).1
    show w.cell? ⟨b,off+i*size+j,none⟩=some ((w.cell? ⟨b,off+i*size+j,none⟩).getD undef)
    have h7:w.cell? ⟨b,off+i*size+j,none⟩=some (es[j]'(by omega)):=by rw[h5 j hj,Ak1 (by omega)]
    rw[h7];rfl
   ·obtain⟨es,h4,h5,h6⟩:=hat i hi
    have hj:j<size:=by rw[← hl (x.getD i d)];exact(AkR.1 hy).1
    have hi':x.getD i d∈x:=by simp[List.getD,hi]
    have:=(h.ok (E:=E.at true) (m:=none) (fun k=>hE k) (hmem _ hi') h6).2.1 j y hy
    rw[Ak2,← h5 j hj]at this
    exact this
  | j+1,hy=>simp at hy
 ·have hm:=hmem y hy
  obtain⟨i,hi,rfl⟩:=List.mem_iff_getElem.1 hy
  obtain⟨b,off,e',hb,hel⟩:=k3 (by omega)
  obtain⟨es,_,_,hx⟩:=hel i x[i] (Ak1 hi)
  exact(h.ok (E:=E) (m:=m) hE hm hx).2.2⟩
theorem agg {α:Type}{p:Pkg α}{e:α->List VV}{wf:α->Prop}(h:Ev p e wf){w:World}{E:AF}{m:Option Phi}{cs:Array Value}{x:α}(hE:∀ k,¬ E.fz k)(hm:p.mu x<=1048576)(k:Is p w cs.toList x):V w E m (.agg (e x)) (.agg cs)/\wf x:=by
 obtain⟨h1,h2,h3⟩:=h.ok (E:=E) (m:=m) hE hm k
 refine⟨.agg (by simpa using h1) fun j y hy=>?_,h3⟩
 have:=h2 j y hy
 simpa[Alx,Ak2] using this
theorem one {α:Type}{p:Pkg α}{e:α->VV}{wf:α->Prop}(h:Ev p (fun x=>[e x]) wf){w:World}{E:AF}{m:Option Phi}{v:Value}{x:α}(hE:∀ k,¬ E.fz k)(hm:p.mu x<=1048576)(k:Is p w [v] x):V w E m (e x) v/\wf x:=by
 obtain⟨h1,h2,h3⟩:=h.ok (E:=E) (m:=m) hE hm k
 exact⟨h2 0 (e x) rfl,h3⟩
end Ev
instance : Inhabited D.Type:=⟨⟨0,false⟩⟩
def Dz (x:D.Type):List VV:=[Aa x.Bits,Ac x.Signed]
structure Yw (x:D.Type):Prop where
 Bits:Ev.wInt .i64 x.Bits
 Signed:True
theorem Ahc : Ev H5 Dz Yw:=(Ev.via (fun x:D.Type=>(x.Bits,x.Signed,())) (Ev.cons (Ev.int .i64) (Ev.cons Ev.bool Ev.unit))).imp (fun _=>rfl) fun _ ⟨h0,h1,_⟩=>⟨h0,h1⟩
def AJ (fz:Bool)(l:List D.Type):VV:=.sl fz l.length 2 fun i=>Dz (l.getD i default)
def LU (l:List D.Type):Prop:=l.length<=1048576/\∀ y∈l,Yw y
theorem Qh : Ev (Pkg.slice 2 16 H5) (fun l=>[AJ true l]) LU:=Ev.slice default Ahc (fun _=>rfl) (fun _=>Amv (AkV _))
instance : Inhabited D.Shape:=⟨⟨0,[]⟩⟩
def FE (x:D.Shape):List VV:=[Aa x.Room,AJ true x.Fields]
structure OZ (x:D.Shape):Prop where
 Room:Ev.wInt .i64 x.Room
 Fields:LU x.Fields
theorem Afe : Ev OD FE OZ:=(Ev.via (fun x:D.Shape=>(x.Room,x.Fields,())) (Ev.cons (Ev.int .i64) (Ev.cons Qh Ev.unit))).imp (fun _=>rfl) fun _ ⟨h0,h1,_⟩=>⟨h0,h1⟩
def Ad (fz:Bool)(l:List Int):VV:=.sl fz l.length 1 fun i=>[Aa (l.getD i 0)]
def Hq (l:List Int):Prop:=l.length<=1048576/\∀ y∈l,Ev.wInt .i64 y
theorem GB : Ev (Pkg.slice 1 8 (Pkg.int .i64)) (fun l=>[Ad true l]) Hq:=Ev.slice 0 (Ev.int .i64) (fun _=>rfl) (fun _=>AkU _)
instance : Inhabited D.Stmt:=⟨⟨0,0,0,0,[],[],⟨#[]⟩⟩⟩
def Ar (x:D.Stmt):List VV:=[Aa x.Kind,Aa x.A,Aa x.B,Aa x.N,Ad true x.Args,Ad true x.Match,AP x.Text]
structure Sl (x:D.Stmt):Prop where
 Kind:Ev.wInt .i64 x.Kind
 A:Ev.wInt .i64 x.A
 B:Ev.wInt .i64 x.B
 N:Ev.wInt .i64 x.N
 Args:Hq x.Args
 Match:Hq x.Match
 Text:(x.Text).size<=1048576
theorem Ahd : Ev Xw Ar Sl:=(Ev.via (fun x:D.Stmt=>(x.Kind,x.A,x.B,x.N,x.Args,x.Match,x.Text,())) (Ev.cons (Ev.int .i64) (Ev.cons (Ev.int .i64) (Ev.cons (Ev.int .i64) (Ev.cons (Ev.int .i64) (Ev.cons GB (Ev.cons GB (Ev.cons Ev.str Ev.unit)))))))).imp (fun _=>rfl) fun _ ⟨h0,h1,h2,h3,h4,h5,h6,_⟩=>⟨h0,h1,h2,h3,h4,h5,h6⟩
instance : Inhabited D.Trans:=⟨⟨default,0,0⟩⟩
def CY (x:D.Trans):List VV:=[Aa x.S.Kind,Aa x.S.A,Aa x.S.B,Aa x.S.N,Ad true x.S.Args,Ad true x.S.Match,AP x.S.Text,Aa x.To,Aa x.Line]
structure OY (x:D.Trans):Prop where
 S:Sl x.S
 To:Ev.wInt .i64 x.To
 Line:Ev.wInt .i64 x.Line
theorem Afd : Ev KD CY OY:=(Ev.via (fun x:D.Trans=>(x.S,x.To,x.Line,())) (Ev.cons Ahd (Ev.cons (Ev.int .i64) (Ev.cons (Ev.int .i64) Ev.unit)))).imp (fun _=>rfl) fun _ ⟨h0,h1,h2,_⟩=>⟨h0,h1,h2⟩
def Au (fz:Bool)(l:List D.Trans):VV:=.sl fz l.length 9 fun i=>CY (l.getD i default)
def Ki (l:List D.Trans):Prop:=l.length<=1048576/\∀ y∈l,OY y
theorem R7 : Ev (Pkg.slice 9 112 KD) (fun l=>[Au true l]) Ki:=Ev.slice default Afd (fun _=>rfl) (fun _=>Amv (AkV _))
def BZ (fz:Bool)(l:List (List D.Trans)):VV:=.sl fz l.length 1 fun i=>[Au true (l.getD i [])]
def O1 (l:List (List D.Trans)):Prop:=l.length<=1048576/\∀ y∈l,Ki y
theorem Ya : Ev (Pkg.slice 1 24 (Pkg.slice 9 112 KD)) (fun l=>[BZ true l]) O1:=Ev.slice [] R7 (fun _=>rfl) (fun _=>Ev.one_sum _)
instance : Inhabited D.Loc:=⟨⟨[],[],false,false,false,false,false⟩⟩
def AZ (x:D.Loc):List VV:=[Au true x.Out,BZ true x.Esc,Ac x.Atomic,Ac x.Dstep,Ac x.End,Ac x.Accept,Ac x.Progress]
structure O0 (x:D.Loc):Prop where
 Out:Ki x.Out
 Esc:O1 x.Esc
 Atomic:True
 Dstep:True
 End:True
 Accept:True
 Progress:True
theorem Ajh : Ev Ze AZ O0:=(Ev.via (fun x:D.Loc=>(x.Out,x.Esc,x.Atomic,x.Dstep,x.End,x.Accept,x.Progress,())) (Ev.cons R7 (Ev.cons Ya (Ev.cons Ev.bool (Ev.cons Ev.bool (Ev.cons Ev.bool (Ev.cons Ev.bool (Ev.cons Ev.bool Ev.unit)))))))).imp (fun _=>rfl) fun _ ⟨h0,h1,h2,h3,h4,h5,h6,_⟩=>⟨h0,h1,h2,h3,h4,h5,h6⟩
def E7 (fz:Bool)(l:List D.Loc):VV:=.sl fz l.length 7 fun i=>AZ (l.getD i default)
def Yx (l:List D.Loc):Prop:=l.length<=1048576/\∀ y∈l,O0 y
theorem Ahg : Ev (Pkg.slice 7 56 Ze) (fun l=>[E7 true l]) Yx:=Ev.slice default Ajh (fun _=>rfl) (fun _=>Amv (AkV _))
instance : Inhabited D.Proc:=⟨⟨⟨#[]⟩,0,[],[],[],0,0,0,0,0⟩⟩
def Bf (x:D.Proc):List VV:=[AP x.Name,Aa x.Params,AJ true x.Frame,Ad true x.Init,E7 true x.Locs,Aa x.Start,Aa x.Final,Aa x.Active,Aa x.Prio,Aa x.Provided]
structure Kh (x:D.Proc):Prop where
 Name:(x.Name).size<=1048576
 Params:Ev.wInt .i64 x.Params
 Frame:LU x.Frame
 Init:Hq x.Init
 Locs:Yx x.Locs
 Start:Ev.wInt .i64 x.Start
 Final:Ev.wInt .i64 x.Final
 Active:Ev.wInt .i64 x.Active
 Prio:Ev.wInt .i64 x.Prio
 Provided:Ev.wInt .i64 x.Provided
theorem Ahe : Ev SZ Bf Kh:=(Ev.via (fun x:D.Proc=>(x.Name,x.Params,x.Frame,x.Init,x.Locs,x.Start,x.Final,x.Active,x.Prio,x.Provided,())) (Ev.cons Ev.str (Ev.cons (Ev.int .i64) (Ev.cons Qh (Ev.cons GB (Ev.cons Ahg (Ev.cons (Ev.int .i64) (Ev.cons (Ev.int .i64) (Ev.cons (Ev.int .i64) (Ev.cons (Ev.int .i64) (Ev.cons (Ev.int .i64) Ev.unit))))))))))).imp (fun _=>rfl) fun _ ⟨h0,h1,h2,h3,h4,h5,h6,h7,h8,h9,_⟩=>⟨h0,h1,h2,h3,h4,h5,h6,h7,h8,h9⟩
instance : Inhabited D.Dim:=⟨⟨0,0,0⟩⟩
def ZG (x:D.Dim):List VV:=[Aa x.I,Aa x.Len,Aa x.Stride]
structure Ade (x:D.Dim):Prop where
 I:Ev.wInt .i64 x.I
 Len:Ev.wInt .i64 x.Len
 Stride:Ev.wInt .i64 x.Stride
theorem Aji : Ev Zf ZG Ade:=(Ev.via (fun x:D.Dim=>(x.I,x.Len,x.Stride,())) (Ev.cons (Ev.int .i64) (Ev.cons (Ev.int .i64) (Ev.cons (Ev.int .i64) Ev.unit)))).imp (fun _=>rfl) fun _ ⟨h0,h1,h2,_⟩=>⟨h0,h1,h2⟩
def Df (fz:Bool)(l:List D.Dim):VV:=.sl fz l.length 3 fun i=>ZG (l.getD i default)
def Yy (l:List D.Dim):Prop:=l.length<=1048576/\∀ y∈l,Ade y
theorem Ahh : Ev (Pkg.slice 3 24 Zf) (fun l=>[Df true l]) Yy:=Ev.slice default Aji (fun _=>rfl) (fun _=>Amv (AkV _))
instance : Inhabited D.Var:=⟨⟨0,0,0,0,[]⟩⟩
def Ct (x:D.Var):List VV:=[Aa x.Scope,Aa x.Slot,Aa x.Who,Aa x.Type_,Df true x.Dims]
structure Ld (x:D.Var):Prop where
 Scope:Ev.wInt .i64 x.Scope
 Slot:Ev.wInt .i64 x.Slot
 Who:Ev.wInt .i64 x.Who
 Type_:Ev.wInt .i64 x.Type_
 Dims:Yy x.Dims
theorem Ajg : Ev Aev Ct Ld:=(Ev.via (fun x:D.Var=>(x.Scope,x.Slot,x.Who,x.Type_,x.Dims,())) (Ev.cons (Ev.int .i64) (Ev.cons (Ev.int .i64) (Ev.cons (Ev.int .i64) (Ev.cons (Ev.int .i64) (Ev.cons Ahh Ev.unit)))))).imp (fun _=>rfl) fun _ ⟨h0,h1,h2,h3,h4,_⟩=>⟨h0,h1,h2,h3,h4⟩
instance : Inhabited D.Expr:=⟨⟨0,0,0,0,0,default,[],[]⟩⟩
def AT (x:D.Expr):List VV:=[Aa x.Op,Aa x.N,Aa x.A,Aa x.B,Aa x.C,Aa x.V.Scope,Aa x.V.Slot,Aa x.V.Who,Aa x.V.Type_,Df true x.V.Dims,Ad true x.Args,Ad true x.Match]
structure Oh (x:D.Expr):Prop where
 Op:Ev.wInt .i64 x.Op
 N:Ev.wInt .i64 x.N
 A:Ev.wInt .i64 x.A
 B:Ev.wInt .i64 x.B
 C:Ev.wInt .i64 x.C
 V:Ld x.V
 Args:Hq x.Args
 Match:Hq x.Match
theorem Ahf : Ev S4 AT Oh:=(Ev.via (fun x:D.Expr=>(x.Op,x.N,x.A,x.B,x.C,x.V,x.Args,x.Match,())) (Ev.cons (Ev.int .i64) (Ev.cons (Ev.int .i64) (Ev.cons (Ev.int .i64) (Ev.cons (Ev.int .i64) (Ev.cons (Ev.int .i64) (Ev.cons Ajg (Ev.cons GB (Ev.cons GB Ev.unit))))))))).imp (fun _=>rfl) fun _ ⟨h0,h1,h2,h3,h4,h5,h6,h7,_⟩=>⟨h0,h1,h2,h3,h4,h5,h6,h7⟩
def Bg (fz:Bool)(l:List D.Shape):VV:=.sl fz l.length 2 fun i=>FE (l.getD i default)
def Q4 (l:List D.Shape):Prop:=l.length<=1048576/\∀ y∈l,OZ y
theorem Acy : Ev (Pkg.slice 2 32 OD) (fun l=>[Bg true l]) Q4:=Ev.slice default Afe (fun _=>rfl) (fun _=>Amv (AkV _))
def A4 (fz:Bool)(l:List D.Proc):VV:=.sl fz l.length 10 fun i=>Bf (l.getD i default)
def T0 (l:List D.Proc):Prop:=l.length<=1048576/\∀ y∈l,Kh y
theorem Afg : Ev (Pkg.slice 10 136 SZ) (fun l=>[A4 true l]) T0:=Ev.slice default Ahe (fun _=>rfl) (fun _=>Amv (AkV _))
def Bz (fz:Bool)(l:List D.Expr):VV:=.sl fz l.length 12 fun i=>AT (l.getD i default)
def T3 (l:List D.Expr):Prop:=l.length<=1048576/\∀ y∈l,Oh y
theorem Afh : Ev (Pkg.slice 12 144 S4) (fun l=>[Bz true l]) T3:=Ev.slice default Ahf (fun _=>rfl) (fun _=>Amv (AkV _))
instance : Inhabited D.Model:=⟨⟨[],[],[],[],[],0,[]⟩⟩
def Ae (x:D.Model):List VV:=[AJ true x.Globals,Ad true x.Init,Bg true x.Shapes,Ad true x.Chans,A4 true x.Procs,Aa x.Claim,Bz true x.Exprs]
structure Av (x:D.Model):Prop where
 Globals:LU x.Globals
 Init:Hq x.Init
 Shapes:Q4 x.Shapes
 Chans:Hq x.Chans
 Procs:T0 x.Procs
 Claim:Ev.wInt .i64 x.Claim
 Exprs:T3 x.Exprs
theorem Aff : Ev OE Ae Av:=(Ev.via (fun x:D.Model=>(x.Globals,x.Init,x.Shapes,x.Chans,x.Procs,x.Claim,x.Exprs,())) (Ev.cons Qh (Ev.cons GB (Ev.cons Acy (Ev.cons GB (Ev.cons Afg (Ev.cons (Ev.int .i64) (Ev.cons Afh Ev.unit)))))))).imp (fun _=>rfl) fun _ ⟨h0,h1,h2,h3,h4,h5,h6,_⟩=>⟨h0,h1,h2,h3,h4,h5,h6⟩
def BL (fz:Bool)(l:List (List Int)):VV:=.sl fz l.length 1 fun i=>[Ad true (l.getD i [])]
instance : Inhabited D.Chan:=⟨⟨0,[]⟩⟩
def AL (x:D.Chan):List VV:=[Aa x.Shape,BL true x.Queue]
instance : Inhabited D.Process:=⟨⟨0,0,0,[]⟩⟩
def As (x:D.Process):List VV:=[Aa x.Type_,Aa x.Loc,Aa x.Prio,Ad true x.Frame]
def Az (fz:Bool)(l:List D.Chan):VV:=.sl fz l.length 2 fun i=>AL (l.getD i default)
def Ap (fz:Bool)(l:List D.Process):VV:=.sl fz l.length 4 fun i=>As (l.getD i default)
instance : Inhabited D.State:=⟨⟨[],[],[],0,0,0⟩⟩
def Af (x:D.State):List VV:=[Ad true x.Globals,Az true x.Chans,Ap true x.Procs,Aa x.Last,Aa x.Alone,Aa x.Claim]
def Bb (fz:Bool)(l:List Bool):VV:=.sl fz l.length 1 fun i=>[Ac (l.getD i false)]
instance : Inhabited D.Env:=⟨⟨default,default,0,false,[]⟩⟩
def Ag (x:D.Env):List VV:=[AJ true x.M.Globals,Ad true x.M.Init,Bg true x.M.Shapes,Ad true x.M.Chans,A4 true x.M.Procs,Aa x.M.Claim,Bz true x.M.Exprs,Ad true x.S.Globals,Az true x.S.Chans,Ap true x.S.Procs,Aa x.S.Last,Aa x.S.Alone,Aa x.S.Claim,Aa x.Pid,Ac x.Timeout,Bb true x.Able]
def D4 (n:Nat)(f:Nat->Bool):Bool:=(List.range n).all f
def J0 (n:Nat)(f:Nat->Bool):Int :=
 match(List.range n).find? fun i=>!f i with
 | some i=>(i:Int)
 | none=>-1
theorem Bx {n:Nat}{f:Nat->Bool}:D4 n f=true ↔ ∀ i,i<n->f i=true:=by simp[D4]
theorem Dh {n k:Nat}{f:Nat->Bool}(hk:k<n)(h:f k=false):D4 n f=false:=by
 cases ha:D4 n f with
 | false=>rfl
 | true=>have:=Bx.1 ha k hk;rw[h]at this;cases this
theorem Iv {n:Nat}{f:Nat->Bool}(h:∀ i,i<n->f i=true):J0 n f=-1:=by
 unfold J0
 split
 ·rename_i i hi
  have h1:=List.find?_some hi
  have h2:=Am7 hi
  rw[h i (AlD.1 h2)]at h1;cases h1
 ·rfl
theorem Iu {n k:Nat}{f:Nat->Bool}(h:∀ i,i<k->f i=true)(hk:k<n)(hf:f k=false):J0 n f=k:=by
 unfold J0
 split
 ·rename_i i hi
  rw[List.find?_range_eq_some]at hi
  obtain⟨h1,h2,h3⟩:=hi
  by_cases hik:i<k
  ·rw[h i hik]at h1;cases h1
  ·by_cases hki:k<i
   ·have:=h3 k hki;rw[hf]at this;cases this
   ·congr 1;omega
 ·rename_i hi
  rw[List.find?_eq_none]at hi
  have:=hi k (AlD.2 hk)
  rw[hf]at this;simp at this
theorem Qx {n:Nat}{f:Nat->Bool}:(J0 n f=-1/\∀ i,i<n->f i=true)∨(∃ k,k<n/\J0 n f=(k:Int)/\f k=false):=by
 unfold J0
 split
 ·rename_i i hi
  refine .inr ⟨i,AlD.1 (Am7 hi),rfl,?_⟩
  simpa using List.find?_some hi
 ·rename_i hi
  rw[List.find?_eq_none]at hi
  exact .inl ⟨rfl,fun i h=>by simpa using hi i (AlD.2 h)⟩
def HY (t:D.Type):Bool:=decide (1<=t.Bits)&&(decide (t.Bits<=32)&&(!t.Signed||(decide (t.Bits=16)||decide (t.Bits=32))))
def DF (t:D.Type)(v:Int):Bool :=
 HY t&&bif t.Signed then decide (-(2 ^ (t.Bits - 1).toNat)<=v)&&decide (v<2 ^ (t.Bits - 1).toNat) else decide (0<=v)&&decide (v<2 ^ t.Bits.toNat)
def LG (d:D.Dim):Bool:=decide (d.Len<1)||(decide (1073741824<d.Len - 1)||(decide (d.Stride<0)||decide (1073741824<d.Stride)))
def Fv : Int->List D.Dim->Int
 | n,[]=>n
 | n,d::l=>bif LG d then 0 else Fv (n+(d.Len - 1)*d.Stride) l
def Ew (v:D.Var):Int:=bif decide (v.Slot<0)||(decide (1073741824<v.Slot)||decide (4<v.Dims.length)) then 0 else Fv (v.Slot+1) v.Dims
def Fm (t:List D.Type)(init:List Int):Int:=J0 t.length fun i=>DF (t.getD i default) (init.getD i 0)
def D6 (s:D.Shape):Bool:=decide (0<=s.Room)&&decide (s.Room<=16)&&decide (1<=s.Fields.length)&&decide (s.Fields.length<=8)&&D4 s.Fields.length fun i=>HY (s.Fields.getD i default)
def D0 (m:D.Model)(n:Int):Bool:=decide (0<=n)&&decide (n<m.Procs.length)&&decide (n≠m.Claim)
def inP (at' x:Int):Bool:=decide (0<=x)&&decide (x<at')
def Da (at':Int)(l:List Int):Bool:=D4 l.length fun i=>inP at' (l.getD i 0)
def Nr (at':Int)(d:D.Dim):Bool:=inP at' d.I&&decide (1<=d.Len)&&decide (d.Len<=128)&&decide (0<=d.Stride)&&decide (d.Stride<=128)
def EJ (m:D.Model)(at':Int)(v:D.Var):Bool :=
 decide (0<=v.Scope)&&decide (v.Scope<=2)&&decide (0<=v.Slot)&&decide (v.Slot<=128)&&decide (v.Dims.length<=4) &&
 (bif decide (v.Scope=2) then inP at' v.Who&&D0 m v.Type_ else decide (v.Who=-1)&&decide (v.Type_=-1))&&D4 v.Dims.length fun i=>Nr at' (v.Dims.getD i default)
def Bh (op:Int):Nat:=if op=1∨op=2∨op=31∨op=32∨op=33∨op=34∨op=35∨op=39 then 0 else if op=24 then 3 else if 6<=op/\op<=23 then 2 else 1
def Ax (m:D.Model)(k:Int):D.Expr:=m.Exprs.getD k.toNat default
def Ls (m:D.Model)(a k:Int):Bool:=decide (-1<=k)&&decide (k<=1)&&!(decide (k=0)&&decide ((Ax m a).Op≠2))
def Cx (m:D.Model)(at':Int)(args mt:List Int):Bool :=
 decide (1<=args.length)&&decide (args.length<=8)&&decide (mt.length=args.length)&&Da at' args&&D4 mt.length fun i=>Ls m (args.getD i 0) (mt.getD i 0)
def IR (m:D.Model)(n:Int):List D.Loc:=(m.Procs.getD n.toNat default).Locs
def OA (m:D.Model)(x:D.Expr):Bool:=decide (0<=x.N)&&decide (x.N<1073741824)&&D0 m x.N&&decide (1<=x.Args.length)&&Da (IR m x.N).length x.Args
def FX (at':Int)(op:Int)(i:Nat)(p:Int):Bool:=bif decide (i<Bh op) then inP at' p else decide (p=-1)
def EP (m:D.Model)(at':Int):Bool :=
  let x:=Ax m at'
  decide (1<=x.Op)&&decide (x.Op<=39)&&(FX at' x.Op 0 x.A&&FX at' x.Op 1 x.B&&FX at' x.Op 2 x.C) &&
  (if x.Op=1 then DF ⟨32,true⟩ x.N else if x.Op=2 then EJ m at' x.V else if x.Op=30 then Cx m at' x.Args x.Match&&(decide (x.N=0)||decide (x.N=1))
   else if x.Op=38 then OA m x else if x.Op=39 then decide (0<=x.N)&&decide (x.N<1073741824)&&D0 m x.N&&decide ((x.Args.length:Int)=(m.Procs.getD x.N.toNat default).Params)&&Da at' x.Args else true)
def Ck (x:D.Expr):List Int :=
 [x.A,x.B,x.C].take (Bh x.Op)++((if x.Op=30∨x.Op=39 then x.Args else[])++(if x.Op=2 then(if x.V.Scope=2 then[x.V.Who] else[])++x.V.Dims.map D.Dim.I else[]))
def DN (l:D.Loc):List (List D.Trans):=l.Out::l.Esc
def Dk (p:D.Proc):Bool :=
 decide (p.Frame.length<=128)&&decide (p.Init.length=p.Frame.length)&&decide (Fm p.Frame p.Init<0)&&decide (0<=p.Params)&&decide (p.Params<=p.Frame.length)&&decide (0<=p.Active)&&decide (p.Active<=16)&&decide (1<=p.Prio)&&decide (p.Prio<=255)
def ID (n:Nat)(many:Nat)(k:Nat):List (List D.Trans)->Option Nat
 | []=>some many
 | w::r=>bif decide (0<k)&&decide (w.length=0) then none else bif decide (1024<many+w.length) then none
   else bif D4 w.length (fun i=>inP n (w.getD i default).To) then ID n (many+w.length) (k+1) r else none
def Td (final:Int)(i:Nat)(l:D.Loc):Bool:=decide (8<l.Esc.length)||(l.Dstep&&l.Atomic)||(decide ((i:Int)=final)&&decide (0<l.Out.length+l.Esc.length))
def JM (n:Nat)(final:Int)(many:Nat)(i:Nat):List D.Loc->Bool
 | []=>true
 | l::r=>bif Td final i l then false else match ID n many 0 (DN l) with
  | some many'=>JM n final many' (i+1) r
  | none=>false
def EE (p:D.Proc):Bool :=
 decide (1<=p.Locs.length)&&decide (p.Locs.length<=256)&&inP p.Locs.length p.Start&&inP p.Locs.length p.Final&&JM p.Locs.length p.Final 0 0 p.Locs
def GX (l:D.Loc):Bool:=decide (l.Esc.length=0)&&!l.Atomic&&!l.Dstep
def E9 (p:D.Proc):Bool :=
 decide (p.Frame.length=0)&&decide (p.Params<=0)&&decide (p.Active<=0)&&decide (p.Provided=-1)&&D4 p.Locs.length fun i=>GX (p.Locs.getD i default)
def FF (s:D.Stmt)(args n text:Bool):Bool:=(!args||decide (s.Args.length+s.Match.length=0))&&(!n||decide (s.N=0))&&(!text||decide (s.Text.size=0))
def EC (m:D.Model)(a:Int):Bool:=inP m.Exprs.length a
def CU (m:D.Model)(a:Int):Bool:=EC m a&&decide ((Ax m a).Op=2)&&decide ((Ax m a).V.Scope≠2)
def IG (m:D.Model)(s:D.Stmt):Bool:=Cx m m.Exprs.length s.Args s.Match&&D4 s.Match.length fun i=>!decide (s.Match.getD i 0=0)||CU m (s.Args.getD i 0)
def AN (m:D.Model)(s:D.Stmt):Bool :=
 if s.Kind=1∨s.Kind=3 then EC m s.A&&decide (s.B=-1)&&FF s true true true
 else if s.Kind=2 then CU m s.A&&EC m s.B&&FF s true true true
 else if s.Kind=4 then decide (s.A=-1)&&decide (s.B=-1)&&Da m.Exprs.length s.Args&&decide (s.Match.length=0)&&decide (s.Text.size<=256)&&decide (s.N=0)
 else if s.Kind=5 then EC m s.A&&decide (s.B=-1)&&decide (1<=s.Args.length)&&decide (s.Args.length<=8)&&Da m.Exprs.length s.Args&&decide (s.Match.length=0)&&(decide (s.N=0)||decide (s.N=1))&&decide (s.Text.size=0)
 else if s.Kind=6 then EC m s.A&&decide (s.B=-1)&&IG m s&&decide (0<=s.N)&&decide (s.N<=3)&&decide (s.Text.size=0)
 else if s.Kind=7∨s.Kind=8 then decide (s.A=-1)&&decide (s.B=-1)&&FF s true true true
 else if s.Kind=9 then CU m s.A&&decide (s.B=-1)&&decide (0<=s.N)&&decide (s.N<m.Shapes.length)&&FF s true false true
 else false
def M1 (m:D.Model)(i:Int)(v:D.Var):Int :=
 if v.Scope=0 then m.Globals.length else if v.Scope=1 then(m.Procs.getD i.toNat default).Frame.length else(m.Procs.getD v.Type_.toNat default).Frame.length
def Gc (m:D.Model)(i run k:Int):Bool :=
 let x:=Ax m k
 (decide (x.Op=39)&&decide (k≠run))||(decide (i=m.Claim)&&(decide (x.Op=31)||(decide (x.Op=39)||(decide (x.Op=2)&&decide (x.V.Scope=1)))))||(decide (x.Op=2)&&decide (M1 m i x.V<Ew x.V))
def Pc (m:D.Model)(i run:Int):Nat->List Bool->List Int->Bool
 | _,_,[]=>true
 | 0,_,_=>true
 | g+1,seen,k::r=>bif seen.getD k.toNat false then Pc m i run g seen r else bif Gc m i run k then false else Pc m i run g (seen.set k.toNat true) (r++Ck (Ax m k))
def load (m:D.Model)(seen:List Bool):Nat:=((List.range m.Exprs.length).map fun k=>bif seen.getD k false then 0 else(Ck (m.Exprs.getD k default)).length).sum
def Bi (m:D.Model):List Bool:=List.replicate m.Exprs.length false
def Jq (m:D.Model)(i:Int)(list:List Int)(run:Int):Bool:=Pc m i run (list.length+load m (Bi m)+1) (Bi m) list
def MU (m:D.Model)(i:Int)(s:D.Stmt):Bool :=
 AN m s&&!(decide (i=m.Claim)&&(decide (s.Kind≠1)&&(decide (s.Kind≠3)&&(decide (s.Kind≠7)&&decide (s.Kind≠8))))) &&
 Jq m i (s.Args++((if 0<=s.A then[s.A] else[])++(if 0<=s.B then[s.B] else[]))) (if s.Kind=1 then s.A else if s.Kind=2 then s.B else -1)
def Lk (m:D.Model)(i:Int)(w:List D.Trans):Bool:=D4 w.length fun k=>MU m i (w.getD k default).S
def Tc (m:D.Model)(i:Int)(l:D.Loc):Bool:=D4 (DN l).length fun k=>Lk m i ((DN l).getD k [])
def DS (m:D.Model)(i:Int):Bool :=
 let p:=m.Procs.getD i.toNat default
 (D4 p.Locs.length fun k=>Tc m i (p.Locs.getD k default))&&(decide (p.Provided<0)||Jq m i [p.Provided] (-1))
def Acd : List Bool->List Int->Option (List Bool)
 | had,[]=>some had
 | had,p::r=>bif had.getD p.toNat false then none else Acd (had.set p.toNat true) r
def H8 (m:D.Model):Nat->Nat->List Bool->Int
 | 0,_,_=>-1
 | g+1,i,had=>bif EP m i then(match Acd had (Ck (m.Exprs.getD i default)) with
  | some had'=>H8 m g (i+1) had'
  | none=>i) else i
def Gy (m:D.Model):Int:=J0 m.Shapes.length fun i=>D6 (m.Shapes.getD i default)
def I2 (m:D.Model):Int:=J0 m.Chans.length fun i=>inP m.Shapes.length (m.Chans.getD i 0)
def H7 (m:D.Model):Int:=H8 m m.Exprs.length 0 (Bi m)
def CV (m:D.Model):Int × Int :=
 bif decide (128<m.Globals.length)||!decide (m.Init.length=m.Globals.length) then(1,-1)
 else bif decide (0<=Fm m.Globals m.Init) then(1,Fm m.Globals m.Init)
 else bif decide (32<m.Shapes.length)||decide (32<m.Chans.length) then(2,-1)
 else bif decide (0<=Gy m) then(2,Gy m)
 else bif decide (0<=I2 m) then(2,I2 m)
 else bif decide (m.Procs.length<1)||(decide (16<m.Procs.length)||(decide (m.Claim < -1)||(decide ((m.Procs.length:Int)<=m.Claim)||decide (4096<m.Exprs.length)))) then(3,-1)
 else bif decide (0<=H7 m) then(3,H7 m) else(0,0)
def Eb (m:D.Model)(i:Nat):Bool :=
 let p:=m.Procs.getD i default
 !Dk p||(!EE p||(decide (p.Provided < -1)||(decide ((m.Exprs.length:Int)<=p.Provided)||(decide ((i:Int)=m.Claim)&&!E9 p))))
def E5 (m:D.Model):Int:=J0 m.Procs.length fun i=>!Eb m i
def EN (m:D.Model)(k:Nat):Int:=((m.Procs.take k).map D.Proc.Active).sum
def JG (m:D.Model):Int:=J0 m.Procs.length fun i=>DS m i
def I1 (m:D.Model):Int × Int × Int :=
 bif decide (0<(CV m).1) then(40,CV m) else bif decide (0<=E5 m) then(40,4,E5 m) else bif decide (16<EN m m.Procs.length) then(40,5,-1)
 else bif decide (0<=JG m) then(40,6,JG m) else(0,0,0)
theorem CF {a x:Int}:inP a x=true ↔ 0<=x/\x<a:=by simp[inP]
theorem ZA {α:Type}{l:List α}{i:Nat}{d:α}(h:i<l.length):l.getD i d∈l:=by simp[List.getD,h]
theorem Cm {α:Type}{l:List α}{d:α}{f:α->Bool}:D4 l.length (fun i=>f (l.getD i d))=true ↔ ∀ x∈l,f x=true:=by
 rw[Bx]
 refine⟨fun h x hx=>?_,fun h i hi=>h _ (ZA hi)⟩
 obtain⟨i,hi,rfl⟩:=List.mem_iff_getElem.1 hx
 have:=h i hi
 simpa[List.getD,hi] using this
theorem FJ {a:Int}{l:List Int}:Da a l=true ↔ ∀ x∈l,0<=x/\x<a:=by
 unfold Da
 rw[Cm (f:=fun x=>inP a x)]
 exact⟨fun h x hx=>CF.1 (h x hx),fun h x hx=>CF.2 (h x hx)⟩
theorem UR (op:Int):Bh op<=3:=by unfold Bh;split<;>(try split)<;>(try split)<;>omega
theorem Zy {m:D.Model}{i:Int}(h:EP m i=true):∀ p∈Ck (Ax m i),0<=p/\p<i:=by
 unfold EP at h
 simp only[AkO]at h
 obtain⟨⟨⟨_,_⟩,⟨hA,hB⟩,hC⟩,hO⟩:=h
 generalize Ax m i=x at *
 intro p hp
 unfold Ck at hp
 simp only[Als]at hp
 rcases hp with hp | hp | hp
 ·have h3:=UR x.Op
  unfold FX at hA hB hC
  rcases(show Bh x.Op=0∨Bh x.Op=1∨Bh x.Op=2∨Bh x.Op=3 by omega) with e | e | e | e<;>rw[e]at hp hA hB hC<;>simp[inP]at hp hA hB hC
  ·subst hp;omega
  ·rcases hp with rfl | rfl<;>omega
  ·rcases hp with rfl | rfl | rfl<;>omega
 ·split at hp
  ·rename_i h30
   rcases h30 with h30 | h39
   ·rw[Ak3 (by omega),Ak3 (by omega),Alj h30]at hO
    simp only[AkO,Cx]at hO
    exact FJ.1 hO.1.1.2 p hp
   ·rw[Ak3 (by omega),Ak3 (by omega),Ak3 (by omega),Ak3 (by omega),Alj h39]at hO
    simp only[AkO]at hO
    exact FJ.1 hO.2 p hp
  ·cases hp
 ·split at hp
  ·rename_i h2
   rw[Ak3 (by omega),Alj h2]at hO
   simp only[AkO,EJ]at hO
   obtain⟨⟨_,hW⟩,hD⟩:=hO
   simp only[Als]at hp
   rcases hp with hp | hp
   ·split at hp
    ·rename_i hs
     simp only[Aln]at hp
     subst hp
     simp only[hs,decide_true,AkQ,AkO]at hW
     exact CF.1 hW.1
    ·cases hp
   ·obtain⟨d,hd,rfl⟩:=Amd.1 hp
    have:=(Cm (f:=fun d=>Nr i d)).1 hD d hd
    simp only[Nr,AkO]at this
    exact CF.1 this.1.1.1.1
  ·cases hp
theorem U5 {m:D.Model}{seen:List Bool}{k:Nat}(hk:seen.getD k false=false)(hs:k<seen.length):∀ (l:List Nat),l.Nodup ->
  (l.map fun j=>bif seen.getD j false then 0 else(Ck (m.Exprs.getD j default)).length).sum=(l.map fun j=>bif (seen.set k true).getD j false then 0 else(Ck (m.Exprs.getD j default)).length).sum+(if k∈l then(Ck (m.Exprs.getD k default)).length else 0)
 | [],_=>rfl
 | j::l,hn=>by
  have ih:=U5 (m:=m) hk hs l (Am4.1 hn).2
  have hj:=(Am4.1 hn).1
  simp only[AlH,List.sum_cons,ih]
  by_cases hjk:k=j
  ·subst hjk
   have h1:(seen.set k true).getD k false=true:=by simp[List.getD,hs]
   rw[h1,hk,Ak3 hj,Alj (AkY ..)]
   simp only[AkQ,AkN];omega
  ·have h1:(seen.set k true).getD j false=seen.getD j false:=by simp[List.getD,hjk]
   have h2:(k∈j::l)=(k∈l):=by simp[hjk]
   rw[h1]
   simp only[h2];omega
theorem AeG {m:D.Model}{seen:List Bool}{k:Nat}(hk:seen.getD k false=false)(hs:k<seen.length)(hm:seen.length=m.Exprs.length):load m seen=load m (seen.set k true)+(Ck (m.Exprs.getD k default)).length:=by
 unfold load
 rw[U5 hk hs _ List.nodup_range,Alj (AlD.2 (by omega))]
theorem Vf {x:D.Expr}(h1:x.Args.length<=1048576)(h2:x.V.Dims.length<=1048576):(Ck x).length<=2097156:=by
 unfold Ck
 simp only[Ak4,AmE,Alo,AlK]
 split<;>split<;>(try split)<;>simp<;>omega
theorem AgX {m:D.Model}(h:∀ x∈m.Exprs,x.Args.length<=1048576/\x.V.Dims.length<=1048576)(seen:List Bool):load m seen<=m.Exprs.length*2097156:=by
 unfold load
 have:∀ (l:List Nat),(∀ j∈l,j<m.Exprs.length)->(l.map fun k=>bif seen.getD k false then 0 else(Ck (m.Exprs.getD k default)).length).sum<=l.length*2097156:=by
  intro l
  induction l with
  | nil=>intro _;simp
  | cons j l ih =>
   intro hl
   have h1:=ih fun i hi=>hl i (Alb _ hi)
   have h2:=h _ (ZA (d:=default) (hl j (AkY ..)))
   have h3:=Vf h2.1 h2.2
   simp only[AlH,List.sum_cons,Alo]
   cases seen.getD j false<;>simp only[AkQ,AkN]<;>omega
 have h1:=this (List.range m.Exprs.length) fun j hj=>AlD.1 hj
 simpa using h1
theorem BF {n:Int}(h1:-9223372036854775808<=n)(h2:n<=9223372036854775807):IntKind.i64.wrap n=n:=IntWalk.i64_in n ⟨h1,h2⟩
theorem An {k:Nat}(h:k<=4611686018427387904):IntKind.i64.wrap ((k:Int)+1)=((k+1:Nat):Int):=by rw[BF (by omega) (by omega)];omega
theorem Aw {α:Type}{l:List α}{i:Nat}{d:α}(h:i<l.length):l.getD i d∈l:=by simp[List.getD,h]
theorem AS {c:Ctx}(hT:TOk c.P c.T)(hmx:c.P.follows .mixedOrders=true){rel:List Nat}(n:Nat)(S:Nat->St)(I:Nat->Prop)(hl:c.sub rel=.loop (EA (rel++[0]) c.code))(hB:EM c.N (EA (rel++[0]) c.code)=true)(h0:I 0)
  (round:∀ k,k<=n->I k->∀ J:St->Prop,(∀ st',k<n->I (k+1)->Up (fun s=>s=S (k+1)) st'->J st')->Bc ((c.loop rel J).goal (S k))):AB c rel (S 0):=by
 refine Br hT hmx (fun g st=>∃ k,k<=n/\g=n - k/\I k/\st=S k) hl hB ⟨n,Up.of ⟨0,AkV _,rfl,h0,rfl⟩⟩ ?_
 rintro g st ⟨k,hk,rfl,hI,rfl⟩
 refine round k hk hI _ fun st' hlt hI' hup=>⟨n - (k+1),by omega,?_⟩
 obtain⟨s',hc,hs⟩:=hup
 exact⟨s',hc,k+1,hlt,rfl,hI',hs⟩
def tP : TE:=⟨.ptr,1,8,[.sc (.pointer none)],false⟩
def tS (e:Nat):TE:=⟨.sl e,1,24,[.nl],false⟩
def tI (k:IntKind)(b:Nat):TE:=⟨.int k,1,b,[.sc (.int k 0)],false⟩
def tF : TE:=⟨.fn,1,8,[.sc .nilFunc],false⟩
def tG (k:TK)(s b:Nat)(z:List VV):TE:=⟨k,s,b,z,false⟩
def tC (k:TK)(s b:Nat)(z:List VV):TE:=⟨k,s,b,z,true⟩
def z8 : VV:=.sc (.int .i64 0)
def zb : VV:=.sc (.int .u8 0)
def zf : VV:=.sc (.bool false)
def zs : VV:=.sc (.string ByteArray.empty)
def zp : VV:=.sc (.pointer none)
def zn : VV:=.sc .nilFunc
def tN : TE:=⟨.other,0,0,[],false⟩
def tbL : List (List TE):=[[tN,tF,tI .i64 8,tI .i64 8,tG (.bool) 1 1 [zf],tI .u8 1,tI .u8 1,tC (.agg [(0,2),(1,3),(2,4),(3,6)]) 4 24 [z8,z8,zf,zb],tC (.agg [(0,2),(1,3),(2,4),(3,6)]) 4 24 [z8,z8,zf,zb],tG (.str) 1 16 [zs],tG (.str) 1 16 [zs],tG (.str) 1 16 [zs],tI .u64 8,tG (.agg [(0,9),(1,12)]) 2 24 [zs,.sc (.int .u64 0)],tG (.agg [(0,9),(1,12)]) 2 24 [zs,.sc (.int .u64 0)],tP],
 [tP,tP,tG (.agg [(0,17)]) 1 8 [zp],tG (.agg [(0,17)]) 1 8 [zp],tG (.ifc) 1 16 [.sc .nilIface],tI .i32 4,tS 117,tS 2,tS 166,tS 3,tS 58,tS 173,tG (.agg [(0,22),(1,23),(2,24),(3,25),(4,26),(5,3),(6,27)]) 7 152 [.nl,.nl,.nl,.nl,.nl,z8,.nl],tG (.agg [(0,22),(1,23),(2,24),(3,25),(4,26),(5,3),(6,27)]) 7 152 [.nl,.nl,.nl,.nl,.nl,z8,.nl],tF,tS 65],
 [tS 86,tS 88,tG (.agg [(0,23),(1,32),(2,33),(3,3),(4,3),(5,3)]) 6 96 [.nl,.nl,.nl,z8,z8,z8],tG (.agg [(0,23),(1,32),(2,33),(3,3),(4,3),(5,3)]) 6 96 [.nl,.nl,.nl,z8,z8,z8],tI .i64 8,tG (.agg [(0,31),(1,35),(7,9),(8,36),(9,4)]) 10 152 [.nl,.nl,.nl,.nl,z8,z8,z8,zs,z8,zf],tG (.agg [(0,31),(1,35),(7,9),(8,36),(9,4)]) 10 152 [.nl,.nl,.nl,.nl,z8,z8,z8,zs,z8,zf],tN,tF,tF,tF,tS 35,tN,tF,tF,tF],
 [tG (.agg [(0,3),(1,3),(2,3),(3,3),(4,25),(5,25),(6,9)]) 7 96 [z8,z8,z8,z8,.nl,.nl,zs],tG (.agg [(0,3),(1,3),(2,3),(3,3),(4,25),(5,25),(6,9)]) 7 96 [z8,z8,z8,z8,.nl,.nl,zs],tG (.agg [(0,49),(7,3),(8,3)]) 9 112 [z8,z8,z8,z8,.nl,.nl,zs,z8,z8],tG (.agg [(0,49),(7,3),(8,3)]) 9 112 [z8,z8,z8,z8,.nl,.nl,zs,z8,z8],tS 51,tS 52,tG (.agg [(0,52),(1,53),(2,4),(3,4),(4,4),(5,4),(6,4)]) 7 56 [.nl,.nl,zf,zf,zf,zf,zf],tG (.agg [(0,52),(1,53),(2,4),(3,4),(4,4),(5,4),(6,4)]) 7 56 [.nl,.nl,zf,zf,zf,zf,zf],tS 55,tG (.agg [(0,9),(1,3),(2,22),(3,23),(4,56),(5,3),(6,3),(7,3),(8,3),(9,3)]) 10 136 [zs,z8,.nl,.nl,.nl,z8,z8,z8,z8,z8],tG (.agg [(0,9),(1,3),(2,22),(3,23),(4,56),(5,3),(6,3),(7,3),(8,3),(9,3)]) 10 136 [zs,z8,.nl,.nl,.nl,z8,z8,z8,z8,z8],tN,tF,tF,tF,tF],
 [tC (.agg [(0,3),(1,3),(2,3),(3,3),(4,3),(5,3),(6,3)]) 7 56 [z8,z8,z8,z8,z8,z8,z8],tC (.agg [(0,3),(1,3),(2,3),(3,3),(4,3),(5,3),(6,3)]) 7 56 [z8,z8,z8,z8,z8,z8,z8],tG (.agg [(0,65),(7,35),(13,36),(14,9)]) 15 176 [z8,z8,z8,z8,z8,z8,z8,.nl,.nl,.nl,z8,z8,z8,z8,zs],tG (.agg [(0,65),(7,35),(13,36),(14,9)]) 15 176 [z8,z8,z8,z8,z8,z8,z8,.nl,.nl,.nl,z8,z8,z8,z8,zs],tS 67,tN,tF,tF,tN,tF,tG (.agg [(0,3),(1,3),(2,36),(3,3),(4,31),(5,3),(6,3),(7,3)]) 8 80 [z8,z8,z8,z8,.nl,z8,z8,z8],tG (.agg [(0,3),(1,3),(2,36),(3,3),(4,31),(5,3),(6,3),(7,3)]) 8 80 [z8,z8,z8,z8,.nl,z8,z8,z8],tN,tF,tF,tF],
 [tF,tF,tF,tF,tS 98,tG (.agg [(0,3),(1,84)]) 2 32 [z8,.nl],tG (.agg [(0,3),(1,84)]) 2 32 [z8,.nl],tG (.agg [(0,3),(1,3),(2,3),(3,23)]) 4 48 [z8,z8,z8,.nl],tG (.agg [(0,3),(1,3),(2,3),(3,23)]) 4 48 [z8,z8,z8,.nl],tF,tF,tF,tF,tF,tS 97,tF],
 [tC (.agg [(0,4),(1,36)]) 2 16 [zf,z8],tC (.agg [(0,4),(1,36)]) 2 16 [zf,z8],tS 2,tF,tP,tS 5,tG (.agg [(0,100),(1,101)]) 2 32 [zp,.nl],tG (.agg [(0,100),(1,101)]) 2 32 [zp,.nl],tG (.ifc) 1 16 [.sc .nilIface],tG (.ifc) 1 16 [.sc .nilIface],tN,tF,tF,tF,tF,tN],
 [tF,tN,tF,tF,tC (.agg [(0,3),(1,4)]) 2 16 [z8,zf],tC (.agg [(0,3),(1,4)]) 2 16 [z8,zf],tF,tF,tF,tF,tS 4,tG (.agg [(0,29),(7,35),(13,3),(14,4),(15,122)]) 16 288 [.nl,.nl,.nl,.nl,.nl,z8,.nl,.nl,.nl,.nl,z8,z8,z8,z8,zf,.nl],tG (.agg [(0,29),(7,35),(13,3),(14,4),(15,122)]) 16 288 [.nl,.nl,.nl,.nl,.nl,z8,.nl,.nl,.nl,.nl,z8,z8,z8,z8,zf,.nl],tC (.agg [(0,3),(1,3),(2,3),(3,3),(4,3),(5,36)]) 6 48 [z8,z8,z8,z8,z8,z8],tC (.agg [(0,3),(1,3),(2,3),(3,3),(4,3),(5,36)]) 6 48 [z8,z8,z8,z8,z8,z8],tF],
 [tN,tF,tF,tF,tP,tS 9,tF,tN,tF,tF,tP,tG (.agg [(0,29)]) 7 152 [.nl,.nl,.nl,.nl,.nl,z8,.nl],tG (.agg [(0,29)]) 7 152 [.nl,.nl,.nl,.nl,.nl,z8,.nl],tN,tF,tF],
 [tF,tF,tF,tS 151,tF,tS 126,tG (.agg [(0,124),(16,149)]) 17 312 [.nl,.nl,.nl,.nl,.nl,z8,.nl,.nl,.nl,.nl,z8,z8,z8,z8,zf,.nl,.nl],tG (.agg [(0,124),(16,149)]) 17 312 [.nl,.nl,.nl,.nl,.nl,z8,.nl,.nl,.nl,.nl,z8,z8,z8,z8,zf,.nl,.nl],tN,tF,tF,tN,tF,tF,tN,tF],
 [tN,tF,tF,tF,tF,tG (.agg [(0,3),(1,22)]) 2 32 [z8,.nl],tG (.agg [(0,3),(1,22)]) 2 32 [z8,.nl],tF,tF,tS 228,tG (.agg [(0,3),(1,3),(2,3),(3,3),(4,169)]) 5 56 [z8,z8,z8,z8,.nl],tG (.agg [(0,3),(1,3),(2,3),(3,3),(4,169)]) 5 56 [z8,z8,z8,z8,.nl],tG (.agg [(0,3),(1,2),(2,3),(3,3),(4,3),(5,171),(10,25),(11,25)]) 12 144 (List.replicate 9 z8++[.nl,.nl,.nl]),tG (.agg [(0,3),(1,2),(2,3),(3,3),(4,3),(5,171),(10,25),(11,25)]) 12 144 (List.replicate 9 z8++[.nl,.nl,.nl]),tF,tF],
 [tF,tF,tF,tF,tF,tF,tF,tF,tF,tF,tP,tN,tF,tF,tF,tN],
 [tF,tF,tS 198,tF,tS 200,tG (.agg [(0,4),(1,36),(2,196)]) 3 40 [zf,z8,.nl],tG (.agg [(0,4),(1,36),(2,196)]) 3 40 [zf,z8,.nl],tC (.agg [(0,3),(1,3),(2,3)]) 3 24 [z8,z8,z8],tC (.agg [(0,3),(1,3),(2,3)]) 3 24 [z8,z8,z8],tF,tF,tF,tF,tF,tI .i64 8,tI .u64 8],
 [tN,tF,tI .u64 8,tP,tF,tF,tG (.arr 24 5) 24 24 (List.replicate 24 zb),tF,tF,tN,tF,tF,tF,tG (.arr 3 3) 3 24 [z8,z8,z8],tF,tF],
 [tF,tF,tF,tC (.agg [(0,3),(1,3),(2,3)]) 3 24 [z8,z8,z8],tC (.agg [(0,3),(1,3),(2,3)]) 3 24 [z8,z8,z8],tF,tF,tF,tF,tF,tF,tN,tF,tF,tF,tF],
 [tF,tN,tF,tF,tF,tF,tF,tN,tF,tF,tF,tF,tG (.agg [(0,9),(1,9),(2,105)]) 3 48 [zs,zs,.sc .nilIface],tG (.agg [(0,9),(1,9),(2,105)]) 3 48 [zs,zs,.sc .nilIface],tF,tF],
 [tG (.arr 20 207) 20 160 (List.replicate 20 (.sc (.int .u64 0))),tI .u32 4,tG (.arr 65 5) 65 65 (List.replicate 65 zb),tF,tF,tN,tF,tF,tF,tF,tF,tF,tF,tN,tF,tF],
 [tN,tF,tF,tN,tF,tF,tN,tF,tF,tF,tF,tF,tF,tF,tP,tC (.agg [(0,9)]) 1 16 [zs]],
 [tC (.agg [(0,9)]) 1 16 [zs],tF,tF,tF,tF,tF,tF,tF,tF,tF,tF,tF,tF,tF,tF,tG (.arr 256 5) 256 256 (List.replicate 256 zb)],
 [tC (.agg [(0,5),(1,5)]) 2 2 [zb,zb],tC (.agg [(0,5),(1,5)]) 2 2 [zb,zb],tG (.arr 16 305) 32 32 (List.replicate 32 zb),tN,tF,tG (.arr 32 5) 32 32 (List.replicate 32 zb),tG (.arr 64 5) 64 64 (List.replicate 64 zb),tF,tF,tF,tF,tF,tF,tF,tG (.agg [(0,17),(1,17),(2,17),(3,9)]) 4 40 [zp,zp,zp,zs],tG (.agg [(0,17),(1,17),(2,17),(3,9)]) 4 40 [zp,zp,zp,zs]],
 [tG (.arr 0 16) 0 0 [],tG (.agg [(0,320)]) 0 0 [],tG (.agg [(0,320)]) 0 0 [],tF,tI .u8 1,tI .u8 1,tF,tI .i32 4,tI .i32 4,tG (.agg [(0,12),(1,12),(2,257),(3,324),(4,5),(5,5),(6,325),(7,326),(8,132),(9,327),(10,328)]) 11 48 [.sc (.int .u64 0),.sc (.int .u64 0),.sc (.int .u32 0),zb,zb,zb,zb,zn,zp,.sc (.int .i32 0),.sc (.int .i32 0)],tG (.agg [(0,12),(1,12),(2,257),(3,324),(4,5),(5,5),(6,325),(7,326),(8,132),(9,327),(10,328)]) 11 48 [.sc (.int .u64 0),.sc (.int .u64 0),.sc (.int .u32 0),zb,zb,zb,zb,zn,zp,.sc (.int .i32 0),.sc (.int .i32 0)]]]
def tb (t:TypeId):TE:=bif Nat.blt t 331 then(tbL.getD (t / 16) []).getD (t % 16) tN else tN
def Sv : List Nat:=(List.range 331).filter fun t=>match(tb t).k with | .other=>false | _=>true
theorem Af0 : Sv.map tb=Sv.map (YK Tryz.prog):=by kernel_rfl
theorem Adu : ((List.range 331).all fun t=>Sv.contains t||(match(tb t).k with | .other=>true | _=>false))=true:=by kernel_rfl
theorem Al : TOk Tryz.prog tb:=by
 refine⟨fun t=>?_⟩
 by_cases ht:t<331
 ·have h:=Alt.1 Adu t (AlD.2 ht)
  rw[AlV]at h
  rcases h with h | h
  ·left
   have hm:t∈Sv:=by simpa using h
   obtain⟨i,hi,rfl⟩:=Al4 hm
   have e:=congrArg (·[i]?) Af0
   simpa[hi] using e
  ·right
   generalize (tb t).k=k at h
   cases k<;>first | rfl | cases h
 ·right
  have hb:Nat.blt t 331=false:=by
   cases hq:Nat.blt t 331 with
   | true=>exact absurd (Ak7 hq) ht
   | false=>rfl
  unfold tb
  rw[hb]
  rfl
theorem Am : Tryz.prog.follows .mixedOrders=true:=by kernel_rfl
def Aa2 : Shp:={ α:=Int,enc:=fun b=>([],Aa b) }
def Ais : Shp:={ α:=Bool,enc:=fun b=>([],Ac b) }
def Ain : Shp:={ α:=List Int,enc:=fun l=>([],Ad true l) }
def AkF : Shp:={ α:=List (List D.Trans),enc:=fun l=>([],BZ true l) }
def AhN : Shp:={ α:=Int × Int,enc:=fun y=>([],.tup [Aa y.1,Aa y.2]) }
def W0 : Shp:={ α:=Int × Int × Int,enc:=fun y=>([],.tup [Aa y.1,Aa y.2.1,Aa y.2.2]) }
def Bk (f:FuncId):Shp :=
 bif Nat.beq f 116||Nat.beq f 69||Nat.beq f 109||Nat.beq f 117 then Aa2
 else bif Nat.beq f 72 then Ain else bif Nat.beq f 73 then AkF else bif Nat.beq f 49 then AhN else bif Nat.beq f 36 then W0 else Ais
def tpM (m:D.Model):VV:=.tp (Ae m)
def AM : Ann:={ keep:=fun _=>[] }
abbrev BB (c:Bool)(A B:Prop):Prop:=(c=true->A)/\(c=false->B)
abbrev LQ (a b:VV):Prop:=leO [] []/\VV.le a b
abbrev inX (x:Int)(n:Nat):Prop:=0<=x/\x<(n:Int)
abbrev VC (f:FuncId)(xs:List VV)(r:VV):Prop:=Aj Tryz.prog f [] xs [] r
noncomputable abbrev fc (Sh:Shs) (L:Ann) (f:Func) (hs:List Ob) (r:VV):Ctx:=CR Tryz.prog tb Sh L true f hs r
def ND : Ann:={ keep:=fun
  | [0,1,0,1,1,1]=>[3,24,25,26]
  | _=>[] }
def Ny : Ann:={ keep:=fun
  | [0,1,0,1]=>[0,1,7,8]
  | _=>[] }
def NB : Ann:={ keep:=fun
  | [0,1,0,1,1]=>[26,27,28]
  | _=>[] }
def NF : Ann:={ keep:=fun
  | [0,1,0,1]=>[0,7,8,9]
  | _=>[] }
def LO : Ann:={ keep:=fun
  | [0,1,0,1]=>[0,7,8,9]
  | _=>[] }
def J6 : Ann:={ keep:=fun
  | [0,1,0,1,1,1]=>[1,58,59,60]
  | _=>[] }
def J9 : Ann:={ keep:=fun
  | [0,1,0,1,1]=>[0,2,32,33,34]
  | _=>[] }
def Iw : Ann:={ keep:=fun
  | [0,1,0,1,1,1]=>[0,1,5,30,31]
  | _=>[] }
def FL : Ann:={ keep:=fun
  | [0,1,0,1,1,1,1]=>[1,3,4,43,44,45]
  | [0,1,1,1,0,0,1,1,0,0,1,0,1,1,1,1]=>[1,3,4,43,44,45,79,80,81]
  | [0,1,1,1,1,1,0,0,1,1,0,0,1,1,1,0,0,1,1,0,0,1,0,1,1,1,1]=>[1,3,4,43,44,45,79,80,81,99,100,101]
  | _=>[] }
def Kc : Ann:={ keep:=fun
  | [0,1,0,1,1]=>[25,26,27]
  | _=>[] }
def NA : Ann:={ keep:=fun
  | [0,1,0,1,1]=>[0,3,21,22,23]
  | _=>[] }
def J7 : Ann:={ keep:=fun
  | [1]=>[0,1,2,3,9,10,11]
  | _=>[] }
def Hi : Ann:={ keep:=fun
  | [0,1,0,1,1]=>[0,1,5,21,22,23]
  | [0,1,1,0,0,1,1,0,0,1,0,1,1]=>[0,1,5,21,22,23,28,29,30]
  | [0,1,1,0,0,1,1,0,0,1,1,0,0,1,1,0,0,1,0,1,1]=>[0,1,5,21,22,23,28,29,30,34,35,36]
  | _=>[] }
def Dm : Ann:={ keep:=fun
  | [0,1,0,1,1,1,1,1]=>[0,4,50,51,52]
  | [0,1,0,1,1,1,1,1,1]=>[0,4,63,64,65]
  | [0,1,0,1,1,1,1,1,1,1,1,1]=>[0,4,10,116,117]
  | [0,1,1,1,0,0,1,1,0,0,1,0,1,1,1,1,1,1,1,1,1]=>[0,4,10,11,116,117,130,131,132]
  | _=>[] }
def Hj : Ann:={ keep:=fun
  | [0,1,1,0,1,0,1,1,1]=>[3,45,46,47]
  | _=>[] }
def Iz : Ann:={ keep:=fun
  | [0,1,0,1,1,1,1]=>[1,5,8,25,26,27]
  | [0,1,0,1,1,1,1,1,1]=>[5,74,75]
  | _=>[] }
def H4 (l:List Bool):Nat->List VV:=fun i=>[Ac (l.getD i false)]
def AE (l:List Int):Nat->List VV:=fun i=>[Aa (l.getD i 0)]
def Oq (n:Int)(v:D.Var)(k:Int):St:=Aq [(3,Aa n),(24,Df true v.Dims),(25,Aa v.Dims.length),(26,Aa k)] []
def Ol (t:List D.Type)(init:List Int)(k:Int):St:=Aq [(0,AJ true t),(1,Ad true init),(7,Aa t.length),(8,Aa k)] []
def Oo (s:D.Shape)(k:Int):St:=Aq [(26,AJ true s.Fields),(27,Aa s.Fields.length),(28,Aa k)] []
def Ow (a:Int)(l:List Int)(k:Int):St:=Aq [(0,Aa a),(7,Ad false l),(8,Aa l.length),(9,Aa k)] []
def Mg (a:Int)(l:List Int)(k:Int):St:=Aq [(0,Aa a),(7,Ad true l),(8,Aa l.length),(9,Aa k)] []
def MY (a:Int)(v:D.Var)(k:Int):St:=Aq [(1,Aa a),(58,Df true v.Dims),(59,Aa v.Dims.length),(60,Aa k)] []
def Ko (m:D.Model)(args mt:List Int)(k:Int):St:=Aq [(0,tpM m),(2,Ad true args),(32,Ad true mt),(33,Aa mt.length),(34,Aa k)] []
def Fq (m:D.Model)(a:Int)(x:D.Expr)(k:Int):St:=Aq [(0,tpM m),(1,Aa a),(5,.bp 0 0),(30,.agg [Aa x.A,Aa x.B,Aa x.C]),(31,Aa k)] [.box (AT x)]
def Md (p:D.Proc)(many k:Int):St:=Aq [(1,.bp 0 0),(3,Aa p.Locs.length),(4,Aa many),(43,E7 true p.Locs),(44,Aa p.Locs.length),(45,Aa k)] [.box (Bf p)]
def Mc (p:D.Proc)(many k:Int)(ws:List (List D.Trans))(j:Int):St:=Aq [(1,.bp 0 0),(3,Aa p.Locs.length),(4,Aa many),(43,E7 true p.Locs),(44,Aa p.Locs.length),(45,Aa k),(79,BZ true ws),(80,Aa ws.length),(81,Aa j)] [.box (Bf p)]
def Mb (p:D.Proc)(many k:Int)(ws:List (List D.Trans))(j:Int)(w:List D.Trans)(h:Int):St:=Aq [(1,.bp 0 0),(3,Aa p.Locs.length),(4,Aa many),(43,E7 true p.Locs),(44,Aa p.Locs.length),(45,Aa k),(79,BZ true ws),(80,Aa ws.length),(81,Aa j),(99,Au true w),(100,Aa w.length),(101,Aa h)] [.box (Bf p)]
def Kq (p:D.Proc)(k:Int):St:=Aq [(25,E7 true p.Locs),(26,Aa p.Locs.length),(27,Aa k)] []
def On (m:D.Model)(s:D.Stmt)(k:Int):St:=Aq [(0,tpM m),(3,.bp 0 0),(21,Ad true s.Match),(22,Aa s.Match.length),(23,Aa k)] [.box (Ar s)]
def Pw (m:D.Model)(i:Int)(list:List Int)(run:Int)(seen:List Bool)(todo:List Int)(k:Int):St:=Aq [(0,tpM m),(1,Aa i),(2,Ad false list),(3,Aa run),(9,.ow 0 0 seen.length),(10,.ow 1 0 todo.length),(11,Aa k)] [.arr true 0 seen.length 1 (H4 seen),.arr true 0 todo.length 1 (AE todo)]
def YO (m:D.Model)(i:Int)(list:List Int)(run:Int):St:=Aq [(0,tpM m),(1,Aa i),(2,Ad false list),(3,Aa run),(9,.dead),(10,.dead),(11,.dead)] []
def Ma (m:D.Model)(i:Int)(p:D.Proc)(k:Int):St:=Aq [(0,tpM m),(1,Aa i),(5,.bp 0 0),(21,E7 true p.Locs),(22,Aa p.Locs.length),(23,Aa k)] [.box (Bf p)]
def L9 (m:D.Model)(i:Int)(p:D.Proc)(k:Int)(ws:List (List D.Trans))(j:Int):St:=Aq [(0,tpM m),(1,Aa i),(5,.bp 0 0),(21,E7 true p.Locs),(22,Aa p.Locs.length),(23,Aa k),(28,BZ true ws),(29,Aa ws.length),(30,Aa j)] [.box (Bf p)]
def Ot (m:D.Model)(i:Int)(p:D.Proc)(k:Int)(ws:List (List D.Trans))(j:Int)(w:List D.Trans)(h:Int):St:=Aq [(0,tpM m),(1,Aa i),(5,.bp 0 0),(21,E7 true p.Locs),(22,Aa p.Locs.length),(23,Aa k),(28,BZ true ws),(29,Aa ws.length),(30,Aa j),(34,Au true w),(35,Aa w.length),(36,Aa h)] [.box (Bf p)]
def SE (m:D.Model)(k:Int):St:=Aq [(0,tpM m),(4,.bp 0 0),(50,Bg true m.Shapes),(51,Aa m.Shapes.length),(52,Aa k)] [.box (Ae m)]
def SD (m:D.Model)(k:Int):St:=Aq [(0,tpM m),(4,.bp 0 0),(63,Ad true m.Chans),(64,Aa m.Chans.length),(65,Aa k)] [.box (Ae m)]
def WX (m:D.Model)(had:List Bool)(k:Int):St:=Aq [(0,tpM m),(4,.bp 0 0),(10,.ow 1 0 had.length),(116,Aa m.Exprs.length),(117,Aa k)] [.box (Ae m),.arr true 0 had.length 1 (H4 had)]
def WW (m:D.Model)(had:List Bool)(k:Int)(l:List Int)(j:Int):St:=Aq [(0,tpM m),(4,.bp 0 0),(10,.ow 1 0 had.length),(11,Aa k),(116,Aa m.Exprs.length),(117,Aa k),(130,Ad true l),(131,Aa l.length),(132,Aa j)] [.box (Ae m),.arr true 0 had.length 1 (H4 had)]
def WZ (x:D.Expr)(l:List Int)(k:Int):St:=Aq [(3,.ow 0 0 l.length),(45,Df true x.V.Dims),(46,Aa x.V.Dims.length),(47,Aa k)] [.arr true 0 l.length 1 (AE l)]
def Mf (m:D.Model)(many k:Int):St:=Aq [(1,.bp 0 0),(5,.bp 1 0),(8,Aa many),(25,A4 true m.Procs),(26,Aa m.Procs.length),(27,Aa k)] [.box (Ae m),.box (Ae m)]
def Me (m:D.Model)(k:Int):St:=Aq [(5,.bp 0 0),(74,Aa m.Procs.length),(75,Aa k)] [.box (Ae m)]
set_option maxRecDepth 100000
theorem AfZ (b:Bool)(t:D.Type):(fc Bk AM Tryz.f108 [] (Ac b)).goal (St.init [] [.agg (Dz t)]) =
  (LQ (Ac (bif bif decide (t.Bits>=1) then decide (t.Bits<=32) else false then bif bif !t.Signed then true else t.Bits==16 then true else t.Bits==32 else false)) (Ac b)):=by kernel_rfl
theorem Ae5 (b:Bool)(t:D.Type)(v:Int):(fc Bk AM Tryz.f107 [] (Ac b)).goal (St.init [] [.agg (Dz t),Aa v]) =
  (∃ (y:Bool),VC 108 [VV.agg (Dz t)] (Ac y)/\BB (!y) (LQ (Ac false) (Ac b)) (BB t.Signed ((0:Int)<=IntKind.i64.wrap (t.Bits - (1:Int))/\((true&&decide (v>=IntKind.i64.wrap ((-1:Int)*(2:Int) ^ min (IntKind.i64.wrap (t.Bits - (1:Int))).toNat IntKind.i64.bits))==true)=true->(0:Int)<=IntKind.i64.wrap (t.Bits - (1:Int)))/\LQ (Ac (bif decide (v>=IntKind.i64.wrap ((-1:Int)*(2:Int) ^ min (IntKind.i64.wrap (t.Bits - (1:Int))).toNat IntKind.i64.bits)) then decide (v<IntKind.i64.wrap ((1:Int)*(2:Int) ^ min (IntKind.i64.wrap (t.Bits - (1:Int))).toNat IntKind.i64.bits)) else false)) (Ac b)) (((true&&decide (v>=0)==true)=true->(0:Int)<=t.Bits)/\LQ (Ac (bif decide (v>=0) then decide (v<IntKind.i64.wrap ((1:Int)*(2:Int) ^ min t.Bits.toNat IntKind.i64.bits)) else false)) (Ac b)))):=by kernel_rfl
theorem Abt (r:Int)(v:D.Var):(fc Bk ND Tryz.f116 [] (Aa r)).goal (St.init [] [.agg (Ct v)]) =
  (BB (bif bif decide (v.Slot<0) then true else decide (v.Slot > 1073741824) then true else decide ((↑v.Dims.length:Int) > 4)) (LQ (Aa 0) (Aa r)) (AB (fc Bk ND Tryz.f116 [] (Aa r)) [1,1,1,0,1,0] (Oq (IntKind.i64.wrap (v.Slot+(1:Int))) v (0:Int)))):=by kernel_rfl
theorem AaB (r:Int)(t:List D.Type)(init:List Int):(fc Bk Ny Tryz.f69 [] (Aa r)).goal (St.init [] [AJ true t,Ad true init]) =
  (AB (fc Bk Ny Tryz.f69 [] (Aa r)) [1,0,1,0] (Ol t init (0:Int))):=by kernel_rfl
theorem Aa4 (b:Bool)(s:D.Shape):(fc Bk NB Tryz.f70 [] (Ac b)).goal (St.init [] [.agg (FE s)]) =
  (BB (bif bif bif decide (s.Room<0) then true else decide (s.Room > 16) then true else decide ((↑s.Fields.length:Int)<1) then true else decide ((↑s.Fields.length:Int) > 8)) (LQ (Ac false) (Ac b)) (AB (fc Bk NB Tryz.f70 [] (Ac b)) [1,1,0,1,0] (Oo s (0:Int)))):=by kernel_rfl
theorem Xs (b:Bool)(m:D.Model)(n:Int):(fc Bk AM Tryz.f114 [] (Ac b)).goal (St.init [] [tpM m,Aa n]) =
  (LQ (Ac (bif bif decide (n>=0) then decide (n<(↑m.Procs.length:Int)) else false then n != m.Claim else false)) (Ac b)):=by kernel_rfl
theorem AcN (b:Bool)(a:Int)(l:List Int):(fc Bk NF Tryz.f110 [] (Ac b)).goal (St.init [] [Aa a,Ad false l]) =
  (AB (fc Bk NF Tryz.f110 [] (Ac b)) [1,0,1,0] (Ow a l (0:Int))):=by kernel_rfl
theorem Yn (b:Bool)(a:Int)(l:List Int):(fc Bk LO Tryz.f110 [] (Ac b)).goal (St.init [] [Aa a,Ad true l]) =
  (AB (fc Bk LO Tryz.f110 [] (Ac b)) [1,0,1,0] (Mg a l (0:Int))):=by kernel_rfl
theorem Ado (b:Bool)(m:D.Model)(a:Int)(v:D.Var):(fc Bk J6 Tryz.f111 [] (Ac b)).goal (St.init [] [tpM m,Aa a,.agg (Ct v)]) =
  (BB (bif bif bif bif decide (v.Scope<0) then true else decide (v.Scope > 2) then true else decide (v.Slot<0) then true else decide (v.Slot > 128) then true else decide ((↑v.Dims.length:Int) > 4)) (LQ (Ac false) (Ac b)) (BB (v.Scope==2) (∃ (y:Bool),VC 110 [Aa a,VV.sl false 1 1 fun(i:Nat)=>List.take 1 (List.drop (i*1) [Aa v.Who])] (Ac y)/\∃ (y_1:Bool),((true&&(!y)==false)=true->VC 114 [tpM m,Aa v.Type_] (Ac y_1))/\BB (bif !y then true else !y_1) (LQ (Ac false) (Ac b)) (AB (fc Bk J6 Tryz.f111 [] (Ac b)) [1,1,1,0,1,0] (MY a v (0:Int)))) (BB (bif v.Who != (-1:Int) then true else v.Type_ != (-1:Int)) (LQ (Ac false) (Ac b)) (AB (fc Bk J6 Tryz.f111 [] (Ac b)) [1,1,1,0,1,0] (MY a v (0:Int)))))):=by kernel_rfl
theorem AbG (r:Int)(op:Int):(fc Bk AM Tryz.f109 [] (Aa r)).goal (St.init [] [Aa op]) =
  (BB (op==1) (BB (op==1) (LQ (Aa 0) (Aa r)) (BB (op==24) (LQ (Aa 3) (Aa r)) (BB (bif decide (op>=6) then decide (op<=23) else false) (LQ (Aa 2) (Aa r)) (LQ (Aa 1) (Aa r))))) (BB (op==2) (BB (op==2) (LQ (Aa 0) (Aa r)) (BB (op==24) (LQ (Aa 3) (Aa r)) (BB (bif decide (op>=6) then decide (op<=23) else false) (LQ (Aa 2) (Aa r)) (LQ (Aa 1) (Aa r))))) (BB (op==31) (BB (op==31) (LQ (Aa 0) (Aa r)) (BB (op==24) (LQ (Aa 3) (Aa r)) (BB (bif decide (op>=6) then decide (op<=23) else false) (LQ (Aa 2) (Aa r)) (LQ (Aa 1) (Aa r))))) (BB (op==32) (BB (op==32) (LQ (Aa 0) (Aa r)) (BB (op==24) (LQ (Aa 3) (Aa r)) (BB (bif decide (op>=6) then decide (op<=23) else false) (LQ (Aa 2) (Aa r)) (LQ (Aa 1) (Aa r))))) (BB (op==33) (BB (op==33) (LQ (Aa 0) (Aa r)) (BB (op==24) (LQ (Aa 3) (Aa r)) (BB (bif decide (op>=6) then decide (op<=23) else false) (LQ (Aa 2) (Aa r)) (LQ (Aa 1) (Aa r))))) (BB (op==34) (BB (op==34) (LQ (Aa 0) (Aa r)) (BB (op==24) (LQ (Aa 3) (Aa r)) (BB (bif decide (op>=6) then decide (op<=23) else false) (LQ (Aa 2) (Aa r)) (LQ (Aa 1) (Aa r))))) (BB (op==35) (BB (op==35) (LQ (Aa 0) (Aa r)) (BB (op==24) (LQ (Aa 3) (Aa r)) (BB (bif decide (op>=6) then decide (op<=23) else false) (LQ (Aa 2) (Aa r)) (LQ (Aa 1) (Aa r))))) (BB (op==39) (LQ (Aa 0) (Aa r)) (BB (op==24) (LQ (Aa 3) (Aa r)) (BB (bif decide (op>=6) then decide (op<=23) else false) (LQ (Aa 2) (Aa r)) (LQ (Aa 1) (Aa r)))))))))))):=by kernel_rfl
theorem U2 (b:Bool)(m:D.Model)(a:Int)(args mt:List Int):(fc Bk J9 Tryz.f112 [] (Ac b)).goal (St.init [] [tpM m,Aa a,Ad true args,Ad true mt]) =
  (∃ (y:Bool),((true&&(bif bif decide ((↑args.length:Int)<1) then true else decide ((↑args.length:Int) > 8) then true else(↑mt.length:Int) != (↑args.length:Int))==false)=true->VC 110 [Aa a,Ad true args] (Ac y))/\BB (bif bif bif decide ((↑args.length:Int)<1) then true else decide ((↑args.length:Int) > 8) then true else(↑mt.length:Int) != (↑args.length:Int) then true else !y) (LQ (Ac false) (Ac b)) (AB (fc Bk J9 Tryz.f112 [] (Ac b)) [1,1,0,1,0] (Ko m args mt (0:Int)))):=by kernel_rfl
theorem Afa (b:Bool)(m:D.Model)(a:Int):(fc Bk Iw Tryz.f71 [] (Ac b)).goal (St.init [] [tpM m,Aa a]) =
  (inX a m.Exprs.length/\BB (bif decide ((m.Exprs.getD a.toNat default).Op<1) then true else decide ((m.Exprs.getD a.toNat default).Op > 39)) (LQ (Ac false) (Ac b)) (AB (fc Bk Iw Tryz.f71 [] (Ac b)) [1,1,1,0,1,0] (Fq m a (m.Exprs.getD a.toNat default) (0:Int)))):=by kernel_rfl
theorem Xv (b:Bool)(m:D.Model)(x:D.Expr):(fc Bk AM Tryz.f113 [] (Ac b)).goal (St.init [] [tpM m,.agg (AT x)]) =
  (∃ (y:Bool),((true&&(bif decide (x.N<0) then true else decide (x.N>=1073741824))==false)=true->VC 114 [tpM m,Aa x.N] (Ac y))/\BB (bif bif bif decide (x.N<0) then true else decide (x.N>=1073741824) then true else !y then true else decide ((↑x.Args.length:Int)<1)) (LQ (Ac false) (Ac b)) (inX x.N m.Procs.length/\∃ (y:Bool),VC 110 [Aa (↑(m.Procs.getD x.N.toNat default).Locs.length:Int),Ad true x.Args] (Ac y)/\LQ (Ac y) (Ac b))):=by kernel_rfl
theorem Adf (r:List (List D.Trans))(l:D.Loc):(fc Bk AM Tryz.f73 [] (BZ true r)).goal (St.init [] [.agg (AZ l)]) =
  ((1+l.Esc.length)*24<=140737488355328/\(∀ (i:Nat),i<l.Esc.length->((fun(i:Nat)=>[Au true (l.Esc.getD i [])]) i).all VV.mem1=true)/\LQ (VV.sl true (1+l.Esc.length) 1 fun(i:Nat)=>bif i.blt 1 then(fun(i:Nat)=>List.take 1 (List.drop (i*1) [Au true l.Out])) i else[Au true (l.Esc.getD (i - 1) [])]) (BZ true r)):=by kernel_rfl
theorem Acj (b:Bool)(p:D.Proc):(fc Bk AM Tryz.f50 [] (Ac b)).goal (St.init [] [.agg (Bf p)]) =
  (∃ (y:Int),((true&&(bif decide ((↑p.Frame.length:Int)<=128) then(↑p.Init.length:Int)==(↑p.Frame.length:Int) else false)==true)=true->VC 69 [AJ true p.Frame,Ad true p.Init] (Aa y))/\LQ (Ac (bif bif bif bif bif bif bif bif decide ((↑p.Frame.length:Int)<=128) then(↑p.Init.length:Int)==(↑p.Frame.length:Int) else false then decide (y<0) else false then decide (p.Params>=0) else false then decide (p.Params<=(↑p.Frame.length:Int)) else false then decide (p.Active>=0) else false then decide (p.Active<=16) else false then decide (p.Prio>=1) else false then decide (p.Prio<=255) else false)) (Ac b)):=by kernel_rfl
theorem Ace (b:Bool)(p:D.Proc):(fc Bk FL Tryz.f51 [] (Ac b)).goal (St.init [] [.agg (Bf p)]) =
  (BB (bif bif bif bif bif decide ((↑p.Locs.length:Int)<1) then true else decide ((↑p.Locs.length:Int) > 256) then true else decide (p.Start<0) then true else decide (p.Start>=(↑p.Locs.length:Int)) then true else decide (p.Final<0) then true else decide (p.Final>=(↑p.Locs.length:Int))) (LQ (Ac false) (Ac b)) (AB (fc Bk FL Tryz.f51 [] (Ac b)) [1,1,1,1,0,1,0] (Md p (0:Int) (0:Int)))):=by kernel_rfl
theorem VF (b:Bool)(p:D.Proc):(fc Bk Kc Tryz.f52 [] (Ac b)).goal (St.init [] [.agg (Bf p)]) =
  (BB (bif bif bif decide ((↑p.Frame.length:Int) > 0) then true else decide (p.Params > 0) then true else decide (p.Active > 0) then true else p.Provided != (-1:Int)) (LQ (Ac false) (Ac b)) (AB (fc Bk Kc Tryz.f52 [] (Ac b)) [1,1,0,1,0] (Kq p (0:Int)))):=by kernel_rfl
theorem AcB (b:Bool)(s:D.Stmt)(u v x:Bool):(fc Bk AM Tryz.f150 [] (Ac b)).goal (St.init [] [.agg (Ar s),Ac u,Ac v,Ac x]) =
  (LQ (Ac (bif bif bif !u then true else IntKind.i64.wrap ((↑s.Args.length:Int)+(↑s.Match.length:Int))==0 then bif !v then true else s.N==0 else false then bif !x then true else s.Text.toList==(⟨#[]⟩:ByteArray).toList else false)) (Ac b)):=by kernel_rfl
theorem AbF (b:Bool)(m:D.Model)(a:Int):(fc Bk AM Tryz.f149 [] (Ac b)).goal (St.init [] [tpM m,Aa a]) =
  (∃ (y:Bool),VC 110 [Aa (↑m.Exprs.length:Int),VV.sl false 1 1 fun(i:Nat)=>List.take 1 (List.drop (i*1) [Aa a])] (Ac y)/\LQ (Ac y) (Ac b)):=by kernel_rfl
theorem WJ (b:Bool)(m:D.Model)(a:Int):(fc Bk AM Tryz.f151 [] (Ac b)).goal (St.init [] [tpM m,Aa a]) =
  (∃ (y:Bool),VC 149 [tpM m,Aa a] (Ac y)/\((true&&y==true)=true->inX a m.Exprs.length)/\((true&&(bif y then(m.Exprs.getD a.toNat default).Op==2 else false)==true)=true->inX a m.Exprs.length)/\LQ (Ac (bif bif y then(m.Exprs.getD a.toNat default).Op==2 else false then(m.Exprs.getD a.toNat default).V.Scope != 2 else false)) (Ac b)):=by kernel_rfl
theorem QS (b:Bool)(m:D.Model)(s:D.Stmt):(fc Bk AM Tryz.f115 [] (Ac b)).goal (St.init [] [tpM m,.agg (Ar s)]) =
  (BB (s.Kind==1) (BB (s.Kind==1) (∃ (y:Bool),VC 149 [tpM m,Aa s.A] (Ac y)/\∃ (y_1:Bool),((true&&(bif y then s.B==(-1:Int) else false)==true)=true->VC 150 [VV.agg (Ar s),Ac true,Ac true,Ac true] (Ac y_1))/\LQ (Ac (bif bif y then s.B==(-1:Int) else false then y_1 else false)) (Ac b)) (BB (s.Kind==2) (∃ (y:Bool),VC 151 [tpM m,Aa s.A] (Ac y)/\∃ (y_1:Bool),((true&&y==true)=true->VC 149 [tpM m,Aa s.B] (Ac y_1))/\∃ (y_2:Bool),((true&&(bif y then y_1 else false)==true)=true->VC 150 [VV.agg (Ar s),Ac true,Ac true,Ac true] (Ac y_2))/\LQ (Ac (bif bif y then y_1 else false then y_2 else false)) (Ac b)) (BB (s.Kind==4) (∃ (y:Bool),((true&&(bif s.A==(-1:Int) then s.B==(-1:Int) else false)==true)=true->VC 110 [Aa (↑m.Exprs.length:Int),Ad true s.Args] (Ac y))/\LQ (Ac (bif bif bif bif bif s.A==(-1:Int) then s.B==(-1:Int) else false then y else false then(↑s.Match.length:Int)==0 else false then decide ((↑s.Text.size:Int)<=256) else false then s.N==0 else false)) (Ac b)) (BB (s.Kind==5) (∃ (y:Bool),VC 149 [tpM m,Aa s.A] (Ac y)/\∃ (y_1:Bool),((true&&(bif bif bif y then s.B==(-1:Int) else false then decide ((↑s.Args.length:Int)>=1) else false then decide ((↑s.Args.length:Int)<=8) else false)==true)=true->VC 110 [Aa (↑m.Exprs.length:Int),Ad true s.Args] (Ac y_1))/\LQ (Ac (bif bif bif bif bif bif bif y then s.B==(-1:Int) else false then decide ((↑s.Args.length:Int)>=1) else false then decide ((↑s.Args.length:Int)<=8) else false then y_1 else false then(↑s.Match.length:Int)==0 else false then bif s.N==0 then true else s.N==1 else false then s.Text.toList==(⟨#[]⟩:ByteArray).toList else false)) (Ac b)) (BB (s.Kind==6) (∃ (y:Bool),VC 149 [tpM m,Aa s.A] (Ac y)/\∃ (y_1:Bool),((true&&(bif y then s.B==(-1:Int) else false)==true)=true->VC 152 [tpM m,VV.agg (Ar s)] (Ac y_1))/\LQ (Ac (bif bif bif bif bif y then s.B==(-1:Int) else false then y_1 else false then decide (s.N>=0) else false then decide (s.N<=3) else false then s.Text.toList==(⟨#[]⟩:ByteArray).toList else false)) (Ac b)) (BB (s.Kind==7) (BB (s.Kind==7) (∃ (y:Bool),((true&&(bif s.A==(-1:Int) then s.B==(-1:Int) else false)==true)=true->VC 150 [VV.agg (Ar s),Ac true,Ac true,Ac true] (Ac y))/\LQ (Ac (bif bif s.A==(-1:Int) then s.B==(-1:Int) else false then y else false)) (Ac b)) (BB (s.Kind==9) (∃ (y:Bool),VC 151 [tpM m,Aa s.A] (Ac y)/\∃ (y_1:Bool),((true&&(bif bif bif y then s.B==(-1:Int) else false then decide (s.N>=0) else false then decide (s.N<(↑m.Shapes.length:Int)) else false)==true)=true->VC 150 [VV.agg (Ar s),Ac true,Ac false,Ac true] (Ac y_1))/\LQ (Ac (bif bif bif bif y then s.B==(-1:Int) else false then decide (s.N>=0) else false then decide (s.N<(↑m.Shapes.length:Int)) else false then y_1 else false)) (Ac b)) (LQ (Ac false) (Ac b)))) (BB (s.Kind==8) (∃ (y:Bool),((true&&(bif s.A==(-1:Int) then s.B==(-1:Int) else false)==true)=true->VC 150 [VV.agg (Ar s),Ac true,Ac true,Ac true] (Ac y))/\LQ (Ac (bif bif s.A==(-1:Int) then s.B==(-1:Int) else false then y else false)) (Ac b)) (BB (s.Kind==9) (∃ (y:Bool),VC 151 [tpM m,Aa s.A] (Ac y)/\∃ (y_1:Bool),((true&&(bif bif bif y then s.B==(-1:Int) else false then decide (s.N>=0) else false then decide (s.N<(↑m.Shapes.length:Int)) else false)==true)=true->VC 150 [VV.agg (Ar s),Ac true,Ac false,Ac true] (Ac y_1))/\LQ (Ac (bif bif bif bif y then s.B==(-1:Int) else false then decide (s.N>=0) else false then decide (s.N<(↑m.Shapes.length:Int)) else false then y_1 else false)) (Ac b)) (LQ (Ac false) (Ac b)))))))))) (BB (s.Kind==3) (∃ (y:Bool),VC 149 [tpM m,Aa s.A] (Ac y)/\∃ (y_1:Bool),((true&&(bif y then s.B==(-1:Int) else false)==true)=true->VC 150 [VV.agg (Ar s),Ac true,Ac true,Ac true] (Ac y_1))/\LQ (Ac (bif bif y then s.B==(-1:Int) else false then y_1 else false)) (Ac b)) (BB (s.Kind==2) (∃ (y:Bool),VC 151 [tpM m,Aa s.A] (Ac y)/\∃ (y_1:Bool),((true&&y==true)=true->VC 149 [tpM m,Aa s.B] (Ac y_1))/\∃ (y_2:Bool),((true&&(bif y then y_1 else false)==true)=true->VC 150 [VV.agg (Ar s),Ac true,Ac true,Ac true] (Ac y_2))/\LQ (Ac (bif bif y then y_1 else false then y_2 else false)) (Ac b)) (BB (s.Kind==4) (∃ (y:Bool),((true&&(bif s.A==(-1:Int) then s.B==(-1:Int) else false)==true)=true->VC 110 [Aa (↑m.Exprs.length:Int),Ad true s.Args] (Ac y))/\LQ (Ac (bif bif bif bif bif s.A==(-1:Int) then s.B==(-1:Int) else false then y else false then(↑s.Match.length:Int)==0 else false then decide ((↑s.Text.size:Int)<=256) else false then s.N==0 else false)) (Ac b)) (BB (s.Kind==5) (∃ (y:Bool),VC 149 [tpM m,Aa s.A] (Ac y)/\∃ (y_1:Bool),((true&&(bif bif bif y then s.B==(-1:Int) else false then decide ((↑s.Args.length:Int)>=1) else false then decide ((↑s.Args.length:Int)<=8) else false)==true)=true->VC 110 [Aa (↑m.Exprs.length:Int),Ad true s.Args] (Ac y_1))/\LQ (Ac (bif bif bif bif bif bif bif y then s.B==(-1:Int) else false then decide ((↑s.Args.length:Int)>=1) else false then decide ((↑s.Args.length:Int)<=8) else false then y_1 else false then(↑s.Match.length:Int)==0 else false then bif s.N==0 then true else s.N==1 else false then s.Text.toList==(⟨#[]⟩:ByteArray).toList else false)) (Ac b)) (BB (s.Kind==6) (∃ (y:Bool),VC 149 [tpM m,Aa s.A] (Ac y)/\∃ (y_1:Bool),((true&&(bif y then s.B==(-1:Int) else false)==true)=true->VC 152 [tpM m,VV.agg (Ar s)] (Ac y_1))/\LQ (Ac (bif bif bif bif bif y then s.B==(-1:Int) else false then y_1 else false then decide (s.N>=0) else false then decide (s.N<=3) else false then s.Text.toList==(⟨#[]⟩:ByteArray).toList else false)) (Ac b)) (BB (s.Kind==7) (BB (s.Kind==7) (∃ (y:Bool),((true&&(bif s.A==(-1:Int) then s.B==(-1:Int) else false)==true)=true->VC 150 [VV.agg (Ar s),Ac true,Ac true,Ac true] (Ac y))/\LQ (Ac (bif bif s.A==(-1:Int) then s.B==(-1:Int) else false then y else false)) (Ac b)) (BB (s.Kind==9) (∃ (y:Bool),VC 151 [tpM m,Aa s.A] (Ac y)/\∃ (y_1:Bool),((true&&(bif bif bif y then s.B==(-1:Int) else false then decide (s.N>=0) else false then decide (s.N<(↑m.Shapes.length:Int)) else false)==true)=true->VC 150 [VV.agg (Ar s),Ac true,Ac false,Ac true] (Ac y_1))/\LQ (Ac (bif bif bif bif y then s.B==(-1:Int) else false then decide (s.N>=0) else false then decide (s.N<(↑m.Shapes.length:Int)) else false then y_1 else false)) (Ac b)) (LQ (Ac false) (Ac b)))) (BB (s.Kind==8) (∃ (y:Bool),((true&&(bif s.A==(-1:Int) then s.B==(-1:Int) else false)==true)=true->VC 150 [VV.agg (Ar s),Ac true,Ac true,Ac true] (Ac y))/\LQ (Ac (bif bif s.A==(-1:Int) then s.B==(-1:Int) else false then y else false)) (Ac b)) (BB (s.Kind==9) (∃ (y:Bool),VC 151 [tpM m,Aa s.A] (Ac y)/\∃ (y_1:Bool),((true&&(bif bif bif y then s.B==(-1:Int) else false then decide (s.N>=0) else false then decide (s.N<(↑m.Shapes.length:Int)) else false)==true)=true->VC 150 [VV.agg (Ar s),Ac true,Ac false,Ac true] (Ac y_1))/\LQ (Ac (bif bif bif bif y then s.B==(-1:Int) else false then decide (s.N>=0) else false then decide (s.N<(↑m.Shapes.length:Int)) else false then y_1 else false)) (Ac b)) (LQ (Ac false) (Ac b))))))))))):=by kernel_rfl
theorem AaH (b:Bool)(m:D.Model)(s:D.Stmt):(fc Bk NA Tryz.f152 [] (Ac b)).goal (St.init [] [tpM m,.agg (Ar s)]) =
  (∃ (y:Bool),VC 112 [tpM m,Aa (↑m.Exprs.length:Int),Ad true s.Args,Ad true s.Match] (Ac y)/\BB (!y) (LQ (Ac false) (Ac b)) (AB (fc Bk NA Tryz.f152 [] (Ac b)) [1,1,0,1,0] (On m s (0:Int)))):=by kernel_rfl
theorem Ads (b:Bool)(m:D.Model)(i:Int)(list:List Int)(run:Int):(fc Bk J7 Tryz.f75 [] (Ac b)).goal (St.init [] [tpM m,Aa i,Ad false list,Aa run]) =
  (AB (fc Bk J7 Tryz.f75 [] (Ac b)) [1] (YO m i list run)):=by kernel_rfl
theorem AaY (r:Int)(m:D.Model)(i:Int)(v:D.Var):(fc Bk AM Tryz.f117 [] (Aa r)).goal (St.init [] [tpM m,Aa i,.agg (Ct v)]) =
  (BB (v.Scope==0) (LQ (Aa (↑m.Globals.length:Int)) (Aa r)) (BB (v.Scope==1) (inX i m.Procs.length/\LQ (Aa (↑(m.Procs.getD i.toNat default).Frame.length:Int)) (Aa r)) (inX v.Type_ m.Procs.length/\LQ (Aa (↑(m.Procs.getD v.Type_.toNat default).Frame.length:Int)) (Aa r)))):=by kernel_rfl
theorem AfR (b:Bool)(m:D.Model)(i:Int)(s:D.Stmt):(fc Bk AM Tryz.f74 [] (Ac b)).goal (St.init [] [tpM m,Aa i,.agg (Ar s)]) =
  (∃ (y:Bool),VC 115 [tpM m,VV.agg (Ar s)] (Ac y)/\BB (bif !y then true else bif bif bif bif i==m.Claim then s.Kind != 1 else false then s.Kind != 3 else false then s.Kind != 7 else false then s.Kind != 8 else false) (LQ (Ac false) (Ac b)) (s.Args.length*8<=140737488355328/\(∀ (i:Nat),i<s.Args.length->(AE s.Args i).all VV.mem1=true)/\BB (decide (s.A>=0)) ((s.Args.length+1)*8<=140737488355328/\BB (decide (s.B>=0)) ((s.Args.length+1+1)*8<=140737488355328/\BB (s.Kind==1) (∃ (y:Bool),VC 75 [tpM m,Aa i,VV.sl false (s.Args.length+1+1) 1 fun(i:Nat)=>bif i.blt (s.Args.length+1) then(fun(i:Nat)=>bif i.blt s.Args.length then[Aa (s.Args.getD i 0)] else(fun(i:Nat)=>List.take 1 (List.drop (i*1) [Aa s.A])) (i - s.Args.length)) i else(fun(i:Nat)=>List.take 1 (List.drop (i*1) [Aa s.B])) (i - (s.Args.length+1)),Aa s.A] (Ac y)/\LQ (Ac y) (Ac b)) (BB (s.Kind==2) (∃ (y:Bool),VC 75 [tpM m,Aa i,VV.sl false (s.Args.length+1+1) 1 fun(i:Nat)=>bif i.blt (s.Args.length+1) then(fun(i:Nat)=>bif i.blt s.Args.length then[Aa (s.Args.getD i 0)] else(fun(i:Nat)=>List.take 1 (List.drop (i*1) [Aa s.A])) (i - s.Args.length)) i else(fun(i:Nat)=>List.take 1 (List.drop (i*1) [Aa s.B])) (i - (s.Args.length+1)),Aa s.B] (Ac y)/\LQ (Ac y) (Ac b)) (∃ (y:Bool),VC 75 [tpM m,Aa i,VV.sl false (s.Args.length+1+1) 1 fun(i:Nat)=>bif i.blt (s.Args.length+1) then(fun(i:Nat)=>bif i.blt s.Args.length then[Aa (s.Args.getD i 0)] else(fun(i:Nat)=>List.take 1 (List.drop (i*1) [Aa s.A])) (i - s.Args.length)) i else(fun(i:Nat)=>List.take 1 (List.drop (i*1) [Aa s.B])) (i - (s.Args.length+1)),Aa (-1)] (Ac y)/\LQ (Ac y) (Ac b)))) (BB (s.Kind==1) (∃ (y:Bool),VC 75 [tpM m,Aa i,VV.sl false (s.Args.length+1) 1 fun(i:Nat)=>bif i.blt s.Args.length then[Aa (s.Args.getD i 0)] else(fun(i:Nat)=>List.take 1 (List.drop (i*1) [Aa s.A])) (i - s.Args.length),Aa s.A] (Ac y)/\LQ (Ac y) (Ac b)) (BB (s.Kind==2) (∃ (y:Bool),VC 75 [tpM m,Aa i,VV.sl false (s.Args.length+1) 1 fun(i:Nat)=>bif i.blt s.Args.length then[Aa (s.Args.getD i 0)] else(fun(i:Nat)=>List.take 1 (List.drop (i*1) [Aa s.A])) (i - s.Args.length),Aa s.B] (Ac y)/\LQ (Ac y) (Ac b)) (∃ (y:Bool),VC 75 [tpM m,Aa i,VV.sl false (s.Args.length+1) 1 fun(i:Nat)=>bif i.blt s.Args.length then[Aa (s.Args.getD i 0)] else(fun(i:Nat)=>List.take 1 (List.drop (i*1) [Aa s.A])) (i - s.Args.length),Aa (-1)] (Ac y)/\LQ (Ac y) (Ac b))))) (BB (decide (s.B>=0)) ((s.Args.length+1)*8<=140737488355328/\BB (s.Kind==1) (∃ (y:Bool),VC 75 [tpM m,Aa i,VV.sl false (s.Args.length+1) 1 fun(i:Nat)=>bif i.blt s.Args.length then[Aa (s.Args.getD i 0)] else(fun(i:Nat)=>List.take 1 (List.drop (i*1) [Aa s.B])) (i - s.Args.length),Aa s.A] (Ac y)/\LQ (Ac y) (Ac b)) (BB (s.Kind==2) (∃ (y:Bool),VC 75 [tpM m,Aa i,VV.sl false (s.Args.length+1) 1 fun(i:Nat)=>bif i.blt s.Args.length then[Aa (s.Args.getD i 0)] else(fun(i:Nat)=>List.take 1 (List.drop (i*1) [Aa s.B])) (i - s.Args.length),Aa s.B] (Ac y)/\LQ (Ac y) (Ac b)) (∃ (y:Bool),VC 75 [tpM m,Aa i,VV.sl false (s.Args.length+1) 1 fun(i:Nat)=>bif i.blt s.Args.length then[Aa (s.Args.getD i 0)] else(fun(i:Nat)=>List.take 1 (List.drop (i*1) [Aa s.B])) (i - s.Args.length),Aa (-1)] (Ac y)/\LQ (Ac y) (Ac b)))) (BB (s.Kind==1) (∃ (y:Bool),VC 75 [tpM m,Aa i,Ad false s.Args,Aa s.A] (Ac y)/\LQ (Ac y) (Ac b)) (BB (s.Kind==2) (∃ (y:Bool),VC 75 [tpM m,Aa i,Ad false s.Args,Aa s.B] (Ac y)/\LQ (Ac y) (Ac b)) (∃ (y:Bool),VC 75 [tpM m,Aa i,Ad false s.Args,Aa (-1)] (Ac y)/\LQ (Ac y) (Ac b))))))):=by kernel_rfl
theorem Aen (b:Bool)(m:D.Model)(i:Int):(fc Bk Hi Tryz.f53 [] (Ac b)).goal (St.init [] [tpM m,Aa i]) =
  (inX i m.Procs.length/\AB (fc Bk Hi Tryz.f53 [] (Ac b)) [1,1,0,1,0] (Ma m i (m.Procs.getD i.toNat default) (0:Int))):=by kernel_rfl
theorem WN (r e:Int)(m:D.Model):(fc Bk Dm Tryz.f49 [] (.tup [Aa r,Aa e])).goal (St.init [] [tpM m]) =
  (BB (bif decide ((↑m.Globals.length:Int) > 128) then true else(↑m.Init.length:Int) != (↑m.Globals.length:Int)) (LQ (VV.tup [Aa 1,Aa (-1)]) (VV.tup [Aa r,Aa e])) (∃ (y:Int),VC 69 [AJ true m.Globals,Ad true m.Init] (Aa y)/\BB (decide (y>=0)) (LQ (VV.tup [Aa 1,Aa y]) (VV.tup [Aa r,Aa e])) (BB (bif decide ((↑m.Shapes.length:Int) > 32) then true else decide ((↑m.Chans.length:Int) > 32)) (LQ (VV.tup [Aa 2,Aa (-1)]) (VV.tup [Aa r,Aa e])) (AB (fc Bk Dm Tryz.f49 [] (VV.tup [Aa r,Aa e])) [1,1,1,1,1,0,1,0] (SE m (0:Int)))))):=by kernel_rfl
theorem AeW (r:List Int)(x:D.Expr):(fc Bk Hj Tryz.f72 [] (Ad true r)).goal (St.init [] [.agg (AT x)]) =
  (∃ (y:Int),VC 109 [Aa x.Op] (Aa y)/\((0:Int)<=y/\y<=(↑3:Int))/\y.toNat*8<=140737488355328/\BB (bif x.Op==30 then true else x.Op==39) ((y.toNat+x.Args.length)*8<=140737488355328/\(∀ (i:Nat),i<x.Args.length->(AE x.Args i).all VV.mem1=true)/\BB (x.Op==2) (BB (x.V.Scope==2) ((y.toNat+x.Args.length+1)*8<=140737488355328/\AB (fc Bk Hj Tryz.f72 [] (Ad true r)) [1,1,1,0,1,0,1,1,0] (Aq [(3,VV.ow 0 0 (y.toNat+x.Args.length+1)),(45,Df true x.V.Dims),(46,Aa (↑x.V.Dims.length:Int)),(47,Aa 0)] [Ob.arr true 0 (y.toNat+x.Args.length+1) 1 fun(i:Nat)=>bif i.blt (y.toNat+x.Args.length) then(fun(i:Nat)=>bif i.blt y.toNat then(fun(i:Nat)=>List.take 1 (List.drop (i*1) [Aa x.A,Aa x.B,Aa x.C])) i else[Aa (x.Args.getD (i - y.toNat) 0)]) i else(fun(i:Nat)=>List.take 1 (List.drop (i*1) [Aa x.V.Who])) (i - (y.toNat+x.Args.length))])) (AB (fc Bk Hj Tryz.f72 [] (Ad true r)) [1,1,1,0,1,0,1,1,0] (Aq [(3,VV.ow 0 0 (y.toNat+x.Args.length)),(45,Df true x.V.Dims),(46,Aa (↑x.V.Dims.length:Int)),(47,Aa 0)] [Ob.arr true 0 (y.toNat+x.Args.length) 1 fun(i:Nat)=>bif i.blt y.toNat then(fun(i:Nat)=>List.take 1 (List.drop (i*1) [Aa x.A,Aa x.B,Aa x.C])) i else[Aa (x.Args.getD (i - y.toNat) 0)]]))) (LQ (VV.sl true (y.toNat+x.Args.length) 1 fun(i:Nat)=>bif i.blt y.toNat then(fun(i:Nat)=>List.take 1 (List.drop (i*1) [Aa x.A,Aa x.B,Aa x.C])) i else[Aa (x.Args.getD (i - y.toNat) 0)]) (Ad true r))) (BB (x.Op==2) (BB (x.V.Scope==2) ((y.toNat+1)*8<=140737488355328/\AB (fc Bk Hj Tryz.f72 [] (Ad true r)) [1,1,1,0,1,0,1,1,0] (Aq [(3,VV.ow 0 0 (y.toNat+1)),(45,Df true x.V.Dims),(46,Aa (↑x.V.Dims.length:Int)),(47,Aa 0)] [Ob.arr true 0 (y.toNat+1) 1 fun(i:Nat)=>bif i.blt y.toNat then(fun(i:Nat)=>List.take 1 (List.drop (i*1) [Aa x.A,Aa x.B,Aa x.C])) i else(fun(i:Nat)=>List.take 1 (List.drop (i*1) [Aa x.V.Who])) (i - y.toNat)])) (AB (fc Bk Hj Tryz.f72 [] (Ad true r)) [1,1,1,0,1,0,1,1,0] (Aq [(3,VV.ow 0 0 y.toNat),(45,Df true x.V.Dims),(46,Aa (↑x.V.Dims.length:Int)),(47,Aa 0)] [Ob.arr true 0 y.toNat 1 fun(i:Nat)=>List.take 1 (List.drop (i*1) [Aa x.A,Aa x.B,Aa x.C])]))) (LQ (VV.sl true y.toNat 1 fun(i:Nat)=>List.take 1 (List.drop (i*1) [Aa x.A,Aa x.B,Aa x.C])) (Ad true r)))):=by kernel_rfl
theorem AcJ (r e f:Int)(m:D.Model):(fc Bk Iz Tryz.f36 [] (.tup [Aa r,Aa e,Aa f])).goal (St.init [] [.agg (Ae m)]) =
  (∃ (y:Int × Int),VC 49 [tpM m] (VV.tup [Aa y.fst,Aa y.snd])/\BB (decide (y.fst > 0)) (LQ (VV.tup [Aa 40,Aa y.fst,Aa y.snd]) (VV.tup [Aa r,Aa e,Aa f])) (AB (fc Bk Iz Tryz.f36 [] (VV.tup [Aa r,Aa e,Aa f])) [1,1,1,1,0,1,0] (Mf m (0:Int) (0:Int)))):=by kernel_rfl
end Go.Proofs.YtmdcknlpalfhhaaGreatDoor
namespace Go.Proofs.YtmdcknlpalfhhaaGreatDoor
open Go.RowKit
set_option maxRecDepth 100000
theorem Xm (r:Int)(n:Int)(v:D.Var)(k:Int)(J:St->Prop):((fc Bk ND Tryz.f116 [] (Aa r)).loop [1,1,1,0,1,0] J).goal (Oq n v k) =
  (BB (decide (k<(↑v.Dims.length:Int))) (inX k v.Dims.length/\BB (bif bif bif decide ((v.Dims.getD k.toNat default).Len<1) then true else decide (IntKind.i64.wrap ((v.Dims.getD k.toNat default).Len - (1:Int)) > 1073741824) then true else decide ((v.Dims.getD k.toNat default).Stride<0) then true else decide ((v.Dims.getD k.toNat default).Stride > 1073741824)) (LQ (Aa 0) (Aa r)) (J (Oq (IntKind.i64.wrap (n+IntKind.i64.wrap (IntKind.i64.wrap ((v.Dims.getD k.toNat default).Len - (1:Int))*(v.Dims.getD k.toNat default).Stride))) v (IntKind.i64.wrap (k+(1:Int)))))) (LQ (Aa n) (Aa r))):=by kernel_rfl
theorem WG (r:Int)(t:List D.Type)(init:List Int)(k:Int)(J:St->Prop):((fc Bk Ny Tryz.f69 [] (Aa r)).loop [1,0,1,0] J).goal (Ol t init k) =
  (BB (decide (k<(↑t.length:Int))) (inX k t.length/\inX k init.length/\∃ (y:Bool),VC 107 [VV.agg (Dz (t.getD k.toNat default)),Aa (init.getD k.toNat 0)] (Ac y)/\BB (!y) (LQ (Aa k) (Aa r)) (J (Ol t init (IntKind.i64.wrap (k+(1:Int)))))) (LQ (Aa (-1)) (Aa r))):=by kernel_rfl
theorem W8 (b:Bool)(s:D.Shape)(k:Int)(J:St->Prop):((fc Bk NB Tryz.f70 [] (Ac b)).loop [1,1,0,1,0] J).goal (Oo s k) =
  (BB (decide (k<(↑s.Fields.length:Int))) (inX k s.Fields.length/\∃ (y:Bool),VC 108 [VV.agg (Dz (s.Fields.getD k.toNat default))] (Ac y)/\BB (!y) (LQ (Ac false) (Ac b)) (J (Oo s (IntKind.i64.wrap (k+(1:Int)))))) (LQ (Ac true) (Ac b))):=by kernel_rfl
theorem Yo (b:Bool)(a:Int)(l:List Int)(k:Int)(J:St->Prop):((fc Bk NF Tryz.f110 [] (Ac b)).loop [1,0,1,0] J).goal (Ow a l k) =
  (BB (decide (k<(↑l.length:Int))) (inX k l.length/\BB (bif decide (l.getD k.toNat 0<0) then true else decide (l.getD k.toNat 0>=a)) (LQ (Ac false) (Ac b)) (J (Ow a l (IntKind.i64.wrap (k+(1:Int)))))) (LQ (Ac true) (Ac b))):=by kernel_rfl
theorem VN (b:Bool)(a:Int)(l:List Int)(k:Int)(J:St->Prop):((fc Bk LO Tryz.f110 [] (Ac b)).loop [1,0,1,0] J).goal (Mg a l k) =
  (BB (decide (k<(↑l.length:Int))) (inX k l.length/\BB (bif decide (l.getD k.toNat 0<0) then true else decide (l.getD k.toNat 0>=a)) (LQ (Ac false) (Ac b)) (J (Mg a l (IntKind.i64.wrap (k+(1:Int)))))) (LQ (Ac true) (Ac b))):=by kernel_rfl
theorem Aax (b:Bool)(a:Int)(v:D.Var)(k:Int)(J:St->Prop):((fc Bk J6 Tryz.f111 [] (Ac b)).loop [1,1,1,0,1,0] J).goal (MY a v k) =
  (BB (decide (k<(↑v.Dims.length:Int))) (inX k v.Dims.length/\∃ (y:Bool),VC 110 [Aa a,VV.sl false 1 1 fun(i:Nat)=>List.take 1 (List.drop (i*1) [Aa (v.Dims.getD k.toNat default).I])] (Ac y)/\BB (bif bif bif bif !y then true else decide ((v.Dims.getD k.toNat default).Len<1) then true else decide ((v.Dims.getD k.toNat default).Len > 128) then true else decide ((v.Dims.getD k.toNat default).Stride<0) then true else decide ((v.Dims.getD k.toNat default).Stride > 128)) (LQ (Ac false) (Ac b)) (J (MY a v (IntKind.i64.wrap (k+(1:Int)))))) (LQ (Ac true) (Ac b))):=by kernel_rfl
theorem Tb (b:Bool)(m:D.Model)(args mt:List Int)(k:Int)(J:St->Prop):((fc Bk J9 Tryz.f112 [] (Ac b)).loop [1,1,0,1,0] J).goal (Ko m args mt k) =
  (BB (decide (k<(↑mt.length:Int))) (inX k mt.length/\((true&&(bif decide (mt.getD k.toNat 0<(-1:Int)) then true else decide (mt.getD k.toNat 0 > 1))==false&&(mt.getD k.toNat 0==0)==true)=true->inX k args.length)/\((true&&(bif decide (mt.getD k.toNat 0<(-1:Int)) then true else decide (mt.getD k.toNat 0 > 1))==false&&(mt.getD k.toNat 0==0)==true)=true->inX (args.getD k.toNat 0) m.Exprs.length)/\BB (bif bif decide (mt.getD k.toNat 0<(-1:Int)) then true else decide (mt.getD k.toNat 0 > 1) then true else bif mt.getD k.toNat 0==0 then(m.Exprs.getD (args.getD k.toNat 0).toNat default).Op != 2 else false) (LQ (Ac false) (Ac b)) (J (Ko m args mt (IntKind.i64.wrap (k+(1:Int)))))) (LQ (Ac true) (Ac b))):=by kernel_rfl
theorem Vt (b:Bool)(m:D.Model)(a:Int)(x:D.Expr)(J:St->Prop):((fc Bk Iw Tryz.f71 [] (Ac b)).loop [1,1,1,0,1,0] J).goal (Fq m a x 0) =
  (BB true (inX (0:Int) 3/\∃ (y:Int),VC 109 [Aa x.Op] (Aa y)/\∃ (y_1:Bool),((true&&decide ((0:Int)<y)==true)=true->VC 110 [Aa a,VV.sl true 1 1 fun(i:Nat)=>List.take 1 (List.drop (i*1) [Aa x.A])] (Ac y_1))/\∃ (y_2:Int),((true&&(bif decide ((0:Int)<y) then !y_1 else false)==false)=true->VC 109 [Aa x.Op] (Aa y_2))/\BB (bif bif decide ((0:Int)<y) then !y_1 else false then true else bif decide ((0:Int)>=y_2) then x.A != (-1:Int) else false) (LQ (Ac false) (Ac b)) (J (Fq m a x (IntKind.i64.wrap ((0:Int)+(1:Int)))))) (BB (x.Op==1) (∃ (y:Bool),VC 107 [VV.agg [Aa 32,Ac true],Aa x.N] (Ac y)/\LQ (Ac y) (Ac b)) (BB (x.Op==2) (∃ (y:Bool),VC 111 [tpM m,Aa a,VV.agg (Ct x.V)] (Ac y)/\LQ (Ac y) (Ac b)) (BB (x.Op==30) (∃ (y:Bool),VC 112 [tpM m,Aa a,Ad true x.Args,Ad true x.Match] (Ac y)/\LQ (Ac (bif y then bif x.N==0 then true else x.N==1 else false)) (Ac b)) (BB (x.Op==38) (∃ (y:Bool),VC 113 [tpM m,VV.agg (AT x)] (Ac y)/\LQ (Ac y) (Ac b)) (BB (x.Op==39) (∃ (y:Bool),((true&&(bif decide (x.N>=0) then decide (x.N<1073741824) else false)==true)=true->VC 114 [tpM m,Aa x.N] (Ac y))/\((true&&(bif bif decide (x.N>=0) then decide (x.N<1073741824) else false then y else false)==true)=true->inX x.N m.Procs.length)/\∃ (y_1:Bool),((true&&(bif bif bif decide (x.N>=0) then decide (x.N<1073741824) else false then y else false then(↑x.Args.length:Int)==(m.Procs.getD x.N.toNat default).Params else false)==true)=true->VC 110 [Aa a,Ad true x.Args] (Ac y_1))/\LQ (Ac (bif bif bif bif decide (x.N>=0) then decide (x.N<1073741824) else false then y else false then(↑x.Args.length:Int)==(m.Procs.getD x.N.toNat default).Params else false then y_1 else false)) (Ac b)) (LQ (Ac true) (Ac b)))))))):=by kernel_rfl
theorem Vs (b:Bool)(m:D.Model)(a:Int)(x:D.Expr)(J:St->Prop):((fc Bk Iw Tryz.f71 [] (Ac b)).loop [1,1,1,0,1,0] J).goal (Fq m a x 1) =
  (BB true (inX (1:Int) 3/\∃ (y:Int),VC 109 [Aa x.Op] (Aa y)/\∃ (y_1:Bool),((true&&decide ((1:Int)<y)==true)=true->VC 110 [Aa a,VV.sl true 1 1 fun(i:Nat)=>List.take 1 (List.drop (i*1) [Aa x.B])] (Ac y_1))/\∃ (y_2:Int),((true&&(bif decide ((1:Int)<y) then !y_1 else false)==false)=true->VC 109 [Aa x.Op] (Aa y_2))/\BB (bif bif decide ((1:Int)<y) then !y_1 else false then true else bif decide ((1:Int)>=y_2) then x.B != (-1:Int) else false) (LQ (Ac false) (Ac b)) (J (Fq m a x (IntKind.i64.wrap ((1:Int)+(1:Int)))))) (BB (x.Op==1) (∃ (y:Bool),VC 107 [VV.agg [Aa 32,Ac true],Aa x.N] (Ac y)/\LQ (Ac y) (Ac b)) (BB (x.Op==2) (∃ (y:Bool),VC 111 [tpM m,Aa a,VV.agg (Ct x.V)] (Ac y)/\LQ (Ac y) (Ac b)) (BB (x.Op==30) (∃ (y:Bool),VC 112 [tpM m,Aa a,Ad true x.Args,Ad true x.Match] (Ac y)/\LQ (Ac (bif y then bif x.N==0 then true else x.N==1 else false)) (Ac b)) (BB (x.Op==38) (∃ (y:Bool),VC 113 [tpM m,VV.agg (AT x)] (Ac y)/\LQ (Ac y) (Ac b)) (BB (x.Op==39) (∃ (y:Bool),((true&&(bif decide (x.N>=0) then decide (x.N<1073741824) else false)==true)=true->VC 114 [tpM m,Aa x.N] (Ac y))/\((true&&(bif bif decide (x.N>=0) then decide (x.N<1073741824) else false then y else false)==true)=true->inX x.N m.Procs.length)/\∃ (y_1:Bool),((true&&(bif bif bif decide (x.N>=0) then decide (x.N<1073741824) else false then y else false then(↑x.Args.length:Int)==(m.Procs.getD x.N.toNat default).Params else false)==true)=true->VC 110 [Aa a,Ad true x.Args] (Ac y_1))/\LQ (Ac (bif bif bif bif decide (x.N>=0) then decide (x.N<1073741824) else false then y else false then(↑x.Args.length:Int)==(m.Procs.getD x.N.toNat default).Params else false then y_1 else false)) (Ac b)) (LQ (Ac true) (Ac b)))))))):=by kernel_rfl
theorem Vr (b:Bool)(m:D.Model)(a:Int)(x:D.Expr)(J:St->Prop):((fc Bk Iw Tryz.f71 [] (Ac b)).loop [1,1,1,0,1,0] J).goal (Fq m a x 2) =
  (BB true (inX (2:Int) 3/\∃ (y:Int),VC 109 [Aa x.Op] (Aa y)/\∃ (y_1:Bool),((true&&decide ((2:Int)<y)==true)=true->VC 110 [Aa a,VV.sl true 1 1 fun(i:Nat)=>List.take 1 (List.drop (i*1) [Aa x.C])] (Ac y_1))/\∃ (y_2:Int),((true&&(bif decide ((2:Int)<y) then !y_1 else false)==false)=true->VC 109 [Aa x.Op] (Aa y_2))/\BB (bif bif decide ((2:Int)<y) then !y_1 else false then true else bif decide ((2:Int)>=y_2) then x.C != (-1:Int) else false) (LQ (Ac false) (Ac b)) (J (Fq m a x (IntKind.i64.wrap ((2:Int)+(1:Int)))))) (BB (x.Op==1) (∃ (y:Bool),VC 107 [VV.agg [Aa 32,Ac true],Aa x.N] (Ac y)/\LQ (Ac y) (Ac b)) (BB (x.Op==2) (∃ (y:Bool),VC 111 [tpM m,Aa a,VV.agg (Ct x.V)] (Ac y)/\LQ (Ac y) (Ac b)) (BB (x.Op==30) (∃ (y:Bool),VC 112 [tpM m,Aa a,Ad true x.Args,Ad true x.Match] (Ac y)/\LQ (Ac (bif y then bif x.N==0 then true else x.N==1 else false)) (Ac b)) (BB (x.Op==38) (∃ (y:Bool),VC 113 [tpM m,VV.agg (AT x)] (Ac y)/\LQ (Ac y) (Ac b)) (BB (x.Op==39) (∃ (y:Bool),((true&&(bif decide (x.N>=0) then decide (x.N<1073741824) else false)==true)=true->VC 114 [tpM m,Aa x.N] (Ac y))/\((true&&(bif bif decide (x.N>=0) then decide (x.N<1073741824) else false then y else false)==true)=true->inX x.N m.Procs.length)/\∃ (y_1:Bool),((true&&(bif bif bif decide (x.N>=0) then decide (x.N<1073741824) else false then y else false then(↑x.Args.length:Int)==(m.Procs.getD x.N.toNat default).Params else false)==true)=true->VC 110 [Aa a,Ad true x.Args] (Ac y_1))/\LQ (Ac (bif bif bif bif decide (x.N>=0) then decide (x.N<1073741824) else false then y else false then(↑x.Args.length:Int)==(m.Procs.getD x.N.toNat default).Params else false then y_1 else false)) (Ac b)) (LQ (Ac true) (Ac b)))))))):=by kernel_rfl
theorem Vq (b:Bool)(m:D.Model)(a:Int)(x:D.Expr)(J:St->Prop):((fc Bk Iw Tryz.f71 [] (Ac b)).loop [1,1,1,0,1,0] J).goal (Fq m a x 3) =
  (BB false (inX (3:Int) 3/\False/\∃ (y:Int),VC 109 [Aa x.Op] (Aa y)/\((true&&decide ((3:Int)<y)==true)=true->False)/\∃ (y_1:Bool),((true&&decide ((3:Int)<y)==true)=true->VC 110 [Aa a,VV.dead] (Ac y_1))/\∃ (y_2:Int),((true&&(bif decide ((3:Int)<y) then !y_1 else false)==false)=true->VC 109 [Aa x.Op] (Aa y_2))/\((true&&(bif decide ((3:Int)<y) then !y_1 else false)==false&&decide ((3:Int)>=y_2)==true)=true->False)/\((true&&(bif decide ((3:Int)<y) then !y_1 else false)==false)=true->False)/\False/\False) (BB (x.Op==1) (∃ (y:Bool),VC 107 [VV.agg [Aa 32,Ac true],Aa x.N] (Ac y)/\LQ (Ac y) (Ac b)) (BB (x.Op==2) (∃ (y:Bool),VC 111 [tpM m,Aa a,VV.agg (Ct x.V)] (Ac y)/\LQ (Ac y) (Ac b)) (BB (x.Op==30) (∃ (y:Bool),VC 112 [tpM m,Aa a,Ad true x.Args,Ad true x.Match] (Ac y)/\LQ (Ac (bif y then bif x.N==0 then true else x.N==1 else false)) (Ac b)) (BB (x.Op==38) (∃ (y:Bool),VC 113 [tpM m,VV.agg (AT x)] (Ac y)/\LQ (Ac y) (Ac b)) (BB (x.Op==39) (∃ (y:Bool),((true&&(bif decide (x.N>=0) then decide (x.N<1073741824) else false)==true)=true->VC 114 [tpM m,Aa x.N] (Ac y))/\((true&&(bif bif decide (x.N>=0) then decide (x.N<1073741824) else false then y else false)==true)=true->inX x.N m.Procs.length)/\∃ (y_1:Bool),((true&&(bif bif bif decide (x.N>=0) then decide (x.N<1073741824) else false then y else false then(↑x.Args.length:Int)==(m.Procs.getD x.N.toNat default).Params else false)==true)=true->VC 110 [Aa a,Ad true x.Args] (Ac y_1))/\LQ (Ac (bif bif bif bif decide (x.N>=0) then decide (x.N<1073741824) else false then y else false then(↑x.Args.length:Int)==(m.Procs.getD x.N.toNat default).Params else false then y_1 else false)) (Ac b)) (LQ (Ac true) (Ac b)))))))):=by kernel_rfl
theorem XX (b:Bool)(p:D.Proc)(many k:Int)(J:St->Prop):((fc Bk FL Tryz.f51 [] (Ac b)).loop [1,1,1,1,0,1,0] J).goal (Md p many k) =
  (BB (decide (k<(↑p.Locs.length:Int))) (inX k p.Locs.length/\BB (bif bif decide ((↑(p.Locs.getD k.toNat default).Esc.length:Int) > 8) then true else bif (p.Locs.getD k.toNat default).Dstep then(p.Locs.getD k.toNat default).Atomic else false then true else bif k==p.Final then decide (IntKind.i64.wrap ((↑(p.Locs.getD k.toNat default).Out.length:Int)+(↑(p.Locs.getD k.toNat default).Esc.length:Int)) > 0) else false) (LQ (Ac false) (Ac b)) (∃ (y:List (List D.Trans)),VC 73 [VV.agg (AZ (p.Locs.getD k.toNat default))] (BZ true y)/\AB ((fc Bk FL Tryz.f51 [] (Ac b)).loop [1,1,1,1,0,1,0] J) [1,1,0,0,1,1,1,0] (Mc p many k y (0:Int)))) (LQ (Ac true) (Ac b))):=by kernel_rfl
theorem XW (b:Bool)(p:D.Proc)(many k:Int)(ws:List (List D.Trans))(j:Int)(J J2:St->Prop):(((fc Bk FL Tryz.f51 [] (Ac b)).loop [1,1,1,1,0,1,0] J).loop [1,1,0,0,1,1,1,0] J2).goal (Mc p many k ws j) =
  (BB (decide (j<(↑ws.length:Int))) (inX j ws.length/\BB (bif decide (j > 0) then(↑(ws.getD j.toNat []).length:Int)==0 else false) (LQ (Ac false) (Ac b)) (BB (decide (IntKind.i64.wrap (many+(↑(ws.getD j.toNat []).length:Int)) > 1024)) (LQ (Ac false) (Ac b)) (AB (((fc Bk FL Tryz.f51 [] (Ac b)).loop [1,1,1,1,0,1,0] J).loop [1,1,0,0,1,1,1,0] J2) [1,1,0,0,1,1,1,1,1,0] (Mb p (IntKind.i64.wrap (many+(↑(ws.getD j.toNat []).length:Int))) k ws j (ws.getD j.toNat []) (0:Int))))) (J (Md p many (IntKind.i64.wrap (k+(1:Int)))))):=by kernel_rfl
theorem XV (b:Bool)(p:D.Proc)(many k:Int)(ws:List (List D.Trans))(j:Int)(w:List D.Trans)(h:Int)(J J2 J3:St->Prop):((((fc Bk FL Tryz.f51 [] (Ac b)).loop [1,1,1,1,0,1,0] J).loop [1,1,0,0,1,1,1,0] J2).loop [1,1,0,0,1,1,1,1,1,0] J3).goal (Mb p many k ws j w h) =
  (BB (decide (h<(↑w.length:Int))) (inX h w.length/\BB (bif decide ((w.getD h.toNat default).To<0) then true else decide ((w.getD h.toNat default).To>=(↑p.Locs.length:Int))) (LQ (Ac false) (Ac b)) (J3 (Mb p many k ws j w (IntKind.i64.wrap (h+(1:Int)))))) (J2 (Mc p many k ws (IntKind.i64.wrap (j+(1:Int)))))):=by kernel_rfl
theorem Ty (b:Bool)(p:D.Proc)(k:Int)(J:St->Prop):((fc Bk Kc Tryz.f52 [] (Ac b)).loop [1,1,0,1,0] J).goal (Kq p k) =
  (BB (decide (k<(↑p.Locs.length:Int))) (inX k p.Locs.length/\BB (bif bif decide ((↑(p.Locs.getD k.toNat default).Esc.length:Int) > 0) then true else(p.Locs.getD k.toNat default).Atomic then true else(p.Locs.getD k.toNat default).Dstep) (LQ (Ac false) (Ac b)) (J (Kq p (IntKind.i64.wrap (k+(1:Int)))))) (LQ (Ac true) (Ac b))):=by kernel_rfl
theorem WL (b:Bool)(m:D.Model)(s:D.Stmt)(k:Int)(J:St->Prop):((fc Bk NA Tryz.f152 [] (Ac b)).loop [1,1,0,1,0] J).goal (On m s k) =
  (BB (decide (k<(↑s.Match.length:Int))) (inX k s.Match.length/\((true&&(s.Match.getD k.toNat 0==0)==true)=true->inX k s.Args.length)/\∃ (y:Bool),((true&&(s.Match.getD k.toNat 0==0)==true)=true->VC 151 [tpM m,Aa (s.Args.getD k.toNat 0)] (Ac y))/\BB (bif s.Match.getD k.toNat 0==0 then !y else false) (LQ (Ac false) (Ac b)) (J (On m s (IntKind.i64.wrap (k+(1:Int)))))) (LQ (Ac true) (Ac b))):=by kernel_rfl
theorem AaA (b:Bool)(m:D.Model)(i:Int)(list:List Int)(run:Int)(J:St->Prop):((fc Bk J7 Tryz.f75 [] (Ac b)).first [1] 0 J).goal (YO m i list run) =
  (((0:Int)<=(↑m.Exprs.length:Int)/\(↑m.Exprs.length:Int)<=(↑m.Exprs.length:Int)/\(↑m.Exprs.length:Int)*(↑1:Int)<=140737488355328)/\list.length*8<=140737488355328/\(∀ (i:Nat),i<list.length->(AE list i).all VV.mem1=true)/\BB ((0:Int)==(↑list.length:Int)) (LQ (Ac true) (Ac b)) (inX (0:Int) list.length/\inX (list.getD (Int.toNat (0:Int)) (0:Int)) (↑m.Exprs.length:Int).toNat/\BB false (J (Aq [(0,tpM m),(1,Aa i),(2,Ad false list),(3,Aa run),(9,VV.ow 0 0 (↑m.Exprs.length:Int).toNat),(10,VV.ow 1 0 list.length),(11,Aa (IntKind.i64.wrap ((0:Int)+(1:Int))))] [Ob.arr true 0 (↑m.Exprs.length:Int).toNat 1 fun(_:Nat)=>(((fc Bk J7 Tryz.f75 [] (Ac b)).first [1] 0 J).T 4).zero,Ob.arr true 0 list.length 1 (AE list)])) (inX (list.getD (Int.toNat (0:Int)) (0:Int)) (↑m.Exprs.length:Int).toNat/\inX (list.getD (Int.toNat (0:Int)) (0:Int)) m.Exprs.length/\BB (bif bif (m.Exprs.getD (list.getD (Int.toNat (0:Int)) (0:Int)).toNat default).Op==39 then list.getD (Int.toNat (0:Int)) (0:Int) != run else false then true else bif i==m.Claim then bif bif (m.Exprs.getD (list.getD (Int.toNat (0:Int)) (0:Int)).toNat default).Op==31 then true else(m.Exprs.getD (list.getD (Int.toNat (0:Int)) (0:Int)).toNat default).Op==39 then true else bif (m.Exprs.getD (list.getD (Int.toNat (0:Int)) (0:Int)).toNat default).Op==2 then(m.Exprs.getD (list.getD (Int.toNat (0:Int)) (0:Int)).toNat default).V.Scope==1 else false else false) (LQ (Ac false) (Ac b)) (BB ((m.Exprs.getD (list.getD (Int.toNat (0:Int)) (0:Int)).toNat default).Op==2) (∃ (y:Int),VC 116 [VV.agg (Ct (m.Exprs.getD (list.getD (Int.toNat (0:Int)) (0:Int)).toNat default).V)] (Aa y)/\∃ (y_1:Int),VC 117 [tpM m,Aa i,VV.agg (Ct (m.Exprs.getD (list.getD (Int.toNat (0:Int)) (0:Int)).toNat default).V)] (Aa y_1)/\BB (decide (y > y_1)) (LQ (Ac false) (Ac b)) (∃ (y:List Int),VC 72 [VV.agg (AT (m.Exprs.getD (list.getD (Int.toNat (0:Int)) (0:Int)).toNat default))] (Ad true y)/\(list.length+y.length)*8<=140737488355328/\(∀ (i:Nat),i<y.length->(AE y i).all VV.mem1=true)/\J (Aq [(0,tpM m),(1,Aa i),(2,Ad false list),(3,Aa run),(9,VV.ow 0 0 (↑m.Exprs.length:Int).toNat),(10,VV.ow 1 0 (list.length+y.length)),(11,Aa (IntKind.i64.wrap ((0:Int)+(1:Int))))] [Ob.arr true 0 (↑m.Exprs.length:Int).toNat 1 fun(j:Nat)=>bif j.beq (list.getD 0 0).toNat then[Ac true] else[Ac false],Ob.arr true 0 (list.length+y.length) 1 fun(i:Nat)=>bif i.blt list.length then AE list i else AE y (i - list.length)]))) (∃ (y:List Int),VC 72 [VV.agg (AT (m.Exprs.getD (list.getD (Int.toNat (0:Int)) (0:Int)).toNat default))] (Ad true y)/\(list.length+y.length)*8<=140737488355328/\(∀ (i:Nat),i<y.length->(AE y i).all VV.mem1=true)/\J (Aq [(0,tpM m),(1,Aa i),(2,Ad false list),(3,Aa run),(9,VV.ow 0 0 (↑m.Exprs.length:Int).toNat),(10,VV.ow 1 0 (list.length+y.length)),(11,Aa (IntKind.i64.wrap ((0:Int)+(1:Int))))] [Ob.arr true 0 (↑m.Exprs.length:Int).toNat 1 fun(j:Nat)=>bif j.beq (list.getD 0 0).toNat then[Ac true] else[Ac false],Ob.arr true 0 (list.length+y.length) 1 fun(i:Nat)=>bif i.blt list.length then AE list i else AE y (i - list.length)])))))):=by kernel_rfl
theorem Aaz (b:Bool)(m:D.Model)(i:Int)(list:List Int)(run:Int)(seen:List Bool)(todo:List Int)(k:Int)(J:St->Prop):((fc Bk J7 Tryz.f75 [] (Ac b)).pass [1] 0 J).goal (Pw m i list run seen todo k) =
  (BB (k==(↑todo.length:Int)) (LQ (Ac true) (Ac b)) (inX k todo.length/\inX (todo.getD k.toNat 0) seen.length/\BB (seen.getD (todo.getD k.toNat 0).toNat false) (J (Pw m i list run seen todo (IntKind.i64.wrap (k+(1:Int))))) (inX (todo.getD k.toNat 0) seen.length/\inX (todo.getD k.toNat 0) m.Exprs.length/\BB (bif bif (m.Exprs.getD (todo.getD k.toNat 0).toNat default).Op==39 then todo.getD k.toNat 0 != run else false then true else bif i==m.Claim then bif bif (m.Exprs.getD (todo.getD k.toNat 0).toNat default).Op==31 then true else(m.Exprs.getD (todo.getD k.toNat 0).toNat default).Op==39 then true else bif (m.Exprs.getD (todo.getD k.toNat 0).toNat default).Op==2 then(m.Exprs.getD (todo.getD k.toNat 0).toNat default).V.Scope==1 else false else false) (LQ (Ac false) (Ac b)) (BB ((m.Exprs.getD (todo.getD k.toNat 0).toNat default).Op==2) (∃ (y:Int),VC 116 [VV.agg (Ct (m.Exprs.getD (todo.getD k.toNat 0).toNat default).V)] (Aa y)/\∃ (y_1:Int),VC 117 [tpM m,Aa i,VV.agg (Ct (m.Exprs.getD (todo.getD k.toNat 0).toNat default).V)] (Aa y_1)/\BB (decide (y > y_1)) (LQ (Ac false) (Ac b)) (∃ (y:List Int),VC 72 [VV.agg (AT (m.Exprs.getD (todo.getD k.toNat 0).toNat default))] (Ad true y)/\(todo.length+y.length)*8<=140737488355328/\(∀ (i:Nat),i<y.length->(AE y i).all VV.mem1=true)/\J (Aq [(0,tpM m),(1,Aa i),(2,Ad false list),(3,Aa run),(9,VV.ow 0 0 seen.length),(10,VV.ow 1 0 (todo.length+y.length)),(11,Aa (IntKind.i64.wrap (k+(1:Int))))] [Ob.arr true 0 seen.length 1 fun(j:Nat)=>bif j.beq (todo.getD k.toNat 0).toNat then[Ac true] else[Ac (seen.getD j false)],Ob.arr true 0 (todo.length+y.length) 1 fun(i:Nat)=>bif i.blt todo.length then AE todo i else AE y (i - todo.length)]))) (∃ (y:List Int),VC 72 [VV.agg (AT (m.Exprs.getD (todo.getD k.toNat 0).toNat default))] (Ad true y)/\(todo.length+y.length)*8<=140737488355328/\(∀ (i:Nat),i<y.length->(AE y i).all VV.mem1=true)/\J (Aq [(0,tpM m),(1,Aa i),(2,Ad false list),(3,Aa run),(9,VV.ow 0 0 seen.length),(10,VV.ow 1 0 (todo.length+y.length)),(11,Aa (IntKind.i64.wrap (k+(1:Int))))] [Ob.arr true 0 seen.length 1 fun(j:Nat)=>bif j.beq (todo.getD k.toNat 0).toNat then[Ac true] else[Ac (seen.getD j false)],Ob.arr true 0 (todo.length+y.length) 1 fun(i:Nat)=>bif i.blt todo.length then AE todo i else AE y (i - todo.length)])))))):=by kernel_rfl
theorem AbB (b:Bool)(m:D.Model)(i:Int)(p:D.Proc)(k:Int)(J:St->Prop):((fc Bk Hi Tryz.f53 [] (Ac b)).loop [1,1,0,1,0] J).goal (Ma m i p k) =
  (BB (decide (k<(↑p.Locs.length:Int))) (inX k p.Locs.length/\∃ (y:List (List D.Trans)),VC 73 [VV.agg (AZ (p.Locs.getD k.toNat default))] (BZ true y)/\AB ((fc Bk Hi Tryz.f53 [] (Ac b)).loop [1,1,0,1,0] J) [1,1,0,0,1,1,0] (L9 m i p k y (0:Int))) (∃ (y:Bool),((true&&decide (p.Provided<0)==false)=true->VC 75 [tpM m,Aa i,VV.sl true 1 1 fun(i:Nat)=>List.take 1 (List.drop (i*1) [Aa p.Provided]),Aa (-1)] (Ac y))/\LQ (Ac (bif decide (p.Provided<0) then true else y)) (Ac b))):=by kernel_rfl
theorem AbA (b:Bool)(m:D.Model)(i:Int)(p:D.Proc)(k:Int)(ws:List (List D.Trans))(j:Int)(J J2:St->Prop):(((fc Bk Hi Tryz.f53 [] (Ac b)).loop [1,1,0,1,0] J).loop [1,1,0,0,1,1,0] J2).goal (L9 m i p k ws j) =
  (BB (decide (j<(↑ws.length:Int))) (inX j ws.length/\AB (((fc Bk Hi Tryz.f53 [] (Ac b)).loop [1,1,0,1,0] J).loop [1,1,0,0,1,1,0] J2) [1,1,0,0,1,1,0] (Ot m i p k ws j (ws.getD j.toNat []) (0:Int))) (J (Ma m i p (IntKind.i64.wrap (k+(1:Int)))))):=by kernel_rfl
theorem Abz (b:Bool)(m:D.Model)(i:Int)(p:D.Proc)(k:Int)(ws:List (List D.Trans))(j:Int)(w:List D.Trans)(h:Int)(J J2 J3:St->Prop):((((fc Bk Hi Tryz.f53 [] (Ac b)).loop [1,1,0,1,0] J).loop [1,1,0,0,1,1,0] J2).loop [1,1,0,0,1,1,0] J3).goal (Ot m i p k ws j w h) =
  (BB (decide (h<(↑w.length:Int))) (inX h w.length/\∃ (y:Bool),VC 74 [tpM m,Aa i,VV.agg (Ar (w.getD h.toNat default).S)] (Ac y)/\BB (!y) (LQ (Ac false) (Ac b)) (J3 (Ot m i p k ws j w (IntKind.i64.wrap (h+(1:Int)))))) (J2 (L9 m i p k ws (IntKind.i64.wrap (j+(1:Int)))))):=by kernel_rfl
theorem Un (r e:Int)(m:D.Model)(k:Int)(J:St->Prop):((fc Bk Dm Tryz.f49 [] (.tup [Aa r,Aa e])).loop [1,1,1,1,1,0,1,0] J).goal (SE m k) =
  (BB (decide (k<(↑m.Shapes.length:Int))) (inX k m.Shapes.length/\∃ (y:Bool),VC 70 [VV.agg (FE (m.Shapes.getD k.toNat default))] (Ac y)/\BB (!y) (LQ (VV.tup [Aa 2,Aa k]) (VV.tup [Aa r,Aa e])) (J (SE m (IntKind.i64.wrap (k+(1:Int)))))) (AB (fc Bk Dm Tryz.f49 [] (VV.tup [Aa r,Aa e])) [1,1,1,1,1,1,0,1,0] (SD m (0:Int)))):=by kernel_rfl
theorem Um (r e:Int)(m:D.Model)(k:Int)(J:St->Prop):((fc Bk Dm Tryz.f49 [] (.tup [Aa r,Aa e])).loop [1,1,1,1,1,1,0,1,0] J).goal (SD m k) =
  (BB (decide (k<(↑m.Chans.length:Int))) (inX k m.Chans.length/\BB (bif decide (m.Chans.getD k.toNat 0<0) then true else decide (m.Chans.getD k.toNat 0>=(↑m.Shapes.length:Int))) (LQ (VV.tup [Aa 2,Aa k]) (VV.tup [Aa r,Aa e])) (J (SD m (IntKind.i64.wrap (k+(1:Int)))))) (BB (bif bif bif bif decide ((↑m.Procs.length:Int)<1) then true else decide ((↑m.Procs.length:Int) > 16) then true else decide (m.Claim<(-1:Int)) then true else decide (m.Claim>=(↑m.Procs.length:Int)) then true else decide ((↑m.Exprs.length:Int) > 4096)) (LQ (VV.tup [Aa 3,Aa (-1)]) (VV.tup [Aa r,Aa e])) (((0:Int)<=(↑m.Exprs.length:Int)/\(↑m.Exprs.length:Int)<=(↑m.Exprs.length:Int)/\(↑m.Exprs.length:Int)*(↑1:Int)<=140737488355328)/\AB (fc Bk Dm Tryz.f49 [] (VV.tup [Aa r,Aa e])) [1,1,1,1,1,1,1,1,1,0,1,0] (Aq [(0,tpM m),(4,VV.bp 0 0),(10,VV.ow 1 0 (↑m.Exprs.length:Int).toNat),(116,Aa (↑m.Exprs.length:Int)),(117,Aa 0)] [Ob.box (Ae m),Ob.arr true 0 (↑m.Exprs.length:Int).toNat 1 fun(_:Nat)=>((fc Bk Dm Tryz.f49 [] (VV.tup [Aa r,Aa e])).T 4).zero])))):=by kernel_rfl
theorem Ul (r e:Int)(m:D.Model)(had:List Bool)(k:Int)(J:St->Prop):((fc Bk Dm Tryz.f49 [] (.tup [Aa r,Aa e])).loop [1,1,1,1,1,1,1,1,1,0,1,0] J).goal (WX m had k) =
  (BB (decide (k<(↑m.Exprs.length:Int))) (∃ (y:Bool),VC 71 [tpM m,Aa k] (Ac y)/\BB (!y) (LQ (VV.tup [Aa 3,Aa k]) (VV.tup [Aa r,Aa e])) (inX k m.Exprs.length/\∃ (y:List Int),VC 72 [VV.agg (AT (m.Exprs.getD k.toNat default))] (Ad true y)/\AB ((fc Bk Dm Tryz.f49 [] (VV.tup [Aa r,Aa e])).loop [1,1,1,1,1,1,1,1,1,0,1,0] J) [1,1,0,0,1,1,1,0] (WW m had k y (0:Int)))) (LQ (VV.tup [Aa 0,Aa 0]) (VV.tup [Aa r,Aa e]))):=by kernel_rfl
theorem Uk (r e:Int)(m:D.Model)(had:List Bool)(k:Int)(l:List Int)(j:Int)(J J2:St->Prop):(((fc Bk Dm Tryz.f49 [] (.tup [Aa r,Aa e])).loop [1,1,1,1,1,1,1,1,1,0,1,0] J).loop [1,1,0,0,1,1,1,0] J2).goal (WW m had k l j) =
  (BB (decide (j<(↑l.length:Int))) (inX j l.length/\inX (l.getD j.toNat 0) had.length/\BB (had.getD (l.getD j.toNat 0).toNat false) (LQ (VV.tup [Aa 3,Aa k]) (VV.tup [Aa r,Aa e])) (inX (l.getD j.toNat 0) had.length/\J2 (Aq [(0,tpM m),(4,VV.bp 0 0),(10,VV.ow 1 0 had.length),(11,Aa k),(116,Aa (↑m.Exprs.length:Int)),(117,Aa k),(130,Ad true l),(131,Aa (↑l.length:Int)),(132,Aa (IntKind.i64.wrap (j+(1:Int))))] [Ob.box (Ae m),Ob.arr true 0 had.length 1 fun(j_1:Nat)=>bif j_1.beq (l.getD j.toNat 0).toNat then[Ac true] else[Ac (had.getD j_1 false)]]))) (J (WX m had (IntKind.i64.wrap (k+(1:Int)))))):=by kernel_rfl
theorem Acb (r:List Int)(x:D.Expr)(l:List Int)(k:Int)(J:St->Prop):((fc Bk Hj Tryz.f72 [] (Ad true r)).loop [1,1,1,0,1,0,1,1,0] J).goal (WZ x l k) =
  (BB (decide (k<(↑x.V.Dims.length:Int))) (inX k x.V.Dims.length/\(l.length+1)*8<=140737488355328/\J (Aq [(3,VV.ow 0 0 (l.length+1)),(45,Df true x.V.Dims),(46,Aa (↑x.V.Dims.length:Int)),(47,Aa (IntKind.i64.wrap (k+(1:Int))))] [Ob.arr true 0 (l.length+1) 1 fun(i:Nat)=>bif i.blt l.length then[Aa (l.getD i 0)] else(fun(i:Nat)=>List.take 1 (List.drop (i*1) [Aa (x.V.Dims.getD k.toNat default).I])) (i - l.length)])) (LQ (Ad true l) (Ad true r))):=by kernel_rfl
theorem Yj (r e f:Int)(m:D.Model)(many k:Int)(J:St->Prop):((fc Bk Iz Tryz.f36 [] (.tup [Aa r,Aa e,Aa f])).loop [1,1,1,1,0,1,0] J).goal (Mf m many k) =
  (BB (decide (k<(↑m.Procs.length:Int))) (inX k m.Procs.length/\∃ (y:Bool),VC 50 [VV.agg (Bf (m.Procs.getD k.toNat default))] (Ac y)/\∃ (y_1:Bool),((true&&(!y)==false)=true->VC 51 [VV.agg (Bf (m.Procs.getD k.toNat default))] (Ac y_1))/\∃ (y_2:Bool),((true&&(bif bif bif !y then true else !y_1 then true else decide ((m.Procs.getD k.toNat default).Provided<(-1:Int)) then true else decide ((m.Procs.getD k.toNat default).Provided>=(↑m.Exprs.length:Int)))==false&&(k==m.Claim)==true)=true->VC 52 [VV.agg (Bf (m.Procs.getD k.toNat default))] (Ac y_2))/\BB (bif bif bif bif !y then true else !y_1 then true else decide ((m.Procs.getD k.toNat default).Provided<(-1:Int)) then true else decide ((m.Procs.getD k.toNat default).Provided>=(↑m.Exprs.length:Int)) then true else bif k==m.Claim then !y_2 else false) (LQ (VV.tup [Aa 40,Aa 4,Aa k]) (VV.tup [Aa r,Aa e,Aa f])) (J (Mf m (IntKind.i64.wrap (many+(m.Procs.getD k.toNat default).Active)) (IntKind.i64.wrap (k+(1:Int)))))) (BB (decide (many > 16)) (LQ (VV.tup [Aa 40,Aa 5,Aa (-1)]) (VV.tup [Aa r,Aa e,Aa f])) (AB (fc Bk Iz Tryz.f36 [] (VV.tup [Aa r,Aa e,Aa f])) [1,1,1,1,1,1,0,1,0] (Me m (0:Int))))):=by kernel_rfl
theorem Yi (r e f:Int)(m:D.Model)(k:Int)(J:St->Prop):((fc Bk Iz Tryz.f36 [] (.tup [Aa r,Aa e,Aa f])).loop [1,1,1,1,1,1,0,1,0] J).goal (Me m k) =
  (BB (decide (k<(↑m.Procs.length:Int))) (∃ (y:Bool),VC 53 [tpM m,Aa k] (Ac y)/\BB (!y) (LQ (VV.tup [Aa 40,Aa 6,Aa k]) (VV.tup [Aa r,Aa e,Aa f])) (J (Me m (IntKind.i64.wrap (k+(1:Int)))))) (LQ (VV.tup [Aa 0,Aa 0,Aa 0]) (VV.tup [Aa r,Aa e,Aa f]))):=by kernel_rfl
end Go.Proofs.YtmdcknlpalfhhaaGreatDoor
