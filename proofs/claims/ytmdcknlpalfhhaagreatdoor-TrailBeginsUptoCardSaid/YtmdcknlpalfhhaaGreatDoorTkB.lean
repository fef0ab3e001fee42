/-
  Texts, joined: VjB, Enc, EncGood, GoodP, GdQ, VjIdx, VjTab, GdS, GdA, GdH, GdL.
-/
import Derived.Test.YtmdcknlpalfhhaaGreatDoorTkA
import Derived.Laws.BytesString
import Derived.ScopeJumps
import Derived.RangeFuncRecord
import Derived.IntWalk
import Derived.Test.YtmdcknlpalfhhaaGreatDoorProg
import Derived.KernelRfl
namespace Go.Proofs.YtmdcknlpalfhhaaGreatDoor
open Go.RowKit
section
structure Sk (nb:Bool) (ri:Nat->Option Nat) (rg:Nat->Nat->Option Nat) (E1:AF) (φ1:Phi) (E2:AF) (φ2:Phi):Prop where
 fz:∀ k,E2.fz k->E1.fz k
 br:nb=false->∀ k,E2.br k->E1.br k
 bx:∀ id i b,ri id=some i->φ1 id=some (.box b)->φ2 i=some (.box b)
 ar:∀ id i gen g c len hd,ri id=some i->rg id gen=some g->φ1 id=some (.arr c len hd)->gen<=c->∃ c2,φ2 i=some (.arr c2 len hd)/\g<=c2/\(g=c2->gen=c)
def Ff (og:Nat->Nat):Pl->Pl
 | .box b=>.box b
 | .arr c n hd=>.arr (og c) n hd
theorem OD {og:Nat->Nat}{p:Pl}{k:Nat}:PlB (Ff og p) k ↔ PlB p k:=by cases p<;>exact Iff.rfl
section
variable {w : World} {nb:Bool} {ri:Nat->Option Nat} {rg:Nat->Nat->Option Nat} {og:Nat->Nat} {E1 E2:AF} {φ1 φ2:Phi}
theorem EV (h:Sk nb ri rg E1 φ1 E2 φ2):∀ (k:Nat) (x:VV) (v:Value),V w E1 (some φ1) x v->V w E2 (some φ2) (Mf nb ri rg k x) v
 | 0,_,_,_=>.dead
 | k+1,x,v,hv=>by
  have memc:∀ {x:VV},V w E1 (some φ1) x v->x.mem=true->V w E2 (some φ2) x v:=fun hv hm =>
   (hv.mem (E':=⟨E1.fz,E2.br,0,[]⟩) (m':=some φ2) hm rfl).less h.fz fun _ h=>h
  have rec':∀ (cs:List VV) (vs:Array Value),vs.size=cs.length->(∀ (j:Nat) x,cs[j]?=some x->V w E1 (some φ1) x (vs.getD j undef)) ->
    vs.size=(cs.map (Mf nb ri rg k)).length/\∀ (j:Nat) x,(cs.map (Mf nb ri rg k))[j]?=some x->V w E2 (some φ2) x (vs.getD j undef):=by
   intro cs vs h1 h2
   refine⟨by simp[h1],fun j x hx=>?_⟩
   rw[Alv]at hx
   obtain⟨y,hy,rfl⟩:=Alj.1 hx
   exact EV h k y _ (h2 j y hy)
  cases x with
  | dead=>exact .dead
  | sc u=>exact memc hv rfl
  | nl=>exact memc hv rfl
  | er b=>exact memc hv rfl
  | sl fz n sz f =>
   cases fz with
   | true=>exact memc hv rfl
   | false =>
    cases nb with
    | true=>exact .dead
    | false=>exact(hv.lies (m':=some φ2) rfl).less h.fz (h.br rfl)
  | tp cs =>
   cases nb with
   | true=>exact .dead
   | false =>
    obtain⟨b,off,rfl,h1,h2,u,h3,h4⟩:=hv.tp_inv
    exact .tp u h1 (fun e=>h2 (h.br rfl _ e)) h3 fun j x hx=>(h4 j x hx).less h.fz (h.br rfl)
  | bp id off =>
   obtain⟨b,hb,rfl⟩:=hv.bp_inv
   simp only[Mf]
   cases hq:ri id with
   | none=>exact .dead
   | some i=>exact .bp (h.bx id i b hq hb)
  | ow id gen n =>
   obtain⟨c,len,hd,hd0,hph,hg,h0,hcur⟩:=hv.ow_inv
   simp only[Mf]
   cases hq:ri id with
   | none=>exact .dead
   | some i =>
    cases hq2:rg id gen with
    | none=>exact .dead
    | some g =>
     obtain⟨c2,a1,a2,a3⟩:=h.ar id i gen g c len hd hq hq2 hph hg
     exact .ow a1 a2 h0 fun e=>hcur (a3 e)
  | ep id gen sz r o =>
   obtain⟨c,len,hd,b,hph,hg,rfl,hcur⟩:=hv.ep_inv
   simp only[Mf]
   cases hq:ri id with
   | none=>exact .dead
   | some i =>
    cases hq2:rg id gen with
    | none=>exact .dead
    | some g =>
     obtain⟨c2,a1,a2,a3⟩:=h.ar id i gen g c len hd hq hq2 hph hg
     exact .ep a1 a2 fun e=>hcur (a3 e)
  | agg cs =>
   obtain⟨vs,rfl,h1,h2⟩:=hv.agg_inv
   obtain⟨g1,g2⟩:=rec' cs vs h1 h2
   exact .agg g1 g2
  | tup cs =>
   cases hv with | tup h1 h2 =>
   obtain⟨g1,g2⟩:=rec' cs _ h1 h2
   exact .tup g1 g2
  | fn g cs =>
   cases hv with | fn h1 h2 =>
   obtain⟨g1,g2⟩:=rec' cs _ h1 h2
   exact .fn g1 g2
theorem Me (h:Sk nb ri rg (E1.up φ1) φ1 (E2.up φ2) φ2){o:Ob}{p:Pl}(ho:ObV w E1 φ1 o p):ObV w E2 φ2 (UM nb ri rg og o) (Ff og p):=by
 cases o with
 | box cs =>
  cases p with
  | arr=>exact ho.elim
  | box b =>
   obtain⟨c,ty,h1,h2⟩:=ho
   refine⟨c,ty,h1,by simp[h2.1],fun j x hx=>?_⟩
   rw[Alv]at hx
   obtain⟨y,hy,rfl⟩:=Alj.1 hx
   exact EV h _ y _ (h2.2 j y hy)
 | gone g =>
  cases p with
  | box b=>exact ho.elim
  | arr c n hd=>obtain⟨rfl,rfl⟩:=ho;exact⟨rfl,rfl⟩
 | arr fr g n sz f =>
  cases p with
  | box b=>exact ho.elim
  | arr c n' hd =>
   obtain⟨rfl,rfl,hrow⟩:=ho
   have key:∀ (f':Nat->List VV),(∀ i,i<n->(f' i).length=(f i).length)->(∀ (i j:Nat) (x:VV),i<n->(f' i)[j]?=some x->∀ u,(∀ y,(f i)[j]?=some y->Iw w E1 φ1 fr y u)->Iw w E2 φ2 fr x u)->KN w E2 φ2 fr n sz f' hd:=by
    intro f' hl hc
    match hd,hrow with
    | none,hrow=>exact hrow
    | some (b,cap),hrow =>
     obtain⟨cs,ty,h1,h2,h3,h4,h5,h6,h7⟩:=hrow
     exact⟨cs,ty,h1,h2,h3,h4,fun i hi=>(hl i hi).trans (h5 i hi),fun i j x hi hx=>hc i j x hi hx _ fun y hy=>h6 i j y hi hy,h7⟩
   cases fr with
   | true=>exact⟨rfl,rfl,key f (fun _ _=>rfl) fun i j x _ hx u hu=>V.less (hu x hx) h.fz fun _ h=>h⟩
   | false =>
    refine⟨rfl,rfl,key _ (fun i hi=>by simp[AeF,hi]) fun i j x hi hx u hu=>?_⟩
    simp only[AeF,Alf,Alv,List.getElem?_range hi,AmG,Amm]at hx
    obtain⟨y,hy,rfl⟩:=Alj.1 hx
    exact EV h _ y _ (hu y hy)
end
theorem DR : ∀ {ids:List Nat} {id j:Nat},idx ids id=some j->ids[j]?=some id
 | [],_,_,h=>by cases h
 | i::is,id,j,h=>by
  simp only[idx]at h
  cases hq:Nat.beq i id with
  | true =>
   rw[hq]at h
   simp only[Ak4,Ak1]at h
   subst h
   rw[Ak7 hq];rfl
  | false =>
   rw[hq]at h
   simp only[Ak0,Alj]at h
   obtain⟨j',hj,rfl⟩:=h
   have:=DR hj
   simpa using this
theorem FV {nx:Nat}:∀ {ids:List Nat},Et nx ids=true->∀ (j:Nat) id,ids[j]?=some id->id<nx
 | [],_,j,id,h=>by simp at h
 | i::is,hk,j,id,h=>by
  simp only[Et,Ak2]at hk
  match j,h with
  | 0,h=>simp only[Ala,Ak1]at h;subst h;exact Alm hk.1.1
  | j+1,h=>exact FV hk.2 j id h
theorem Lp {nx:Nat}:∀ {ids:List Nat},Et nx ids=true->∀ (j:Nat) id,ids[j]?=some id->idx ids id=some j
 | [],_,j,id,h=>by simp at h
 | i::is,hk,j,id,h=>by
  simp only[Et,Ak2]at hk
  match j,h with
  | 0,h=>simp only[Ala,Ak1]at h;subst h;simp[idx]
  | j+1,h =>
   have h':is[j]?=some id:=h
   have hne:i≠id:=by
    rintro rfl
    have:=JD hk.1.2
    rw[ZG.2 (AlG h')]at this
    cases this
   simp only[idx,B5 hne,Ak0,Lp hk.2 j id h',AmG]
theorem Qg {ids:List Nat}{id:Nat}(h:idx ids id=none):∀ j:Nat,ids[j]?≠some id:=by
 intro j hj
 induction ids generalizing j with
 | nil=>simp at hj
 | cons i is ih =>
  simp only[idx]at h
  cases hq:Nat.beq i id with
  | true=>rw[hq]at h;cases h
  | false =>
   rw[hq]at h
   simp only[Ak0,Option.map_eq_none_iff]at h
   match j,hj with
   | 0,hj=>simp only[Ala,Ak1]at hj;subst hj;simp at hq
   | j+1,hj=>exact ih h j hj
def GA (ids:List Nat)(φ:Phi)(k:Nat):Prop:=∃ id,idx ids id=none/\Blk φ id k
def CO (ids:List Nat)(φ:Phi):Phi:=fun j=>(ids[j]?).bind fun id=>(φ id).map (Ff fun _=>0)
section
variable {w : World} {E E':AF} {φ:Phi} {st:St} {ids:List Nat} {Hc:Nat->Ob}
theorem IN {j:Nat}{p:Pl}(h:CO ids φ j=some p):∃ id q,ids[j]?=some id/\φ id=some q/\p=Ff (fun _=>0) q:=by
 unfold CO at h
 cases hq:ids[j]? with
 | none=>rw[hq]at h;cases h
 | some id =>
  rw[hq]at h
  simp only[Amt,Alj]at h
  obtain⟨q,hq,rfl⟩:=h
  exact⟨id,q,rfl,hq,rfl⟩
theorem GV {j id:Nat}(h:ids[j]?=some id):CO ids φ j=(φ id).map (Ff fun _=>0):=by unfold CO;rw[h];rfl
theorem Kx {j k:Nat}:Blk (CO ids φ) j k ↔ ∃ id,ids[j]?=some id/\Blk φ id k:=by
 constructor
 ·intro h
  obtain⟨p,hp,hb⟩:=AI.1 h
  obtain⟨id,q,h1,h2,rfl⟩:=IN hp
  exact⟨id,h1,AI.2 ⟨q,h2,OD.1 hb⟩⟩
 ·rintro⟨id,h1,h2⟩
  obtain⟨q,hq,hb⟩:=AI.1 h2
  exact AI.2 ⟨Ff (fun _=>0) q,by rw[GV h1,hq];rfl,OD.2 hb⟩
theorem FA {k:Nat}:Own (CO ids φ) k ↔ ∃ (j:Nat) (id:Nat),ids[j]?=some id/\Blk φ id k :=
 ⟨fun⟨j,h⟩=>let ⟨id,h1,h2⟩:=Kx.1 h;⟨j,id,h1,h2⟩,fun⟨j,id,h1,h2⟩=>⟨j,Kx.2 ⟨id,h1,h2⟩⟩⟩
theorem DO {k:Nat}:Own φ k ↔ GA ids φ k∨Own (CO ids φ) k:=by
 rw[FA]
 constructor
 ·rintro⟨id,h⟩
  cases hq:idx ids id with
  | none=>exact .inl ⟨id,hq,h⟩
  | some j=>exact .inr ⟨j,id,DR hq,h⟩
 ·rintro(⟨id,_,h⟩ | ⟨j,id,_,h⟩)
  ·exact⟨id,h⟩
  ·exact⟨id,h⟩
theorem HRel.gen (h:HRel E Hc φ w){id c len:Nat}{hd:Option (Nat × Nat)}(e:φ id=some (.arr c len hd)):(Hc id).gen=c:=by
 have:=h.ob id _ e
 cases hq:Hc id with
 | box cs=>rw[hq]at this;exact this.elim
 | arr fr g n sz f=>rw[hq]at this;exact this.1
 | gone g=>rw[hq]at this;exact this.1
theorem Fz (h:HRel E st.H φ w)(h1:∀ k,E'.fz k->E.fz k∨GA ids φ k)(h2:∀ k,E'.br k->E.br k∨GA ids φ k) :
  Sk false (idx ids) (ZO st) (E.up φ) φ (E'.up (CO ids φ)) (CO ids φ):=by
 refine⟨?_,fun _=>?_,fun id i b hi hb=>?_,fun id i gen g c len hd hi hg hph hgc=>?_⟩
 ·rintro k (hk1 | hk1)
  ·exact(h1 k hk1).imp (fun h=>h) fun h=>DO.2 (.inl h)
  ·exact .inr (DO.2 (.inr hk1))
 ·rintro k (hk1 | hk1)
  ·exact(h2 k hk1).imp (fun h=>h) fun h=>DO.2 (.inl h)
  ·exact .inr (DO.2 (.inr hk1))
 ·rw[GV (DR hi),hb];rfl
 ·have hgen:=h.gen hph
  unfold ZO at hg
  rw[hgen]at hg
  cases hq:Nat.beq gen c with
  | false=>rw[hq]at hg;cases hg
  | true =>
   rw[hq]at hg
   simp only[Ak4,Ak1]at hg
   subst hg
   exact⟨0,by rw[GV (DR hi),hph];rfl,Ak6 _,fun _=>Ak7 hq⟩
theorem HRel.lend (h:HRel E st.H φ w)(hk:Et st.nx ids=true)(h1:∀ k,E'.fz k->E.fz k∨GA ids φ k)(h2:∀ k,E'.br k->E.br k∨GA ids φ k)(h3:∀ k,E'.br k->E'.fz k){H':Nat->Ob}(hH:∀ (j id:Nat),ids[j]?=some id->H' j=D7 st ids id) :
  HRel E' H' (CO ids φ) w:=by
 refine⟨h3,fun j p e=>?_,fun i j k hi hj=>?_,fun k hk1 hf=>?_⟩
 ·obtain⟨id,q,e1,e2,rfl⟩:=IN e
  rw[hH j id e1]
  exact Me (Fz h h1 h2) (h.ob id q e2)
 ·obtain⟨a,ha1,ha2⟩:=Kx.1 hi
  obtain⟨b,hb1,hb2⟩:=Kx.1 hj
  obtain rfl:=h.inj a b k ha2 hb2
  have e1:=Lp hk i a ha1
  have e2:=Lp hk j a hb1
  rw[e1]at e2
  simpa using e2
 ·obtain⟨j,id,e1,e2⟩:=FA.1 hk1
  rcases h1 k hf with hf | ⟨id',e3,e4⟩
  ·exact h.free k ⟨id,e2⟩ hf
  ·obtain rfl:=h.inj id id' k e2 e4
   exact Qg e3 j e1
end
end
section
def PlK : Pl->Pl->Prop
 | .box b,q=>q=.box b
 | .arr _ _ _,q=>∃ c n hd,q=.arr c n hd
theorem PlK.refl (p:Pl):PlK p p:=by cases p with
 | box b=>rfl
 | arr c n hd=>exact⟨c,n,hd,rfl⟩
theorem PlK.trans {p q r:Pl}(h:PlK p q)(k:PlK q r):PlK p r:=by
 cases p with
 | box b=>simp only[PlK]at h;subst h;exact k
 | arr c n hd=>obtain⟨_,_,_,rfl⟩:=h;exact k
theorem Iv.kind {p q:Pl}(h:Iv p q):PlK p q:=by
 cases p with
 | box b=>exact h
 | arr c n hd=>obtain⟨c',n',hd',e,_⟩:=h;exact⟨c',n',hd',e⟩
structure Fr (b:Nat) (w:World) (φ:Phi) (w':World) (φ':Phi):Prop where
 os:w'.os=w.os
 tape:w'.tape=w.tape
 output:w'.output=w.output
 size:w.heap.size<=w'.heap.size
 block:∀ k,k<w.heap.size->¬ Own φ k->w'.heap[k]?=w.heap[k]?
 new:∀ k,Own φ' k->Own φ k∨w.heap.size<=k
 kind:∀ id p,id<b->φ id=some p->∃ p',φ' id=some p'/\PlK p p'
theorem Fr.refl (b:Nat)(w:World)(φ:Phi):Fr b w φ w φ:=⟨rfl,rfl,rfl,Ak6 _,fun _ _ _=>rfl,fun _ h=>.inl h,fun _ p _ h=>⟨p,h,PlK.refl p⟩⟩
theorem AmB {b:Nat}{w w':World}{φ φ':Phi}(h:Ext w φ w' φ'):Fr b w φ w' φ' :=
 ⟨h.os,h.tape,h.output,h.size,h.block,h.new,fun id p _ e=>let ⟨p',e',hp⟩:=h.up id p e;⟨p',e',hp.kind⟩⟩
theorem Fr.trans {b:Nat}{w w' w'':World}{φ φ' φ'':Phi}(h:Fr b w φ w' φ')(k:Fr b w' φ' w'' φ''):Fr b w φ w'' φ'' where
 os:=k.os.trans h.os
 tape:=k.tape.trans h.tape
 output:=k.output.trans h.output
 size:=Als h.size k.size
 block:=fun b hb hn=>(k.block b (Alr hb h.size) fun e=>by
  rcases h.new b e with e | e
  ·exact hn e
  ·omega).trans (h.block b hb hn)
 new:=fun b e=>by
  rcases k.new b e with e | e
  ·exact h.new b e
  ·exact .inr (Als h.size e)
 kind:=fun id p hb e=>by
  obtain⟨q,e1,h1⟩:=h.kind id p hb e
  obtain⟨r,e2,h2⟩:=k.kind id q hb e1
  exact⟨r,e2,h1.trans h2⟩
def Hd (P:Program)(f:FuncId):Prop:=∃ fn,P.funcs[f]?=some fn/\fn.body.isNone=false/\(fn.name == "runtime.NumGoroutine")=false
def Bm (hs:List Ob):Nat->Ob:=fun id=>hs.getD id (.gone 0)
structure Ai (P:Program) (f:FuncId) (hs:List Ob) (xs:List VV) (hs':List Ob) (r:VV):Prop where
 callable:Hd P f
 call:∀ (w:World) (E:AF) (φ:Phi) (vs:Array Value),Old E φ w->HRel E (Bm hs) φ w->(∀ id,φ id≠none ↔ id<hs.length)->CS w (E.up φ) (some φ) xs vs ->
  Calls P f vs w fun e w'=>∃ v φ',e=.returned v/\HRel E (Bm hs') φ' w'/\Fr hs.length w φ w' φ'/\(∀ id,φ' id≠none ↔ id<hs'.length)/\V w' (E.up φ') (some φ') r v
def Jd (P:Program)(O:Orc):Prop:=∀ f hs xs,(∀ p∈(O.run f hs xs).2,p)->Ai P f hs xs (O.run f hs xs).1.1 (O.run f hs xs).1.2
theorem QB {nb:Bool}{st:St}{ids:List Nat}:∀ {os:List Ob} {j0 j:Nat},(G6 nb st ids j0 os)[j]?=(os[j]?).map (TG nb st ids (j0+j))
 | [],_,_=>by simp[G6]
 | o::os,j0,0=>by simp[G6]
 | o::os,j0,j+1=>by
  simp only[G6,AlN]
  rw[QB,show j0+1+j=j0+(j+1) by omega]
theorem KJ {nb:Bool}{st:St}{ids:List Nat}:∀ {os:List Ob} {j0:Nat},(G6 nb st ids j0 os).length=os.length
 | [],_=>rfl
 | o::os,j0=>by simp[G6,KJ]
def Df (P:Program)(E:AF)(φ:Phi)(nx:Nat)(obs:List Ob)(x:VV)(o:Oper)(a:Act)(w:World):Prop :=
 ∀ (K:Act->World->Prop) (Q:Exit->Act->World->Prop),(∀ v w' pls,Ee w E φ nx obs pls w'->V w' (E.up (addP φ nx pls)) (some (addP φ nx pls)) x v->K (a.put o.dst v) w')->o.wp P a w K Q
theorem Df.of {P:Program}{E:AF}{φ:Phi}{nx:Nat}{obs:List Ob}{x:VV}{a:Act}{w:World}{o:Oper}{S:Sem Value}(he:execOp a.eval o=(do pure (.value (← S)):Sem Next))
  (h:∃ v w' pls,S.run P w=.ok v w'/\Ee w E φ nx obs pls w'/\V w' (E.up (addP φ nx pls)) (some (addP φ nx pls)) x v):Df P E φ nx obs x o a w:=by
 obtain⟨v,w',pls,hr,h1,h2⟩:=h
 intro K Q hK
 unfold Oper.wp
 rw[he,Sem.run_bind,hr]
 exact hK v w' pls h1 h2
theorem Al9 {P:Program}{E:AF}{φ:Phi}{nx:Nat}{x:VV}{a:Act}{w:World}{o:Oper}{S:Sem Value}(he:execOp a.eval o=(do pure (.value (← S)):Sem Next))
  (h:∃ v,S.run P w=.ok v w/\V w (E.up φ) (some φ) x v):Df P E φ nx [] x o a w:=by
 obtain⟨v,hr,h2⟩:=h
 exact Df.of he ⟨v,w,[],hr,Ee.none (Below.refl _ _),by rw[F6];exact h2⟩
section
variable {P : Program} {T:TypeId->TE} {O:Orc} {w:World} {E:AF} {φ:Phi} {st:St} {Hc:Nat->Ob} {a:Act}
theorem YO {o:Oper}{c:Call}{f:Operand}{g:FuncId}{vs:Array Value}(ho:o.op=.call c)(hf:c.callee=.value f)(hv:a.eval f=.func (.func g) #[] vs)(hc:Hd P g)
  {K:Act->World->Prop} {Q:Exit->Act->World->Prop} {R:Ending->World->Prop} (hcall:Calls P g (c.args.map a.eval++vs) w R) (hK:∀ e w',R e w'->∃ v,e=.returned v/\K (a.put o.dst v) w'):o.wp P a w K Q:=by
 obtain⟨fn,hfn,hb,hnm⟩:=hc
 have hrun:(execOp a.eval o).run P w=.ok (.enter g (c.args.map a.eval++vs)) w:=by
  unfold execOp
  rw[ho]
  simp only[resolve,hf,hv,Deferred.ofValue,Sem.run_bind,Sem.run_pure,Result.andThen_ok,invoke,callFunc,run_program,hfn,hnm,hb,AmI,if_false,Array.empty_append]
 unfold Oper.wp
 rw[hrun,Oper.upon_enter]
 refine hcall.mono ?_
 intro e w' h
 obtain⟨v,rfl,hk⟩:=hK e w' h
 exact hk
theorem AhS {c:Call}{caps:List VV}{vs:Array Value}{R:VV->Value->Prop}(h2:∀ y∈c.args.toList,R (st.val y) (a.eval y))(e1:vs.size=caps.length)(e2:∀ (j:Nat) x,caps[j]?=some x->R x (vs.getD j undef)) :
  (c.args.map a.eval++vs).size=(c.args.toList.map st.val++caps).length/\∀ (j:Nat) x,(c.args.toList.map st.val++caps)[j]?=some x->R x ((c.args.map a.eval++vs).getD j undef):=by
 refine⟨by simp[e1],fun j x hx=>?_⟩
 by_cases hj:j<c.args.size
 ·rw[Ale (by simpa using hj)]at hx
  rw[Alv]at hx
  obtain⟨z,hz,rfl⟩:=Alj.1 hx
  have:=h2 z (AlG hz)
  have hz':c.args[j]=z:=by have:=(Ak3.1 hz).2;simpa using this
  have e:(c.args.map a.eval++vs).getD j undef=a.eval z:=by
   simp[Array.getD,hj,hz',show j<c.args.size+vs.size by omega]
  rw[e];exact this
 ·rw[All (by simp;omega)]at hx
  have:=e2 _ x hx
  have hjl:=(Ak3.1 hx).1
  simp at hjl this
  have e:(c.args.map a.eval++vs).getD j undef=vs[j - c.args.size]'(by omega):=by
   simp[Array.getD,Array.getElem_append,hj,show j<c.args.size+vs.size by omega]
  rw[e]
  rw[Al6 (by omega)]at this
  exact this
theorem Ab9 {ids:List Nat}{j g c:Nat}(h:g<=c):Ig st ids j g<=Ig st ids j c/\(Ig st ids j g=Ig st ids j c->g=c):=by
 unfold Ig
 cases ids[j]? with
 | some id=>exact⟨by show(st.H id).gen+1+g<=(st.H id).gen+1+c;omega,fun e=>by have e':(st.H id).gen+1+g=(st.H id).gen+1+c:=e;omega⟩
 | none=>exact⟨h,fun e=>e⟩
theorem AeK {og:Nat->Nat}(h:∀ g,og g=g)(p:Pl):Ff og p=p:=by cases p<;>simp[Ff,h]
theorem Adl {w':World}{φ2:Phi}{os:List Ob}{r:VV}{v:Value}{nx:Nat}(hnx:nx=st.nx)(hid:∀ i,i<os.length->φ (nx+i)=none)
  (h1:HRel (E.up φ).lend (Bm os) φ2 w') (h2:Fr 0 w (fun _=>none) w' φ2) (h3:∀ id,φ2 id≠none ↔ id<os.length) (h4:V w' ((E.up φ).lend.up φ2) (some φ2) r v) :
  ∃ pls,Ee w E φ nx (G6 true st [] 0 os) pls w'/\V w' (E.up (addP φ nx pls)) (some (addP φ nx pls)) (Z5 true st [] r) v:=by
 subst hnx
 let pls:List Pl:=(List.range os.length).map fun j=>(φ2 j).getD (.box 0)
 have hpls:∀ (j:Nat) p,pls[j]?=some p ↔ φ2 j=some p:=by
  intro j p
  show((List.range os.length).map fun j=>(φ2 j).getD (.box 0))[j]?=some p ↔ _
  rw[Alv]
  by_cases hj:j<os.length
  ·obtain⟨q,hq⟩:=AmM.1 ((h3 j).2 hj)
   simp[hj,hq]
  ·have:φ2 j=none:=Alt fun h=>hj ((h3 j).1 h)
   simp[hj,this]
 have hlen:pls.length=os.length:=by simp[pls]
 have hnone:∀ k,¬ Own (fun _=>none:Phi) k:=by
  rintro k ⟨id,hb⟩
  obtain⟨p,hp,_⟩:=AI.1 hb
  cases hp
 have hroom:Room w pls w':=by
  refine⟨⟨h2.os,h2.tape,h2.output,h2.size,fun k hk=>h2.block k hk (hnone k)⟩,fun i p k hi hb=>?_,fun i j p q k hi hj hpb hqb=>?_⟩
  ·exact(h2.new k ⟨i,AI.2 ⟨p,(hpls i p).1 hi,hb⟩⟩).resolve_left (hnone k)
  ·exact h1.inj i j k (AI.2 ⟨p,(hpls i p).1 hi,hpb⟩) (AI.2 ⟨q,(hpls j q).1 hj,hqb⟩)
 have hid':∀ i,i<pls.length->φ (st.nx+i)=none:=fun i hi=>hid i (by rw[← hlen];exact hi)
 have hrel:Sk true (fun j=>some (Gp st [] j)) (fun j g=>some (Ig st [] j g)) ((E.up φ).lend.up φ2) φ2 (E.up (addP φ st.nx pls)) (addP φ st.nx pls):=by
  have hout:∀ j,Gp st [] j=st.nx+j:=fun j=>by simp[Gp]
  refine⟨?_,fun e=>Bool.noConfusion e,fun id i b hi hb=>?_,fun id i gen g c len hd hi hg hph hgc=>?_⟩
  ·rintro k (hk | hk)
   ·exact .inl (.inl hk)
   ·rcases(hroom.own hid').1 hk with hk | ⟨i,p,hi,hb⟩
    ·exact .inl (.inr hk)
    ·exact .inr ⟨i,AI.2 ⟨p,(hpls i p).1 hi,hb⟩⟩
  ·simp only[Ak1]at hi
   rw[← hi,hout]
   exact DJ ((hpls id _).2 hb)
  ·simp only[Ak1]at hi hg
   rw[← hi,hout]
   have hg':g=gen:=by rw[← hg];rfl
   subst hg'
   exact⟨c,DJ ((hpls id _).2 hph),hgc,fun e=>e⟩
 refine⟨pls,⟨hroom,by rw[hlen,KJ],fun i o p hi hp=>?_⟩,EV hrel _ _ _ h4⟩
 rw[QB]at hi
 obtain⟨o',ho',rfl⟩:=Alj.1 hi
 have hob:=h1.ob i p ((hpls i p).1 hp)
 have hoo:Bm os i=o':=by simp[Bm,ho']
 rw[hoo]at hob
 have:=Me (og:=Ig st [] (0+i)) hrel hob
 rw[AeK (og:=Ig st [] (0+i)) fun g=>rfl]at this
 exact this
end
end
section
section
variable {P : Program} {T:TypeId->TE} {O:Orc} {w:World} {E:AF} {φ:Phi} {st:St} {Hc:Nat->Ob} {a:Act} {ids:List Nat}
def NX (E:AF)(ids:List Nat)(φ:Phi):AF:=⟨fun k=>E.fz k∨GA ids φ k,fun k=>E.br k∨GA ids φ k,0,[]⟩
def F3 (st:St)(ids:List Nat)(n:Nat)(φ φ2:Phi):Phi:=fun k =>
 match idx ids k with
 | some j=>(φ2 j).map (Ff (Ig st ids j))
 | none=>if st.nx<=k/\k<st.nx+(n - ids.length) then(φ2 (k - st.nx+ids.length)).map (Ff (Ig st ids (k - st.nx+ids.length))) else φ k
theorem Mn {j id:Nat}(h:ids[j]?=some id):Gp st ids j=id:=by unfold Gp;rw[h]
theorem P1 {j:Nat}(h:ids.length<=j):Gp st ids j=st.nx+(j - ids.length):=by
 unfold Gp
 rw[Amj h]
theorem Ajm (hk:Et st.nx ids=true){k:Nat}(h:st.nx<=k):idx ids k=none:=by
 cases hq:idx ids k with
 | none=>rfl
 | some j=>have:=FV hk j k (DR hq);omega
theorem Af1 (hk:Et st.nx ids=true){n j:Nat}{φ2:Phi}(hj:j<n):F3 st ids n φ φ2 (Gp st ids j)=(φ2 j).map (Ff (Ig st ids j)):=by
 unfold F3
 rcases AlL j ids.length with h | h
 ·have e:ids[j]?=some ids[j]:=Ald h
  rw[Mn e,Lp hk j _ e]
 ·rw[P1 h,Ajm hk (by omega)]
  simp only
  rw[Alw (by omega),show st.nx+(j - ids.length) - st.nx+ids.length=j by omega]
theorem Sg {n k:Nat}{φ2:Phi}{p:Pl}(h:F3 st ids n φ φ2 k=some p) :
  (∃ j q,k=Gp st ids j/\φ2 j=some q/\p=Ff (Ig st ids j) q)∨(idx ids k=none/\φ k=some p/\¬ (st.nx<=k/\k<st.nx+(n - ids.length))):=by
 unfold F3 at h
 cases hq:idx ids k with
 | some j =>
  rw[hq]at h
  obtain⟨q,e1,e2⟩:=Alj.1 h
  exact .inl ⟨j,q,(Mn (DR hq)).symm,e1,e2.symm⟩
 | none =>
  rw[hq]at h
  simp only at h
  split at h
  ·rename_i hc
   obtain⟨q,e1,e2⟩:=Alj.1 h
   exact .inl ⟨_,q,by rw[P1 (by omega)];omega,e1,e2.symm⟩
  ·rename_i hc;exact .inr ⟨rfl,h,hc⟩
theorem Adk (hH:HRel E st.H φ w)(hfr:∀ id,st.nx<=id->φ id=none)(hlv:∀ id,id<st.nx->φ id≠none)(hk:Et st.nx ids=true){w':World}{φ2:Phi}{os:List Ob}{r:VV}{v:Value}(hlen:ids.length<=os.length)
  (h1:HRel (NX E ids φ) (Bm os) φ2 w') (h2:Fr ids.length w (CO ids φ) w' φ2) (h3:∀ id,φ2 id≠none ↔ id<os.length) (h4:V w' ((NX E ids φ).up φ2) (some φ2) r v) {H':Nat->Ob} (hH':∀ j,j<os.length->H' (Gp st ids j)=TG false st ids j (Bm os j))
  (hH'':∀ k,k<st.nx->idx ids k=none->H' k=st.H k) :
  ∃ φ',HRel E H' φ' w'/\Ext w φ w' φ'/\(∀ id,φ' id≠none ↔ φ id≠none∨(st.nx<=id/\id<st.nx+(os.length - ids.length)))/\V w' (E.up φ') (some φ') (Z5 false st ids r) v:=by
 refine⟨F3 st ids os.length φ φ2,?_⟩
 have hat:∀ {j:Nat},j<os.length->F3 st ids os.length φ φ2 (Gp st ids j)=(φ2 j).map (Ff (Ig st ids j)):=fun hj=>Af1 hk hj
 have hlt2:∀ {j:Nat} {q:Pl},φ2 j=some q->j<os.length:=fun e=>(h3 _).1 (by rw[e];simp)
 have hltφ:∀ {k:Nat} {p:Pl},φ k=some p->k<st.nx:=by
  intro k p e
  rcases AlL k st.nx with h | h
  ·exact h
  ·rw[hfr k h]at e;cases e
 have hblk:∀ {i k:Nat},Blk (F3 st ids os.length φ φ2) i k->(∃ j,i=Gp st ids j/\j<os.length/\Blk φ2 j k)∨(idx ids i=none/\Blk φ i k):=by
  intro i k hb
  obtain⟨p,hp,hpb⟩:=AI.1 hb
  rcases Sg hp with⟨j,q,e1,e2,rfl⟩ | ⟨e1,e2,_⟩
  ·exact .inl ⟨j,e1,hlt2 e2,AI.2 ⟨q,e2,OD.1 hpb⟩⟩
  ·exact .inr ⟨e1,AI.2 ⟨p,e2,hpb⟩⟩
 have hblk':∀ {j k:Nat},Blk φ2 j k->Blk (F3 st ids os.length φ φ2) (Gp st ids j) k:=by
  intro j k hb
  obtain⟨p,hp,hpb⟩:=AI.1 hb
  exact AI.2 ⟨_,by rw[hat (hlt2 hp),hp];rfl,OD.2 hpb⟩
 have hblk'':∀ {i k:Nat},idx ids i=none->Blk φ i k->Blk (F3 st ids os.length φ φ2) i k:=by
  intro i k hi hb
  obtain⟨p,hp,hpb⟩:=AI.1 hb
  have:=hltφ hp
  refine AI.2 ⟨p,?_,hpb⟩
  unfold F3
  rw[hi]
  simp only
  rw[Alg (by omega),hp]
 have apart:∀ {j i k:Nat},Blk φ2 j k->idx ids i=none->Blk φ i k->False:=fun h5 h6 h7=>h1.free _ ⟨_,h5⟩ (.inr ⟨_,h6,h7⟩)
 have hown:∀ {k:Nat},Own (F3 st ids os.length φ φ2) k ↔ Own φ2 k∨GA ids φ k:=by
  intro k
  constructor
  ·rintro⟨i,hb⟩
   rcases hblk hb with⟨j,_,_,hb⟩ | ⟨hi,hb⟩
   ·exact .inl ⟨j,hb⟩
   ·exact .inr ⟨i,hi,hb⟩
  ·rintro(⟨j,hb⟩ | ⟨i,hi,hb⟩)
   ·exact⟨_,hblk' hb⟩
   ·exact⟨i,hblk'' hi hb⟩
 have hrel:Sk false (fun j=>some (Gp st ids j)) (fun j g=>some (Ig st ids j g)) ((NX E ids φ).up φ2) φ2 (E.up (F3 st ids os.length φ φ2)) (F3 st ids os.length φ φ2):=by
  refine⟨?_,fun _=>?_,fun id i b hi hb=>?_,fun id i gen g c len hd hi hg hph hgc=>?_⟩
  ·rintro k (hk1 | hk1)
   ·exact .inl (.inl hk1)
   ·rcases hown.1 hk1 with h | h
    ·exact .inr h
    ·exact .inl (.inr h)
  ·rintro k (hk1 | hk1)
   ·exact .inl (.inl hk1)
   ·rcases hown.1 hk1 with h | h
    ·exact .inr h
    ·exact .inl (.inr h)
  ·simp only[Ak1]at hi
   rw[← hi,hat (hlt2 hb),hb];rfl
  ·simp only[Ak1]at hi hg
   subst hi;subst hg
   obtain⟨m1,m2⟩:=Ab9 (st:=st) (ids:=ids) (j:=id) hgc
   exact⟨_,by rw[hat (hlt2 hph),hph];rfl,m1,m2⟩
 have hext:Ext w φ w' (F3 st ids os.length φ φ2):=by
  refine⟨h2.os,h2.tape,h2.output,h2.size,fun k hk1 hn=>h2.block k hk1 fun h=>hn (DO.2 (.inr h)),fun id p e=>?_,fun k hk1=>?_⟩
  ·cases hq:idx ids id with
   | none =>
    have:=hltφ e
    refine⟨p,?_,Iv.refl p⟩
    unfold F3
    rw[hq]
    simp only
    rw[Alg (by omega),e]
   | some j =>
    have hj:=DR hq
    have hjl:j<ids.length:=(Ak3.1 hj).1
    obtain⟨p2,e2,hp2⟩:=h2.kind j (Ff (fun _=>0) p) hjl (by rw[GV hj,e];rfl)
    refine⟨Ff (Ig st ids j) p2,?_,?_⟩
    ·have:=hat (j:=j) (by omega)
     rw[Mn hj,e2]at this
     exact this
    ·cases p with
     | box b=>simp only[Ff,PlK]at hp2;subst hp2;rfl
     | arr c n hd =>
      obtain⟨c',n',hd',rfl⟩:=hp2
      have hg:=hH.gen e
      have:Ig st ids j c'=c+1+c':=by unfold Ig;rw[hj];simp only[hg]
      exact⟨_,_,_,rfl,by omega,fun e'=>by omega⟩
  ·rcases hown.1 hk1 with h | ⟨i,hi,hb⟩
   ·exact(h2.new k h).imp (fun h=>DO.2 (.inr h)) fun h=>h
   ·exact .inl ⟨i,hb⟩
 refine⟨⟨hH.sub,fun k p e=>?_,fun i j k hi hj=>?_,fun k hk1 hf=>?_⟩,hext,fun id=>?_,EV hrel _ _ _ h4⟩
 ·rcases Sg e with⟨j,q,rfl,e2,rfl⟩ | ⟨e1,e2,_⟩
  ·rw[hH' j (hlt2 e2)]
   exact Me hrel (h1.ob j q e2)
  ·rw[hH'' k (hltφ e2) e1]
   refine(hH.ob k p e2).ext hext fun b hb hlt=>h2.block b hlt ?_
   intro ho
   obtain⟨j,id',a1,a2⟩:=FA.1 ho
   have:=hH.inj k id' b (AI.2 ⟨p,e2,hb⟩) a2
   subst this
   exact Qg e1 j a1
 ·rcases hblk hi with⟨i',rfl,_,hb1⟩ | ⟨hi1,hb1⟩<;>rcases hblk hj with⟨j',rfl,_,hb2⟩ | ⟨hj1,hb2⟩
  ·rw[h1.inj i' j' k hb1 hb2]
  ·exact(apart hb1 hj1 hb2).elim
  ·exact(apart hb2 hi1 hb1).elim
  ·exact hH.inj i j k hb1 hb2
 ·rcases hown.1 hk1 with h | ⟨i,hi,hb⟩
  ·exact h1.free k h (.inl hf)
  ·exact hH.free k ⟨i,hb⟩ hf
 ·constructor
  ·intro hn
   cases hq:idx ids id with
   | some j=>exact .inl (hlv id (FV hk j id (DR hq)))
   | none =>
    unfold F3 at hn
    rw[hq]at hn
    simp only at hn
    split at hn
    ·rename_i hc;exact .inr hc
    ·exact .inl hn
  ·intro hn
   unfold F3
   cases hq:idx ids id with
   | some j =>
    have hj:=DR hq
    have hjl:j<ids.length:=(Ak3.1 hj).1
    have:=(h3 j).2 (by omega)
    simpa using this
   | none =>
    simp only
    split
    ·have:=(h3 (id - st.nx+ids.length)).2 (by omega)
     simpa using this
    ·rename_i hc;exact hn.resolve_right hc
theorem AiP (hO:Jd P O)(hH:HRel E Hc φ w)(hHc:∀ id,id<st.nx->Hc id=st.H id)(hz:Old E φ w){o:Oper}{c:Call}{f:Operand}(ho:o.op=.call c)(hf:c.callee=.value f)
  (h1:V w (E.up φ) (some φ) (st.val f) (a.eval f)) (h2:∀ y∈c.args.toList,V w (E.up φ) (some φ) (st.val y) (a.eval y)) (hc:∀ p∈(H5 O st (st.val f) (c.args.toList.map st.val)).chk,p) :
  ((H5 O st (st.val f) (c.args.toList.map st.val)).put=none/\((∀ i,i<(H5 O st (st.val f) (c.args.toList.map st.val)).new.length->φ (st.nx+i)=none) ->
    Df P E φ st.nx (H5 O st (st.val f) (c.args.toList.map st.val)).new (H5 O st (st.val f) (c.args.toList.map st.val)).val o a w)) ∨
  (∃ H',(H5 O st (st.val f) (c.args.toList.map st.val)).put=some H'/\((∀ id,st.nx<=id->φ id=none)->(∀ id,id<st.nx->φ id≠none)->HRel E st.H φ w ->
    YL P E φ (Jh H' st.nx (H5 O st (st.val f) (c.args.toList.map st.val)).new) st.nx (st.nx+(H5 O st (st.val f) (c.args.toList.map st.val)).new.length) (H5 O st (st.val f) (c.args.toList.map st.val)).val o a w)):=by
 generalize hx:st.val f=x at *
 unfold H5 at hc ⊢
 cases hask:Agn O.lend st x (c.args.toList.map st.val) with
 | none=>rw[hask]at hc;exact Ak hc
 | some q =>
  obtain⟨g,ids,hs,xs⟩:=q
  rw[hask]at hc
  simp only at hc ⊢
  unfold Agn at hask
  split at hask
  ·rename_i g' caps
   generalize hv:a.eval f=vf at h1
   cases h1 with | fn e1 e2 =>
   rename_i vs
   obtain⟨l1,l2⟩:=AhS (c:=c) (st:=st) (a:=a) (R:=V w (E.up φ) (some φ)) h2 e1 e2
   cases hld:O.lend g' with
   | false =>
    rw[hld]at hask
    simp only[Ak0]at hask
    split at hask
    ·rename_i xs' hsn
     simp only[Ak1,AlH]at hask
     obtain⟨rfl,rfl,rfl,rfl⟩:=hask
     generalize hrun:O.run g' [] xs'=q at hc ⊢
     obtain⟨⟨os,r⟩,ck⟩:=q
     simp only[hld]at hc ⊢
     have hb:DM st false [] os r={ val:=Z5 true st [] r,new:=G6 true st [] 0 os,put:=none }:=by simp[DM,Nat.ble]
     rw[hb]at hc ⊢
     refine .inl ⟨rfl,fun hid=>?_⟩
     simp only[Res.also,AmA]at hc hid ⊢
     have hsp:=hO g' [] xs' (by rw[hrun];exact hc)
     rw[hrun]at hsp
     obtain⟨m1,m2⟩:=Dp hsn
     have hHlt:∀ {k:Nat},Own φ k->k<w.heap.size:=fun h=>hH.lt h
     have hnil:CO [] φ=fun _=>none:=by funext j;simp[CO]
     have hHc':HRel ((E.up φ).lend) (Bm []) (CO [] φ) w:=by
      refine⟨fun k h=>h.elim,fun j p e=>?_,fun i j k h=>?_,fun k h=>?_⟩
      ·rw[hnil]at e;cases e
      ·rw[hnil]at h;obtain⟨p,hp,_⟩:=AI.1 h;cases hp
      ·rw[hnil]at h;obtain⟨j,h⟩:=h;obtain⟨p,hp,_⟩:=AI.1 h;cases hp
     have hcall:=hsp.call w (E.up φ).lend (CO [] φ) (c.args.map a.eval++vs) ⟨(by
       rintro k (hk | hk)
       ·exact hz.lt k hk
       ·exact hHlt hk),hz.lib.at',hz.lib.lt,fun k _ ho=>by rw[hnil]at ho;obtain⟨j,ho⟩:=ho;obtain⟨p,hp,_⟩:=AI.1 ho;cases hp⟩ hHc' (fun id=>by rw[hnil];simp) ⟨by rw[l1,m1],fun j y hy=>by
       obtain⟨x,hx,hxy⟩:=m2 j y hy
       have:=PH (H:=st.Hg) hH (fun id=>by
        unfold St.Hg
        cases hq:Nat.blt id st.nx with
        | false=>exact .inl rfl
        | true=>exact .inr (hHc id (Alm hq)).symm) _ x y _ (l2 j x hx) hxy
       refine(this.held (m:=some (CO [] φ))).less ?_ ?_
       ·rintro k (hk | hk)
        ·exact hk
        ·rw[hnil]at hk;obtain⟨j,h⟩:=hk;obtain⟨p,hp,_⟩:=AI.1 h;cases hp
       ·rintro k (hk | hk)
        ·exact hk
        ·rw[hnil]at hk;obtain⟨j,h⟩:=hk;obtain⟨p,hp,_⟩:=AI.1 h;cases hp⟩
     intro K Q hK
     refine YO ho hf hv hsp.callable hcall ?_
     rintro e w' ⟨v,φ2,rfl,k1,k2,k3,k4⟩
     refine⟨v,rfl,?_⟩
     rw[hnil]at k2
     obtain⟨pls,n1,n2⟩:=Adl (st:=st) rfl (fun i hi=>hid i (by rw[KJ];exact hi)) k1 k2 k3 k4
     exact hK v w' pls n1 n2
    ·cases hask
   | true =>
    rw[hld]at hask
    simp only[Ak4]at hask
    generalize PQ st 64 ((c.args.toList.map st.val++caps).flatMap (Ja 8)) []=is at hask
    cases hok:Et st.nx is with
    | false=>rw[hok]at hask;cases hask
    | true =>
     rw[hok]at hask
     simp only[Ak4,Ak1,AlH]at hask
     obtain⟨rfl,rfl,rfl,rfl⟩:=hask
     generalize hrun:O.run g' (is.map (D7 st is)) ((c.args.toList.map st.val++caps).map (Jc st is))=q at hc ⊢
     obtain⟨⟨os,r⟩,ck⟩:=q
     simp only[hld]at hc ⊢
     unfold DM at hc ⊢
     cases hle:Nat.ble is.length os.length with
     | false=>rw[hle]at hc;exact(hc False (by simp[Res.bad,Res.also])).elim
     | true =>
      rw[hle]at hc
      simp only[Ak4,AmL]at hc ⊢
      have hlen:=Alm hle
      refine .inr ⟨_,rfl,fun hfr hlv hHs=>?_⟩
      simp only[Res.also,AmA]at hc ⊢
      have hsp:=hO g' _ _ (by rw[hrun];exact hc)
      rw[hrun]at hsp
      have hE1:∀ k,(NX E is φ).fz k->E.fz k∨GA is φ k:=fun _ h=>h
      have hE2:∀ k,(NX E is φ).br k->E.br k∨GA is φ k:=fun _ h=>h
      have hHc':=hHs.lend (E':=NX E is φ) hok hE1 hE2 (fun k h=>h.imp (hHs.sub k) fun h=>h) (H':=Bm (is.map (D7 st is))) (fun j id e=>by simp[Bm,e])
      have hrl:=Fz (E':=NX E is φ) hHs hE1 hE2
      have hcall:=hsp.call w (NX E is φ) (CO is φ) (c.args.map a.eval++vs) ⟨(by
        rintro k (hk | ⟨id,_,hk⟩)
        ·exact hz.lt k hk
        ·exact hHs.lt ⟨id,hk⟩),hz.lib.at',hz.lib.lt,fun k hk ho=>hz.lib.out k hk ((FA.1 ho).elim fun _ h=>h.elim fun id h=>⟨id,h.2⟩)⟩ hHc' (fun j=>by
        rw[Al8]
        constructor
        ·intro h
         obtain⟨p,hp⟩:=AmM.1 h
         obtain⟨id,_,e1,_⟩:=IN hp
         exact(Ak3.1 e1).1
        ·intro h
         have e1:is[j]?=some is[j]:=Ald h
         rw[GV e1]
         have:=hlv _ (FV hok j _ e1)
         simpa using this) ⟨by rw[l1];simp,fun j y hy=>by
        rw[Alv]at hy
        obtain⟨x,hx,rfl⟩:=Alj.1 hy
        exact EV hrl _ _ _ (l2 j x hx)⟩
      intro K Q hK
      refine YO ho hf hv hsp.callable hcall ?_
      rintro e w' ⟨v,φ2,rfl,k1,k2,k3,k4⟩
      refine⟨v,rfl,?_⟩
      rw[Al8]at k2
      have hnl:((G6 false st is 0 os).drop is.length).length=os.length - is.length:=by rw[List.length_drop,KJ]
      obtain⟨φ',p1,p2,p3,p4⟩:=Adk hHs hfr hlv hok hlen k1 k2 k3 k4 (H':=Jh (fun k=>match idx is k with
       | some j=>(G6 false st is 0 os).getD j (.gone 0)
       | none=>st.H k) st.nx ((G6 false st is 0 os).drop is.length)) (fun j hj=>by
        have hoj:os[j]?=some os[j]:=Ald hj
        have hbj:(G6 false st is 0 os)[j]?=some (TG false st is j (Bm os j)):=by
         rw[QB,AlC,hoj];simp[Bm,hoj]
        rcases AlL j is.length with h | h
        ·have e:is[j]?=some is[j]:=Ald h
         rw[Mn e,J8 (.inl (FV hok j _ e)),Lp hok j _ e]
         simp only[List.getD,hbj,Amm]
        ·rw[P1 h]
         refine Z8 ?_
         rw[Alx,show is.length+(j - is.length)=j by omega]
         exact hbj) (fun k hk hi=>by rw[J8 (.inl hk),hi])
      exact hK v w' φ' p1 p2 (by rw[hnl];exact p3) p4
  ·cases hask
end
end
section
section
variable {P : Program} {T:TypeId->TE} {O:Orc} {w:World} {E:AF} {φ:Phi} {st:St} {Hc:Nat->Ob} {a:Act}
def Af9 (w:World)(E:AF)(φ:Phi)(st:St)(a:Act):Op->Prop
 | .pick c x y=>V w (E.up φ) (some φ) (st.val c) (a.eval c)/\(a.eval c=.bool true->V w (E.up φ) (some φ) (st.val x) (a.eval x))/\(a.eval c=.bool false->V w (E.up φ) (some φ) (st.val y) (a.eval y))
 | op=>∀ y∈op.operands.toList,V w (E.up φ) (some φ) (st.val y) (a.eval y)
theorem UT {ps:Array (Nat × Operand)}(h:∀ y∈(ps.toList.map (·.2)),V w (E.up φ) (some φ) (st.val y) (a.eval y)) :
  (ps.toList.map fun p=>(p.1,st.val p.2)).length=(ps.map fun(i,x)=>(i,a.eval x)).toList.length/\∀ (j:Nat) p q,(ps.toList.map fun p=>(p.1,st.val p.2))[j]?=some p->(ps.map fun(i,x)=>(i,a.eval x)).toList[j]?=some q->p.1=q.1/\V w (E.up φ) (some φ) p.2 q.2:=by
 refine⟨by simp,fun j p q hp hq=>?_⟩
 rw[Alv]at hp
 rw[Array.toList_map,Alv]at hq
 obtain⟨z,hz,rfl⟩:=Alj.1 hp
 rw[hz]at hq
 simp only[AmG,Ak1]at hq
 subst hq
 exact⟨rfl,h _ (Amn.2 ⟨z,AlG hz,rfl⟩)⟩
theorem Ub {xs:List VV}{ts:List TypeId}(hc:∀ p∈(YV T xs ts).chk,p):∃ x t,xs=[x]/\ts=[t] :=
 match xs,ts,hc with
 | [x],[t],_=>⟨x,t,rfl,rfl⟩
 | [],_,hc=>Ak hc
 | _::_::_,_,hc=>Ak hc
 | [_],[],hc=>Ak hc
 | [_],_::_::_,hc=>Ak hc
theorem Uc {xs:List VV}{ts:List TypeId}(hc:∀ p∈(Ph T st xs ts).chk,p):∃ x y t,xs=[x,y]/\ts=[t,t]:=by
 unfold Ph at hc
 split at hc
 ·rename_i x y t t'
  cases hq:Nat.beq t t' with
  | false=>rw[hq]at hc;exact Ak hc
  | true=>have:=Ak7 hq;subst this;exact⟨x,y,t,rfl,rfl⟩
 ·exact Ak hc
theorem Rj {b:Bool}{xs:List VV}(hc:∀ p∈(vmm b xs).chk,p):∃ k x y,xs=[.sc (.int k x),.sc (.int k y)]:=by
 unfold vmm at hc
 split at hc
 ·rename_i k x k' y
  cases hq:decide (k=k') with
  | false=>rw[hq]at hc;exact Ak hc
  | true=>have:=Ak9 hq;subst this;exact⟨k,x,y,rfl⟩
 ·exact Ak hc
theorem WO {β:Type}{f:Operand->β}{args:Array Operand}{x y:β}(h:args.toList.map f=[x,y]):∃ u v,args=#[u,v]/\f u=x/\f v=y:=by
 have hl:args.toList.length=2:=by have:=congrArg List.length h;simpa using this
 match hm:args.toList,hl with
 | [u,v],_ =>
  rw[hm]at h
  simp only[AlU,Amr,List.cons.injEq,and_true]at h
  exact⟨u,v,Array.ext' (by simpa using hm),h.1,h.2⟩
theorem AbW {t:TypeId}{n:Nat}{ps:List (Nat × VV)}:(Cm T st t n ps).put=none:=by
 unfold Cm
 split
 ·generalize (_&&_:Bool)=q
  cases q with
  | false=>rfl
  | true =>
   simp only[Ak4]
   split
   ·rename_i cs _
    cases cs.all VV.one<;>rfl
   ·rfl
 ·rfl
theorem Aci {t:TypeId}{n:Nat}{ps:List (Nat × VV)}(hc:∀ p∈(Cm T st t n ps).chk,p):(Cm T st t n ps).new.length≠0:=by
 revert hc
 unfold Cm
 split
 ·generalize (_&&_:Bool)=q
  cases q with
  | false=>intro hc;exact Ak hc
  | true =>
   simp only[Ak4]
   split
   ·rename_i cs _
    cases cs.all VV.one with
    | false=>intro hc;exact Ak hc
    | true=>intro _ h;cases h
   ·intro hc;exact Ak hc
 ·intro hc;exact Ak hc
theorem AeP {t:TypeId}{x y:VV}:(NQ T st t x y).put=none:=by
 unfold NQ
 split
 ·generalize (_&&_:Bool)=q;cases q<;>rfl
 ·rfl
theorem AbU {t:TypeId}{zx zy:VV}(hc:∀ p∈(Hv T st t zx zy).chk,p):∃ H',(Hv T st t zx zy).put=some H':=by
 revert hc
 unfold Hv
 split
 ·rename_i id off
  generalize (_&&_:Bool)=q
  cases q with
  | false=>intro hc;exact Ak hc
  | true =>
   simp only[Ak4]
   split
   ·cases Nat.ble (off+zy.cells.length) (List.length _) with
    | false=>intro hc;exact Ak hc
    | true=>intro _;exact⟨_,rfl⟩
   ·intro hc;exact Ak hc
 ·generalize (_&&_:Bool)=q
  cases q with
  | false=>intro hc;exact Ak hc
  | true =>
   simp only[Ak4]
   split
   ·split
    ·generalize (_&&_:Bool)=q
     cases q with
     | false=>intro hc;exact Ak hc
     | true=>intro _;exact⟨_,rfl⟩
    ·intro hc;exact Ak hc
   ·intro hc;exact Ak hc
 ·intro hc;exact Ak hc
theorem Xy {t:TypeId}{zx zy:VV}(hc:∀ p∈(EQ T st t zx zy).chk,p):∃ H',(EQ T st t zx zy).put=some H':=by
 revert hc
 unfold EQ
 split
 ·generalize (_&&_:Bool)=q
  cases q with
  | false=>intro hc;exact Ak hc
  | true =>
   simp only[Ak4]
   split
   ·split
    ·intro _;exact⟨_,rfl⟩
    ·generalize (_&&_:Bool)=q
     cases q with
     | false=>intro hc;exact Ak hc
     | true =>
      simp only[Ak4]
      split
      ·generalize (_&&_:Bool)=q
       cases q with
       | false=>intro hc;exact Ak hc
       | true=>intro _;exact⟨_,rfl⟩
      ·generalize (_&&_:Bool)=q
       cases q with
       | false=>intro hc;exact Ak hc
       | true =>
        simp only[Ak4]
        split
        ·generalize (_&&_:Bool)=q
         cases q with
         | false=>intro hc;exact Ak hc
         | true=>intro _;exact⟨_,rfl⟩
        ·intro hc;exact Ak hc
      ·intro hc;exact Ak hc
    ·intro hc;exact Ak hc
   ·intro hc;exact Ak hc
 ·intro hc;exact Ak hc
theorem Akf {b:Bool}{k:IntKind}{x y:Int}:∃ v,((bif b then Builtin.max_ #[] 0 #[.int k x,.int k y] else Builtin.min_ #[] 0 #[.int k x,.int k y]):Sem Value).run P w=.ok v w/\V w E (some φ) (vmm b [.sc (.int k x),.sc (.int k y)]).val v:=by
 cases b with
 | true =>
  refine⟨.int k (max x y),?_,?_⟩
  ·have:(if y > x then y else x)=max x y:=by split<;>omega
   simp[Builtin.max_,Builtin.max2,this]
  ·simp only[vmm,decide_true,Ak4,Res.ok];exact .sc
 | false =>
  refine⟨.int k (min x y),?_,?_⟩
  ·have:(if y<x then y else x)=min x y:=by split<;>omega
   simp[Builtin.min_,Builtin.min2,this]
  ·simp only[vmm,decide_true,Ak4,Ak0,Res.ok];exact .sc
theorem Aex (hT:TOk P T)(hH:HRel E Hc φ w)(hHc:∀ id,id<st.nx->Hc id=st.H id){t:TypeId}{x:VV}{vx:Value}(hx:V w (E.up φ) (some φ) x vx)(hc:∀ p∈(Jm T st t x).chk,p) :
  ∃ v,(Instr.loadAt t vx).run P w=.ok v w/\V w (E.up φ) (some φ) (Jm T st t x).val v:=by
 cases x with
 | bp id off =>
  simp only[Jm]at hc ⊢
  cases hq:Nat.blt id st.nx with
  | false=>rw[hq]at hc;exact Ak hc
  | true =>
   rw[hq]at hc
   simp only[Ak4]at hc ⊢
   obtain⟨b,hb,e⟩:=hx.bp_inv
   have hob:=hH.ob id _ hb
   rw[hHc id (Alm hq)]at hob
   cases hHi:st.H id with
   | arr=>rw[hHi]at hc;exact Ak hc
   | gone=>rw[hHi]at hc;exact Ak hc
   | box cs =>
    rw[hHi]at hob hc
    obtain⟨c,ty,h2,h3⟩:=hob
    rw[e]
    refine Xm hT (u:=fun j=>c.getD (off+j) undef) (fun j x hx=>?_) (fun j x hx=>?_) hc
    ·rw[Alx]at hx
     exact Gz h2 (by rw[h3.1];exact(Ak3.1 hx).1)
    ·rw[Alx]at hx
     exact h3.2 _ x hx
 | ep id gen sz i o =>
  simp only[Jm]at hc ⊢
  cases hq:Nat.blt id st.nx with
  | false=>rw[hq]at hc;exact Ak hc
  | true =>
   rw[hq]at hc
   simp only[Ak4]at hc ⊢
   obtain⟨c,len,hd,b,hph,hg,e,hcur⟩:=hx.ep_inv
   have hob:=hH.ob id _ hph
   rw[hHc id (Alm hq)]at hob
   cases hHi:st.H id with
   | box cs=>rw[hHi]at hc;exact Ak hc
   | gone=>rw[hHi]at hc;exact Ak hc
   | arr fr g n s f =>
    rw[hHi]at hob hc
    obtain⟨rfl,rfl,hrow⟩:=hob
    simp only at hc ⊢
    cases hq2:(Nat.beq gen g&&Nat.beq s sz) with
    | false=>rw[hq2]at hc;exact Ak hc
    | true =>
     rw[hq2]at hc
     simp only[Ak4]at hc ⊢
     rw[Ak2]at hq2
     have hsz:=Ak7 hq2.2
     subst hsz
     obtain⟨hil,cap,rfl⟩:=hcur (Ak7 hq2.1)
     obtain⟨cs,ty,h1,h2,h3,h4,h5,h6,h7⟩:=hrow
     rw[e]
     have hj:∀ (j:Nat) y,((f i).drop o)[j]?=some y->(f i)[o+j]?=some y/\i*s+o+j<cs.size:=by
      intro j y hy
      rw[Alx]at hy
      have:=(Ak3.1 hy).1
      rw[h5 i hil]at this
      have h8:(i+1)*s<=cap*s:=Alo _ (by omega)
      rw[AlY]at h8
      exact⟨hy,by rw[h2];omega⟩
     refine Xm hT (u:=fun j=>cs.getD (i*s+o+j) undef) (fun j y hy=>Gz h1 (hj j y hy).2) (fun j y hy=>?_) hc
     have:=(h6 i (o+j) y hil (hj j y hy).1).held
     rw[← Al3]at this
     exact this
 | tp cs =>
  simp only[Jm]at hc ⊢
  obtain⟨b,off,e,h1,h2,u,h3,h4⟩:=hx.tp_inv
  rw[e]
  exact Xm hT h3 (fun j x hx=>(h4 j x hx).held) hc
 | _=>exact Ak hc
theorem VT {vs:Array Value}{cs:List VV}{ty:TypeId}(hid:φ st.nx=none)(hs:CS w (E.up φ) (some φ) cs vs) :
  Ee w E φ st.nx [.box cs] [.box w.heap.size] (w.alloc (.cells vs ty))/\V (w.alloc (.cells vs ty)) (E.up (addP φ st.nx [.box w.heap.size])) (some (addP φ st.nx [.box w.heap.size])) (.bp st.nx 0) (.pointer (some ⟨w.heap.size,0,none⟩)):=by
 have hroom:Room w [.box w.heap.size] (w.alloc (.cells vs ty)):=Room.one ((Below.refl _ w).alloc (Ak6 _) _) fun k hk=>by simp only[PlB]at hk;omega
 have hext:=hroom.ext (φ:=φ) (nx:=st.nx) fun i hi=>by
  simp only[AlE,AlX,AlC,Am2]at hi
  subst hi;exact hid
 exact⟨Ee.one hroom ⟨vs,ty,heap_alloc_new _ _,hs.ext hext⟩,.bp (DJ (i:=0) rfl)⟩
theorem Aev {src dst e:TypeId}(hs:P.underlying src=some (.slice e))(he:P.underlying e=some (.int .u8))(hd:P.underlying dst=some .string){b off n cap:Nat}{f:Nat->List VV}{u:Nat->Value}{E':AF}{m:Option Phi}
  (h2:∀ i x,i<n->(f i)[0]?=some x->w.cell? ⟨b,off+i,none⟩=some (u i)) (h3:∀ i x,i<n->(f i)[0]?=some x->V w E' m x (u i)) (hc:∀ p∈(T7 n f).chk,p) :
  ∃ v,(convert src dst (.slice (some ⟨b,off,none⟩) n cap)).run P w=.ok v w/\V w (E.up φ) (some φ) (T7 n f).val v:=by
 have hb:∀ i,i<n->X5 (f i)=true:=fun i hi=>AlF.1 (hc (((List.range n).all fun i=>X5 (f i))=true) (by unfold T7;exact Alb ..)) i (AlP.2 hi)
 refine⟨_,?_,.sc⟩
 rw[run_convert_bytes_string w src dst e _ n cap hs he hd]
 have hl:=run_loadCells_list (P:=P) w ⟨b,off,none⟩ (((List.range n).map fun i=>Aic (f i)).map (Value.int .u8)) (fun j v hj=>by
  rw[Alv,Alv]at hj
  obtain⟨_,hk,rfl⟩:=Alj.1 hj
  obtain⟨i,hk',rfl⟩:=Alj.1 hk
  have hi:i=j/\j<n:=by
   rw[Ak3]at hk'
   obtain⟨h,e⟩:=hk'
   simp at h e
   exact⟨e.symm,h⟩
  obtain⟨rfl,hi⟩:=hi
  have:=hb i hi
  match hf:f i,this with
  | [.sc (.int .u8 k)],_ =>
   have e1:=h2 i _ hi (by rw[hf];rfl)
   have e2:=(h3 i _ hi (by rw[hf];rfl)).sc_inv
   have:(⟨b,off,none⟩:Addr).add i=⟨b,off+i,none⟩:=by unfold Addr.add;split<;>simp_all
   rw[this,e1,e2];rfl)
 simp only[Al8,Am0]at hl
 rw[run_bytesToString w _ n cap _ hl]
 rfl
theorem AgL (hT:TOk P T)(hH:HRel E Hc φ w)(hHc:∀ id,id<st.nx->Hc id=st.H id){s d:TypeId}{x:VV}{vx:Value}(hx:V w (E.up φ) (some φ) x vx)(hc:∀ p∈(Sy T st s d x).chk,p) :
  ∃ v,(convert s d vx).run P w=.ok v w/\V w (E.up φ) (some φ) (Sy T st s d x).val v:=by
 unfold Sy at hc ⊢
 split at hc
 ·rename_i e hs hd
  split at hc
  ·rename_i id gen n he
   cases hq:Nat.blt id st.nx with
   | false=>rw[hq]at hc;exact Ak hc
   | true =>
    rw[hq]at hc
    simp only[Ak4]at hc ⊢
    obtain⟨c,len,hd',hd0,hph,hg,h0,hcur⟩:=hx.ow_inv
    have hob:=hH.ob id _ hph
    rw[hHc id (Alm hq)]at hob
    split at hc
    ·rename_i g _ sz f hHi
     rw[hHi]at hob
     obtain⟨rfl,rfl,hrow⟩:=hob
     cases hq2:(Nat.beq gen g&&Nat.beq sz 1) with
     | false=>rw[hq2]at hc;exact Ak hc
     | true =>
      rw[hq2]at hc
      simp only[Ak4]at hc ⊢
      rw[Ak2]at hq2
      obtain rfl:=Ak7 hq2.1
      obtain rfl:=Ak7 hq2.2
      obtain⟨rfl,hn⟩:=hcur rfl
      match hd0,h0,hrow with
      | none,h0,_ =>
       obtain⟨rfl,rfl⟩:=h0
       refine⟨_,?_,.sc⟩
       rw[run_convert_bytes_string w s d e _ 0 0 (hT.sl hs) (hT.int he) (hT.str hd)]
       rfl
      | some (b,cap),h0,hrow =>
       obtain⟨rfl,_⟩:=h0
       obtain⟨cs,ty,k1,k2,k3,k4,k5,k6,k7⟩:=hrow
       refine Aev (off:=0) (u:=fun i=>cs.getD (i*1+0) undef) (hT.sl hs) (hT.int he) (hT.str hd) (fun i x hi hx=>?_) (fun i x hi hx=>(k6 i 0 x (by omega) hx).held) hc
       have:=Gz k1 (k:=0+i) (by omega)
       simpa using this
    ·exact Ak hc
  ·rename_i fz n sz f he
   cases hq2:(Nat.beq sz 1) with
   | false=>rw[hq2]at hc;exact Ak hc
   | true =>
    rw[hq2]at hc
    simp only[Ak4]at hc ⊢
    obtain rfl:=Ak7 hq2
    obtain⟨a,cap,rfl,_,_,h4⟩:=hx.sl_inv
    rcases Nat.eq_zero_or_pos n with rfl | hp
    ·refine⟨.string ByteArray.empty,?_,.sc⟩
     rw[run_convert_bytes_string w s d e _ 0 cap (hT.sl hs) (hT.int he) (hT.str hd)]
     cases a with
     | none=>rfl
     | some a =>
      have hl:=run_loadCells_list (P:=P) w a [] (fun j v hj=>by simp at hj)
      exact run_bytesToString w a 0 cap [] hl
    ·obtain⟨b,off,rfl,_,_,h5,u,h6,h7⟩:=h4 hp
     exact Aev (u:=fun i=>u i 0) (hT.sl hs) (hT.int he) (hT.str hd) (fun i x hi hx=>by have:=h6 i 0 x hi hx;simpa using this) (fun i x hi hx=>h7 i 0 x hi hx) hc
  ·rename_i he
   rw[hx.nl_inv]
   refine⟨_,?_,.sc⟩
   rw[run_convert_bytes_string w s d e _ 0 0 (hT.sl hs) (hT.int he) (hT.str hd)]
   rfl
  ·exact Ak hc
 ·exact AiO hT hx hc
theorem Pf (hT:TOk P T)(hH:HRel E Hc φ w)(hz:Old E φ w){o:Oper}{t:TypeId}{n:Nat}{ps:Array (Nat × Operand)}(hop:o.op=.buildSlice t n ps)(hr:Af9 w E φ st a (.buildSlice t n ps)){R:Res}
  (hR:R=bif O.gd then Pg T t n (ps.toList.map fun p=>(p.1,st.val p.2)) else Cm T st t n (ps.toList.map fun p=>(p.1,st.val p.2))) (hc:∀ p∈R.chk,p) :
  (R.put=none/\((∀ i,i<R.new.length->φ (st.nx+i)=none)->Df P E φ st.nx R.new R.val o a w)) ∨
  (∃ H',R.put=some H'/\((∀ id,st.nx<=id->φ id=none)->(∀ id,id<st.nx->φ id≠none)->HRel E st.H φ w ->
   YL P E φ (Jh H' st.nx R.new) st.nx (st.nx+R.new.length) R.val o a w)):=by
 have hp:=UT (st:=st) (a:=a) (φ:=φ) (E:=E) (w:=w) (ps:=ps) (by have hr':∀ y∈(Op.buildSlice t n ps).operands.toList,V w (E.up φ) (some φ) (st.val y) (a.eval y):=hr;simpa[Op.operands] using hr')
 refine .inl ?_
 cases hgd:O.gd with
 | true =>
  rw[hgd,Ak4]at hR
  obtain⟨h1,h2,v,w',h3,h4,h5⟩:=AiN hT (fun k hk=>hk.elim (hz.lt k) fun ho=>hH.lt ho) hp.1 hp.2 (by rw[hR]at hc;exact hc)
  rw[← hR]at h1 h2 h5
  rw[h1]
  refine⟨h2,fun _=>Df.of (S:=Instr.buildSlice t n (ps.map fun(i,x)=>(i,a.eval x))) (by unfold execOp;rw[hop]) ?_⟩
  exact⟨v,w',[],h3,Ee.none h4,by rw[F6];exact h5⟩
 | false =>
  rw[hgd,Ak0]at hR
  subst hR
  refine⟨AbW,fun hid=>Df.of (S:=Instr.buildSlice t n (ps.map fun(i,x)=>(i,a.eval x))) (by unfold execOp;rw[hop]) ?_⟩
  have hnew:=Aci hc
  exact(SS hT (by have:=hid 0 (by omega);simpa using this) hp.1 hp.2 hc).2
theorem WJ (hT:TOk P T)(hO:Jd P O)(hH:HRel E Hc φ w)(hHc:∀ id,id<st.nx->Hc id=st.H id)(hz:Old E φ w){o:Oper}(hr:Af9 w E φ st a o.op)(hc:∀ p∈(vop T O st o.op).chk,p) :
  ((vop T O st o.op).put=none/\((∀ i,i<(vop T O st o.op).new.length->φ (st.nx+i)=none)->Df P E φ st.nx (vop T O st o.op).new (vop T O st o.op).val o a w)) ∨
  (∃ H',(vop T O st o.op).put=some H'/\((∀ id,st.nx<=id->φ id=none)->(∀ id,id<st.nx->φ id≠none)->HRel E st.H φ w ->
   YL P E φ (Jh H' st.nx (vop T O st o.op).new) st.nx (st.nx+(vop T O st o.op).new.length) (vop T O st o.op).val o a w)):=by
 cases hop:o.op<;>rw[hop]at hr hc<;>simp only[vop]at hc ⊢
 case move x=>exact .inl ⟨rfl,fun _=>Al9 (S:=pure (a.eval x)) (by unfold execOp;rw[hop];rfl) ⟨_,rfl,hr x (by simp[Op.operands])⟩⟩
 case assign x=>exact .inl ⟨rfl,fun _=>Al9 (S:=pure (a.eval x)) (by unfold execOp;rw[hop];rfl) ⟨_,rfl,hr x (by simp[Op.operands])⟩⟩
 case pick c x y=>exact .inl ⟨rfl,fun _=>Al9 (by unfold execOp;rw[hop];simp only[pure_bind,bind_assoc]) (AiL hr.1 hr.2.1 hr.2.2 hc)⟩
 case binOp op t x y t' =>
  obtain⟨v,h1,h2⟩:=AiQ (w:=w) hT (ox:=x) (oy:=y) (hr x (by simp[Op.operands])) (hr y (by simp[Op.operands])) (fun c e=>by rw[e];rfl) hc
  exact .inl ⟨rfl,fun _=>Al9 (by unfold execOp;rw[hop]) ⟨v,h1,h2⟩⟩
 case unOp op t x=>exact .inl ⟨rfl,fun _=>Al9 (by unfold execOp;rw[hop]) (AkS (hr x (by simp[Op.operands])) hc)⟩
 case fieldAddr s x f=>exact .inl ⟨rfl,fun _=>Al9 (by unfold execOp;rw[hop]) (AbJ hT (hr x (by simp[Op.operands])) hc)⟩
 case field s x f=>exact .inl ⟨rfl,fun _=>Al9 (by unfold execOp;rw[hop]) (AgK hT (hr x (by simp[Op.operands])) hc)⟩
 case indexAddr t x i=>exact .inl ⟨rfl,fun _=>Al9 (by unfold execOp;rw[hop]) (AbI hT (hr x (by simp[Op.operands])) (hr i (by simp[Op.operands])) (fun k hk=>hk.imp (hH.sub k) fun h=>h) hc)⟩
 case index t x i=>exact .inl ⟨rfl,fun _=>Al9 (by unfold execOp;rw[hop]) (AgJ hT (hr x (by simp[Op.operands])) (hr i (by simp[Op.operands])) hc)⟩
 case extract x i=>exact .inl ⟨rfl,fun _=>Al9 (by unfold execOp;rw[hop]) (AbK (hr x (by simp[Op.operands])) hc)⟩
 case convert s d x=>exact .inl ⟨rfl,fun _=>Al9 (by unfold execOp;rw[hop]) (AgL hT hH hHc (hr x (by simp[Op.operands])) hc)⟩
 case load t x=>exact .inl ⟨rfl,fun _=>Al9 (by unfold execOp;rw[hop]) (Aex hT hH hHc (hr x (by simp[Op.operands])) hc)⟩
 case slice t x lo hi mx =>
  cases mx with
  | some _=>exact Ak hc
  | none =>
   refine .inl ⟨rfl,fun _=>Al9 (S:=Instr.sliceAt t (a.eval x) (lo.map a.eval) (hi.map a.eval) none) (by unfold execOp;rw[hop];rfl) (AgH hT (hr x (by simp[Op.operands])) ?_ ?_ hc)⟩
   ·cases lo with
    | none=>trivial
    | some l=>exact hr l (by simp[Op.operands])
   ·cases hi with
    | none=>trivial
    | some l=>exact hr l (by simp[Op.operands])
 case build t ps =>
  have hp:=UT (st:=st) (a:=a) (φ:=φ) (E:=E) (w:=w) (ps:=ps) (by have hr':∀ y∈(Op.build t ps).operands.toList,V w (E.up φ) (some φ) (st.val y) (a.eval y):=hr;simpa[Op.operands] using hr')
  exact .inl ⟨rfl,fun _=>Al9 (by unfold execOp;rw[hop]) (AgM hT hp.1 hp.2 hc)⟩
 case buildSlice t n ps=>exact Pf hT hH hz hop hr rfl hc
 case makeSlice t n m =>
  exact .inl ⟨AeP,fun _=>Df.of (S:=Instr.makeSlice t (a.eval n) (a.eval m)) (by unfold execOp;rw[hop]) (AiM hT (hr n (by simp[Op.operands])) (hr m (by simp[Op.operands])) hc).2⟩
 case nilCheck x =>
  have hx:=hr x (by simp[Op.operands])
  refine .inl ⟨rfl,fun _=>?_⟩
  intro K Q hK
  have run:∀ v,((∃ b,v=.pointer (some b))∨∃ g cs,v=.func (.func g) #[] cs)->a.eval x=v->(execOp a.eval o).run P w=.ok (.value v) w:=by
   rintro v (⟨b,rfl⟩ | ⟨g,cs,rfl⟩) e<;>(unfold execOp;rw[hop];simp only[e];rfl)
  have key:(execOp a.eval o).run P w=.ok (.value (a.eval x)) w/\V w (E.up φ) (some φ) (AjL (st.val x)).val (a.eval x):=by
   generalize st.val x=z at hx hc ⊢
   cases z with
   | bp id off =>
    obtain⟨b,hb,e2⟩:=hx.bp_inv
    exact⟨run _ (.inl ⟨_,e2⟩) rfl,hx⟩
   | ep id gen sz i off =>
    obtain⟨_,_,_,b,_,_,e2,_⟩:=hx.ep_inv
    exact⟨run _ (.inl ⟨_,e2⟩) rfl,hx⟩
   | tp cs =>
    obtain⟨b,off,e2,_⟩:=hx.tp_inv
    exact⟨run _ (.inl ⟨_,e2⟩) rfl,hx⟩
   | fn g cs =>
    cases g with
    | func g =>
     refine⟨run _ (.inr ?_) rfl,hx⟩
     generalize a.eval x=v at hx
     cases hx with | fn h1 h2=>exact⟨g,_,rfl⟩
    | _=>exact Ak hc
   | _=>exact Ak hc
  unfold Oper.wp
  rw[key.1]
  exact hK _ w [] (Ee.none (Below.refl _ _)) (by rw[F6];exact key.2)
 case makeFunc f first caps =>
  cases hq:first.isEmpty with
  | false=>rw[hq]at hc;exact Ak hc
  | true =>
   have h0:first=#[]:=by simpa using hq
   subst h0
   refine .inl ⟨rfl,fun _=>?_⟩
   refine Al9 (S:=Instr.makeFunc f ((#[]:Array Operand).map a.eval) (caps.map a.eval)) (by unfold execOp;rw[hop]) ⟨.func f #[] (caps.map a.eval),by simp[Instr.makeFunc],?_⟩
   show V w (E.up φ) (some φ) (.fn f (caps.toList.map st.val)) _
   refine .fn (by simp) fun j y hy=>?_
   rw[Alv]at hy
   obtain⟨z,hz,rfl⟩:=Alj.1 hy
   have hm:=hr z (by simp[Op.operands];exact Array.mem_toList_iff.1 (AlG hz))
   obtain⟨hj,rfl⟩:=Ak3.1 hz
   have e:(caps.map a.eval).getD j undef=a.eval caps.toList[j]:=by
    have:j<caps.size:=by simpa using hj
    simp[Array.getD,this]
   rw[e];exact hm
 case box e x =>
  cases hq:LN (st.val x) with
  | false=>rw[hq]at hc;exact Ak hc
  | true =>
   simp only[Ak4]
   refine .inl ⟨by trivial,fun hid=>?_⟩
   intro K Q hK
   unfold Oper.wp execOp
   rw[hop]
   simp only[Instr.box,newVar,newRow,Sem.run_bind,Sem.run_pure,Result.andThen_ok,run_newObj]
   obtain⟨n1,n2⟩:=VT (ty:=e) (by have:=hid 0 (by simp);simpa using this) ((hr x (by simp[Op.operands])).cells hq)
   exact hK _ _ _ n1 n2
 case alloc e =>
  cases hq:(T e).k.known with
  | false=>rw[hq]at hc;exact Ak hc
  | true =>
   simp only[Ak4]
   obtain⟨ie,z,hie,hs,hz',hzz⟩:=hT.size (BL hq)
   refine .inl ⟨by trivial,fun hid=>?_⟩
   intro K Q hK
   unfold Oper.wp execOp
   rw[hop]
   simp only[Instr.alloc,zeroValue,typeInfo,newVar,newRow,Sem.run_bind,Sem.run_pure,Result.andThen_ok,run_program,hie,hz',run_newObj]
   obtain⟨n1,n2⟩:=VT (ty:=e) (E:=E) (st:=st) (vs:=z.cells) (cs:=z.cells.toList.map litVV) (by have:=hid 0 (by simp);simpa using this) (CS.zero z.cells)
   rw[hzz]at hK
   exact hK _ _ _ n1 n2
 case store t x y =>
  obtain⟨H',hH'⟩:=AbU hc
  refine .inr ⟨H',hH',fun _ _ hHs=>?_⟩
  obtain⟨H2,h1,h2,h3,h4⟩:=AgG hT hHs hz.lt hop (hr x (by simp[Op.operands])) (hr y (by simp[Op.operands])) hc
  rw[hH']at h1
  simp only[Ak1]at h1
  subst h1
  rw[h2,h3]
  intro K Q hK
  refine h4 K Q fun v w' φ' g1 g2 g3 g4=>hK v w' φ' (by simpa[Jh] using g1) g2 (fun id=>?_) g4
  rw[g3]
  refine⟨fun h=>h.imp (fun h=>h) fun h=>by omega,fun h=>h.imp (fun h=>h) fun h=>?_⟩
  simp only[AlX]at h
  omega
 case call c =>
  cases hcl:c.callee with
  | value f =>
   rw[hcl]at hc
   exact AiP hO hH hHc hz hop hcl (hr f (by simp[Op.operands,Call.operands,hcl])) (fun y hy=>hr y (by simp[Op.operands,Call.operands,hcl];right;simpa using hy)) hc
  | invoke r n=>rw[hcl]at hc;exact Ak hc
  | builtin b =>
   rw[hcl]at hc
   cases b<;>try exact Ak hc
   case append =>
    replace hc:∀ p∈(Ph T st (c.args.toList.map st.val) c.argTypes.toList).chk,p:=hc
    obtain⟨x',y',t,e1,e2⟩:=Uc hc
    obtain⟨x,y,hargs,rfl,rfl⟩:=WO e1
    have htys:c.argTypes=#[t,t]:=Array.ext' (by simpa using e2)
    have hx:=hr x (by simp[Op.operands,Call.operands,hcl,hargs])
    have hy:=hr y (by simp[Op.operands,Call.operands,hcl,hargs])
    have hv:Ph T st (c.args.toList.map st.val) c.argTypes.toList=EQ T st t (st.val x) (st.val y):=by rw[e1,e2];simp[Ph]
    show((Ph T st (c.args.toList.map st.val) c.argTypes.toList).put=none/\_)∨_
    rw[hv]at hc ⊢
    obtain⟨H',hH'⟩:=Xy hc
    refine .inr ⟨H',hH',fun hfr hlv hHs=>?_⟩
    obtain⟨H2,h1,h2⟩:=Aey (ty:=o.type) hT hHs hz.lt hfr hx hy hc
    rw[hH']at h1
    simp only[Ak1]at h1
    subst h1
    refine YL.of (S:=Builtin.append_ #[t,t] o.type #[a.eval x,a.eval y]) ?_ h2
    unfold execOp
    rw[hop]
    simp only[resolve,hcl,hargs,htys,invoke,builtin,AmP,AlU,Amr,pure_bind]
   case len =>
    refine .inl ⟨rfl,fun _=>?_⟩
    replace hc:∀ p∈(YV T (c.args.toList.map st.val) c.argTypes.toList).chk,p:=hc
    show Df P E φ st.nx [] (YV T (c.args.toList.map st.val) c.argTypes.toList).val o a w
    have shape:∃ x t,c.args=#[x]/\c.argTypes=#[t]:=by
     obtain⟨x',t,e1,e2⟩:=Ub hc
     have hl:c.args.toList.length=1:=by have:=congrArg List.length e1;simpa using this
     match hm:c.args.toList,hl with
     | [x],_=>exact⟨x,t,Array.ext' (by simpa using hm),Array.ext' (by simpa using e2)⟩
    obtain⟨x,t,hargs,htys⟩:=shape
    have hx:=hr x (by simp[Op.operands,Call.operands,hcl,hargs])
    rw[hargs,htys]at hc ⊢
    obtain⟨v,h1,h2⟩:=Akg (w:=w) (ty:=o.type) hT hx hc
    intro K Q hK
    unfold Oper.wp execOp
    rw[hop]
    simp only[resolve,hcl,hargs,htys,Sem.run_bind,Sem.run_pure,Result.andThen_ok,invoke,builtin,AmP,AlU,Amr,h1]
    exact hK v w [] (Ee.none (Below.refl _ _)) (by rw[F6];exact h2)
   case max =>
    refine .inl ⟨rfl,fun _=>?_⟩
    replace hc:∀ p∈(vmm true (c.args.toList.map st.val)).chk,p:=hc
    show Df P E φ st.nx [] (vmm true (c.args.toList.map st.val)).val o a w
    obtain⟨k,x',y',e1⟩:=Rj hc
    obtain⟨x,y,hargs,e2,e3⟩:=WO e1
    have hx:=hr x (by simp[Op.operands,Call.operands,hcl,hargs])
    have hy:=hr y (by simp[Op.operands,Call.operands,hcl,hargs])
    rw[e2]at hx
    rw[e3]at hy
    rw[e1]
    intro K Q hK
    unfold Oper.wp execOp
    rw[hop]
    obtain⟨v,h1,h2⟩:=Akf (P:=P) (w:=w) (E:=E.up φ) (φ:=φ) (b:=true) (k:=k) (x:=x') (y:=y')
    simp only[Ak4]at h1
    have h1':(Builtin.max_ c.argTypes o.type #[.int k x',.int k y']).run P w=.ok v w:=h1
    simp only[resolve,hcl,hargs,Sem.run_bind,Sem.run_pure,Result.andThen_ok,invoke,builtin,AmP,AlU,Amr,hx.sc_inv,hy.sc_inv,h1']
    exact hK v w [] (Ee.none (Below.refl _ _)) (by rw[F6];exact h2)
   case min =>
    refine .inl ⟨rfl,fun _=>?_⟩
    replace hc:∀ p∈(vmm false (c.args.toList.map st.val)).chk,p:=hc
    show Df P E φ st.nx [] (vmm false (c.args.toList.map st.val)).val o a w
    obtain⟨k,x',y',e1⟩:=Rj hc
    obtain⟨x,y,hargs,e2,e3⟩:=WO e1
    have hx:=hr x (by simp[Op.operands,Call.operands,hcl,hargs])
    have hy:=hr y (by simp[Op.operands,Call.operands,hcl,hargs])
    rw[e2]at hx
    rw[e3]at hy
    rw[e1]
    intro K Q hK
    unfold Oper.wp execOp
    rw[hop]
    obtain⟨v,h1,h2⟩:=Akf (P:=P) (w:=w) (E:=E.up φ) (φ:=φ) (b:=false) (k:=k) (x:=x') (y:=y')
    simp only[Ak0]at h1
    have h1':(Builtin.min_ c.argTypes o.type #[.int k x',.int k y']).run P w=.ok v w:=h1
    simp only[resolve,hcl,hargs,Sem.run_bind,Sem.run_pure,Result.andThen_ok,invoke,builtin,AmP,AlU,Amr,hx.sc_inv,hy.sc_inv,h1']
    exact hK v w [] (Ee.none (Below.refl _ _)) (by rw[F6];exact h2)
 all_goals exact Ak hc
end
end
section
def Res.base (r:Res)(st:St):Nat->Ob :=
 match r.put with
 | some H'=>H'
 | none=>st.H
def St.after (st:St)(o:Oper)(r:Res):St :=
 St.put { st with H:=Jh (r.base st) st.nx r.new,nx:=st.nx+r.new.length } o.dst r.val
def AfV : VV->Option Bool
 | .sc (.bool b)=>some b
 | _=>none
def K7 (ops:Array Oper)(st:St)(pcs:List Bool)(o:Oper):Option Bool :=
 match o.guard with
 | none=>some true
 | some (j,want) =>
  match pcs[j]?,(ops[j]?).bind (·.dst) with
  | some p,some d =>
   match AfV (st.t d) with
   | some b=>some (p&&(b==want))
   | none=>none
  | _,_=>none
def Adb : List Prop->Prop->Prop
 | [],K=>K
 | p::ps,K=>p/\Adb ps K
def Qr (pc:Bool):List Prop->Prop->Prop
 | [],K=>K
 | p::ps,K=>(pc=true->p)/\Qr pc ps K
def Jf (M:Array Nat)(i j:Nat):Bool:=(M.getD i 0).testBit j
def Lo : Op->Bool
 | .load .. | .store .. | .alloc _ | .box .. | .buildSlice .. | .makeSlice .. | .convert ..=>true
 | .call c=>match c.callee with
  | .builtin .len | .builtin .max | .builtin .min=>false
  | _=>true
 | _=>false
def tpB (st:St):Op->Bool
 | .load _ a=>match st.val a with
  | .tp _=>true
  | _=>false
 | _=>false
def Dr (st:St)(op:Op):Bool:=Lo op&&!tpB st op
def CG (st:St):Op->Option Nat
 | .load _ a=>match st.val a with
  | .bp id _=>bif Nat.blt id st.nx then some id else none
  | .ep id _ _ _ _=>bif Nat.blt id st.nx then some id else none
  | _=>none
 | _=>none
def Kc (ld:FuncId->Bool)(st:St):Op->Option (FuncId × List Nat × List Ob × List VV)
 | .call c =>
  match c.callee with
  | .value f=>Agn ld st (st.val f) (c.args.toList.map st.val)
  | _=>none
 | _=>none
def AdY (st:St):Op->Option (List Nat)
 | .store _ a _=>match st.val a with
  | .bp id _=>some [id]
  | _=>none
 | _=>none
def ES (ld:FuncId->Bool)(st:St)(op:Op):Option (List Nat) :=
 match Kc ld st op with
 | some q=>bif ld q.1 then some q.2.1 else none
 | none=>AdY st op
structure Fl where
 p:Bool
 l:Bool
 s:Option Nat
 t:Option (List Nat)
def esc : Option Nat->Option (List Nat)->Bool
 | some id,some ids=>!(ids.any (Nat.beq id))
 | _,_=>false
def Yz (f g:Fl):Bool:=(g.p&&f.l&&!(esc f.s g.t))||(g.l&&f.p&&!(esc g.s f.t))
def Res.flag (r:Res)(l:Bool)(s:Option Nat)(t:Option (List Nat)):Fl:=⟨r.put.isSome,l,s,t⟩
def Jb (dr:Bool)(ops:Array Oper)(fl:List Fl)(k:Nat)(g:Fl):Bool:=!dr||(List.range k).all fun s =>
 match fl[s]? with
 | some f=>!(Yz f g)||Jf (Region.before ops) k s
 | none=>false
def LJ (T:TypeId->TE)(O:Nat->Orc)(dr:Bool)(ops:Array Oper):Nat->List Oper->St->List Bool->List Fl->(St->Prop)->Prop
 | _,[],st,_,_,K=>K st
 | k,o::rest,st,pcs,fl,K =>
  match K7 ops st pcs o with
  | none=>False
  | some pc =>
   bif Jb dr ops fl k ((vop T (O k) st o.op).flag (Dr st o.op) (CG st o.op) (ES (O k).lend st o.op)) then
    match o.guard,(vop T (O k) st o.op).new,(vop T (O k) st o.op).put with
    | none,_,_=>Adb (vop T (O k) st o.op).chk (LJ T O dr ops (k+1) rest (st.after o (vop T (O k) st o.op)) (pcs++[pc]) (fl++[(vop T (O k) st o.op).flag (Dr st o.op) (CG st o.op) (ES (O k).lend st o.op)]) K)
    | some _,[],none=>Qr pc (vop T (O k) st o.op).chk (LJ T O dr ops (k+1) rest (st.after o (vop T (O k) st o.op)) (pcs++[pc]) (fl++[(vop T (O k) st o.op).flag (Dr st o.op) (CG st o.op) (ES (O k).lend st o.op)]) K)
    | _,_,_=>False
   else False
theorem JP {K:Prop}:∀ {l:List Prop},Adb l K->(∀ p∈l,p)/\K
 | [],h=>⟨fun p hp=>by simp at hp,h⟩
 | q::l,h=>by
  obtain⟨h1,h2⟩:=JP h.2
  refine⟨fun p hp=>?_,h2⟩
  rcases AlQ.1 hp with rfl | hp
  ·exact h.1
  ·exact h1 p hp
theorem IV {pc:Bool}{K:Prop}:∀ {l:List Prop},Qr pc l K->(pc=true->∀ p∈l,p)/\K
 | [],h=>⟨fun _ p hp=>by simp at hp,h⟩
 | q::l,h=>by
  obtain⟨h1,h2⟩:=IV h.2
  refine⟨fun hpc p hp=>?_,h2⟩
  rcases AlQ.1 hp with rfl | hp
  ·exact h.1 hpc
  ·exact h1 hpc p hp
section
variable (T : TypeId->TE) (O:Nat->Orc) (ops:Array Oper) (st0:St)
def AN : Nat->St × List Bool
 | 0=>(st0,[])
 | i+1 =>
  match ops[i]? with
  | none=>AN i
  | some o=>((AN i).1.after o (vop T (O i) (AN i).1 o.op),(AN i).2++[(K7 ops (AN i).1 (AN i).2 o).getD false])
def rPc (i:Nat):Bool :=
 match ops[i]? with
 | none=>false
 | some o=>(K7 ops (AN T O ops st0 i).1 (AN T O ops st0 i).2 o).getD false
def rR (i:Nat):Res :=
 match ops[i]? with
 | none=>.bad
 | some o=>vop T (O i) (AN T O ops st0 i).1 o.op
def rL (i:Nat):Bool :=
 match ops[i]? with
 | none=>false
 | some o=>Dr (AN T O ops st0 i).1 o.op
def rSo (i:Nat):Option Nat :=
 match ops[i]? with
 | none=>none
 | some o=>CG (AN T O ops st0 i).1 o.op
def rTc (i:Nat):Option (List Nat) :=
 match ops[i]? with
 | none=>none
 | some o=>ES (O i).lend (AN T O ops st0 i).1 o.op
def rFl (i:Nat):Fl:=(rR T O ops st0 i).flag (rL T O ops st0 i) (rSo T O ops st0 i) (rTc T O ops st0 i)
def rF (i:Nat):List Fl:=(List.range i).map fun j=>rFl T O ops st0 j
end
section
variable {P : Program} {T:TypeId->TE} {O:Nat->Orc} {ops:Array Oper} {st0:St}
theorem H9 {i:Nat}{o:Oper}(ho:ops[i]?=some o):(AN T O ops st0 (i+1)).1=(AN T O ops st0 i).1.after o (rR T O ops st0 i)/\(AN T O ops st0 (i+1)).2=(AN T O ops st0 i).2++[rPc T O ops st0 i]:=by
 simp only[AN,rR,rPc,ho]
 exact⟨trivial,trivial⟩
theorem UI : ∀ (i:Nat),i<=ops.size->(AN T O ops st0 i).2.length=i/\∀ k,k<i->(AN T O ops st0 i).2[k]?=some (rPc T O ops st0 k)
 | 0,_=>⟨rfl,fun k hk=>by omega⟩
 | i+1,hi=>by
  obtain⟨h1,h2⟩:=UI i (by omega)
  have ho:ops[i]?=some (ops[i]'(by omega)):=by simp[show i<ops.size by omega]
  obtain⟨_,e⟩:=H9 (T:=T) (O:=O) (st0:=st0) ho
  rw[e]
  refine⟨by simp[h1],fun k hk=>?_⟩
  by_cases hki:k<i
  ·rw[Ale (by omega)];exact h2 k hki
  ·obtain rfl:k=i:=by omega
   rw[All (by omega)];simp[h1]
structure Hq (dr:Bool) (T:TypeId->TE) (O:Nat->Orc) (ops:Array Oper) (st0:St) (i:Nat) (o:Oper):Prop where
 pc:K7 ops (AN T O ops st0 i).1 (AN T O ops st0 i).2 o=some (rPc T O ops st0 i)
 chk:rPc T O ops st0 i=true->∀ p∈(rR T O ops st0 i).chk,p
 plain:o.guard≠none->(rR T O ops st0 i).new=[]/\(rR T O ops st0 i).put=none
 ord:dr=true->∀ s,s<i->Yz (rFl T O ops st0 s) (rFl T O ops st0 i)=true->Jf (Region.before ops) i s=true
theorem H3 {dr:Bool}{K:St->Prop}:∀ (l:List Oper) (i:Nat),l=ops.toList.drop i->i<=ops.size->LJ T O dr ops i l (AN T O ops st0 i).1 (AN T O ops st0 i).2 (rF T O ops st0 i) K ->
  (∀ j o,i<=j->ops[j]?=some o->Hq dr T O ops st0 j o)/\K (AN T O ops st0 ops.size).1
 | [],i,hl,hi,h=>by
  have hlen:=congrArg List.length hl
  simp at hlen
  obtain rfl:i=ops.size:=by omega
  refine⟨fun j o hj ho=>?_,h⟩
  have:=(Ak8.1 ho).1
  omega
 | o::rest,i,hl,hi,h=>by
  have hlen:=congrArg List.length hl
  simp at hlen
  have hi':i<ops.size:=by omega
  have ho:ops[i]?=some o:=by
   have:=congrArg (·[0]?) hl
   simp only[Ala,Alx,Al7]at this
   simpa using this.symm
  have hrest:rest=ops.toList.drop (i+1):=by
   have:=congrArg List.tail hl
   simpa using this
  obtain⟨e1,e2⟩:=H9 (T:=T) (O:=O) (st0:=st0) ho
  simp only[LJ]at h
  split at h
  ·exact h.elim
  ·rename_i pc hpc
   have hp:rPc T O ops st0 i=pc:=by simp only[rPc,ho,hpc,Amm]
   have hr:rR T O ops st0 i=vop T (O i) (AN T O ops st0 i).1 o.op:=by simp only[rR,ho]
   have hL:(rR T O ops st0 i).flag (Dr (AN T O ops st0 i).1 o.op) (CG (AN T O ops st0 i).1 o.op) (ES (O i).lend (AN T O ops st0 i).1 o.op)=rFl T O ops st0 i:=by simp only[rFl,rL,rSo,rTc,ho]
   rw[← hr,hL]at h
   have eF:rF T O ops st0 i++[rFl T O ops st0 i]=rF T O ops st0 (i+1):=by
    unfold rF
    rw[List.range_succ,AmT]
    rfl
   cases hpu:Jb dr ops (rF T O ops st0 i) i (rFl T O ops st0 i) with
   | false=>rw[hpu]at h;exact h.elim
   | true =>
   rw[hpu]at h
   simp only[Ak4]at h
   have hord:dr=true->∀ s,s<i->Yz (rFl T O ops st0 s) (rFl T O ops st0 i)=true->Jf (Region.before ops) i s=true:=by
    intro hdr s hs hn
    unfold Jb at hpu
    rw[hdr,AmL,Ana]at hpu
    have hx:=AlF.1 hpu s (AlP.2 hs)
    have hf:(rF T O ops st0 i)[s]?=some (rFl T O ops st0 s):=by
     unfold rF
     rw[Alv,List.getElem?_range hs];rfl
    rw[hf]at hx
    simp only[hn]at hx
    simpa using hx
   have key:Hq dr T O ops st0 i o/\LJ T O dr ops (i+1) rest ((AN T O ops st0 i).1.after o (rR T O ops st0 i)) ((AN T O ops st0 i).2++[pc]) (rF T O ops st0 (i+1)) K:=by
    rw[eF]at h
    split at h
    ·rename_i hg
     obtain⟨h1,h2⟩:=JP h
     exact⟨⟨by rw[hpc,hp],fun _=>h1,fun hn=>absurd hg hn,hord⟩,h2⟩
    ·rename_i hg hn hp2
     obtain⟨h1,h2⟩:=IV h
     exact⟨⟨by rw[hpc,hp],fun hq=>h1 (by rw[← hp];exact hq),fun _=>⟨hn,hp2⟩,hord⟩,h2⟩
    ·exact h.elim
   obtain⟨hg,hx⟩:=key
   rw[← hp,← e1,← e2]at hx
   obtain⟨h3,h4⟩:=H3 rest (i+1) hrest hi' hx
   refine⟨fun j oj hj hoj=>?_,h4⟩
   by_cases hji:j=i
   ·subst hji
    rw[ho]at hoj
    simp only[Ak1]at hoj
    subst hoj
    exact hg
   ·exact h3 j oj (by omega) hoj
theorem Z7 (st:St)(o:Oper)(r:Res)(t:Nat):(st.after o r).t t=if o.dst=some t then r.val else st.t t:=by
 have h0:∀ (s:St) (d:Option Nat),(s.put d r.val).t t=if d=some t then r.val else s.t t:=by
  intro s d
  cases d with
  | none=>simp[St.put]
  | some d =>
   simp only[St.put]
   cases hq:Nat.beq t d with
   | true=>have:=Ak7 hq;subst this;simp
   | false =>
    have hne:d≠t:=by rintro rfl;simp at hq
    simp[hne]
 unfold St.after
 rw[h0]
theorem Mb {t:Nat}:∀ (i:Nat),i<=ops.size->(∀ j o,j<i->ops[j]?=some o->o.dst≠some t)->(AN T O ops st0 i).1.t t=st0.t t
 | 0,_,_=>rfl
 | i+1,hi,h=>by
  have ho:ops[i]?=some (ops[i]'(by omega)):=by simp[show i<ops.size by omega]
  rw[(H9 ho).1,Z7,Alg (h i _ (by omega) ho)]
  exact Mb i (by omega) fun j o hj=>h j o (by omega)
theorem Jw {t j:Nat}{oj:Oper}(hoj:ops[j]?=some oj)(hd:oj.dst=some t):∀ (i:Nat),i<=ops.size->j<i->(∀ k o,k<i->k≠j->ops[k]?=some o->o.dst≠some t)->(AN T O ops st0 i).1.t t=(rR T O ops st0 j).val
 | 0,_,hj,_=>by omega
 | i+1,hi,hj,h=>by
  have ho:ops[i]?=some (ops[i]'(by omega)):=by simp[show i<ops.size by omega]
  rw[(H9 ho).1,Z7]
  by_cases hji:j=i
  ·subst hji
   rw[ho]at hoj
   simp only[Ak1]at hoj
   rw[hoj,Alw hd]
  ·rw[Alg (h i _ (by omega) (by omega) ho)]
   exact Jw hoj hd i (by omega) (by omega) fun k o hk=>h k o (by omega)
end
end
section
def MA (ops:Array Oper):Nat->Nat->Nat->Bool
 | 0,_,_=>false
 | f+1,i,j =>
  match(ops[j]?).bind (·.guard) with
  | none=>true
  | some g =>
   match(ops[i]?).bind (·.guard) with
   | none=>false
   | some h=>h==g||MA ops f h.1 j
def pickOk (ops:Array Oper)(n i:Nat)(c:Operand)(want:Bool)(j:Nat):Bool :=
 match(ops[j]?).bind (·.guard),c with
 | some (k,w),.tmp t=>w==want&&(ops[k]?).bind (·.dst)==some t&&MA ops n i k&&Nat.blt k i
 | _,_=>false
def rdB (ops:Array Oper)(M:Array Nat)(i:Nat)(ok:Nat->Bool):Operand->Bool
 | .tmp t=>(List.range ops.size).all fun j =>
  match ops[j]? with
  | some oj=>!(oj.dst==some t)||Nat.beq j i||(bif Nat.blt j i then Jf M i j&&ok j else Jf M j i)
  | none=>true
 | _=>true
def Xv (ops:Array Oper)(M:Array Nat)(i:Nat):Op->Bool
 | .pick c x y=>rdB ops M i (MA ops ops.size i) c&&rdB ops M i (fun j=>MA ops ops.size i j||pickOk ops ops.size i c true j) x&&rdB ops M i (fun j=>MA ops ops.size i j||pickOk ops ops.size i c false j) y
 | op=>op.operands.toList.all (rdB ops M i (MA ops ops.size i))
def opB (ops:Array Oper)(M:Array Nat)(N i:Nat)(o:Oper):Bool :=
 (o.after.toList.all fun e=>!Region.binds .any e||Nat.blt e.on i) &&
 ((List.range ops.size).all fun j=>!Jf M i j||o.after.toList.any fun e=>Region.binds .any e&&(Nat.beq e.on j||Jf M e.on j)) &&
 (match o.dst with
  | none=>true
  | some d=>Nat.blt d N&&(List.range ops.size).all fun j=>Nat.beq j i||!((ops[j]?).bind (·.dst)==some d)) &&
 (match o.guard with
  | none=>true
  | some (k,_)=>Nat.blt k i&&Jf M i k) &&
 Xv ops M i o.op
def Mh (ops:Array Oper)(N:Nat):Bool :=
 let M:=Region.before ops
 (List.range ops.size).all fun i =>
  match ops[i]? with
  | some o=>opB ops M N i o
  | none=>false
def Adq (ops:Array Oper)(M:Array Nat)(i:Nat)(ok:Nat->Bool)(y:Operand):Prop :=
 ∀ t,y=.tmp t->∀ (j:Nat) oj,ops[j]?=some oj->oj.dst=some t->j≠i->(j<i->Jf M i j=true/\ok j=true)/\(i<j->Jf M j i=true)
structure KY (ops:Array Oper) (M:Array Nat) (N:Nat):Prop where
 low:∀ (i:Nat) o e,ops[i]?=some o->e∈o.after->Region.binds .any e=true->e.on<i
 mask:∀ (i:Nat) o j,ops[i]?=some o->j<ops.size->Jf M i j=true->∃ e∈o.after,Region.binds .any e=true/\(e.on=j∨Jf M e.on j=true)
 dst:∀ (i:Nat) o d,ops[i]?=some o->o.dst=some d->d<N
 uniq:∀ (i j:Nat) oi oj d,ops[i]?=some oi->ops[j]?=some oj->oi.dst=some d->oj.dst=some d->i=j
 guard:∀ (i:Nat) o k w,ops[i]?=some o->o.guard=some (k,w)->k<i/\Jf M i k=true
 reads:∀ (i:Nat) o,ops[i]?=some o->(∀ c x y,o.op≠.pick c x y)->∀ y∈o.op.operands.toList,Adq ops M i (MA ops ops.size i) y
 pick:∀ (i:Nat) o c x y,ops[i]?=some o->o.op=.pick c x y->Adq ops M i (MA ops ops.size i) c/\Adq ops M i (fun j=>MA ops ops.size i j||pickOk ops ops.size i c true j) x/\Adq ops M i (fun j=>MA ops ops.size i j||pickOk ops ops.size i c false j) y
theorem Zp {ops:Array Oper}{M:Array Nat}{i:Nat}{ok:Nat->Bool}{y:Operand}(h:rdB ops M i ok y=true):Adq ops M i ok y:=by
 rintro t rfl j oj hj hd hne
 simp only[rdB,AlF,AlP]at h
 have:=h j (Ak8.1 hj).1
 rw[hj]at this
 simp only[hd,beq_self_eq_true,AmL,Ana]at this
 have hb:Nat.beq j i=false:=by
  cases hq:Nat.beq j i with
  | true=>exact absurd (Ak7 hq) hne
  | false=>rfl
 rw[hb,Ana]at this
 constructor
 ·intro hlt
  have hl:Nat.blt j i=true:=Nat.ble_eq_true_of_le hlt
  rw[hl,Ak4,Ak2]at this
  exact this
 ·intro hlt
  have hl:Nat.blt j i=false:=by
   cases hq:Nat.blt j i with
   | true=>have:=Alm hq;omega
   | false=>rfl
  rw[hl,Ak0]at this
  exact this
theorem Mg {ops:Array Oper}{N:Nat}(h:Mh ops N=true):KY ops (Region.before ops) N:=by
 have hop:∀ (i:Nat) o,ops[i]?=some o->opB ops (Region.before ops) N i o=true:=by
  intro i o ho
  have:=AlF.1 h i (AlP.2 (Ak8.1 ho).1)
  simp only[ho]at this
  exact this
 have split:∀ (i:Nat) o,ops[i]?=some o->_:=fun i o ho=>by
  have:=hop i o ho
  unfold opB at this
  simp only[Ak2]at this
  exact this
 refine⟨?_,?_,?_,?_,?_,?_,?_⟩
 ·intro i o e ho he hb
  obtain⟨⟨⟨⟨h1,_⟩,_⟩,_⟩,_⟩:=split i o ho
  have:=AlF.1 h1 e (by simpa using he)
  rw[hb]at this
  exact Alm (by simpa[Nat.blt] using this)
 ·intro i o j ho hj hb
  obtain⟨⟨⟨⟨_,h1⟩,_⟩,_⟩,_⟩:=split i o ho
  have:=AlF.1 h1 j (AlP.2 hj)
  rw[hb,AmL,Ana,List.any_eq_true]at this
  obtain⟨e,he,hq⟩:=this
  rw[Ak2,Amd]at hq
  exact⟨e,by simpa using he,hq.1,hq.2.imp Ak7 id⟩
 ·intro i o d ho hd
  obtain⟨⟨⟨⟨_,_⟩,h1⟩,_⟩,_⟩:=split i o ho
  rw[hd]at h1
  simp only[Ak2]at h1
  exact Alm h1.1
 ·intro i j oi oj d hi hj hdi hdj
  obtain⟨⟨⟨⟨_,_⟩,h1⟩,_⟩,_⟩:=split i oi hi
  rw[hdi]at h1
  simp only[Ak2]at h1
  have:=AlF.1 h1.2 j (AlP.2 (Ak8.1 hj).1)
  rw[hj,Amt,hdj]at this
  simp only[beq_self_eq_true,AmL,Bool.or_false]at this
  exact(Ak7 this).symm
 ·intro i o k w ho hg
  obtain⟨⟨⟨⟨_,_⟩,_⟩,h1⟩,_⟩:=split i o ho
  rw[hg]at h1
  simp only[Ak2]at h1
  exact⟨Alm h1.1,h1.2⟩
 ·intro i o ho hnp y hy
  obtain⟨⟨⟨⟨_,_⟩,_⟩,_⟩,h1⟩:=split i o ho
  unfold Xv at h1
  split at h1
  ·rename_i c x y' e;exact absurd e (hnp c x y')
  ·exact Zp (AlF.1 h1 y hy)
 ·intro i o c x y ho hp
  obtain⟨⟨⟨⟨_,_⟩,_⟩,_⟩,h1⟩:=split i o ho
  rw[hp]at h1
  simp only[Xv,Ak2]at h1
  exact⟨Zp h1.1.1,Zp h1.1.2,Zp h1.2⟩
section
variable {ops : Array Oper} {M:Array Nat} {N:Nat}
def NJ (ops:Array Oper)(D:Nat->Bool):Prop:=∀ (i:Nat) o e,ops[i]?=some o->D i=true->e∈o.after->Region.binds .any e=true->D e.on=true
theorem DC (hR:KY ops M N){D:Nat->Bool}(hD:NJ ops D):∀ (i:Nat) o (j:Nat),ops[i]?=some o->(∀ e∈o.after,Region.binds .any e=true->D e.on=true)->j<ops.size->Jf M i j=true->D j=true:=by
 intro i
 induction i using Nat.strongRecOn with
 | _ i ih =>
  intro o j ho hdeps hj hb
  obtain⟨e,he,hbd,hq⟩:=hR.mask i o j ho hj hb
  have hDe:=hdeps e he hbd
  rcases hq with hq | hq
  ·rw[← hq];exact hDe
  ·have hlt:=hR.low i o e ho he hbd
   have hil:=(Ak8.1 ho).1
   have hoe:ops[e.on]?=some (ops[e.on]'(by omega)):=by simp[show e.on<ops.size by omega]
   exact ih e.on hlt _ j hoe (fun e' he' hb'=>hD e.on _ e' hoe hDe he' hb') hj hq
end
end
section
section
variable {dr : Bool} {P:Program} {T:TypeId->TE} {O:Nat->Orc} {ops:Array Oper} {st0:St} {M:Array Nat} {N:Nat} {E:AF} {w0:World} {φ0:Phi}
theorem St.put_nx (s:St)(d:Option Nat)(x:VV):(s.put d x).nx=s.nx:=by cases d<;>rfl
theorem St.put_H (s:St)(d:Option Nat)(x:VV):(s.put d x).H=s.H:=by cases d<;>rfl
theorem Gu {i:Nat}{o:Oper}(ho:ops[i]?=some o):(AN T O ops st0 (i+1)).1.nx=(AN T O ops st0 i).1.nx+(rR T O ops st0 i).new.length /\
  (AN T O ops st0 (i+1)).1.H=Jh ((rR T O ops st0 i).base (AN T O ops st0 i).1) (AN T O ops st0 i).1.nx (rR T O ops st0 i).new:=by
 rw[(H9 (T:=T) (O:=O) (st0:=st0) ho).1]
 unfold St.after
 rw[St.put_nx,St.put_H]
 exact⟨rfl,rfl⟩
theorem Hj (i m:Nat)(him:i<=m)(hm:m<=ops.size):(AN T O ops st0 i).1.nx<=(AN T O ops st0 m).1.nx:=by
 induction m with
 | zero=>(obtain rfl:i=0:=(by omega));exact Ak6 _
 | succ m ih =>
  by_cases hi:i=m+1
  ·subst hi;exact Ak6 _
  ·have h1:=ih (by omega) (by omega)
   have ho:ops[m]?=some (ops[m]'(by omega)):=by simp[show m<ops.size by omega]
   rw[(Gu (T:=T) (O:=O) (st0:=st0) ho).1]
   omega
theorem Kp (i m:Nat)(him:i<=m)(hm:m<=ops.size)(hp:∀ s o,i<=s->s<m->ops[s]?=some o->(rR T O ops st0 s).put=none) :
  ∀ id,id<(AN T O ops st0 i).1.nx->(AN T O ops st0 m).1.H id=(AN T O ops st0 i).1.H id:=by
 induction m with
 | zero=>(obtain rfl:i=0:=(by omega));exact fun _ _=>rfl
 | succ m ih =>
  by_cases hi:i=m+1
  ·subst hi;exact fun _ _=>rfl
  ·intro id hid
   have h2:=ih (by omega) (by omega) (fun s o hs1 hs2=>hp s o hs1 (by omega)) id hid
   have hnx:=Hj (T:=T) (O:=O) (ops:=ops) (st0:=st0) i m (by omega) (by omega)
   have ho:ops[m]?=some (ops[m]'(by omega)):=by simp[show m<ops.size by omega]
   rw[(Gu (T:=T) (O:=O) (st0:=st0) ho).2,J8 (.inl (by omega))]
   unfold Res.base
   rw[hp m _ (by omega) (by omega) ho]
   exact h2
theorem AeC {i j:Nat}{o:Oper}{ob:Ob}(ho:ops[i]?=some o)(hn:(rR T O ops st0 i).new[j]?=some ob) :
  (AN T O ops st0 (i+1)).1.H ((AN T O ops st0 i).1.nx+j)=ob:=by
 rw[(Gu (T:=T) (O:=O) (st0:=st0) ho).2]
 exact Z8 hn
def Aha (D:Nat):Deferred:={ target:=.collected D,args:=#[] }
def QS (E:AF)(ds:List Deferred)(w:World):Prop:=E.lo<=w.heap.size/\∃ Ds:List Nat,ds=Ds.map Aha/\Ds.Nodup/\∀ D,D∈Ds->w.heap[D]?=some (.deferred (some []))/\E.fz D/\E.br D/\D ∉ DX/\E.lo<=D
theorem QS.nil {E:AF}{w:World}(h:E.lo<=w.heap.size):QS E [] w:=⟨h,[],rfl,List.nodup_nil,fun _ h=>by cases h⟩
theorem QS.of {E E':AF}{ds:List Deferred}{w w':World}(h:QS E ds w)(hs:w.heap.size<=w'.heap.size)(hb:∀ k,k<w.heap.size->E.fz k->w'.heap[k]?=w.heap[k]?)(h1:∀ k,E.fz k->E'.fz k)(h2:∀ k,E.br k->E'.br k)(hl:E'.lo=E.lo):QS E' ds w':=by
 obtain⟨h0,Ds,e,hn,h⟩:=h
 refine⟨by omega,Ds,e,hn,fun D hD=>?_⟩
 obtain⟨a1,a2,a3,a4,a5⟩:=h D hD
 exact⟨(hb D (Ak8.1 a1).1 a2).trans a1,h1 _ a2,h2 _ a3,a4,by omega⟩
theorem QS.ext {E:AF}{ds:List Deferred}{w w':World}{φ φ':Phi}(h:QS E ds w)(hf:∀ k,Own φ k->¬ E.fz k)(e:Ext w φ w' φ'):QS E ds w' :=
 h.of e.size (fun k hk hz=>e.block k hk fun ho=>hf k ho hz) (fun _ h=>h) (fun _ h=>h) rfl
structure RI (P:Program) (T:TypeId->TE) (O:Nat->Orc) (ops:Array Oper) (st0:St) (N:Nat) (E:AF) (w0:World) (φ0:Phi) (D:Nat->Bool) (φ:Phi) (a:Act) (w:World):Prop where
 sz:a.tmps.size=N
 df:a.defers=E.ds/\∀ w φ,Ext w0 φ0 w φ->QS E E.ds w
 ext:Ext w0 φ0 w φ
 old:Old E φ w
 out:∀ t,(∀ (i:Nat) o,ops[i]?=some o->D i=true->o.dst≠some t)->V w (E.up φ) (some φ) (st0.t t) (a.tmps.getD t undef)
 inn:∀ (i:Nat) o t,ops[i]?=some o->D i=true->o.dst=some t->(rPc T O ops st0 i=true->V w (E.up φ) (some φ) (rR T O ops st0 i).val (a.tmps.getD t undef))/\(rPc T O ops st0 i=false->a.tmps.getD t undef=undef)
 al:∀ (i:Nat) o,ops[i]?=some o->D i=false->∀ j,j<(rR T O ops st0 i).new.length->φ ((AN T O ops st0 i).1.nx+j)=none
 lv:∀ id,id<st0.nx->φ id≠none
 nw:∀ (i:Nat) o,ops[i]?=some o->D i=true->∀ j,j<(rR T O ops st0 i).new.length->φ ((AN T O ops st0 i).1.nx+j)≠none
 st:∃ m,m<=ops.size/\(∀ (s:Nat) o,ops[s]?=some o->(rR T O ops st0 s).put≠none->(D s=true ↔ s<m))/\(m<ops.size->(rR T O ops st0 m).put≠none) /\
  HRel E (AN T O ops st0 m).1.H φ w/\∀ id,(AN T O ops st0 m).1.nx<=id->φ id=none
theorem Mi (a:Act)(d:Option Nat)(v:Value)(t:Nat)(hd:∀ k,d=some k->k<a.tmps.size):(a.put d v).tmps.getD t undef=if d=some t then v else a.tmps.getD t undef:=by
 cases d with
 | none=>simp[Act.put]
 | some d =>
  have:=hd d rfl
  simp only[Act.put,AlJ,Ak1]
  by_cases h:d=t
  ·subst h;simp[this]
  ·rw[AmH h,Alg h]
theorem NS {op:Op}{st:St}(h:Dr st op=false):Lo op=false∨∃ t a cs,op=.load t a/\st.val a=.tp cs:=by
 unfold Dr at h
 cases hl:Lo op with
 | false=>exact .inl rfl
 | true =>
  rw[hl]at h
  have h':tpB st op=true:=by simpa using h
  unfold tpB at h'
  split at h'
  ·rename_i t a
   split at h'
   ·rename_i cs hv;exact .inr ⟨t,a,cs,rfl,hv⟩
   ·cases h'
  ·cases h'
theorem Xx {O:Orc}{op:Op}{st:St}(h:Lo op=false):(vop T O st op).new=[]/\(vop T O st op).put=none:=by
 cases op<;>first | exact⟨rfl,rfl⟩ | cases h | skip
 case slice t x lo hi mx=>cases mx<;>exact⟨rfl,rfl⟩
 case call c =>
  simp only[vop,Lo]at h ⊢
  cases hc:c.callee with
  | value f=>rw[hc]at h;simp at h
  | invoke r n=>exact⟨rfl,rfl⟩
  | builtin b=>cases b<;>first | exact⟨rfl,rfl⟩ | (rw[hc]at h;simp at h)
theorem RH {O:Orc}{op:Op}{st:St}(h:Dr st op=false):(vop T O st op).new=[]/\(vop T O st op).put=none:=by
 rcases NS h with h | ⟨t,a,cs,rfl,_⟩
 ·exact Xx h
 ·exact⟨rfl,rfl⟩
theorem Ahb {O:Orc}{op:Op}{st:St}(h:(vop T O st op).new.length≠0∨(vop T O st op).put≠none):Dr st op=true:=by
 cases hq:Dr st op with
 | true=>rfl
 | false =>
  obtain⟨h1,h2⟩:=RH (T:=T) (O:=O) (st:=st) hq
  rw[h1,h2]at h
  simp at h
theorem AeL {O:Orc}{op:Op}{st:St}(h:Lo op=false)(H:Nat->Ob):vop T O { st with H:=H } op=vop T O st op:=by
 cases op<;>first | rfl | cases h | skip
 case slice t x lo hi mx=>cases mx<;>rfl
 case call c =>
  simp only[vop,Lo]at h ⊢
  cases hc:c.callee with
  | value f=>rw[hc]at h;simp at h
  | invoke r n=>rfl
  | builtin b=>cases b<;>first | rfl | (rw[hc]at h;simp at h)
theorem AgW {O:Orc}{op:Op}{st:St}(h:Dr st op=false)(H:Nat->Ob):vop T O { st with H:=H } op=vop T O st op:=by
 rcases NS h with h | ⟨t,a,cs,rfl,hv⟩
 ·exact AeL h H
 ·have hv':St.val { st with H:=H } a=.tp cs:=by rw[← hv];cases a<;>rfl
  simp only[vop,hv,hv',Jm]
theorem MX {st:St}{op:Op}{id:Nat}(h:CG st op=some id):∃ t a,op=.load t a/\id<st.nx/\((∃ o,st.val a=.bp id o)∨∃ g sz i o,st.val a=.ep id g sz i o):=by
 cases op<;>simp only[CG,reduceCtorEq]at h
 rename_i t a
 split at h
 ·rename_i j o hv
  cases hq:Nat.blt j st.nx with
  | false=>rw[hq]at h;cases h
  | true =>
   rw[hq]at h
   simp only[Ak4,Ak1]at h
   subst h
   exact⟨t,a,rfl,Alm hq,.inl ⟨o,hv⟩⟩
 ·rename_i j g sz i o hv
  cases hq:Nat.blt j st.nx with
  | false=>rw[hq]at h;cases h
  | true =>
   rw[hq]at h
   simp only[Ak4,Ak1]at h
   subst h
   exact⟨t,a,rfl,Alm hq,.inr ⟨g,sz,i,o,hv⟩⟩
 ·cases h
theorem UA {O:Orc}{op:Op}{st:St}{id:Nat}(h:CG st op=some id):(vop T O st op).new=[]/\(vop T O st op).put=none:=by
 obtain⟨t,a,rfl,_⟩:=MX h
 exact⟨rfl,rfl⟩
theorem Ais {O:Orc}{op:Op}{st:St}{id:Nat}(h:CG st op=some id){H:Nat->Ob}(hH:H id=st.H id):vop T O { st with H:=H } op=vop T O st op:=by
 obtain⟨t,a,rfl,_,hv⟩:=MX h
 have e:St.val { st with H:=H } a=st.val a:=by cases a<;>rfl
 rcases hv with⟨o,hv⟩ | ⟨g,sz,i,o,hv⟩
 ·simp only[vop,e,hv,Jm,hH]
 ·simp only[vop,e,hv,Jm,hH]
def NZ (st:St)(op:Op):Bool:=Dr st op&&(CG st op).isNone
theorem Ahm {O:Orc}{op:Op}{st:St}(h:(vop T O st op).new.length≠0∨(vop T O st op).put≠none):NZ st op=true:=by
 unfold NZ
 rw[Ahb h,AlV]
 cases hs:CG st op with
 | none=>rfl
 | some id =>
  obtain⟨h1,h2⟩:=UA (T:=T) (O:=O) hs
  rw[h1,h2]at h
  simp at h
theorem XK (hdr:dr=true)(hG:∀ (j:Nat) o,ops[j]?=some o->Hq dr T O ops st0 j o){i s:Nat}{oi os:Oper}(hi:ops[i]?=some oi)(hp:(rR T O ops st0 i).put≠none)(hs:ops[s]?=some os)(hl:NZ (AN T O ops st0 s).1 os.op=true) :
  (s<i->Jf (Region.before ops) i s=true)/\(i<s->Jf (Region.before ops) s i=true):=by
 unfold NZ at hl
 rw[Ak2,Option.isNone_iff_eq_none]at hl
 have hL:rL T O ops st0 s=true:=by simp only[rL,hs];exact hl.1
 have hS:rSo T O ops st0 s=none:=by simp only[rSo,hs];exact hl.2
 have hP:=Option.isSome_iff_ne_none.2 hp
 refine⟨fun h=>(hG i oi hi).ord hdr s h ?_,fun h=>(hG s os hs).ord hdr i h ?_⟩
 ·simp[Yz,rFl,Res.flag,hP,hL,hS,esc]
 ·simp[Yz,rFl,Res.flag,hP,hL,hS,esc]
theorem UX (hdr:dr=true)(hG:∀ (j:Nat) o,ops[j]?=some o->Hq dr T O ops st0 j o){i s id:Nat}{oi os:Oper}(hi:ops[i]?=some oi)(hp:(rR T O ops st0 i).put≠none)(hs:ops[s]?=some os)(hl:Dr (AN T O ops st0 s).1 os.op=true)(hso:CG (AN T O ops st0 s).1 os.op=some id) :
  esc (some id) (rTc T O ops st0 i)=true∨((s<i->Jf (Region.before ops) i s=true)/\(i<s->Jf (Region.before ops) s i=true)):=by
 have hL:rL T O ops st0 s=true:=by simp only[rL,hs];exact hl
 have hS:rSo T O ops st0 s=some id:=by simp only[rSo,hs];exact hso
 have hP:=Option.isSome_iff_ne_none.2 hp
 cases he:esc (some id) (rTc T O ops st0 i) with
 | true=>exact .inl rfl
 | false =>
  refine .inr ⟨fun h=>(hG i oi hi).ord hdr s h ?_,fun h=>(hG s os hs).ord hdr i h ?_⟩
  ·simp[Yz,rFl,Res.flag,hP,hL,hS,he]
  ·simp[Yz,rFl,Res.flag,hP,hL,hS,he]
theorem T8 {T:TypeId->TE}{O:Orc}{st:St}{op:Op}{q:FuncId × List Nat × List Ob × List VV}(h:Kc O.lend st op=some q) :
  vop T O st op=(DM st (O.lend q.1) q.2.1 (O.run q.1 q.2.2.1 q.2.2.2).1.1 (O.run q.1 q.2.2.1 q.2.2.2).1.2).also (O.run q.1 q.2.2.1 q.2.2.2).2:=by
 cases op<;>simp only[Kc,reduceCtorEq]at h
 rename_i c
 split at h
 ·rename_i f hf
  simp only[vop,hf,H5,h]
 ·cases h
theorem Tn : ∀ {ids:List Nat} {id:Nat},ids.any (Nat.beq id)=false->idx ids id=none
 | [],_,_=>rfl
 | i::is,id,h=>by
  simp only[Am9,Aln]at h
  have hb:Nat.beq i id=false:=by
   cases hq:Nat.beq i id with
   | false=>rfl
   | true =>
    have:=Ak7 hq
    subst this
    have h1:=h.1
    simp at h1
  simp only[idx,hb,Ak0,Tn h.2,Option.map_none]
theorem AdU {i id:Nat}(he:esc (some id) (rTc T O ops st0 i)=true):(rR T O ops st0 i).base (AN T O ops st0 i).1 id=(AN T O ops st0 i).1.H id:=by
 cases ho:ops[i]? with
 | none=>simp only[rTc,ho,esc]at he;cases he
 | some o =>
  simp only[rTc,ho]at he
  simp only[rR,ho]
  unfold ES at he
  split at he
  ·rename_i q hq
   cases hld:(O i).lend q.1 with
   | false=>rw[hld]at he;simp[esc]at he
   | true =>
    rw[hld]at he
    simp only[Ak4,esc,Amy]at he
    rw[T8 hq,hld]
    unfold Res.base Res.also DM
    cases hb:Nat.ble q.2.1.length ((O i).run q.1 q.2.2.1 q.2.2.2).1.1.length with
    | false=>rfl
    | true =>
     simp only[Ak4,Tn he]
  ·unfold AdY at he
   split at he
   ·rename_i t a x hop
    split at he
    ·rename_i id' off hv
     have hne:Nat.beq id id'=false:=by
      simp only[esc,Am9,List.any_nil,Bool.or_false,Amy]at he
      exact he
     rw[hop]
     simp only[vop,hv,Hv,Res.base]
     cases (Nat.blt id' (AN T O ops st0 i).1.nx&&(T t).k.known&&Nat.beq ((AN T O ops st0 i).1.val x).cells.length (T t).sz&&((AN T O ops st0 i).1.val x).cells.all VV.one) with
     | false=>rfl
     | true =>
      rw[Ak4]
      cases (AN T O ops st0 i).1.H id' with
      | box cs =>
       cases hb:Nat.ble (off+((AN T O ops st0 i).1.val x).cells.length) cs.length with
       | false=>simp only[hb,Ak0];rfl
       | true=>simp only[hb,Ak4,hne,Ak0]
      | _=>rfl
    ·simp[esc]at he
   ·simp[esc]at he
theorem PP {id:Nat}(i m:Nat)(him:i<=m)(hm:m<=ops.size)(hid:id<(AN T O ops st0 i).1.nx)(hp:∀ s o,i<=s->s<m->ops[s]?=some o->(rR T O ops st0 s).put=none∨esc (some id) (rTc T O ops st0 s)=true) :
  (AN T O ops st0 m).1.H id=(AN T O ops st0 i).1.H id:=by
 induction m with
 | zero=>(obtain rfl:i=0:=(by omega));rfl
 | succ m ih =>
  by_cases hi:i=m+1
  ·subst hi;rfl
  ·have h2:=ih (by omega) (by omega) (fun s o hs1 hs2=>hp s o hs1 (by omega))
   have hnx:=Hj (T:=T) (O:=O) (ops:=ops) (st0:=st0) i m (by omega) (by omega)
   have ho:ops[m]?=some (ops[m]'(by omega)):=by simp[show m<ops.size by omega]
   rw[(Gu (T:=T) (O:=O) (st0:=st0) ho).2,J8 (.inl (by omega))]
   rcases hp m _ (by omega) (by omega) ho with h | h
   ·unfold Res.base
    rw[h]
    exact h2
   ·rw[AdU h];exact h2
end
end
section
section
variable {dr : Bool} {P:Program} {T:TypeId->TE} {O:Nat->Orc} {ops:Array Oper} {st0:St} {M:Array Nat} {N:Nat} {E:AF} {w0:World} {φ0:Phi} {D:Nat->Bool} {φ:Phi} {a:Act} {w:World}
def Ml (D:Nat->Bool)(i:Nat)(j:Nat):Bool:=j==i||D j
theorem D6 {i j:Nat}:Ml D i j=true ↔ j=i∨D j=true:=by simp[Ml]
section
variable (hR : KY ops M N) (hG:∀ (j:Nat) o,ops[j]?=some o->Hq dr T O ops st0 j o)
include hR hG
omit hR in
theorem OI {i:Nat}{o:Oper}(ho:ops[i]?=some o)(hg:o.guard=none):rPc T O ops st0 i=true:=by
 have:=(hG i o ho).pc
 simp only[K7,hg,Ak1]at this
 exact this.symm
theorem OH {i k:Nat}{want:Bool}{o:Oper}(ho:ops[i]?=some o)(hg:o.guard=some (k,want)) :
  ∃ ok d b,ops[k]?=some ok/\ok.dst=some d/\(rR T O ops st0 k).val=.sc (.bool b)/\k<i/\rPc T O ops st0 i=(rPc T O ops st0 k&&(b==want)):=by
 have hgd:=(hG i o ho).pc
 obtain⟨hki,_⟩:=hR.guard i o k want ho hg
 have hi:=(Ak8.1 ho).1
 have hok:ops[k]?=some (ops[k]'(by omega)):=by simp[show k<ops.size by omega]
 have hp:=(UI (T:=T) (O:=O) (ops:=ops) (st0:=st0) i (by omega)).2 k hki
 simp only[K7,hg,hp,hok,Amt]at hgd
 split at hgd
 ·rename_i p d e1 e2
  simp only[Ak1]at e1
  subst e1
  split at hgd
  ·rename_i b hb
   simp only[Ak1]at hgd
   rw[Jw hok e2 i (by omega) hki (fun k' o' _ hne ho' hd'=>hne (hR.uniq k' k o' _ d ho' hok hd' e2))]at hb
   refine⟨_,d,b,hok,e2,?_,hki,hgd.symm⟩
   unfold AfV at hb
   split at hb
   ·rename_i b' e3;simp only[Ak1]at hb;subst hb;exact e3
   ·cases hb
  ·cases hgd
 ·cases hgd
theorem ZT : ∀ (f i j:Nat),i<ops.size->j<ops.size->MA ops f i j=true->rPc T O ops st0 i=true->rPc T O ops st0 j=true
 | 0,_,_,_,_,h,_=>by cases h
 | f+1,i,j,hi,hj,h,hp=>by
  have hoi:ops[i]?=some (ops[i]'hi):=by simp[hi]
  have hoj:ops[j]?=some (ops[j]'hj):=by simp[hj]
  simp only[MA,hoi,hoj,Amt]at h
  split at h
  ·rename_i hg;exact OI hG hoj hg
  ·rename_i g hg
   split at h
   ·cases h
   ·rename_i h0 hg0
    rw[Amd]at h
    obtain⟨k,w1⟩:=h0
    obtain⟨k2,w2⟩:=g
    obtain⟨ok,d,b,h1,h2,h3,h4,h5⟩:=OH hR hG hoi hg0
    rcases h with h | h
    ·have e:(k,w1)=(k2,w2):=by simpa using h
     simp only[AlH]at e
     obtain⟨rfl,rfl⟩:=e
     obtain⟨ok',d',b',h1',h2',h3',h4',h5'⟩:=OH hR hG hoj hg
     rw[h3]at h3'
     simp only[VV.sc.injEq,Value.bool.injEq]at h3'
     subst h3'
     rw[h5',← h5];exact hp
    ·rw[h5,Ak2]at hp
     exact ZT f k j (by omega) hj h hp.1
end
theorem OE (hR:KY ops M N)(hcl:NJ ops D)(h:RI P T O ops st0 N E w0 φ0 D φ a w){i:Nat}{o:Oper}(ho:ops[i]?=some o)(hi:D i=false)(hdeps:∀ e∈o.after,Region.binds .any e=true->D e.on=true)
  {ok:Nat->Bool} {y:Operand} (hrd:Adq ops M i ok y) (hok:∀ j,j<ops.size->ok j=true->rPc T O ops st0 j=true):V w (E.up φ) (some φ) ((AN T O ops st0 i).1.val y) (a.eval y):=by
 have hil:=(Ak8.1 ho).1
 cases y with
 | const v=>exact V.litC v
 | global g=>exact .dead
 | func f=>exact .fn rfl fun j x hx=>by simp at hx
 | tmp t =>
  show V w _ _ ((AN T O ops st0 i).1.t t) (a.tmps.getD t undef)
  by_cases hex:∃ j oj,ops[j]?=some oj/\oj.dst=some t/\j≠i
  ·obtain⟨j,oj,hj,hd,hne⟩:=hex
   have hjl:=(Ak8.1 hj).1
   obtain⟨h1,h2⟩:=hrd t rfl j oj hj hd hne
   rcases AlL j i with hlt | hge
   ·obtain⟨hm,hk⟩:=h1 hlt
    have hDj:=DC hR hcl i o j ho hdeps hjl hm
    rw[Jw hj hd i (by omega) hlt (fun k' o' _ hne' ho' hd'=>hne' (hR.uniq k' j o' oj t ho' hj hd' hd))]
    exact(h.inn j oj t hj hDj hd).1 (hok j hjl hk)
   ·have hgt:i<j:=by omega
    have hm:=h2 hgt
    have hDj:D j=false:=by
     cases hq:D j with
     | false=>rfl
     | true =>
      have:=DC hR hcl j oj i hj (fun e he hb=>hcl j oj e hj hq he hb) hil hm
      rw[hi]at this;cases this
    rw[Mb i (by omega) (fun k' o' hk' ho' hd'=>by have:=hR.uniq k' j o' oj t ho' hj hd' hd;omega)]
    exact h.out t fun k' o' ho' hD' hd'=>by
     have:=hR.uniq k' j o' oj t ho' hj hd' hd
     subst this
     rw[hDj]at hD';cases hD'
  ·have hno:∀ (k':Nat) o',ops[k']?=some o'->o'.dst=some t->k'=i:=fun k' o' ho' hd'=>Alt fun hne=>hex ⟨k',o',ho',hd',hne⟩
   rw[Mb i (by omega) (fun k' o' hk' ho' hd'=>by have:=hno k' o' ho' hd';omega)]
   exact h.out t fun k' o' ho' hD' hd'=>by
    have:=hno k' o' ho' hd'
    subst this
    rw[hi]at hD';cases hD'
theorem AaJ (hR:KY ops M N)(hG:∀ (j:Nat) o,ops[j]?=some o->Hq dr T O ops st0 j o)(hcl:NJ ops D)(h:RI P T O ops st0 N E w0 φ0 D φ a w){i:Nat}{o:Oper}(ho:ops[i]?=some o)
  (hdeps:∀ e∈o.after,Region.binds .any e=true->D e.on=true):Region.wanted o (yielded ops a.tmps)=rPc T O ops st0 i:=by
 have hil:=(Ak8.1 ho).1
 unfold Region.wanted
 cases hg:o.guard with
 | none=>simp only;exact(OI hG ho hg).symm
 | some g =>
  obtain⟨k,want⟩:=g
  obtain⟨ok,d,b,h1,h2,h3,h4,h5⟩:=OH hR hG ho hg
  have hDk:=DC hR hcl i o k ho hdeps (by omega) (hR.guard i o k want ho hg).2
  obtain⟨g1,g2⟩:=h.inn k ok d h1 hDk h2
  have hd:d<a.tmps.size:=by rw[h.sz];exact hR.dst k ok d h1 h2
  have hget:a.tmps[d]?=some (a.tmps.getD d undef):=by simp[Array.getD,hd]
  simp only[yielded,h1,Amt,h2,hget]
  rw[h5]
  cases hp:rPc T O ops st0 k with
  | true =>
   have:=g1 hp
   rw[h3]at this
   rw[this.sc_inv]
   simp only[AlV]
   cases b<;>cases want<;>rfl
  | false =>
   rw[g2 hp]
   rfl
end
end
section
section
variable {dr : Bool} {P:Program} {T:TypeId->TE} {O:Nat->Orc} {ops:Array Oper} {st0:St} {M:Array Nat} {N:Nat} {E:AF} {w0:World} {φ0:Phi} {D:Nat->Bool} {φ:Phi} {a:Act} {w:World}
theorem RI.more (hR:KY ops M N)(h:RI P T O ops st0 N E w0 φ0 D φ a w){i:Nat}{o:Oper}(ho:ops[i]?=some o){φ':Phi}{w':World}{v:Value}(he:Ext w φ w' φ')
  (hv1:rPc T O ops st0 i=true->V w' (E.up φ') (some φ') (rR T O ops st0 i).val v) (hv2:rPc T O ops st0 i=false->v=undef)
  (hphi:∀ id,φ' id≠none ↔ φ id≠none∨((AN T O ops st0 i).1.nx<=id/\id<(AN T O ops st0 i).1.nx+(rR T O ops st0 i).new.length))
  (hst:∃ m,m<=ops.size/\(∀ (s:Nat) o,ops[s]?=some o->(rR T O ops st0 s).put≠none->(Ml D i s=true ↔ s<m))/\(m<ops.size->(rR T O ops st0 m).put≠none) /\
   HRel E (AN T O ops st0 m).1.H φ' w'/\∀ id,(AN T O ops st0 m).1.nx<=id->φ' id=none) :
  RI P T O ops st0 N E w0 φ0 (Ml D i) φ' (a.put o.dst v) w':=by
 have hd:∀ k,o.dst=some k->k<a.tmps.size:=fun k hk=>by rw[h.sz];exact hR.dst i o k ho hk
 refine⟨?_,?_,h.ext.trans he,h.old.ext he,fun t ht=>?_,fun j oj t hj hD hdj=>?_,fun j oj hj hD jj hjj=>?_,fun id hid=>(hphi id).2 (.inl (h.lv id hid)),fun j oj hj hD jj hjj=>?_,hst⟩
 ·rw[← h.sz];cases o.dst<;>simp[Act.put]
 ·exact⟨(by cases o.dst<;>rfl:(a.put o.dst v).defers=a.defers).trans h.df.1,h.df.2⟩
 ·rw[Mi a _ v t hd,Alg (ht i o ho (D6.2 (.inl rfl)))]
  exact(h.out t fun j oj hj hD=>ht j oj hj (D6.2 (.inr hD))).ext he
 ·by_cases hji:j=i
  ·subst hji
   rw[ho]at hj
   simp only[Ak1]at hj
   subst hj
   rw[Mi a _ v t hd,Alw hdj]
   exact⟨hv1,hv2⟩
  ·have hDj:D j=true:=(D6.1 hD).resolve_left hji
   have hne:o.dst≠some t:=fun e=>hji (hR.uniq j i oj o t hj ho hdj e)
   rw[Mi a _ v t hd,Alg hne]
   obtain⟨h1,h2⟩:=h.inn j oj t hj hDj hdj
   exact⟨fun hp=>(h1 hp).ext he,h2⟩
 ·have hne:j≠i:=by rintro rfl;rw[D6.2 (.inl rfl)]at hD;cases hD
  have hDj:D j=false:=by
   cases hq:D j with
   | false=>rfl
   | true=>rw[D6.2 (.inr hq)]at hD;cases hD
  have hjl:=(Ak8.1 hj).1
  have hil:=(Ak8.1 ho).1
  apply Alt
  intro hn
  rcases(hphi _).1 hn with h1 | ⟨h1,h2⟩
  ·exact h1 (h.al j oj hj hDj jj hjj)
  ·rcases AlL j i with hlt | hge
   ·have a1:=(Gu (T:=T) (O:=O) (st0:=st0) hj).1
    have a2:=Hj (T:=T) (O:=O) (ops:=ops) (st0:=st0) (j+1) i (by omega) (by omega)
    omega
   ·have a1:=(Gu (T:=T) (O:=O) (st0:=st0) ho).1
    have a2:=Hj (T:=T) (O:=O) (ops:=ops) (st0:=st0) (i+1) j (by omega) (by omega)
    omega
 ·rcases D6.1 hD with rfl | hDj
  ·exact(hphi _).2 (.inr ⟨by omega,by omega⟩)
  ·exact(hphi _).2 (.inl (h.nw j oj hj hDj jj hjj))
theorem RI.live (h:RI P T O ops st0 N E w0 φ0 D φ a w){i:Nat}(hi:i<=ops.size)(hD:∀ s o,s<i->ops[s]?=some o->NZ (AN T O ops st0 s).1 o.op=true->D s=true):∀ id,id<(AN T O ops st0 i).1.nx->φ id≠none:=by
 induction i with
 | zero=>exact fun id hid=>h.lv id hid
 | succ i ih =>
  intro id hid
  have ho:ops[i]?=some (ops[i]'(by omega)):=by simp[show i<ops.size by omega]
  have e:=(Gu (T:=T) (O:=O) (st0:=st0) ho).1
  rcases AlL id (AN T O ops st0 i).1.nx with hlt | hge
  ·exact ih (by omega) (fun s o hs=>hD s o (by omega)) id hlt
  ·have hl:NZ (AN T O ops st0 i).1 (ops[i]'(by omega)).op=true:=by
    have hr:rR T O ops st0 i=vop T (O i) (AN T O ops st0 i).1 (ops[i]'(by omega)).op:=by simp only[rR,ho]
    refine Ahm (T:=T) (O:=O i) (st:=(AN T O ops st0 i).1) (.inl ?_)
    rw[← hr];omega
   have:=h.nw i _ ho (hD i _ (by omega) ho hl) (id - (AN T O ops st0 i).1.nx) (by omega)
   rw[show(AN T O ops st0 i).1.nx+(id - (AN T O ops st0 i).1.nx)=id by omega]at this
   exact this
theorem Td : ∀ (n k:Nat),k+n=ops.size->∃ m',k<=m'/\m'<=ops.size/\(∀ s,k<=s->s<m'->(rR T O ops st0 s).put=none)/\(m'<ops.size->(rR T O ops st0 m').put≠none)
 | 0,k,hk=>⟨k,Ak6 _,by omega,fun s h1 h2=>by omega,fun h=>by omega⟩
 | n+1,k,hk=>by
  by_cases hq:(rR T O ops st0 k).put=none
  ·obtain⟨m',a1,a2,a3,a4⟩:=Td n (k+1) (by omega)
   refine⟨m',by omega,a2,fun s h1 h2=>?_,a4⟩
   by_cases hsk:s=k
   ·subst hsk;exact hq
   ·exact a3 s (by omega) h2
  ·exact⟨k,Ak6 _,by omega,fun s h1 h2=>by omega,fun _=>hq⟩
theorem RI.step (hT:TOk P T)(hO:∀ i,Jd P (O i))(hR:KY ops (Region.before ops) N)(hG:∀ (j:Nat) o,ops[j]?=some o->Hq dr T O ops st0 j o)(hcl:NJ ops D)(h:RI P T O ops st0 N E w0 φ0 D φ a w){i:Nat}{o:Oper}(ho:ops[i]?=some o)(hi:D i=false)
  (hdeps:∀ e∈o.after,Region.binds .any e=true->D e.on=true) (hsq:dr=false->∀ s,s<ops.size->(D s=true ↔ s<i)) {K:Act->World->Prop} {Q:Exit->Act->World->Prop} (hK:∀ φ' a' w',RI P T O ops st0 N E w0 φ0 (Ml D i) φ' a' w'->K a' w'):wpOp P ops Q i K a w:=by
 have hil:=(Ak8.1 ho).1
 have hwant:=AaJ hR hG hcl h ho hdeps
 have hr:rR T O ops st0 i=vop T (O i) (AN T O ops st0 i).1 o.op:=by simp only[rR,ho]
 unfold wpOp
 simp only[ho]
 rw[hwant]
 obtain⟨m,hm,hput,hmp,hH,hfr⟩:=h.st
 have stay:(rR T O ops st0 i).put=none->∀ (s:Nat) o',ops[s]?=some o'->(rR T O ops st0 s).put≠none->(Ml D i s=true ↔ s<m):=fun hnp s o' hs hp=>by
  rw[D6]
  constructor
  ·rintro(rfl | hD)
   ·exact absurd hnp hp
   ·exact(hput s o' hs hp).1 hD
  ·intro hlt;exact .inr ((hput s o' hs hp).2 hlt)
 have still:(rR T O ops st0 i).new=[]->∀ id,φ id≠none ↔ φ id≠none∨((AN T O ops st0 i).1.nx<=id/\id<(AN T O ops st0 i).1.nx+(rR T O ops st0 i).new.length):=fun hn id=>by
  rw[hn]
  exact⟨.inl,fun h=>h.resolve_right (by simp only[AlX];omega)⟩
 cases hpc:rPc T O ops st0 i with
 | false =>
  simp only[AmI,if_false]
  have hg:o.guard≠none:=fun e=>by rw[OI hG ho e]at hpc;cases hpc
  obtain⟨hnn,hnp⟩:=(hG i o ho).plain hg
  exact hK φ _ _ (h.more hR ho (Ext.refl _ _) (fun e=>by rw[hpc]at e;cases e) (fun _=>rfl) (still hnn) ⟨m,hm,stay hnp,hmp,hH,hfr⟩)
 | true =>
  simp only[if_true]
  refine .inl ?_
  have hchk:=(hG i o ho).chk hpc
  have hreads:∀ (H:Nat->Ob),Af9 w E φ { (AN T O ops st0 i).1 with H:=H } a o.op:=by
   intro H
   have hgi:∀ j,j<ops.size->MA ops ops.size i j=true->rPc T O ops st0 j=true:=fun j hj hg=>ZT hR hG _ i j hil hj hg hpc
   have hval:∀ y,St.val { (AN T O ops st0 i).1 with H:=H } y=(AN T O ops st0 i).1.val y:=by intro y;cases y<;>rfl
   by_cases hpk:∃ c x y,o.op=.pick c x y
   ·obtain⟨c,x,y,e⟩:=hpk
    obtain⟨r1,r2,r3⟩:=hR.pick i o c x y ho e
    rw[e]
    have hc:=OE hR hcl h ho hi hdeps r1 hgi
    have hpick:∀ (want:Bool) j,a.eval c=.bool want->j<ops.size->(MA ops ops.size i j||pickOk ops ops.size i c want j)=true->rPc T O ops st0 j=true:=by
     intro want j hev hj hq
     rw[Amd]at hq
     rcases hq with hq | hq
     ·exact hgi j hj hq
     ·unfold pickOk at hq
      split at hq
      ·rename_i k w' t hgj
       simp only[Ak2]at hq
       obtain⟨⟨⟨q1,q2⟩,q3⟩,q4⟩:=hq
       have hw':w'=want:=by simpa using q1
       subst hw'
       have hoj:ops[j]?=some (ops[j]'hj):=by simp[hj]
       rw[hoj,Amt]at hgj
       obtain⟨ok,d,b,h1,h2,h3,h4,h5⟩:=OH hR hG hoj hgj
       rw[h1,Amt,h2]at q2
       have hdt:d=t:=by simpa using q2
       subst hdt
       have hki:=Alm q4
       have hpk:=hgi k (by omega) q3
       have hv:(AN T O ops st0 i).1.val (.tmp d)=.sc (.bool b):=by
        show(AN T O ops st0 i).1.t d=_
        rw[Jw h1 h2 i (by omega) hki (fun k' o' _ hne' ho' hd'=>hne' (hR.uniq k' k o' ok d ho' h1 hd' h2))]
        exact h3
       rw[hv]at hc
       have hb:=hc.sc_inv
       rw[hev]at hb
       simp only[Value.bool.injEq]at hb
       rw[h5,hpk,hb]
       simp
      ·cases hq
    refine⟨by rw[hval];exact hc,fun hev=>?_,fun hev=>?_⟩
    ·rw[hval];exact OE hR hcl h ho hi hdeps r2 fun j hj hq=>hpick true j hev hj hq
    ·rw[hval];exact OE hR hcl h ho hi hdeps r3 fun j hj hq=>hpick false j hev hj hq
   ·have hnp:∀ c x y,o.op≠.pick c x y:=fun c x y e=>hpk ⟨c,x,y,e⟩
    have hall:∀ y∈o.op.operands.toList,V w (E.up φ) (some φ) (St.val { (AN T O ops st0 i).1 with H:=H } y) (a.eval y):=by
     intro y hy
     rw[hval]
     exact OE hR hcl h ho hi hdeps (hR.reads i o ho hnp y hy) hgi
    cases hop:o.op<;>first | (rw[hop]at hall;exact hall) | exact absurd hop (hnp _ _ _)
  cases hl:Dr (AN T O ops st0 i).1 o.op with
  | false =>
   obtain⟨hnn,hnp⟩:=RH (T:=T) (O:=O i) (st:=(AN T O ops st0 i).1) hl
   rw[← hr]at hnn hnp
   have hvop:vop T (O i) { (AN T O ops st0 i).1 with H:=(AN T O ops st0 m).1.H } o.op=rR T O ops st0 i:=by rw[AgW hl,hr]
   have hok:=WJ (st:={ (AN T O ops st0 i).1 with H:=(AN T O ops st0 m).1.H }) hT (hO i) hH (fun _ _=>rfl) h.old (hreads _) (by rw[hvop];exact hchk)
   rw[hvop]at hok
   rcases hok with⟨_,hq⟩ | ⟨H',h1,_⟩
   ·refine hq (fun j hj=>by rw[hnn]at hj;simp at hj) _ _ fun v w' pls hn hV=>?_
    have hpl:pls=[]:=Alz (by rw[hn.len,hnn];rfl)
    subst hpl
    rw[F6]at hV
    exact hK φ _ _ (h.more hR ho (Ext.of_below hn.below) (fun _=>hV) (fun e=>by rw[hpc]at e;cases e) (still hnn) ⟨m,hm,stay hnp,hmp,hH.below hn.below,hfr⟩)
   ·rw[hnp]at h1;cases h1
  | true =>
  cases hso:CG (AN T O ops st0 i).1 o.op with
  | some id =>
   obtain⟨hnn,hnp⟩:=UA (T:=T) (O:=O i) hso
   rw[← hr]at hnn hnp
   have hid:φ id≠none/\id<(AN T O ops st0 i).1.nx:=by
    obtain⟨t,x,hop,hlt,hv⟩:=MX hso
    refine⟨?_,hlt⟩
    have hx:=hreads (AN T O ops st0 i).1.H
    rw[hop]at hx
    have hx':V w (E.up φ) (some φ) ((AN T O ops st0 i).1.val x) (a.eval x):=hx x (by simp[Op.operands])
    rcases hv with⟨off,hv⟩ | ⟨g,sz,j,off,hv⟩
    ·rw[hv]at hx'
     obtain⟨b,hb,_⟩:=hx'.bp_inv
     rw[hb];simp
    ·rw[hv]at hx'
     obtain⟨c,len,hd,b,hb,_⟩:=hx'.ep_inv
     rw[hb];simp
   have hidm:id<(AN T O ops st0 m).1.nx:=by
    rcases AlL id (AN T O ops st0 m).1.nx with h' | h'
    ·exact h'
    ·exact absurd (hfr id h') hid.1
   have hsame:(AN T O ops st0 m).1.H id=(AN T O ops st0 i).1.H id:=by
    rcases Nat.le_total i m with him | hmi
    ·refine PP i m him hm hid.2 fun s os hs1 hs2 hs=>?_
     by_cases hq:(rR T O ops st0 s).put=none
     ·exact .inl hq
     ·have hDs:=(hput s os hs hq).2 hs2
      have hsi:s≠i:=by rintro rfl;exact hq hnp
      have hsl:=(Ak8.1 hs).1
      cases hdr:dr with
      | false=>have:=(hsq hdr s hsl).1 hDs;omega
      | true =>
       rcases UX hdr hG hs hq ho hl hso with h' | ⟨h',_⟩
       ·exact .inr h'
       ·have hb:=h' (by omega)
        have:=DC hR hcl s os i hs (fun e he hb'=>hcl s os e hs hDs he hb') hil hb
        rw[hi]at this;cases this
    ·refine(PP m i hmi (Nat.le_of_lt hil) hidm fun s os hs1 hs2 hs=>?_).symm
     by_cases hq:(rR T O ops st0 s).put=none
     ·exact .inl hq
     ·have hDs:¬ D s=true:=fun hD=>by have:=(hput s os hs hq).1 hD;omega
      have hsl:=(Ak8.1 hs).1
      cases hdr:dr with
      | false=>exact absurd ((hsq hdr s hsl).2 hs2) hDs
      | true =>
       rcases UX hdr hG hs hq ho hl hso with h' | ⟨_,h'⟩
       ·exact .inr h'
       ·exact absurd (DC hR hcl i o s ho hdeps hsl (h' hs2)) hDs
   have hvop:vop T (O i) { (AN T O ops st0 i).1 with H:=(AN T O ops st0 m).1.H } o.op=rR T O ops st0 i:=by rw[Ais hso hsame,hr]
   have hok:=WJ (st:={ (AN T O ops st0 i).1 with H:=(AN T O ops st0 m).1.H }) hT (hO i) hH (fun _ _=>rfl) h.old (hreads _) (by rw[hvop];exact hchk)
   rw[hvop]at hok
   rcases hok with⟨_,hq⟩ | ⟨H',h1,_⟩
   ·refine hq (fun j hj=>by rw[hnn]at hj;simp at hj) _ _ fun v w' pls hn hV=>?_
    have hpl:pls=[]:=Alz (by rw[hn.len,hnn];rfl)
    subst hpl
    rw[F6]at hV
    exact hK φ _ _ (h.more hR ho (Ext.of_below hn.below) (fun _=>hV) (fun e=>by rw[hpc]at e;cases e) (still hnn) ⟨m,hm,stay hnp,hmp,hH.below hn.below,hfr⟩)
   ·rw[hnp]at h1;cases h1
  | none =>
   have hhd:NZ (AN T O ops st0 i).1 o.op=true:=by unfold NZ;rw[hl,hso];rfl
   have him:i<=m:=by
    rcases AlL m i with hlt | hge
    ·exfalso
     have hml:m<ops.size:=by omega
     have hom:ops[m]?=some (ops[m]'hml):=by simp[hml]
     have hpm:=hmp hml
     have:D m=true:=by
      cases hdr:dr with
      | false=>exact(hsq hdr m hml).2 hlt
      | true=>exact DC hR hcl i o m ho hdeps (by omega) ((XK hdr hG hom hpm ho hhd).2 hlt)
     have:=(hput m _ hom hpm).1 this
     omega
    ·exact hge
   have hnop:(rR T O ops st0 i).put=none->∀ s o',i<=s->s<m->ops[s]?=some o'->(rR T O ops st0 s).put=none:=by
    intro hip s o' hs1 hs2 hs
    apply Alt
    intro hq
    have hDs:=(hput s o' hs hq).2 hs2
    by_cases hsi:s=i
    ·subst hsi;exact hq hip
    ·cases hdr:dr with
     | false=>have:=(hsq hdr s (by omega)).1 hDs;omega
     | true =>
      have hb:=(XK hdr hG hs hq ho hhd).1 (by omega)
      have:=DC hR hcl s o' i hs (fun e he hb'=>hcl s o' e hs hDs he hb') hil hb
      rw[hi]at this;cases this
   have key:∀ {Hc:Nat->Ob},HRel E Hc φ w->(∀ id,id<(AN T O ops st0 i).1.nx->Hc id=(AN T O ops st0 i).1.H id)->_:=fun{Hc} hHc hk =>
    WJ (st:=(AN T O ops st0 i).1) (o:=o) (a:=a) (Hc:=Hc) hT (hO i) hHc hk h.old (hreads _) (by rw[← hr];exact hchk)
   by_cases hip:(rR T O ops st0 i).put=none
   ·have hnop':=hnop hip
    have hkeep:=Kp (T:=T) (O:=O) (st0:=st0) i m him hm hnop'
    have hok:=key hH hkeep
    rw[← hr]at hok
    rcases hok with⟨_,hq⟩ | ⟨H',h1,_⟩
    ·have hal:=h.al i o ho hi
     refine hq hal _ _ fun v w' pls hn hV=>?_
     have hext:=hn.ext hal
     have hphi:∀ id,addP φ (AN T O ops st0 i).1.nx pls id≠none ↔ φ id≠none∨((AN T O ops st0 i).1.nx<=id/\id<(AN T O ops st0 i).1.nx+(rR T O ops st0 i).new.length):=by
      intro id
      rw[← hn.len]
      by_cases hc:(AN T O ops st0 i).1.nx<=id/\id<(AN T O ops st0 i).1.nx+pls.length
      ·refine⟨fun _=>.inr hc,fun _=>?_⟩
       unfold addP
       rw[Alw hc,Ald (by omega)]
       simp
      ·unfold addP
       rw[Alg hc]
       exact⟨.inl,fun h=>h.resolve_right hc⟩
     have him1:i+1<=m:=by
      rcases AlL i m with hlt | hge
      ·exact hlt
      ·exfalso
       obtain rfl:i=m:=by omega
       exact hmp hil hip
     have n4:=Kp (T:=T) (O:=O) (st0:=st0) (i+1) m him1 hm (fun s o' hs1 hs2 hs=>hnop' s o' (by omega) hs2 hs)
     have n5:=Hj (T:=T) (O:=O) (ops:=ops) (st0:=st0) (i+1) m him1 hm
     have n6:=(Gu (T:=T) (O:=O) (st0:=st0) ho).1
     refine hK _ _ _ (h.more hR ho hext (fun _=>hV) (fun e=>by rw[hpc]at e;cases e) hphi ⟨m,hm,stay hip,hmp,hH.news h.old.lt hn hal (fun _ _=>rfl) (fun j ob hj=>?_),fun k hk=>?_⟩)
     ·have hjl:=(Ak3.1 hj).1
      rw[n4 _ (by omega)]
      exact AeC ho hj
     ·rw[DA (.inr (by rw[hn.len];omega))]
      exact hfr k (by omega)
    ·rw[hip]at h1;cases h1
   ·
    have hmi:m=i:=by
     rcases AlL i m with hlt | hge
     ·have:=(hput i o ho hip).2 hlt;rw[hi]at this;cases this
     ·omega
    subst hmi
    have hok:=key hH (fun _ _=>rfl)
    rw[← hr]at hok
    rcases hok with⟨h1,_⟩ | ⟨H',h1,hq⟩
    ·exact absurd h1 hip
    have hlive:=h.live hm (fun s o' hs hos hl'=>by
     cases hdr:dr with
     | false=>exact(hsq hdr s (by omega)).2 hs
     | true =>
      have:=(XK hdr hG ho hip hos hl').1 hs
      exact DC hR hcl m o s ho hdeps (by omega) this)
    obtain⟨m',hm1,hm2,hm3,hm4⟩:∃ m',m<m'/\m'<=ops.size/\(∀ s,m<s->s<m'->(rR T O ops st0 s).put=none)/\(m'<ops.size->(rR T O ops st0 m').put≠none):=by
     obtain⟨m',a1,a2,a3,a4⟩:=Td (T:=T) (O:=O) (ops:=ops) (st0:=st0) (ops.size - (m+1)) (m+1) (by omega)
     exact⟨m',by omega,a2,fun s h1 h2=>a3 s (by omega) h2,a4⟩
    have n4:=Kp (T:=T) (O:=O) (st0:=st0) (m+1) m' hm1 hm2 (fun s o' hs1 hs2 hs=>hm3 s (by omega) hs2)
    have n5:=Hj (T:=T) (O:=O) (ops:=ops) (st0:=st0) (m+1) m' hm1 hm2
    obtain⟨n6,n7⟩:=Gu (T:=T) (O:=O) (st0:=st0) ho
    have hbase:(rR T O ops st0 m).base (AN T O ops st0 m).1=H':=by unfold Res.base;rw[h1]
    rw[hbase]at n7
    refine hq hfr hlive hH _ _ fun v w' φ' g1 g2 g3 g4=>?_
    have hin:∀ k,φ' k≠none->k<(AN T O ops st0 (m+1)).1.nx:=by
     intro k hk
     rcases(g3 k).1 hk with h' | h'
     ·rcases AlL k (AN T O ops st0 m).1.nx with h'' | h''
      ·omega
      ·exact absurd (hfr k h'') h'
     ·omega
    refine hK _ _ _ (h.more hR ho g2 (fun _=>g4) (fun e=>absurd e (by rw[hpc];simp)) g3 ⟨m',hm2,fun s o' hs' hp=>?_,hm4,g1.congr fun k hk=>?_,fun k hk=>?_⟩)
    ·rw[D6]
     constructor
     ·rintro(rfl | hD)
      ·exact hm1
      ·have:=(hput s o' hs' hp).1 hD;omega
     ·intro hlt
      by_cases hsm:s=m
      ·exact .inl hsm
      ·rcases AlL s m with h' | h'
       ·exact .inr ((hput s o' hs' hp).2 h')
       ·exact absurd (hm3 s (by omega) hlt) hp
    ·rw[n4 k (hin k hk),n7]
    ·apply Alt
     intro hk'
     have:=hin k hk'
     omega
end
end
section
structure Rel (N:Nat) (E:AF) (st:St) (φ:Phi) (a:Act) (w:World):Prop where
 sz:a.tmps.size=N
 df:a.defers=E.ds/\QS E E.ds w
 old:Old E φ w
 tm:∀ t,V w (E.up φ) (some φ) (st.t t) (a.tmps.getD t undef)
 hp:HRel E st.H φ w
 fr:∀ id,st.nx<=id->φ id=none
 lv:∀ id,id<st.nx->φ id≠none
def AcM (ops:Array Oper):List Nat:=ops.toList.filterMap fun o=>bif o.guard.isSome then o.dst else none
def clr (ops:Array Oper)(st:St):St :=
 match AcM ops with
 | []=>st
 | l=>{ st with t:=fun i=>bif l.any (Nat.beq i) then .dead else st.t i }
theorem Rel.drew {N:Nat}{E:AF}{st:St}{φ:Phi}{a:Act}{w:World}(h:Rel N E st φ a w):Rel N E st φ a { w with drawn:=w.drawn+1 }/\Ext w φ { w with drawn:=w.drawn+1 } φ:=by
 have he:Ext w φ { w with drawn:=w.drawn+1 } φ:=⟨rfl,rfl,rfl,Ak6 _,fun _ _ _=>rfl,Hr.refl φ,fun _ h=>.inl h⟩
 exact⟨⟨h.sz,⟨h.df.1,h.df.2.ext h.hp.free he⟩,h.old.ext he,fun t=>(h.tm t).ext he,h.hp.same he fun _ _=>rfl,h.fr,h.lv⟩,he⟩
theorem Se {p q:Nat->Bool}(hpq:∀ x,q x=true->p x=true){i:Nat}(hp:p i=true)(hq:q i=false):∀ (l:List Nat),i∈l->l.countP q<l.countP p
 | [],h=>by simp at h
 | x::l,h=>by
  have hle:l.countP q<=l.countP p:=List.countP_mono_left fun x _=>hpq x
  rcases AlQ.1 h with rfl | h
  ·rw[Anh (by simp[hq]),AmU hp];omega
  ·have ih:=Se hpq hp hq l h
   cases hx:q x with
   | true=>rw[AmU hx,AmU (hpq x hx)];omega
   | false =>
    rw[Anh (by simp[hx])]
    cases hx':p x with
    | true=>rw[AmU hx'];omega
    | false=>rw[Anh (by simp[hx'])];exact ih
section
variable {dr : Bool} {P:Program} {T:TypeId->TE} {O:Nat->Orc} {ops:Array Oper} {st0:St} {N:Nat} {E:AF} {w0:World} {φ0:Phi} {M:Array Nat}
theorem RI.start {a:Act}(h:Rel N E st0 φ0 a w0):RI P T O ops st0 N E w0 φ0 (fun _=>false) φ0 a w0:=by
 obtain⟨m,_,a2,a3,a4⟩:=Td (T:=T) (O:=O) (ops:=ops) (st0:=st0) ops.size 0 (by omega)
 have n3:=Hj (T:=T) (O:=O) (ops:=ops) (st0:=st0) 0 m (Alc _) a2
 have n4:=Kp (T:=T) (O:=O) (ops:=ops) (st0:=st0) 0 m (Alc _) a2 (fun s o' hs1 hs2 hs=>a3 s (by omega) hs2)
 refine⟨h.sz,⟨h.df.1,fun _ _ e=>h.df.2.ext h.hp.free e⟩,Ext.refl _ _,h.old,fun t _=>h.tm t,fun i o t _ hD=>by (simp at hD),fun i o ho _ j hj=>?_,h.lv,fun i o _ hD=>by (simp at hD),m,a2,fun s o ho hp=>?_,a4,?_,fun id hid=>h.fr id (Als n3 hid)⟩
 ·have n5:=Hj (T:=T) (O:=O) (ops:=ops) (st0:=st0) 0 i (Alc _) (Nat.le_of_lt (Ak8.1 ho).1)
  exact h.fr _ (Als n5 (AlW _ _))
 ·constructor
  ·intro h;simp at h
  ·intro hlt;exact absurd (a3 s (by omega) hlt) hp
 ·refine h.hp.congr fun k hk=>n4 k ?_
  rcases AlL k st0.nx with h' | h'
  ·exact h'
  ·exact absurd (h.fr k h') hk
theorem RI.finish (hR:KY ops M N)(hG:∀ (j:Nat) o,ops[j]?=some o->Hq dr T O ops st0 j o){D:Nat->Bool}(hD:∀ i,i<ops.size->D i=true){φ:Phi}{a:Act}{w:World}(h:RI P T O ops st0 N E w0 φ0 D φ a w) :
  Rel N E (clr ops (AN T O ops st0 ops.size).1) φ a w:=by
 obtain⟨m,hm,hput,hmp,hH,hfr⟩:=h.st
 have hmn:m=ops.size:=by
  rcases AlL m ops.size with hlt | hge
  ·have ho:ops[m]?=some (ops[m]'hlt):=by simp[hlt]
   have:=(hput m _ ho (hmp hlt)).1 (hD m hlt)
   omega
  ·omega
 subst hmn
 have hclr:(clr ops (AN T O ops st0 ops.size).1).H=(AN T O ops st0 ops.size).1.H/\(clr ops (AN T O ops st0 ops.size).1).nx=(AN T O ops st0 ops.size).1.nx:=by unfold clr;split<;>exact⟨rfl,rfl⟩
 have htm:∀ t,(∀ (i:Nat) o,ops[i]?=some o->o.dst=some t->o.guard=none)->V w (E.up φ) (some φ) ((AN T O ops st0 ops.size).1.t t) (a.tmps.getD t undef):=by
  intro t ht
  by_cases hex:∃ (i:Nat) (o:Oper),ops[i]?=some o/\o.dst=some t
  ·obtain⟨i,o,ho,hd⟩:=hex
   have hil:=(Ak8.1 ho).1
   rw[Jw ho hd _ (Ak6 _) hil (fun k o' _ hne ho' hd'=>hne (hR.uniq k i o' o t ho' ho hd' hd))]
   exact(h.inn i o t ho (hD i hil) hd).1 (OI hG ho (ht i o ho hd))
  ·rw[Mb _ (Ak6 _) (fun i (o:Oper) _ ho hd=>hex ⟨i,o,ho,hd⟩)]
   exact h.out t fun i o ho _ hd=>hex ⟨i,o,ho,hd⟩
 refine⟨h.sz,⟨h.df.1,h.df.2 _ _ h.ext⟩,h.old,fun t=>?_,by rw[hclr.1];exact hH,by rw[hclr.2];exact hfr,by rw[hclr.2];exact h.live (Ak6 _) fun s o hs _ _=>hD s hs⟩
 have hno:(AcM ops).any (Nat.beq t)=false->V w (E.up φ) (some φ) ((AN T O ops st0 ops.size).1.t t) (a.tmps.getD t undef):=by
  intro hno
  refine htm t fun i o ho hd=>?_
  cases hg:o.guard with
  | none=>rfl
  | some g =>
   exfalso
   have hmem:t∈AcM ops:=by
    unfold AcM
    rw[List.mem_filterMap]
    exact⟨o,by have:=Array.mem_of_getElem? ho;simpa using this,by simp[hg,hd]⟩
   have:=List.any_eq_false.1 hno t hmem
   simp at this
 unfold clr
 split
 ·rename_i hl;exact hno (by rw[hl];rfl)
 ·show V w _ _ (bif (AcM ops).any (Nat.beq t) then VV.dead else _) _
  cases hq:(AcM ops).any (Nat.beq t) with
  | true=>exact .dead
  | false=>exact hno hq
theorem Af5 (hdr:dr=true)(hT:TOk P T)(hO:∀ i,Jd P (O i))(hR:KY ops (Region.before ops) N)(hG:∀ (j:Nat) o,ops[j]?=some o->Hq dr T O ops st0 j o){Q:Exit->Act->World->Prop}
  (hQ:∀ D φ a w,(∀ i,i<ops.size->D i=true)->RI P T O ops st0 N E w0 φ0 D φ a w->Q .normal a w) :
  ∀ (fuel:Nat) (listed:Array Bool) (φ:Phi) (a:Act) (w:World),listed.size=ops.size->NJ ops (fun i=>listed.getD i false)->(List.range ops.size).countP (fun i=>!listed.getD i false)<=fuel ->
   RI P T O ops st0 N E w0 φ0 (fun i=>listed.getD i false) φ a w->wpAny P .any ops Q fuel listed a w:=by
 have hnil:∀ (listed:Array Bool),listed.size=ops.size->Region.ready .any ops listed=[]->∀ i,i<ops.size->listed.getD i false=true:=by
  intro listed hs hr i
  induction i using Nat.strongRecOn with
  | _ i ih =>
   intro hi
   cases hq:listed.getD i false with
   | true=>rfl
   | false =>
    exfalso
    have ho:ops[i]?=some (ops[i]'hi):=by simp[hi]
    have hil:i<listed.size:=by omega
    have:i∈Region.ready .any ops listed:=mem_ready.2 ⟨by simp[Array.getD,hil]at hq ⊢;exact hq,_,ho,fun e he hb=>ih e.on (hR.low i _ e ho he hb) (by have:=hR.low i _ e ho he hb;omega)⟩
    rw[hr]at this
    simp at this
 intro fuel
 induction fuel with
 | zero =>
  intro listed φ a w hs hcl hc h
  have hall:∀ i,i<ops.size->listed.getD i false=true:=by
   intro i hi
   have:=List.countP_eq_zero.1 (Nat.le_zero.1 hc) i (AlP.2 hi)
   simpa using this
  refine⟨?_,hQ _ φ a w hall h⟩
  rw[List.eq_nil_iff_forall_not_mem]
  intro j hj
  obtain⟨h0,o,ho,_⟩:=mem_ready.1 hj
  have hjl:j<listed.size:=by rw[hs];exact(Ak8.1 ho).1
  have:=hall j (by omega)
  simp[Array.getD,hjl]at h0 this
  rw[h0]at this
  simp at this
 | succ fuel ih =>
  intro listed φ a w hs hcl hc h
  refine⟨fun hr=>hQ _ φ a w (hnil listed hs hr) h,fun i hi=>?_⟩
  obtain⟨h0,o,ho,hdeps⟩:=mem_ready.1 hi
  have hil:i<ops.size:=(Ak8.1 ho).1
  have hif:listed.getD i false=false:=by
   have:i<listed.size:=by omega
   simp[Array.getD,this]at h0 ⊢;exact h0
  have hplus:(fun j=>(listed.setIfInBounds i true).getD j false)=Ml (fun j=>listed.getD j false) i:=by
   funext j
   simp only[Ml]
   by_cases hji:j=i
   ·subst hji;simp[Array.getD,show j<listed.size by omega]
   ·rw[getD_set_ne false (Ne.symm hji)];simp[hji]
  refine h.step hT hO hR hG hcl ho hif hdeps (fun e=>by rw[hdr]at e;cases e) fun φ' a' w' h'=>ih _ φ' a' w' (by simpa using hs) ?_ ?_ (by rw[hplus];exact h')
  ·rw[hplus]
   intro k ok e hk hD he hb
   rcases D6.1 hD with rfl | hD
   ·rw[ho]at hk
    simp only[Ak1]at hk
    subst hk
    exact D6.2 (.inr (hdeps e he hb))
   ·exact D6.2 (.inr (hcl k ok e hk hD he hb))
  ·have hlt:=Se (p:=fun j=>!listed.getD j false) (q:=fun j=>!(listed.setIfInBounds i true).getD j false) (fun x hx=>by
    have e:(listed.setIfInBounds i true).getD x false=Ml (fun j=>listed.getD j false) i x:=congrFun hplus x
    simp only[e,Ml,Bool.not_or,Ak2]at hx
    exact hx.2) (i:=i) (by simp only[hif,Bool.not_false]) (by
     have e:(listed.setIfInBounds i true).getD i false=Ml (fun j=>listed.getD j false) i i:=congrFun hplus i
     simp only[e,Ml,beq_self_eq_true,Bool.true_or,AmL]) (List.range ops.size) (AlP.2 hil)
   omega
theorem P2 (hT:TOk P T)(hO:∀ i,Jd P (O i))(hR:KY ops (Region.before ops) N)(hG:∀ (j:Nat) o,ops[j]?=some o->Hq dr T O ops st0 j o){Q:Exit->Act->World->Prop}
  (hQ:∀ D φ a w,(∀ i,i<ops.size->D i=true)->RI P T O ops st0 N E w0 φ0 D φ a w->Q .normal a w) :
  ∀ (n k:Nat) (φ:Phi) (a:Act) (w:World),k+n=ops.size->RI P T O ops st0 N E w0 φ0 (fun i=>decide (i<k)) φ a w->wpOps P ops Q (List.range' k n) a w
 | 0,k,φ,a,w,hk,h=>hQ _ φ a w (fun i hi=>by simp;omega) h
 | n+1,k,φ,a,w,hk,h=>by
  rw[List.range'_succ,wpOps_cons]
  have ho:ops[k]?=some (ops[k]'(by omega)):=by simp[show k<ops.size by omega]
  have hcl:NJ ops (fun i=>decide (i<k)):=by
   intro i o e hi hD he hb
   have:=hR.low i o e hi he hb
   simp at hD ⊢;omega
  refine h.step hT hO hR hG hcl ho (by simp) (fun e he hb=>by have:=hR.low k _ e ho he hb;simpa using this) (fun _ s _=>by simp) fun φ' a' w' h'=>P2 hT hO hR hG hQ n (k+1) φ' a' w' (by omega) ?_
  have e:(fun i=>decide (i<k+1))=Ml (fun i=>decide (i<k)) k:=by
   funext i
   simp only[Ml]
   by_cases hik:i=k
   ·subst hik;simp
   ·have:(i<k+1) ↔ i<k:=by omega
    simp[this,hik]
  rw[e];exact h'
theorem AbN (hT:TOk P T)(hO:∀ i,Jd P (O i))(hmx:P.follows .mixedOrders=true)(hB:Mh ops N=true){K:St->Prop}{id:Nat}{draw:Bool}{a:Act}(h:LJ T O draw ops 0 ops.toList st0 [] [] fun st'=>K (clr ops st'))(hrel:Rel N E st0 φ0 a w0) :
  (Code.region id ops draw).wp P (fun e a' w'=>e=.normal/\∃ st' φ',K st'/\Rel N E st' φ' a' w'/\Ext w0 φ0 w' φ') a w0:=by
 have hR:=Mg hB
 obtain⟨hG',hK⟩:=H3 (T:=T) (O:=O) (st0:=st0) ops.toList 0 (by simp) (Alc _) h
 have hG:∀ (j:Nat) o,ops[j]?=some o->Hq draw T O ops st0 j o:=fun j o=>hG' j o (Alc _)
 cases draw with
 | false =>
  refine wp_region ?_
  rw[List.range_eq_range']
  refine P2 hT hO hR hG (fun D φ a w hD hI=>⟨rfl,_,φ,hK,hI.finish hR hG hD,hI.ext⟩) ops.size 0 φ0 a w0 (by omega) ?_
  have e:(fun i=>decide (i<0))=fun _=>false:=by funext i;simp
  rw[e];exact RI.start hrel
 | true =>
  obtain⟨hrel',hext⟩:=hrel.drew
  refine wp_region_any hmx ?_
  refine Af5 rfl hT hO hR hG (w0:={ w0 with drawn:=w0.drawn+1 }) (φ0:=φ0) (fun D φ a w hD hI=>⟨rfl,_,φ,hK,hI.finish hR hG hD,hext.trans hI.ext⟩) ops.size _ φ0 a _ (by simp) ?_ ?_ ?_
  ·intro i o e hi hD
   have h0:(Array.replicate ops.size false).getD i false=false:=by simp[Array.getD]
   exact absurd (h0.symm.trans hD) (by simp)
  ·have:=List.countP_le_length (p:=fun i=>!(Array.replicate ops.size false).getD i false) (l:=List.range ops.size)
   simpa using this
  ·have e:(fun i=>(Array.replicate ops.size false).getD i false)=fun _=>false:=by funext i;simp[Array.getD]
   rw[e];exact RI.start hrel'
end
structure Shp where
 α:Type
 enc:α->List Ob × VV
 lend:Bool:=false
abbrev Shs:=FuncId->Shp
def Shs.ld (Sh:Shs):FuncId->Bool:=fun f=>(Sh f).lend
def GR (ld:FuncId->Bool)(g:Bool):Orc:=⟨ld,fun _ _ _=>(([],.dead),[False]),g⟩
theorem P4 (ld:FuncId->Bool)(g:Bool):(GR ld g).lend=ld:=rfl
def I6 (P:Program)(T:TypeId->TE)(Sh:Shs)(dr:Bool)(ops:Array Oper):Nat->List Oper->St->List Bool->List Fl->(St->Prop)->Prop
 | _,[],st,_,_,K=>K st
 | k,o::rest,st,pcs,fl,K =>
  match K7 ops st pcs o with
  | none=>False
  | some pc =>
   match Kc Sh.ld st o.op,o.guard with
   | some q,none=>∃ y:(Sh q.1).α,Ai P q.1 q.2.2.1 q.2.2.2 ((Sh q.1).enc y).1 ((Sh q.1).enc y).2 /\
     (bif Jb dr ops fl k ((DM st (Sh.ld q.1) q.2.1 ((Sh q.1).enc y).1 ((Sh q.1).enc y).2).flag (Dr st o.op) (CG st o.op) (ES Sh.ld st o.op)) then
      Adb (DM st (Sh.ld q.1) q.2.1 ((Sh q.1).enc y).1 ((Sh q.1).enc y).2).chk
       (I6 P T Sh dr ops (k+1) rest (st.after o (DM st (Sh.ld q.1) q.2.1 ((Sh q.1).enc y).1 ((Sh q.1).enc y).2)) (pcs++[pc]) (fl++[(DM st (Sh.ld q.1) q.2.1 ((Sh q.1).enc y).1 ((Sh q.1).enc y).2).flag (Dr st o.op) (CG st o.op) (ES Sh.ld st o.op)]) K) else False)
   | some q,some _=>∃ y:(Sh q.1).α,(pc=true->Ai P q.1 q.2.2.1 q.2.2.2 ((Sh q.1).enc y).1 ((Sh q.1).enc y).2) /\
     (bif Jb dr ops fl k ((DM st (Sh.ld q.1) q.2.1 ((Sh q.1).enc y).1 ((Sh q.1).enc y).2).flag (Dr st o.op) (CG st o.op) (ES Sh.ld st o.op)) then
     match(DM st (Sh.ld q.1) q.2.1 ((Sh q.1).enc y).1 ((Sh q.1).enc y).2).new,(DM st (Sh.ld q.1) q.2.1 ((Sh q.1).enc y).1 ((Sh q.1).enc y).2).put,(DM st (Sh.ld q.1) q.2.1 ((Sh q.1).enc y).1 ((Sh q.1).enc y).2).chk with
     | [],none,[]=>I6 P T Sh dr ops (k+1) rest (st.after o (DM st (Sh.ld q.1) q.2.1 ((Sh q.1).enc y).1 ((Sh q.1).enc y).2)) (pcs++[pc]) (fl++[(DM st (Sh.ld q.1) q.2.1 ((Sh q.1).enc y).1 ((Sh q.1).enc y).2).flag (Dr st o.op) (CG st o.op) (ES Sh.ld st o.op)]) K
     | _,_,_=>False
     else False)
   | none,g =>
    bif Jb dr ops fl k ((vop T (GR Sh.ld g.isSome) st o.op).flag (Dr st o.op) (CG st o.op) (ES Sh.ld st o.op)) then
     match g,(vop T (GR Sh.ld g.isSome) st o.op).new,(vop T (GR Sh.ld g.isSome) st o.op).put with
     | none,_,_=>Adb (vop T (GR Sh.ld g.isSome) st o.op).chk (I6 P T Sh dr ops (k+1) rest (st.after o (vop T (GR Sh.ld g.isSome) st o.op)) (pcs++[pc]) (fl++[(vop T (GR Sh.ld g.isSome) st o.op).flag (Dr st o.op) (CG st o.op) (ES Sh.ld st o.op)]) K)
     | some _,[],none=>Qr pc (vop T (GR Sh.ld g.isSome) st o.op).chk (I6 P T Sh dr ops (k+1) rest (st.after o (vop T (GR Sh.ld g.isSome) st o.op)) (pcs++[pc]) (fl++[(vop T (GR Sh.ld g.isSome) st o.op).flag (Dr st o.op) (CG st o.op) (ES Sh.ld st o.op)]) K)
     | _,_,_=>False
    else False
theorem Pe {T:TypeId->TE}{O:Orc}{st:St}{op:Op}{q:FuncId × List Nat × List Ob × List VV}(h:Kc O.lend st op=some q) :
  vop T O st op=(DM st (O.lend q.1) q.2.1 (O.run q.1 q.2.2.1 q.2.2.2).1.1 (O.run q.1 q.2.2.1 q.2.2.2).1.2).also (O.run q.1 q.2.2.1 q.2.2.2).2:=by
 cases op<;>simp only[Kc,reduceCtorEq]at h
 rename_i c
 split at h
 ·rename_i f hf
  simp only[vop,hf,H5,h]
 ·cases h
theorem OS {K:Prop}:∀ {l:List Prop},(∀ p∈l,p)->K->Adb l K
 | [],_,hk=>hk
 | p::_,h,hk=>⟨h p (Alb ..),OS (fun q hq=>h q (Alp _ hq)) hk⟩
theorem KG {pc:Bool}{K:Prop}:∀ {l:List Prop},(pc=true->∀ p∈l,p)->K->Qr pc l K
 | [],_,hk=>hk
 | p::_,h,hk=>⟨fun hpc=>h hpc p (Alb ..),KG (fun hpc q hq=>h hpc q (Alp _ hq)) hk⟩
theorem Fj {dr:Bool}{T:TypeId->TE}{O O':Nat->Orc}{ops:Array Oper}{K:St->Prop}:∀ (l:List Oper) (k:Nat) (st:St) (pcs:List Bool) (fl:List Fl),(∀ i,k<=i->O i=O' i)->LJ T O dr ops k l st pcs fl K->LJ T O' dr ops k l st pcs fl K
 | [],_,_,_,_,_,h=>h
 | o::rest,k,st,pcs,fl,he,h=>by
  have e:=he k (Ak6 _)
  simp only[LJ]at h ⊢
  split
  ·rename_i hg;rw[hg]at h;exact h
  ·rename_i pc hg
   rw[hg]at h
   simp only at h
   rw[← e]
   cases hpu:Jb dr ops fl k ((vop T (O k) st o.op).flag (Dr st o.op) (CG st o.op) (ES (O k).lend st o.op)) with
   | false=>rw[hpu]at h;exact h.elim
   | true =>
    rw[hpu]at h
    simp only[Ak4]at h ⊢
    split
    ·rename_i hgd
     rw[hgd]at h
     simp only at h
     obtain⟨h1,h2⟩:=JP h
     exact OS h1 (Fj rest (k+1) _ _ _ (fun i hi=>he i (by omega)) h2)
    ·rename_i gd hgd hn hp
     rw[hgd,hn,hp]at h
     simp only at h
     obtain⟨h1,h2⟩:=IV h
     exact KG h1 (Fj rest (k+1) _ _ _ (fun i hi=>he i (by omega)) h2)
    ·rename_i x1 x2
     split at h
     ·rename_i hgd;exact absurd hgd x1
     ·rename_i gd hgd hn hp;exact absurd hp (x2 gd hgd hn)
     ·exact h.elim
theorem D3 {dr:Bool}{P:Program}{T:TypeId->TE}{Sh:Shs}{ops:Array Oper}{K:St->Prop}:∀ (l:List Oper) (k:Nat) (st:St) (pcs:List Bool) (fl:List Fl),I6 P T Sh dr ops k l st pcs fl K ->
  ∃ O:Nat->Orc,(∀ i,Jd P (O i))/\LJ T O dr ops k l st pcs fl K
 | [],_,_,_,_,h=>⟨fun _=>GR Sh.ld false,fun _ f hs xs h=>(h False (by simp[GR])).elim,h⟩
 | o::rest,k,st,pcs,fl,h=>by
  simp only[I6]at h
  split at h
  ·exact h.elim
  ·rename_i pc hg
   have fin:∀ (Ok:Orc),Jd P Ok->∀ (O':Nat->Orc),(∀ i,Jd P (O' i))->∃ O:Nat->Orc,(∀ i,Jd P (O i))/\O k=Ok/\∀ i,k+1<=i->O' i=O i:=by
    intro Ok h1 O' h2
    refine⟨fun i=>if i=k then Ok else O' i,fun i=>?_,Alw rfl,fun i hi=>(Alg (by omega)).symm⟩
    show Jd P (if i=k then Ok else O' i)
    split
    ·exact h1
    ·exact h2 i
   split at h
   ·rename_i q hq hgd
    obtain⟨y,hy,hk⟩:=h
    cases hpu:Jb dr ops fl k ((DM st (Sh.ld q.1) q.2.1 ((Sh q.1).enc y).1 ((Sh q.1).enc y).2).flag (Dr st o.op) (CG st o.op) (ES Sh.ld st o.op)) with
    | false=>rw[hpu]at hk;exact hk.elim
    | true =>
     rw[hpu]at hk
     simp only[Ak4]at hk
     obtain⟨hc1,hc2⟩:=JP hk
     obtain⟨O',h2,h3⟩:=D3 rest (k+1) _ _ _ hc2
     obtain⟨O,o1,o2,o3⟩:=fin ⟨Sh.ld,fun f hs ys=>((Sh q.1).enc y,[Ai P f hs ys ((Sh q.1).enc y).1 ((Sh q.1).enc y).2]),false⟩ (fun f hs ys hp=>hp _ (Alb ..)) O' h2
     refine⟨O,o1,?_⟩
     have ev:vop T (O k) st o.op=(DM st (Sh.ld q.1) q.2.1 ((Sh q.1).enc y).1 ((Sh q.1).enc y).2).also [Ai P q.1 q.2.2.1 q.2.2.2 ((Sh q.1).enc y).1 ((Sh q.1).enc y).2]:=by
      rw[o2]
      exact Pe (O:=⟨Sh.ld,fun f hs ys=>((Sh q.1).enc y,[Ai P f hs ys ((Sh q.1).enc y).1 ((Sh q.1).enc y).2]),false⟩) hq
     have ep:∀ ps,Jb dr ops fl k (((DM st (Sh.ld q.1) q.2.1 ((Sh q.1).enc y).1 ((Sh q.1).enc y).2).also ps).flag (Dr st o.op) (CG st o.op) (ES Sh.ld st o.op))=true:=fun ps=>hpu
     have el:(O k).lend=Sh.ld:=by rw[o2]
     simp only[LJ,hg,hgd,ev,el,ep,Ak4]
     refine OS ?_ (Fj rest (k+1) _ _ _ o3 h3)
     intro p hp
     rcases AlA.1 hp with hp | hp
     ·exact hc1 p hp
     ·simp only[Aly]at hp;subst hp;exact hy
   ·rename_i q gd hq hgd
    obtain⟨y,hy,hk⟩:=h
    cases hpu:Jb dr ops fl k ((DM st (Sh.ld q.1) q.2.1 ((Sh q.1).enc y).1 ((Sh q.1).enc y).2).flag (Dr st o.op) (CG st o.op) (ES Sh.ld st o.op)) with
    | false=>rw[hpu]at hk;exact hk.elim
    | true =>
    rw[hpu]at hk
    simp only[Ak4]at hk
    split at hk
    ·rename_i e1 e2 e3
     obtain⟨O',h2,h3⟩:=D3 rest (k+1) _ _ _ hk
     obtain⟨O,o1,o2,o3⟩:=fin ⟨Sh.ld,fun f hs ys=>((Sh q.1).enc y,[Ai P f hs ys ((Sh q.1).enc y).1 ((Sh q.1).enc y).2]),false⟩ (fun f hs ys hp=>hp _ (Alb ..)) O' h2
     refine⟨O,o1,?_⟩
     have ev:vop T (O k) st o.op=(DM st (Sh.ld q.1) q.2.1 ((Sh q.1).enc y).1 ((Sh q.1).enc y).2).also [Ai P q.1 q.2.2.1 q.2.2.2 ((Sh q.1).enc y).1 ((Sh q.1).enc y).2]:=by
      rw[o2]
      exact Pe (O:=⟨Sh.ld,fun f hs ys=>((Sh q.1).enc y,[Ai P f hs ys ((Sh q.1).enc y).1 ((Sh q.1).enc y).2]),false⟩) hq
     have ep:∀ ps,Jb dr ops fl k (((DM st (Sh.ld q.1) q.2.1 ((Sh q.1).enc y).1 ((Sh q.1).enc y).2).also ps).flag (Dr st o.op) (CG st o.op) (ES Sh.ld st o.op))=true:=fun ps=>hpu
     have en:∀ ps,((DM st (Sh.ld q.1) q.2.1 ((Sh q.1).enc y).1 ((Sh q.1).enc y).2).also ps).new=[]:=fun _=>e1
     have eu:∀ ps,((DM st (Sh.ld q.1) q.2.1 ((Sh q.1).enc y).1 ((Sh q.1).enc y).2).also ps).put=none:=fun _=>e2
     have el:(O k).lend=Sh.ld:=by rw[o2]
     simp only[LJ,hg,hgd,ev,el,ep,Ak4,en,eu]
     refine KG ?_ (Fj rest (k+1) _ _ _ o3 h3)
     intro hpc p hp
     rcases AlA.1 hp with hp | hp
     ·rw[e3]at hp;simp at hp
     ·simp only[Aly]at hp;subst hp;exact hy hpc
    ·exact hk.elim
   ·rename_i hnt
    have bad:∀ g,Jd P (GR Sh.ld g):=fun g f hs xs h=>(h False (by simp[GR])).elim
    generalize o.guard.isSome=gg at h
    cases hpu:Jb dr ops fl k ((vop T (GR Sh.ld gg) st o.op).flag (Dr st o.op) (CG st o.op) (ES Sh.ld st o.op)) with
    | false=>rw[hpu]at h;exact h.elim
    | true =>
     rw[hpu]at h
     simp only[Ak4]at h
     split at h
     ·rename_i hgd
      obtain⟨h1,h2⟩:=JP h
      obtain⟨O',h3,h4⟩:=D3 rest (k+1) _ _ _ h2
      obtain⟨O,o1,o2,o3⟩:=fin _ (bad gg) O' h3
      refine⟨O,o1,?_⟩
      simp only[LJ,hg,hgd,o2,P4,hpu,Ak4]
      exact OS h1 (Fj rest (k+1) _ _ _ o3 h4)
     ·rename_i gd hgd hn hp
      obtain⟨h1,h2⟩:=IV h
      obtain⟨O',h3,h4⟩:=D3 rest (k+1) _ _ _ h2
      obtain⟨O,o1,o2,o3⟩:=fin _ (bad gg) O' h3
      refine⟨O,o1,?_⟩
      simp only[LJ,hg,hgd,o2,P4,hpu,Ak4,hn,hp]
      exact KG h1 (Fj rest (k+1) _ _ _ o3 h4)
     ·exact h.elim
theorem Xt {P:Program}{T:TypeId->TE}{Sh:Shs}{ops:Array Oper}{st0:St}{N:Nat}{E:AF}{w0:World}{φ0:Phi}(hT:TOk P T)(hmx:P.follows .mixedOrders=true)(hB:Mh ops N=true){K:St->Prop}{id:Nat}{draw:Bool}{a:Act}
  (h:I6 P T Sh draw ops 0 ops.toList st0 [] [] fun st'=>K (clr ops st')) (hrel:Rel N E st0 φ0 a w0) :
  (Code.region id ops draw).wp P (fun e a' w'=>e=.normal/\∃ st' φ',K st'/\Rel N E st' φ' a' w'/\Ext w0 φ0 w' φ') a w0:=by
 obtain⟨O,hO,hx⟩:=D3 ops.toList 0 st0 [] [] h
 exact AbN hT hO hmx hB hx hrel
end
section
structure AF.Le (E E':AF):Prop where
 fz:∀ k,E.fz k->E'.fz k
 br:∀ k,E.br k->E'.br k
 lo:E'.lo=E.lo
theorem AF.Le.refl (E:AF):E.Le E:=⟨fun _ h=>h,fun _ h=>h,rfl⟩
theorem AF.Le.trans {E E' E'':AF}(h:E.Le E')(k:E'.Le E''):E.Le E'':=⟨fun i x=>k.fz i (h.fz i x),fun i x=>k.br i (h.br i x),k.lo.trans h.lo⟩
structure Sat (P:Program) (N b:Nat) (p:List Nat) (c:Code) (K:Exit->St->Prop) (st:St):Prop where
 h:∀ (E:AF) (φ:Phi) (a:Act) (w:World),Rel N E st φ a w->c.wp P (fun e a' w'=>∃ E' st' φ',E.Le E'/\K e st'/\Rel N E' st' φ' a' w'/\Fr b w φ w' φ') a w
def BS (i:Nat):List (Nat × VV)->VV
 | []=>.dead
 | (j,x)::l=>bif Nat.beq i j then x else BS i l
def Aq (l:List (Nat × VV))(hs:List Ob):St:={ t:=fun i=>BS i l,H:=Bm hs,nx:=hs.length }
def M6 (st:St)(b:Nat)(refs:List Nat):List Nat:=PQ st 64 ((List.range b).flatMap (fun i=>(st.H i).refs)++refs) (List.range b)
def RO (st:St)(b:Nat)(ids:List Nat):Bool:=Et st.nx ids&&(List.range b).all fun i =>
 match idx ids i with
 | some j=>Nat.beq j i
 | none=>false
def OO (b:Nat)(keep:List Nat)(st:St):List Nat:=M6 st b (keep.flatMap fun i=>Ja 8 (st.t i))
def okF (b:Nat)(keep:List Nat)(st:St):Bool:=RO st b (OO b keep st)
def forgetIds (keep:List Nat)(st:St)(ids:List Nat):St:=Aq (keep.map fun i=>(i,Jc st ids (st.t i))) (ids.map (D7 st ids))
def forget (b:Nat)(keep:List Nat)(st:St):St:=forgetIds keep st (OO b keep st)
structure Ann where
 keep:List Nat->List Nat
 base:Nat:=0
 cut:List Nat->Bool:=fun _=>false
def Aeo (K:Exit->St->Prop)(next:St->Prop):Exit->St->Prop
 | .normal,st=>next st
 | e,st=>K e st
def Np (id:Nat)(K:Exit->St->Prop):Exit->St->Prop
 | .exit j,st=>bif Nat.beq j id then K .normal st else K (.exit j) st
 | e,st=>K e st
def Afc (b:Nat)(keep:List Nat)(J:St->Prop)(K:Exit->St->Prop):Exit->St->Prop
 | .normal,st=>bif okF b keep st then J (forget b keep st) else False
 | e,st=>K e st
def RW (l b:Nat)(keep:List Nat)(J:St->Prop)(K:Exit->St->Prop):Exit->St->Prop
 | .goto l',st=>bif Nat.beq l' l&&okF b keep st then J (forget b keep st) else False
 | e,st=>K e st
def xc (P:Program)(T:TypeId->TE)(Sh:Shs)(N:Nat)(L:Ann):List Nat->Code->(Exit->St->Prop)->St->Prop
 | _,.skip,K,st=>K .normal st
 | _,.label _,K,st=>K .normal st
 | _,.region _ ops dr,K,st=>I6 P T Sh dr ops 0 ops.toList st [] [] fun st'=>K .normal (clr ops st')
 | p,.seq x y,K,st=>xc P T Sh N L (0::p) x (Aeo K fun st'=>bif L.cut (1::p) then(bif okF L.base (L.keep (1::p)) st' then Sat P N L.base (1::p) y K (forget L.base (L.keep (1::p)) st') else False) else xc P T Sh N L (1::p) y K st') st
 | p,.cond c x y,K,st=>match st.val c with
  | .sc (.bool b)=>(b=true->xc P T Sh N L (0::p) x K st)/\(b=false->xc P T Sh N L (1::p) y K st)
  | _=>False
 | p,.block id c,K,st=>xc P T Sh N L (0::p) c (Np id K) st
 | _,.exit id,K,st=>K (.exit id) st
 | _,.goto l,K,st=>K (.goto l) st
 | _,.ret,K,st=>K .ret st
 | p,.loop c,K,st=>bif okF L.base (L.keep p) st then Sat P N L.base p (.loop c) K (forget L.base (L.keep p) st) else False
 | p,.scope c,K,st=>bif okF L.base (L.keep p) st then Sat P N L.base p (.scope c) K (forget L.base (L.keep p) st) else False
 | _,_,_,_=>False
def Ew : List Nat->Code->Code
 | 0::q,.seq x _=>Ew q x
 | 1::q,.seq _ y=>Ew q y
 | 0::q,.cond _ x _=>Ew q x
 | 1::q,.cond _ _ y=>Ew q y
 | 0::q,.block _ c=>Ew q c
 | 0::q,.loop c=>Ew q c
 | 0::q,.scope c=>Ew q c
 | [],c=>c
 | _,_=>.skip
def RV (P:Program)(T:TypeId->TE)(Sh:Shs)(N:Nat)(L:Ann):List Nat->List Nat->Code->(Exit->St->Prop)->Exit->St->Prop
 | 0::q,p,.seq x y,K=>RV P T Sh N L q (0::p) x (Aeo K fun st'=>bif L.cut (1::p) then(bif okF L.base (L.keep (1::p)) st' then Sat P N L.base (1::p) y K (forget L.base (L.keep (1::p)) st') else False) else xc P T Sh N L (1::p) y K st')
 | 1::q,p,.seq _ y,K=>RV P T Sh N L q (1::p) y K
 | 0::q,p,.cond _ x _,K=>RV P T Sh N L q (0::p) x K
 | 1::q,p,.cond _ _ y,K=>RV P T Sh N L q (1::p) y K
 | 0::q,p,.block id c,K=>RV P T Sh N L q (0::p) c (Np id K)
 | _,_,_,K=>K
def EK (N:Nat):Code->Bool
 | .region _ ops _=>Mh ops N
 | .seq x y=>EK N x&&EK N y
 | .cond _ x y=>EK N x&&EK N y
 | .block _ c=>EK N c
 | _=>true
section
variable {P : Program} {T:TypeId->TE} {Sh:Shs} {N b:Nat} {L:Ann} {E:AF} {w:World} {φ:Phi} {a:Act} {st:St}
theorem RR {f:Nat->VV}(i:Nat):∀ (l:List Nat),BS i (l.map fun j=>(j,f j))=if i∈l then f i else .dead
 | []=>rfl
 | j::l=>by
  simp only[AlU,BS]
  cases hq:Nat.beq i j with
  | true=>have:=Ak7 hq;subst this;simp
  | false =>
   have hne:i≠j:=by rintro rfl;simp at hq
   rw[Ak0,RR i l]
   simp[hne]
theorem RN {ids:List Nat}(h:RO st b ids=true):Et st.nx ids=true/\∀ (i:Nat),i<b->ids[i]?=some i:=by
 unfold RO at h
 rw[Ak2]at h
 refine⟨h.1,fun i hi=>?_⟩
 have:=AlF.1 h.2 i (AlP.2 hi)
 split at this
 ·rename_i j hj
  have e:=Ak7 this
  subst e
  exact DR hj
 ·cases this
theorem ZI {ids:List Nat}(hk:∀ (i:Nat),i<b->ids[i]?=some i):Fr b w φ w (CO ids φ) :=
 ⟨rfl,rfl,rfl,Ak6 _,fun _ _ _=>rfl,fun _ h=>.inl (DO.2 (.inr h)),fun id p hb e=>⟨Ff (fun _=>0) p,by rw[GV (hk id hb),e];rfl,by
  cases p with
  | box b=>rfl
  | arr c n hd=>exact⟨_,_,_,rfl⟩⟩⟩
theorem Fy {ids:List Nat}(hk:Et st.nx ids=true)(hlv:∀ id,id<st.nx->φ id≠none)(j:Nat):CO ids φ j≠none ↔ j<ids.length:=by
 constructor
 ·intro h
  obtain⟨p,hp⟩:=AmM.1 h
  obtain⟨id,_,e1,_⟩:=IN hp
  exact(Ak3.1 e1).1
 ·intro h
  have e1:ids[j]?=some ids[j]:=Ald h
  rw[GV e1]
  have:=hlv _ (FV hk j _ e1)
  simpa using this
theorem Rel.forgetIds (h:Rel N E st φ a w){keep ids:List Nat}(hk:RO st b ids=true):∃ φ',Rel N E (forgetIds keep st ids) φ' a w/\Fr b w φ w φ':=by
 obtain⟨hk1,hk2⟩:=RN hk
 refine⟨CO ids φ,⟨h.sz,h.df,h.old.sub fun _ ho=>(FA.1 ho).elim fun _ h=>h.elim fun id h=>⟨id,h.2⟩,fun t=>?_,h.hp.lend hk1 (fun _ h=>.inl h) (fun _ h=>.inl h) h.hp.sub (fun j id e=>by simp[Go.Proofs.YtmdcknlpalfhhaaGreatDoor.forgetIds,Aq,Bm,e]),fun id hid=>?_,fun id hid=>?_⟩,ZI hk2⟩
 ·show V w _ _ (BS t (keep.map fun i=>(i,Jc st ids (st.t i)))) _
  rw[RR]
  split
  ·exact EV (Fz h.hp (fun _ h=>.inl h) fun _ h=>.inl h) _ _ _ (h.tm t)
  ·exact .dead
 ·have hid':ids.length<=id:=by have:(ids.map (D7 st ids)).length<=id:=hid;simpa using this
  exact Alt fun hn=>by have:=(Fy hk1 h.lv id).1 hn;omega
 ·have hid':id<ids.length:=by have:id<(ids.map (D7 st ids)).length:=hid;simpa using this
  exact(Fy hk1 h.lv id).2 hid'
theorem Rel.forget (h:Rel N E st φ a w){keep:List Nat}(hk:okF b keep st=true):∃ φ',Rel N E (forget b keep st) φ' a w/\Fr b w φ w φ':=h.forgetIds hk
theorem Ht (hT:TOk P T)(hmx:P.follows .mixedOrders=true):∀ (c:Code),EK N c=true->∀ (p:List Nat) (K:Exit->St->Prop) (st:St),xc P T Sh N L p c K st->Sat P N L.base p c K st
 | .skip,_,p,K,st,h=>⟨fun E φ a w hr=>wp_skip ⟨E,st,φ,.refl E,h,hr,Fr.refl _ _ _⟩⟩
 | .label l,_,p,K,st,h=>⟨fun E φ a w hr=>wp_label ⟨E,st,φ,.refl E,h,hr,Fr.refl _ _ _⟩⟩
 | .exit id,_,p,K,st,h=>⟨fun E φ a w hr=>wp_exit ⟨E,st,φ,.refl E,h,hr,Fr.refl _ _ _⟩⟩
 | .goto l,_,p,K,st,h=>⟨fun E φ a w hr=>wp_goto ⟨E,st,φ,.refl E,h,hr,Fr.refl _ _ _⟩⟩
 | .ret,_,p,K,st,h=>⟨fun E φ a w hr=>wp_ret ⟨E,st,φ,.refl E,h,hr,Fr.refl _ _ _⟩⟩
 | .loop c,_,p,K,st,h=>⟨fun E φ a w hr=>by
  simp only[xc]at h
  cases hq:okF L.base (L.keep p) st with
  | false=>rw[hq]at h;exact h.elim
  | true =>
   rw[hq]at h
   obtain⟨φ1,hr1,hf1⟩:=hr.forget hq
   exact Ams (h.h E φ1 a w hr1) fun _ _ _ ⟨E',st',φ',h0,h1,h2,h3⟩=>⟨E',st',φ',h0,h1,h2,hf1.trans h3⟩⟩
 | .scope c,_,p,K,st,h=>⟨fun E φ a w hr=>by
  simp only[xc]at h
  cases hq:okF L.base (L.keep p) st with
  | false=>rw[hq]at h;exact h.elim
  | true =>
   rw[hq]at h
   obtain⟨φ1,hr1,hf1⟩:=hr.forget hq
   exact Ams (h.h E φ1 a w hr1) fun _ _ _ ⟨E',st',φ',h0,h1,h2,h3⟩=>⟨E',st',φ',h0,h1,h2,hf1.trans h3⟩⟩
 | .rangeFunc ..,_,p,K,st,h=>h.elim
 | .refuse _,_,p,K,st,h=>h.elim
 | .region id ops draw,hB,p,K,st,h=>⟨fun E φ a w hr =>
  Ams (Xt (id:=id) (draw:=draw) hT hmx hB (K:=fun st'=>K .normal st') h hr) fun e a' w' ⟨he,st',φ',h1,h2,h3⟩=>⟨E,st',φ',.refl E,by rw[he];exact h1,h2,AmB h3⟩⟩
 | .seq x y,hB,p,K,st,h=>⟨fun E φ a w hr=>by
  simp only[EK,Ak2]at hB
  refine wp_seq (Ams ((Ht hT hmx x hB.1 _ _ st h).h E φ a w hr) ?_)
  rintro e a' w' ⟨E',st',φ',h0,h1,h2,h3⟩
  cases e with
  | normal =>
   have key:Sat P N L.base (1::p) y K st':=by
    simp only[Aeo]at h1
    cases hcut:L.cut (1::p) with
    | false=>rw[hcut]at h1;exact Ht hT hmx y hB.2 _ K st' h1
    | true =>
     rw[hcut,Ak4]at h1
     cases hq:okF L.base (L.keep (1::p)) st' with
     | false=>rw[hq]at h1;exact h1.elim
     | true =>
      rw[hq]at h1
      exact⟨fun E φ a w hr=>by
       obtain⟨φ1,hr1,hf1⟩:=hr.forget hq
       exact Ams (h1.h E φ1 a w hr1) fun _ _ _ ⟨E',st',φ',h0,h1,h2,h3⟩=>⟨E',st',φ',h0,h1,h2,hf1.trans h3⟩⟩
   exact Ams (key.h E' φ' a' w' h2) fun e a'' w'' ⟨E'',st'',φ'',g0,g1,g2,g3⟩=>⟨E'',st'',φ'',h0.trans g0,g1,g2,h3.trans g3⟩
  | _=>exact⟨E',st',φ',h0,h1,h2,h3⟩⟩
 | .cond c x y,hB,p,K,st,h=>⟨fun E φ a w hr=>by
  simp only[EK,Ak2]at hB
  have hc:V w (E.up φ) (some φ) (st.val c) (a.eval c):=by
   cases c with
   | tmp t=>exact hr.tm t
   | const v=>exact V.litC v
   | global g=>exact .dead
   | func f=>exact .fn rfl fun j x hx=>by simp at hx
  simp only[xc]at h
  split at h
  ·rename_i b e
   rw[e]at hc
   refine wp_cond (t:=b) hc.sc_inv ?_
   cases b with
   | true=>exact(Ht hT hmx x hB.1 _ K st (h.1 rfl)).h E φ a w hr
   | false=>exact(Ht hT hmx y hB.2 _ K st (h.2 rfl)).h E φ a w hr
  ·exact h.elim⟩
 | .block id c,hB,p,K,st,h=>⟨fun E φ a w hr=>by
  refine wp_block (Ams ((Ht hT hmx c hB _ _ st h).h E φ a w hr) ?_)
  rintro e a' w' ⟨E',st',φ',h0,h1,h2,h3⟩
  cases e with
  | exit j =>
   simp only[Exit.inBlock]
   by_cases hj:j=id
   ·subst hj
    simp only[Np,Ami,Ak4]at h1
    rw[Alw rfl]
    exact⟨E',st',φ',h0,h1,h2,h3⟩
   ·have hb:Nat.beq j id=false:=by
     cases hq:Nat.beq j id with
     | true=>exact absurd (Ak7 hq) hj
     | false=>rfl
    simp only[Np,hb,Ak0]at h1
    rw[Alg hj]
    exact⟨E',st',φ',h0,h1,h2,h3⟩
  | _=>exact⟨E',st',φ',h0,h1,h2,h3⟩⟩
theorem GF {p:Nat->Prop}(h:∃ g,p g):∃ g,p g/\∀ g',p g'->g<=g':=by
 obtain⟨g,hg⟩:=h
 induction g using Nat.strongRecOn with
 | _ g ih =>
  by_cases hx:∃ g',g'<g/\p g'
  ·obtain⟨g',hlt,hp⟩:=hx;exact ih g' hlt hp
  ·exact⟨g,hg,fun g' hp=>Nat.le_of_not_lt fun hlt=>hx ⟨g',hlt,hp⟩⟩
theorem KP {c:Code}{Q:Exit->Act->World->Prop}{a:Act}{w:World}(J:Nat->Act->World->Prop)(h0:∃ g,J g a w)
  (round:∀ g a w,J g a w->c.wp P (Exit.then (fun a' w'=>∃ g',g'<g/\J g' a' w') Q) a w):(Code.loop c).wp P Q a w:=by
 classical
 let μ:Act->World->Nat:=fun a w=>if h:∃ g,J g a w then Classical.choose (GF h) else 0
 have hμ:∀ a w,(h:∃ g,J g a w)->J (μ a w) a w/\∀ g',J g' a w->μ a w<=g':=by
  intro a w h
  have e:μ a w=Classical.choose (GF h):=dif_pos h
  rw[e];exact Classical.choose_spec (GF h)
 refine wp_loop (fun a w=>∃ g,J g a w) μ h0 ?_
 intro a w hx
 refine Ams (round _ a w (hμ a w hx).1) fun e a' w' h=>?_
 cases e with
 | normal =>
  obtain⟨g',hlt,hj⟩:=h
  exact⟨⟨g',hj⟩,Nat.lt_of_le_of_lt ((hμ _ _ ⟨g',hj⟩).2 g' hj) hlt⟩
 | _=>exact h
def VV.le (x y:VV):Prop:=∀ (w:World) (E:AF) (m:Option Phi) (v:Value),V w E m x v->V w E m y v
theorem VV.le_refl (x:VV):VV.le x x:=fun _ _ _ _ h=>h
theorem AlR {fz:Bool}{n:Nat}{f:Nat->List VV}:VV.le .nl (.sl fz 0 n f):=by
 intro w E m v h
 rw[h.nl_inv]
 exact .nil (Alc _)
def leL : List VV->List VV->Prop
 | [],[]=>True
 | x::xs,y::ys=>VV.le x y/\leL xs ys
 | _,_=>False
theorem JG : ∀ (l:List VV),leL l l
 | []=>trivial
 | x::xs=>⟨VV.le_refl x,JG xs⟩
theorem HU : ∀ {l l':List VV},leL l l'->l.length=l'.length/\∀ (j:Nat) y,l'[j]?=some y->∃ x,l[j]?=some x/\VV.le x y
 | [],[],_=>⟨rfl,fun j y h=>by simp at h⟩
 | x::l,y::l',h=>by
  obtain⟨h1,h2⟩:=HU h.2
  refine⟨by simp[h1],fun j z hz=>?_⟩
  match j,hz with
  | 0,hz=>simp only[Ala,Ak1]at hz;subst hz;exact⟨x,rfl,h.1⟩
  | j+1,hz=>exact h2 j z hz
theorem AmE {fz:Bool}{n s s':Nat}{f f':Nat->List VV}(hs:s=s'∨n=0)(h:∀ i,i<n->leL (f i) (f' i)):VV.le (.sl fz n s f) (.sl fz n s' f'):=by
 intro w E m v hv
 obtain⟨a,cap,rfl,h1,h2,h3⟩:=hv.sl_inv
 refine AmK h1 h2 fun hn=>?_
 obtain rfl:=hs.resolve_right (by omega)
 obtain⟨b,off,e,k1,k2,k3,u,k4,k5⟩:=h3 hn
 refine⟨b,off,e,k1,k2,fun i hi=>by rw[← (HU (h i hi)).1];exact k3 i hi,u,fun i j y hi hy=>?_,fun i j y hi hy=>?_⟩
 ·obtain⟨x,hx,_⟩:=(HU (h i hi)).2 j y hy
  exact k4 i j x hi hx
 ·obtain⟨x,hx,hle⟩:=(HU (h i hi)).2 j y hy
  exact hle _ _ _ _ (k5 i j x hi hx)
theorem Aml {l l':List VV}(h:leL l l'):VV.le (.agg l) (.agg l'):=by
 intro w E m v hv
 obtain⟨vs,rfl,h1,h2⟩:=hv.agg_inv
 obtain⟨k1,k2⟩:=HU h
 exact .agg (h1.trans k1) fun j y hy=>let ⟨x,hx,hle⟩:=k2 j y hy;hle _ _ _ _ (h2 j x hx)
theorem Amx {l l':List VV}(h:leL l l'):VV.le (.tup l) (.tup l'):=by
 intro w E m v hv
 cases hv with | tup h1 h2 =>
 obtain⟨k1,k2⟩:=HU h
 exact .tup (h1.trans k1) fun j y hy=>let ⟨x,hx,hle⟩:=k2 j y hy;hle _ _ _ _ (h2 j x hx)
def Ob.le (o o':Ob):Prop:=∀ (w:World) (E:AF) (φ:Phi) (p:Pl),ObV w E φ o p->ObV w E φ o' p
theorem Ob.le_refl (o:Ob):Ob.le o o:=fun _ _ _ _ h=>h
theorem Ob.le_box {l l':List VV}(h:leL l l'):Ob.le (.box l) (.box l'):=by
 intro w E φ p hp
 cases p with
 | arr=>exact hp.elim
 | box b =>
  obtain⟨c,ty,h1,h2⟩:=hp
  obtain⟨k1,k2⟩:=HU h
  exact⟨c,ty,h1,h2.1.trans k1,fun j y hy=>let ⟨x,hx,hle⟩:=k2 j y hy;hle _ _ _ _ (h2.2 j x hx)⟩
theorem AlM {fr:Bool}{g n s:Nat}{f f':Nat->List VV}(h:∀ i,i<n->leL (f i) (f' i)):Ob.le (.arr fr g n s f) (.arr fr g n s f'):=by
 intro w E φ p hp
 cases p with
 | box b=>exact hp.elim
 | arr g' n' hd =>
  obtain⟨rfl,rfl,hrow⟩:=hp
  refine⟨rfl,rfl,?_⟩
  match hd,hrow with
  | none,hrow=>exact hrow
  | some (b,cap),hrow =>
   obtain⟨c,ty,h1,h2,h3,h4,h5,h6,h7⟩:=hrow
   refine⟨c,ty,h1,h2,h3,h4,fun i hi=>by rw[← (HU (h i hi)).1];exact h5 i hi,fun i j y hi hy=>?_,h7⟩
   obtain⟨x,hx,hle⟩:=(HU (h i hi)).2 j y hy
   cases fr with
   | true=>exact hle _ _ _ _ (h6 i j x hi hx)
   | false=>exact hle _ _ _ _ (h6 i j x hi hx)
def leO : List Ob->List Ob->Prop
 | [],[]=>True
 | o::os,o'::os'=>Ob.le o o'/\leO os os'
 | _,_=>False
theorem Ik : ∀ (l:List Ob),leO l l
 | []=>trivial
 | x::xs=>⟨Ob.le_refl x,Ik xs⟩
theorem Gf : ∀ {l l':List Ob},leO l l'->l.length=l'.length/\∀ (j:Nat),Ob.le (Bm l j) (Bm l' j)
 | [],[],_=>⟨rfl,fun j=>Ob.le_refl _⟩
 | x::l,y::l',h=>by
  obtain⟨h1,h2⟩:=Gf h.2
  refine⟨by simp[h1],fun j=>?_⟩
  match j with
  | 0=>exact h.1
  | j+1=>exact h2 j
theorem HRel.le {l l':List Ob}(h:HRel E (Bm l) φ w)(hl:leO l l'):HRel E (Bm l') φ w :=
 ⟨h.sub,fun id p e=>(Gf hl).2 id _ _ _ _ (h.ob id p e),h.inj,h.free⟩
def leT : List (Nat × VV)->List (Nat × VV)->Prop
 | [],[]=>True
 | (i,x)::l,(j,y)::l'=>(i=j/\VV.le x y)/\leT l l'
 | _,_=>False
theorem AO : ∀ (l:List (Nat × VV)),leT l l
 | []=>trivial
 | (_,x)::xs=>⟨⟨rfl,VV.le_refl x⟩,AO xs⟩
theorem Qc : ∀ {l l':List (Nat × VV)},leT l l'->∀ t,VV.le (BS t l) (BS t l')
 | [],[],_,_=>VV.le_refl _
 | (i,x)::l,(j,y)::l',h,t=>by
  obtain⟨⟨rfl,h1⟩,h2⟩:=h
  simp only[BS]
  cases Nat.beq t i with
  | true=>exact h1
  | false=>exact Qc h2 t
theorem Sat.le {p:List Nat}{c:Code}{K:Exit->St->Prop}{l l':List (Nat × VV)}{hs hs':List Ob}(h1:leT l l')(h2:leO hs hs')(h:Sat P N b p c K (Aq l' hs')):Sat P N b p c K (Aq l hs) :=
 ⟨fun E φ a w hr=>h.h E φ a w ⟨hr.sz,hr.df,hr.old,fun t=>Qc h1 _ _ _ _ _ (hr.tm t),hr.hp.le h2,fun id hid=>hr.fr id (by
  show hs.length<=id
  rw[(Gf h2).1];exact hid),fun id hid=>hr.lv id (by
  show id<hs.length
  rw[(Gf h2).1];exact hid)⟩⟩
theorem Nb {t:Nat}{x y:VV}:∀ {l:List (Nat × VV)} {k:Nat},l[k]?=some (t,x)->∀ i,BS i (l.set k (t,y))=BS i l∨(BS i l=x/\BS i (l.set k (t,y))=y)
 | [],k,h,i=>by simp at h
 | (j,z)::l,0,h,i=>by
  simp only[Ala,Ak1,AlH]at h
  obtain⟨rfl,rfl⟩:=h
  simp only[List.set_cons_zero,BS]
  cases Nat.beq i j with
  | true=>exact .inr ⟨rfl,rfl⟩
  | false=>exact .inl rfl
 | (j,z)::l,k+1,h,i=>by
  simp only[List.set_cons_succ,BS]
  cases Nat.beq i j with
  | true=>exact .inl rfl
  | false=>exact Nb (l:=l) (k:=k) h i
theorem Sat.own {p:List Nat}{c:Code}{K:Exit->St->Prop}{l:List (Nat × VV)}{hs:List Ob}(k t sz:Nat)(f:Nat->List VV)(hk:l[k]?=some (t,.nl))(h:Sat P N b p c K (Aq (l.set k (t,.ow hs.length 0 0)) (hs++[.arr true 0 0 sz f]))):Sat P N b p c K (Aq l hs):=by
 refine⟨fun E φ a w hr=>?_⟩
 have hnone:φ hs.length=none:=hr.fr _ (Ak6 _)
 have hroom:Room w [Pl.arr 0 0 none] w:=Room.one (Below.refl _ _) fun k hk=>by obtain⟨_,e'⟩:=hk;cases e'
 have hidn:∀ i,i<[Ob.arr true 0 0 sz f].length->φ (hs.length+i)=none:=fun i hi=>by
  simp only[AlE,AlX,AlC,Am2]at hi
  subst hi;exact hnone
 have hnews:Ee w E φ hs.length [Ob.arr true 0 0 sz f] [Pl.arr 0 0 none] w:=Ee.one hroom ⟨rfl,rfl,rfl⟩
 have hext:=hnews.ext hidn
 have hat:addP φ hs.length [Pl.arr 0 0 none] hs.length=some (.arr 0 0 none):=DJ (i:=0) rfl
 have hlt:∀ id,φ id≠none->id<hs.length:=fun id hn=>by
  rcases AlL id hs.length with h' | h'
  ·exact h'
  ·exact absurd (hr.fr id h') hn
 refine Ams (h.h E (addP φ hs.length [Pl.arr 0 0 none]) a w ⟨hr.sz,hr.df,hr.old.ext hext,fun t'=>?_,?_,fun id hid=>?_,fun id hid=>?_⟩) fun e a' w' ⟨E',st',φ',h0,h1,h2,h3⟩=>⟨E',st',φ',h0,h1,h2,(AmB hext).trans h3⟩
 ·show V w _ _ (BS t' _) _
  have hv:V w _ _ (BS t' l) _:=hr.tm t'
  rcases Nb (y:=.ow hs.length 0 0) hk t' with e | ⟨e1,e2⟩
  ·rw[e];exact hv.ext hext
  ·rw[e2]
   rw[e1]at hv
   rw[hv.nl_inv]
   exact .ow hat (Ak6 _) (hd0:=none) ⟨rfl,rfl⟩ fun _=>⟨rfl,Ak6 _⟩
 ·refine hr.hp.news hr.old.lt hnews hidn (fun k hk=>?_) fun i o ho=>?_
  ·have:=hlt k hk
   show Bm (hs++_) k=Bm hs k
   simp[Bm,Ale this]
  ·show Bm (hs++_) (hs.length+i)=o
   unfold Bm
   rw[Alf,All (by omega),show hs.length+i - hs.length=i by omega,ho]
   rfl
 ·have hid':(hs++[Ob.arr true 0 0 sz f]).length<=id:=hid
  simp only[Alh,AlE,AlX]at hid'
  rw[DA (.inr (by simp;omega))]
  exact hr.fr id (by show hs.length<=id;omega)
 ·have hid':id<(hs++[Ob.arr true 0 0 sz f]).length:=hid
  simp only[Alh,AlE,AlX]at hid'
  by_cases he:id=hs.length
  ·subst he;rw[hat];simp
  ·rw[DA (.inl (by omega))]
   exact hr.lv id (by show id<hs.length;omega)
structure Q4 (st st':St):Prop where
 t:∀ t,VV.le (st.t t) (st'.t t)
 H:∀ id,Ob.le (st.H id) (st'.H id)
 nx:st.nx=st'.nx
theorem Q4.refl (st:St):Q4 st st:=⟨fun _=>VV.le_refl _,fun _=>Ob.le_refl _,rfl⟩
theorem Q4.mk' {l l':List (Nat × VV)}{hs hs':List Ob}(h1:leT l l')(h2:leO hs hs'):Q4 (Aq l hs) (Aq l' hs'):=⟨Qc h1,(Gf h2).2,(Gf h2).1⟩
theorem AQ {l l':List VV}(h:l=l'):leL l l':=by subst h;exact JG l
theorem Ama {x y:VV}(h:x=y):VV.le x y:=by subst h;exact VV.le_refl x
theorem Rel.le {st':St}(h:Rel N E st φ a w)(hl:Q4 st st'):Rel N E st' φ a w :=
 ⟨h.sz,h.df,h.old,fun t=>hl.t t _ _ _ _ (h.tm t),⟨h.hp.sub,fun id p e=>hl.H id _ _ _ _ (h.hp.ob id p e),h.hp.inj,h.hp.free⟩,fun id hid=>h.fr id (by rw[hl.nx];exact hid),fun id hid=>h.lv id (by rw[hl.nx];exact hid)⟩
def Cv (st st':St):Prop:=∀ (N:Nat) (E:AF) (φ:Phi) (a:Act) (w:World),Rel N E st φ a w->∃ φ',Rel N E st' φ' a w/\Ext w φ w φ'
theorem Q4.cv {st st':St}(h:Q4 st st'):Cv st st':=fun _ _ φ _ w hr=>⟨φ,hr.le h,Ext.refl w φ⟩
theorem Cv.trans {st st' st'':St}(h:Cv st st')(k:Cv st' st''):Cv st st'':=fun N E φ a w hr =>
 let ⟨φ1,r1,e1⟩:=h N E φ a w hr
 let ⟨φ2,r2,e2⟩:=k N E φ1 a w r1
 ⟨φ2,r2,e1.trans e2⟩
theorem Sat.cv {p:List Nat}{c:Code}{K:Exit->St->Prop}{st st':St}(h:Cv st st')(k:Sat P N b p c K st'):Sat P N b p c K st :=
 ⟨fun E φ a w hr =>
  let ⟨_,r1,e1⟩:=h N E φ a w hr
  Ams (k.h E _ a w r1) fun _ _ _ ⟨E',st',φ',h0,h1,h2,h3⟩=>⟨E',st',φ',h0,h1,h2,(AmB e1).trans h3⟩⟩
theorem Am7 {l:List (Nat × VV)}{hs:List Ob}{cs:List VV}(i j sz:Nat)(f:Nat->List VV)(hi:hs[i]?=some (.box cs))(hj:cs[j]?=some .nl) :
  Cv (Aq l hs) (Aq l (hs.set i (.box (cs.set j (.ow hs.length 0 0)))++[.arr true 0 0 sz f])):=by
 intro N E φ a w hr
 have hnone:φ hs.length=none:=hr.fr _ (Ak6 _)
 have hroom:Room w [Pl.arr 0 0 none] w:=Room.one (Below.refl _ _) fun k hk=>by obtain⟨_,e'⟩:=hk;cases e'
 have hidn:∀ i,i<[Ob.arr true 0 0 sz f].length->φ (hs.length+i)=none:=fun i hi=>by
  simp only[AlE,AlX,AlC,Am2]at hi
  subst hi;exact hnone
 have hnews:Ee w E φ hs.length [Ob.arr true 0 0 sz f] [Pl.arr 0 0 none] w:=Ee.one hroom ⟨rfl,rfl,rfl⟩
 have hext:=hnews.ext hidn
 have hat:addP φ hs.length [Pl.arr 0 0 none] hs.length=some (.arr 0 0 none):=DJ (i:=0) rfl
 have hil:i<hs.length:=(Ak3.1 hi).1
 have hlt:∀ id,φ id≠none->id<hs.length:=fun id hn=>by
  rcases AlL id hs.length with h' | h'
  ·exact h'
  ·exact absurd (hr.fr id h') hn
 have hp:=hr.hp.news (H':=Bm (hs++[.arr true 0 0 sz f])) hr.old.lt hnews hidn (fun k hk=>by
  have:=hlt k hk
  show Bm (hs++_) k=Bm hs k
  simp[Bm,Ale this]) fun i o ho=>by
  show Bm (hs++_) (hs.length+i)=o
  unfold Bm
  rw[Alf,All (by omega),show hs.length+i - hs.length=i by omega,ho]
  rfl
 refine⟨addP φ hs.length [Pl.arr 0 0 none],⟨hr.sz,hr.df,hr.old.ext hext,fun t=>V.ext (hr.tm t) hext,⟨hp.sub,fun id p e=>?_,hp.inj,hp.free⟩,fun id hid=>?_,fun id hid=>?_⟩,hext⟩
 ·have hob:=hp.ob id p e
  show ObV w E _ (Bm (hs.set i _++_) id) p
  by_cases he:id=i
  ·subst he
   have e1:Bm (hs++[Ob.arr true 0 0 sz f]) id=.box cs:=by simp[Bm,Ale hil,hi]
   have e2:Bm (hs.set id (.box (cs.set j (.ow hs.length 0 0)))++[Ob.arr true 0 0 sz f]) id=.box (cs.set j (.ow hs.length 0 0)):=by
    simp[Bm,Ale,hil]
   rw[e1]at hob
   rw[e2]
   cases p with
   | arr=>exact hob.elim
   | box b =>
    obtain⟨c,ty,h1,h2⟩:=hob
    refine⟨c,ty,h1,by simp[h2.1],fun k x hx=>?_⟩
    rw[Am1]at hx
    split at hx
    ·rename_i hjk
     subst hjk
     split at hx
     ·simp only[Ak1]at hx
      subst hx
      have:=h2.2 j _ hj
      rw[this.nl_inv]
      exact .ow hat (Ak6 _) (hd0:=none) ⟨rfl,rfl⟩ fun _=>⟨rfl,Ak6 _⟩
     ·cases hx
    ·exact h2.2 k x hx
  ·have e1:Bm (hs.set i (.box (cs.set j (.ow hs.length 0 0)))++[Ob.arr true 0 0 sz f]) id=Bm (hs++[Ob.arr true 0 0 sz f]) id:=by
    rcases AlL id hs.length with h' | h'
    ·simp[Bm,Ale,h',List.getElem_set_ne (Ne.symm he)]
    ·simp[Bm,All,h']
   rw[e1];exact hob
 ·have hid':(hs.set i (.box (cs.set j (.ow hs.length 0 0)))++[Ob.arr true 0 0 sz f]).length<=id:=hid
  simp only[Alh,AlT,AlE,AlX]at hid'
  rw[DA (.inr (by simp;omega))]
  exact hr.fr id (by show hs.length<=id;omega)
 ·have hid':id<(hs.set i (.box (cs.set j (.ow hs.length 0 0)))++[Ob.arr true 0 0 sz f]).length:=hid
  simp only[Alh,AlT,AlE,AlX]at hid'
  by_cases he:id=hs.length
  ·subst he;rw[hat];simp
  ·rw[DA (.inl (by omega))]
   exact hr.lv id (by show id<hs.length;omega)
theorem Cv.pub {l:List (Nat × VV)}{hs:List Ob}{k t id gen n n' sz:Nat}{f:Nat->List VV}(hk:l[k]?=some (t,.ow id gen n))(ho:hs[id]?=some (.arr true gen n' sz f)) :
  Cv (Aq l hs) (Aq (l.set k (t,.sl true n sz f)) (hs.set id (.gone (gen+1)))):=by
 intro N E φ a w hr
 have hil:id<hs.length:=(Ak3.1 ho).1
 have e0:Bm hs id=.arr true gen n' sz f:=by simp[Bm,ho]
 have hpub:Gw (Bm hs) 1 (.ow id gen n)=some (.sl true n sz f,[id]):=by
  unfold Gw
  simp only[e0,Ami,Ak4]
 have hg:=hr.hp.gone (ids:=[id])
 have eH:Ei [id] (Bm hs)=Bm (hs.set id (.gone (gen+1))):=by
  funext j
  unfold Ei
  by_cases hj:j=id
  ·subst hj
   simp only[Am9,List.any_nil,Ami,Bool.true_or,Ak4,e0]
   simp[Bm,hil]
  ·have:Nat.beq j id=false:=by
    cases hq:Nat.beq j id with
    | true=>exact absurd (Ak7 hq) hj
    | false=>rfl
   simp only[Am9,List.any_nil,this,Bool.or_false,Ak0]
   simp[Bm,Am6 (Ne.symm hj)]
 refine⟨Cw [id] φ,⟨hr.sz,hr.df,hr.old.ext C8,fun t'=>?_,?_,fun j hj=>?_,fun j hj=>?_⟩,C8⟩
 ·show V w _ _ (BS t' _) _
  have hv:V w _ _ (BS t' l) _:=hr.tm t'
  rcases Nb (y:=.sl true n sz f) hk t' with e | ⟨e1,e2⟩
  ·rw[e];exact hv.ext C8
  ·rw[e2]
   rw[e1]at hv
   exact(Kr hr.hp (ids:=[id]) 1 _ _ _ _ hv hpub (fun i hi=>hi)).mem rfl rfl
 ·show HRel E (Bm (hs.set id (.gone (gen+1)))) _ w
  rw[← eH];exact hg
 ·have hj':(hs.set id (.gone (gen+1))).length<=j:=hj
  rw[AlT]at hj'
  exact Dh.2 (hr.fr j hj')
 ·have hj':j<(hs.set id (.gone (gen+1))).length:=hj
  rw[AlT]at hj'
  exact fun h=>hr.lv j hj' (Dh.1 h)
def Up (J:St->Prop)(st:St):Prop:=∃ st',Cv st st'/\J st'
theorem Up.mk {J:St->Prop}{l l':List (Nat × VV)}{hs hs':List Ob}(h1:leT l l')(h2:leO hs hs')(h:J (Aq l' hs')):Up J (Aq l hs):=⟨_,(Q4.mk' h1 h2).cv,h⟩
theorem Up.of {J:St->Prop}{st:St}(h:J st):Up J st:=⟨st,(Q4.refl st).cv,h⟩
theorem Up.cv {J:St->Prop}{st st':St}(h:Cv st st')(k:Up J st'):Up J st:=let ⟨_,k1,k2⟩:=k;⟨_,h.trans k1,k2⟩
theorem Aet (hT:TOk P T)(hmx:P.follows .mixedOrders=true){lc:Code}(c:Code){K:Exit->St->Prop}{st:St}{p:List Nat}(Sh:Shs)(L:Ann)(keep:List Nat)(J:Nat->St->Prop)(hlc:lc=.loop c)(hB:EK N c=true)(hJ:∃ g,Up (J g) st)
  (round:∀ g st,J g st->xc P T Sh N L (0::p) c (Afc L.base keep (fun st'=>∃ g',g'<g/\Up (J g') st') K) st):Sat P N L.base p lc K st:=by
 subst hlc
 refine⟨fun E φ a w hr=>?_⟩
 obtain⟨g0,st0,hle0,hg0⟩:=hJ
 obtain⟨φ0,hr0,he0⟩:=hle0 N E φ a w hr
 refine KP (fun g a' w'=>∃ E' st' φ',E.Le E'/\J g st'/\Rel N E' st' φ' a' w'/\Fr L.base w φ w' φ') ⟨g0,E,st0,φ0,.refl E,hg0,hr0,AmB he0⟩ ?_
 rintro g a' w' ⟨E',st',φ',h0,h1,h2,h3⟩
 refine Ams ((Ht hT hmx c hB _ _ st' (round g st' h1)).h E' φ' a' w' h2) ?_
 rintro e a'' w'' ⟨E'',st'',φ'',g0,g1,g2,g3⟩
 cases e with
 | normal =>
  simp only[Afc]at g1
  cases hq:okF L.base keep st'' with
  | false=>rw[hq]at g1;exact g1.elim
  | true =>
   rw[hq]at g1
   obtain⟨g',k2,st1,hle1,k3⟩:=g1
   obtain⟨φ3,r3,f3⟩:=g2.forget hq
   obtain⟨φ4,r4,e4⟩:=hle1 _ _ _ _ _ r3
   exact⟨g',k2,E'',st1,φ4,h0.trans g0,k3,r4,h3.trans (g3.trans (f3.trans (AmB e4)))⟩
 | _=>exact⟨E'',st'',φ'',h0.trans g0,g1,g2,h3.trans g3⟩
theorem N8 {c rest:Code}{Q:Exit->Act->World->Prop}{a:Act}{w:World}(l:Nat)(J:Nat->Act->World->Prop)(hf:findLabel c l=some rest)
  (first:c.wp P (Exit.jump l (fun a w=>∃ g,J g a w) Q) a w)
  (pass:∀ g a w,J g a w->rest.wp P (Exit.jump l (fun a' w'=>∃ g',g'<g/\J g' a' w') Q) a w):(Code.scope c).wp P Q a w:=by
 classical
 let μ:Act->World->Nat:=fun a w=>if h:∃ g,J g a w then Classical.choose (GF h) else 0
 have hμ:∀ a w,(h:∃ g,J g a w)->J (μ a w) a w/\∀ g',J g' a w->μ a w<=g':=by
  intro a w h
  have e:μ a w=Classical.choose (GF h):=dif_pos h
  rw[e];exact Classical.choose_spec (GF h)
 refine wp_scope_jumps l (fun a w=>∃ g,J g a w) μ hf first ?_
 intro a w hx
 refine Ams (pass _ a w (hμ a w hx).1) fun e a' w' h=>?_
 cases e with
 | goto l' =>
  obtain⟨h1,g',hlt,hj⟩:=h
  exact⟨h1,⟨g',hj⟩,Nat.lt_of_le_of_lt ((hμ _ _ ⟨g',hj⟩).2 g' hj) hlt⟩
 | _=>exact h
theorem AbA (hT:TOk P T)(hmx:P.follows .mixedOrders=true){lc:Code}(c rest:Code){K:Exit->St->Prop}{st:St}{p:List Nat}(Sh:Shs)(L:Ann)(keep:List Nat)(l:Nat)(J:Nat->St->Prop)(hlc:lc=.scope c)(hf:findLabel c l=some rest)(hB:EK N c=true)(hB':EK N rest=true)
  (first:xc P T Sh N L (0::p) c (RW l L.base keep (fun st'=>∃ g,Up (J g) st') K) st)
  (pass:∀ g st,J g st->xc P T Sh N L (1::p) rest (RW l L.base keep (fun st'=>∃ g',g'<g/\Up (J g') st') K) st):Sat P N L.base p lc K st:=by
 subst hlc
 refine⟨fun E φ a w hr=>?_⟩
 have conv:∀ (J1:St->Prop) (J2:Act->World->Prop) (E1:AF) (φ1:Phi) (w1:World),E.Le E1->Fr L.base w φ w1 φ1->(∀ E' st' φ' a' w',E.Le E'->J1 st'->Rel N E' st' φ' a' w'->Fr L.base w φ w' φ'->J2 a' w')->∀ e a' w',(∃ E' st' φ',E1.Le E'/\RW l L.base keep J1 K e st'/\Rel N E' st' φ' a' w'/\Fr L.base w1 φ1 w' φ') ->
   Exit.jump l J2 (fun e a' w'=>∃ E' st' φ',E.Le E'/\K e st'/\Rel N E' st' φ' a' w'/\Fr L.base w φ w' φ') e a' w':=by
  rintro J1 J2 E1 φ1 w1 hE1 hf1 hJ e a' w' ⟨E',st',φ',g0,g1,g2,g3⟩
  cases e with
  | goto l' =>
   simp only[RW]at g1
   cases hq:(Nat.beq l' l&&okF L.base keep st') with
   | false=>rw[hq]at g1;exact g1.elim
   | true =>
    rw[hq]at g1
    rw[Ak2]at hq
    obtain⟨φ3,r3,f3⟩:=g2.forget hq.2
    exact⟨Ak7 hq.1,hJ E' _ φ3 _ _ (hE1.trans g0) g1 r3 (hf1.trans (g3.trans f3))⟩
  | _=>exact⟨E',st',φ',hE1.trans g0,g1,g2,hf1.trans g3⟩
 refine N8 l (fun g a' w'=>∃ E' st' φ',E.Le E'/\J g st'/\Rel N E' st' φ' a' w'/\Fr L.base w φ w' φ') hf ?_ ?_
 ·exact Ams ((Ht hT hmx c hB _ _ st first).h E φ a w hr) (conv _ _ E φ w (.refl E) (Fr.refl _ _ _) fun E' st' φ' a' w' h0 ⟨g,st1,hle,hg⟩ h2 h3=>let ⟨φ4,r4,e4⟩:=hle _ _ _ _ _ h2;⟨g,E',st1,φ4,h0,hg,r4,h3.trans (AmB e4)⟩)
 ·rintro g a' w' ⟨E',st',φ',h0,h1,h2,h3⟩
  exact Ams ((Ht hT hmx rest hB' _ _ st' (pass g st' h1)).h E' φ' a' w' h2) (conv _ _ E' φ' w' h0 h3 fun E'' st' φ' a' w' h0 ⟨g',hlt,st1,hle,hg⟩ h2 h3=>let ⟨φ4,r4,e4⟩:=hle _ _ _ _ _ h2;⟨g',hlt,E'',st1,φ4,h0,hg,r4,h3.trans (AmB e4)⟩)
end
end
section
def St.init (hs:List Ob)(xs:List VV):St:={ t:=fun i=>xs.getD i .dead,H:=Bm hs,nx:=hs.length }
def YT (T:TypeId->TE)(st:St):ResultVar->Option VV
 | .tmp t=>some (st.t t)
 | .cell p t=>match Jm T st t (st.t p) with
  | { val:=x,new:=_,put:=_,chk:=[] }=>some x
  | _=>none
def Ri (T:TypeId->TE)(st:St):List ResultVar->Option (List VV)
 | []=>some []
 | r::rs=>match YT T st r,Ri T st rs with
  | some x,some xs=>some (x::xs)
  | _,_=>none
def Pc (T:TypeId->TE)(st:St)(rs:List ResultVar):Option VV :=
 match Ri T st rs with
 | some [x]=>some x
 | some xs=>some (.tup xs)
 | none=>none
def Zy (b:Nat)(st:St)(x:VV):Option (List Ob × VV) :=
 bif RO st b (M6 st b (Ja 8 x)) then some ((M6 st b (Ja 8 x)).map (D7 st (M6 st b (Ja 8 x))),Jc st (M6 st b (Ja 8 x)) x) else none
def Zx (T:TypeId->TE)(pub:Bool)(b:Nat)(rs:List ResultVar)(st:St):Option (List Ob × VV) :=
 match Pc T st rs with
 | some x =>
  bif pub then
   match Gw st.H (st.nx+4) x with
   | some (y,ids)=>Zy b { st with H:=Ei ids st.H } y
   | none=>none
  else Zy b st x
 | none=>none
def Akk (T:TypeId->TE)(pub:Bool)(b:Nat)(rs:List ResultVar)(hs:List Ob)(r:VV):Exit->St->Prop
 | .normal,st | .ret,st=>match Zx T pub b rs st with
  | some (hs',r')=>leO hs' hs/\VV.le r' r
  | none=>False
 | _,_=>False
section
variable {P : Program} {T:TypeId->TE} {Sh:Shs} {N b:Nat} {L:Ann} {w:World} {E:AF} {φ:Phi} {st:St} {a:Act}
theorem AdM (hT:TOk P T)(h:Rel N E st φ a w){r:ResultVar}{x:VV}(hr:YT T st r=some x) :
  ∃ v,(match r with | .tmp t=>pure (a.tmps.getD t undef) | .cell p t=>do loadVar t (← asAddr (a.tmps.getD p undef)):Sem Value).run P w=.ok v w/\V w (E.up φ) (some φ) x v:=by
 cases r with
 | tmp t =>
  simp only[YT,Ak1]at hr
  subst hr
  exact⟨_,rfl,h.tm t⟩
 | cell p t =>
  simp only[YT]at hr
  split at hr
  ·rename_i y n u hl
   simp only[Ak1]at hr
   subst hr
   have hp:=h.tm p
   obtain⟨v,e1,e2⟩:=Aex (P:=P) hT h.hp (fun _ _=>rfl) hp (t:=t) (by rw[hl];intro p hp;simp at hp)
   rw[hl]at e2
   refine⟨v,?_,e2⟩
   have haddr:∃ ad,a.tmps.getD p undef=.pointer (some ad):=by
    generalize a.tmps.getD p undef=vp at hp
    generalize st.t p=z at hp hl
    cases z with
    | bp id off=>obtain⟨b,_,e⟩:=hp.bp_inv;exact⟨_,e⟩
    | ep id gen sz i o=>obtain⟨_,_,_,b,_,_,e,_⟩:=hp.ep_inv;exact⟨_,e⟩
    | tp cs=>obtain⟨b,off,e,_⟩:=hp.tp_inv;exact⟨_,e⟩
    | _=>simp[Jm,Res.bad]at hl
   obtain⟨ad,e⟩:=haddr
   rw[e]at e1
   simp only[e,asAddr,Sem.run_bind,Sem.run_pure,Result.andThen_ok]
   simpa[Instr.loadAt,Instr.sureAddr] using e1
  ·cases hr
theorem Ua (hT:TOk P T)(h:Rel N E st φ a w):∀ (rs:List ResultVar) (xs:List VV),Ri T st rs=some xs ->
  ∃ vs:List Value,(rs.mapM (fun r=>match r with | .tmp t=>pure (a.tmps.getD t undef) | .cell p t=>do loadVar t (← asAddr (a.tmps.getD p undef)):ResultVar->Sem Value)).run P w=.ok vs w/\CS w (E.up φ) (some φ) xs vs.toArray
 | [],xs,hx=>by
  simp only[Ri,Ak1]at hx
  subst hx
  exact⟨[],rfl,rfl,fun j x h=>by simp at h⟩
 | r::rs,xs,hx=>by
  simp only[Ri]at hx
  split at hx
  ·rename_i x xs' h1 h2
   simp only[Ak1]at hx
   subst hx
   obtain⟨v,e1,e2⟩:=AdM hT h h1
   obtain⟨vs,g1,g2⟩:=Ua hT h rs xs' h2
   refine⟨v::vs,?_,by simp[← g2.1],fun j y hy=>?_⟩
   ·rw[List.mapM_cons]
    simp only[Sem.run_bind,e1,g1,Result.andThen_ok,Sem.run_pure]
   ·match j,hy with
    | 0,hy=>simp only[Ala,Ak1]at hy;subst hy;exact e2
    | j+1,hy =>
     have:=g2.2 j y hy
     simpa[AlJ] using this
  ·cases hx
theorem T9 (hT:TOk P T)(h:Rel N E st φ a w){fn:Func}{r:VV}(hr:Pc T st fn.results.toList=some r):∃ v,(results fn a.tmps).run P w=.ok v w/\V w (E.up φ) (some φ) r v:=by
 unfold Pc at hr
 cases hx:Ri T st fn.results.toList with
 | none=>rw[hx]at hr;cases hr
 | some xs =>
  obtain⟨vs,g1,g2⟩:=Ua hT h _ xs hx
  have hrun:(results fn a.tmps).run P w=.ok (if h:vs.toArray.size=1 then vs.toArray[0] else .tuple vs.toArray) w:=by
   unfold results
   rw[Array.mapM_eq_mapM_toList,Sem.run_bind,Sem.run_map]
   have key:∀ (r:Result (List Value)),r=.ok vs w->((r.andThen fun a w'=>Result.ok a.toArray w').andThen fun a w'=>Sem.run P (pure (if h:a.size=1 then a[0] else Value.tuple a)) w')=.ok (if h:vs.toArray.size=1 then vs.toArray[0] else .tuple vs.toArray) w:=by rintro _ rfl;rfl
   exact key _ g1
  refine⟨_,hrun,?_⟩
  rw[hx]at hr
  match xs,hr,g2 with
  | [],hr,g2 =>
   simp only[Ak1]at hr
   subst hr
   have h0:vs.toArray.size=0:=g2.1
   rw[dif_neg (by omega)]
   exact .tup g2.1 g2.2
  | [x],hr,g2 =>
   simp only[Ak1]at hr
   subst hr
   have h0:vs.toArray.size=1:=g2.1
   rw[dif_pos h0]
   have:=g2.2 0 x rfl
   simp only[Array.getD]at this
   rw[dif_pos (by omega)]at this
   exact this
  | x::y::xs,hr,g2 =>
   simp only[Ak1]at hr
   subst hr
   have h0:vs.toArray.size=xs.length+2:=by rw[g2.1];simp
   rw[dif_neg (by omega)]
   exact .tup g2.1 g2.2
def fnB (fn:Func)(n:Nat):Bool:=fn.body.isSome&&EK fn.ntmps (fn.body.getD .skip)&&!(fn.name == "runtime.NumGoroutine")&&Nat.ble n fn.ntmps
def YF (fn:Func):Code:=fn.body.getD .skip
theorem UW (h:HRel E st.H φ w)(hlv:∀ id,id<st.nx->φ id≠none){x:VV}{v:Value}(hx:V w (E.up φ) (some φ) x v){hs:List Ob}{r:VV}(ho:Zy b st x=some (hs,r)) :
  ∃ φ',HRel E (Bm hs) φ' w/\Fr b w φ w φ'/\(∀ id,φ' id≠none ↔ id<hs.length)/\V w (E.up φ') (some φ') r v:=by
 unfold Zy at ho
 generalize M6 st b (Ja 8 x)=ids at ho
 cases hk:RO st b ids with
 | false=>rw[hk]at ho;cases ho
 | true =>
  rw[hk]at ho
  simp only[Ak4,Ak1,AlH]at ho
  obtain⟨rfl,rfl⟩:=ho
  obtain⟨hk1,hk2⟩:=RN hk
  refine⟨CO ids φ,h.lend hk1 (fun _ h=>.inl h) (fun _ h=>.inl h) h.sub (fun j id e=>by simp[Bm,e]),ZI hk2,fun id=>?_,EV (Fz h (fun _ h=>.inl h) fun _ h=>.inl h) _ _ _ hx⟩
  rw[Al8]
  exact Fy hk1 hlv id
theorem Ae1 (hT:TOk P T)(h:Rel N E st φ a w){fn:Func}{pub:Bool}{hs:List Ob}{r:VV}(ho:Zx T pub b fn.results.toList st=some (hs,r)) :
  ∃ v φ',(results fn a.tmps).run P w=.ok v w/\HRel E (Bm hs) φ' w/\Fr b w φ w φ'/\(∀ id,φ' id≠none ↔ id<hs.length)/\V w (E.up φ') (some φ') r v:=by
 unfold Zx at ho
 split at ho
 ·rename_i x hx
  obtain⟨v,h1,h2⟩:=T9 hT h hx
  cases pub with
  | false =>
   obtain⟨φ',k1,k2,k3,k4⟩:=UW h.hp h.lv h2 ho
   exact⟨v,φ',h1,k1,k2,k3,k4⟩
  | true =>
   simp only[Ak4]at ho
   split at ho
   ·rename_i y ids hp
    have h3:=Kr (ids:=ids) h.hp _ x y v ids h2 hp fun _ h=>h
    obtain⟨φ',k1,k2,k3,k4⟩:=UW (st:={ st with H:=Ei ids st.H }) (h.hp.gone (ids:=ids)) (fun id hid e=>h.lv id hid (Dh.1 e)) (V.held (V.unhold h3)) ho
    exact⟨v,φ',h1,k1,(AmB C8).trans k2,k3,k4⟩
   ·cases ho
 ·cases ho
theorem V.over {E':AF}{w':World}{m:Option Phi}{x:VV}{v:Value}(h:V w (E'.up φ) m x v)(hs:w.heap.size<=w'.heap.size)(hA:∀ k,k<w.heap.size->¬ E'.fz k->w'.heap[k]?=w.heap[k]?/\¬ E.fz k)(hR:∀ k,k<w.heap.size->¬ E'.br k->w'.heap[k]?=w.heap[k]?/\¬ E.br k):V w' (E.up φ) m x v :=
 h.mono hs (fun k hk hn=>let ⟨h1,h2⟩:=hA k hk fun e=>hn (.inl e);⟨h1,fun e=>e.elim h2 fun h=>hn (.inr h)⟩) (fun k hk hn=>let ⟨h1,h2⟩:=hR k hk fun e=>hn (.inl e);⟨h1,fun e=>e.elim h2 fun h=>hn (.inr h)⟩) (by cases m with
  | none=>trivial
  | some φ=>exact Hr.refl φ)
theorem HRel.over {E':AF}{w':World}{H:Nat->Ob}(h:HRel E' H φ w)(hb:∀ k,E.br k->E.fz k)(hs:w.heap.size<=w'.heap.size)(hA:∀ k,k<w.heap.size->¬ E'.fz k->w'.heap[k]?=w.heap[k]?/\¬ E.fz k)(hR:∀ k,k<w.heap.size->¬ E'.br k->w'.heap[k]?=w.heap[k]?/\¬ E.br k):HRel E H φ w':=by
 have own:∀ {id p k},φ id=some p->PlB p k->w'.heap[k]?=w.heap[k]?:=fun{id p k} e hp=>by
  have ho:Own φ k:=⟨id,AI.2 ⟨p,e,hp⟩⟩
  exact(hA k (h.lt ho) (h.free k ho)).1
 refine⟨hb,fun id p e=>?_,h.inj,fun k hk=>(hA k (h.lt hk) (h.free k hk)).2⟩
 have ho:=h.ob id p e
 generalize H id=o at ho ⊢
 cases o with
 | box cs =>
  cases p with
  | box b =>
   obtain⟨c,ty,a1,a2⟩:=ho
   exact⟨c,ty,(own e rfl).trans a1,a2.1,fun j x hx=>(a2.2 j x hx).over hs hA hR⟩
  | arr=>exact ho.elim
 | arr fr g n sz f =>
  cases p with
  | box b=>exact ho.elim
  | arr g' n' hd =>
   obtain⟨rfl,rfl,ho⟩:=ho
   refine⟨rfl,rfl,?_⟩
   match hd,ho,e with
   | none,ho,_=>exact ho
   | some (b,cap),ho,e =>
    obtain⟨c,ty,a1,a2,a3,a4,a5,a6,a7⟩:=ho
    refine⟨c,ty,(own e ⟨cap,rfl⟩).trans a1,a2,a3,a4,a5,fun i j x hi hx=>?_,a7⟩
    have:=a6 i j x hi hx
    cases fr with
    | true=>exact V.mono (E:=(E'.up φ).hold) (E':=(E.up φ).hold) this hs (fun k hk hn=>let ⟨h1,h2⟩:=hA k hk fun e=>hn (.inl e);⟨h1,fun e=>e.elim h2 fun h=>hn (.inr h)⟩) (fun _ _ hn=>(hn trivial).elim) trivial
    | false=>exact V.over (E:=E) (E':=E') this hs hA hR
 | gone g =>
  cases p with
  | box b=>exact ho.elim
  | arr g' n' hd=>exact ho
theorem Rel.over {E':AF}{w':World}(h:Rel N E' st φ a w)(hb:∀ k,E.br k->E.fz k)(hs:w.heap.size<=w'.heap.size)(hA:∀ k,k<w.heap.size->¬ E'.fz k->w'.heap[k]?=w.heap[k]?/\¬ E.fz k)(hR:∀ k,k<w.heap.size->¬ E'.br k->w'.heap[k]?=w.heap[k]?/\¬ E.br k)
  (hz:∀ k,E.fz k->k<w'.heap.size) (hd:QS E E.ds w') (hl:∀ k,k∈DX->w'.heap[k]?=w.heap[k]?):Rel N E st φ { a with defers:=E.ds } w' :=
 ⟨h.sz,⟨rfl,hd⟩,⟨hz,h.old.lib.at'.congr hl,fun k hk=>Alr (h.old.lib.lt k hk) hs,h.old.lib.out⟩,fun t=>(h.tm t).over hs hA hR,h.hp.over hb hs hA hR,h.fr,h.lv⟩
def IG : List Nat->World->World
 | [],w=>w
 | D::Ds,w=>IG Ds (w.putObj D (.deferred none))
theorem Kn : ∀ {Ds:List Nat} {w:World},(IG Ds w).heap.size=w.heap.size
 | [],_=>rfl
 | D::Ds,w=>(Kn (Ds:=Ds)).trans (by simp)
theorem Rv : ∀ {Ds:List Nat} {w:World},(IG Ds w).os=w.os/\(IG Ds w).tape=w.tape/\(IG Ds w).output=w.output
 | [],_=>⟨rfl,rfl,rfl⟩
 | D::Ds,w=>Rv (Ds:=Ds) (w:=w.putObj D (.deferred none))
theorem GL {k:Nat}:∀ {Ds:List Nat} {w:World},k ∉ Ds->(IG Ds w).heap[k]?=w.heap[k]?
 | [],_,_=>rfl
 | D::Ds,w,h=>by
  simp only[AlQ,not_or]at h
  exact(GL (Ds:=Ds) h.2).trans (World.putObj_heap_other h.1)
theorem Mt {fn:Func}{tmps:Array Value}{R:Ending->World->Prop}:∀ (Ds:List Nat) (w:World),Ds.Nodup->(∀ D,D∈Ds->w.heap[D]?=some (.deferred (some [])))->(∃ v,(results fn tmps).run P (IG Ds w)=.ok v (IG Ds w)/\R (.returned v) (IG Ds w))->LeavesInM Fence.wide 0 P fn tmps R (Ds.map Aha) .returning w
 | [],w,_,_,h=>h
 | D::Ds,w,hn,hm,h=>by
  rw[Anb]at hn
  exact⟨by simp,.inl ⟨D,_,rfl,run_takeDeferred (hm D (Alb ..)),Mt Ds _ hn.2 (fun D' hD'=>(World.putObj_heap_other fun e=>hn.1 (by rw[← e];exact hD')).trans (hm D' (Alp _ hD'))) h⟩⟩
theorem Qz {f:FuncId}{fn:Func}{c:Code}{args:Array Value}{R:Ending->World->Prop}(hf:P.funcs[f]?=some fn)(hb:fn.body=some c)
  (h:c.wp P (fun e a w=>(e=.normal∨e=.ret)/\∃ Ds:List Nat,a.defers=Ds.map Aha/\Ds.Nodup/\(∀ D,D∈Ds->w.heap[D]?=some (.deferred (some []))) /\
   ∃ v,(results fn a.tmps).run P (IG Ds w)=.ok v (IG Ds w)/\R (.returned v) (IG Ds w)) { tmps:=args++Array.replicate (fn.ntmps - args.size) undef,defers:=[] } w):Calls P f args w R:=by
 refine(callsIn_wide (n:=0)).1 (callsIn_of_wp_marks hf hb trivial (wpIn_mono (wpIn_wide.2 h) ?_) rfl)
 rintro e a w ⟨he,Ds,hd,hn,hD,hv⟩
 have key:LeavesInM Fence.wide 0 P fn a.tmps R a.defers .returning w:=by rw[hd];exact Mt Ds w hn hD hv
 rcases he with rfl | rfl<;>exact key
def Afr (P:Program)(T:TypeId->TE)(Sh:Shs)(L:Ann)(pub:Bool)(fn:Func)(hs:List Ob)(xs:List VV)(hs':List Ob)(r:VV):Prop :=
 xc P T Sh fn.ntmps L [] (YF fn) (Akk T pub L.base fn.results.toList hs' r) (St.init hs xs)
theorem AdK (hT:TOk P T)(hmx:P.follows .mixedOrders=true){f:FuncId}{fn:Func}{hs:List Ob}{xs:List VV}{hs':List Ob}{r:VV}(Sh:Shs)(L:Ann)(pub:Bool)(hf:P.funcs[f]?=some fn)
  (hfn:fnB fn xs.length=true) (hb:L.base=hs.length) (h:Afr P T Sh L pub fn hs xs hs' r):Ai P f hs xs hs' r:=by
 unfold Afr YF at h
 unfold fnB at hfn
 simp only[Ak2,Amy]at hfn
 obtain⟨⟨⟨hb1,hB⟩,hn⟩,hx⟩:=hfn
 obtain⟨c,hbd⟩:=Option.isSome_iff_exists.1 hb1
 rw[hbd,Amm]at h hB
 refine⟨⟨fn,hf,by rw[hbd];rfl,hn⟩,fun w E φ vs hz hH hφ hs1=>?_⟩
 have hxl:=Alm hx
 obtain⟨E1,hE1,e1,e2,e3⟩:∃ E1:AF,E1.lo=w.heap.size/\E1.fz=E.fz/\E1.br=E.br/\E1.ds=[]:=⟨⟨E.fz,E.br,w.heap.size,[]⟩,rfl,rfl,rfl,rfl⟩
 have le1:∀ k,E.fz k->E1.fz k:=fun k h=>by rw[e1];exact h
 have le2:∀ k,E.br k->E1.br k:=fun k h=>by rw[e2];exact h
 have le3:∀ k,E1.fz k->E.fz k:=fun k h=>by rw[e1]at h;exact h
 have le4:∀ k,E1.br k->E.br k:=fun k h=>by rw[e2]at h;exact h
 have hrel:Rel fn.ntmps E1 (St.init hs xs) φ { tmps:=vs++Array.replicate (fn.ntmps - vs.size) undef,defers:=[] } w:=by
  refine⟨?_,⟨e3.symm,by rw[e3];exact .nil (AmR hE1)⟩,⟨fun k hk=>hz.lt k (le3 k hk),hz.lib⟩,fun t=>?_,hH.over (fun k h=>le1 k (hH.sub k (le4 k h))) (Ak6 _) (fun _ _ h=>⟨rfl,fun e=>h (le3 _ e)⟩) (fun _ _ h=>⟨rfl,fun e=>h (le4 _ e)⟩),fun id hid=>?_,fun id hid=>(hφ id).2 hid⟩
  ·simp[hs1.1];omega
  ·show V w _ _ (xs.getD t .dead) _
   cases hq:xs[t]? with
   | none=>rw[Alf,hq];exact .dead
   | some x =>
    have ht:t<vs.size:=by rw[hs1.1];exact(Ak3.1 hq).1
    rw[Alf,hq]
    have:=hs1.2 t x hq
    have e:(vs++Array.replicate (fn.ntmps - vs.size) undef).getD t undef=vs.getD t undef:=by
     simp[Ane ht]
    rw[e]
    exact this.over (Ak6 _) (fun _ _ h=>⟨rfl,fun e=>h (le3 _ e)⟩) fun _ _ h=>⟨rfl,fun e=>h (le4 _ e)⟩
  ·have hid':hs.length<=id:=hid
   exact Alt fun hn=>by have:=(hφ id).1 hn;omega
 refine Qz hf hbd (Ams ((Ht hT hmx c hB _ _ _ h).h E1 φ _ w hrel) ?_)
 rintro e a' w' ⟨E',st',φ',h0,h1,h2,h3⟩
 have key:(match Zx T pub L.base fn.results.toList st' with
  | some (hs'',r')=>leO hs'' hs'/\VV.le r' r
  | none=>False)->∃ Ds:List Nat,a'.defers=Ds.map Aha/\Ds.Nodup/\(∀ D,D∈Ds->w'.heap[D]?=some (.deferred (some []))) /\
   ∃ v,(results fn a'.tmps).run P (IG Ds w')=.ok v (IG Ds w')/\∃ v' φ'',Ending.returned v=.returned v'/\HRel E (Bm hs') φ'' (IG Ds w')/\Fr hs.length w φ (IG Ds w') φ''/\(∀ id,φ'' id≠none ↔ id<hs'.length)/\V (IG Ds w') (E.up φ'') (some φ'') r v':=by
  intro hres
  obtain⟨hds,hlo,Ds,hd,hnd,hm⟩:=h2.df
  rw[← hds]at hd
  have hz':∀ k,E.fz k->k<w'.heap.size:=fun k hk=>h2.old.lt k (h0.fz k (le1 k hk))
  have hr2:Rel fn.ntmps { E with lo:=0,ds:=[] } st' φ' { a' with defers:=[] } (IG Ds w'):=by
   refine h2.over (fun k h=>hH.sub k h) (AmR Kn.symm) (fun k _ hn=>⟨GL fun h=>hn (hm k h).2.1,fun h=>hn (h0.fz k (le1 k h))⟩) (fun k _ hn=>⟨GL fun h=>hn (hm k h).2.2.1,fun h=>hn (h0.br k (le2 k h))⟩)
    (fun k hk=>by rw[Kn];exact hz' k hk) (.nil (Alc _)) fun k hk=>GL fun h=>(hm k h).2.2.2.1 hk
  have hf2:Fr L.base w φ (IG Ds w') φ':=by
   obtain⟨s1,s2,s3⟩:=Rv (Ds:=Ds) (w:=w')
   refine⟨s1.trans h3.os,s2.trans h3.tape,s3.trans h3.output,by rw[Kn];exact h3.size,fun k hk hn=>?_,h3.new,h3.kind⟩
   rw[GL fun h=>?_]
   ·exact h3.block k hk hn
   ·have:=(hm k h).2.2.2.2
    rw[h0.lo,hE1]at this
    omega
  split at hres
  ·rename_i hs'' r' ho
   obtain⟨v,φ'',g1,g2,g3,g4,g5⟩:=Ae1 hT hr2 ho
   have hl:=(Gf hres.1).1
   refine⟨Ds,hd,hnd,fun D hD=>(hm D hD).1,v,g1,v,φ'',rfl,(g2.le hres.1).over hH.sub (Ak6 _) (fun _ _ h=>⟨rfl,h⟩) (fun _ _ h=>⟨rfl,h⟩),?_,fun id=>by rw[← hl];exact g4 id,(hres.2 _ _ _ _ g5).over (Ak6 _) (fun _ _ h=>⟨rfl,h⟩) (fun _ _ h=>⟨rfl,h⟩)⟩
   rw[← hb]
   exact hf2.trans g3
  ·exact hres.elim
 cases e with
 | normal=>exact⟨.inl rfl,key h1⟩
 | ret=>exact⟨.inr rfl,key h1⟩
 | _=>exact h1.elim
theorem Ai.le {f:FuncId}{hs hs' hs1 hs2:List Ob}{xs xs1:List VV}{r r':VV}(h:Ai P f hs xs hs' r)(h1:leO hs1 hs)(h2:leL xs1 xs)(h3:leO hs' hs2)(h4:VV.le r r'):Ai P f hs1 xs1 hs2 r':=by
 refine⟨h.callable,fun w E φ vs hz hH hφ hs0=>?_⟩
 obtain⟨k1,k2⟩:=HU h2
 have hl1:=(Gf h1).1
 have hl3:=(Gf h3).1
 refine(h.call w E φ vs hz (hH.le h1) (fun id=>by rw[← hl1];exact hφ id) ⟨hs0.1.trans k1,fun j y hy=>let ⟨x,hx,hle⟩:=k2 j y hy;hle _ _ _ _ (hs0.2 j x hx)⟩).mono ?_
 rintro e w' ⟨v,φ',e1,g1,g2,g3,g4⟩
 exact⟨v,φ',e1,g1.le h3,by rw[hl1];exact g2,fun id=>by rw[← hl3];exact g3 id,h4 _ _ _ _ g4⟩
end
end
section
structure Ctx where
 P:Program
 T:TypeId->TE
 Sh:Shs
 N:Nat
 L:Ann
 code:Code
 p0:List Nat
 K0:Exit->St->Prop
def Ctx.goal (c:Ctx)(st:St):Prop:=xc c.P c.T c.Sh c.N c.L c.p0 c.code c.K0 st
def Ctx.sub (c:Ctx)(rel:List Nat):Code:=Ew rel c.code
def Ctx.k (c:Ctx)(rel:List Nat):Exit->St->Prop:=RV c.P c.T c.Sh c.N c.L rel c.p0 c.code c.K0
def Ctx.at (c:Ctx)(rel:List Nat):List Nat:=rel.reverse++c.p0
def AA (c:Ctx)(rel:List Nat)(st:St):Prop:=Sat c.P c.N c.L.base (c.at rel) (c.sub rel) (c.k rel) st
def Ctx.loop (c:Ctx)(rel:List Nat)(J:St->Prop):Ctx :=
 { c with code:=Ew (rel++[0]) c.code,p0:=0::c.at rel,K0:=Afc c.L.base (c.L.keep (c.at rel)) J (c.k rel) }
def Ctx.first (c:Ctx)(rel:List Nat)(l:Nat)(J:St->Prop):Ctx :=
 { c with code:=Ew (rel++[0]) c.code,p0:=0::c.at rel,K0:=RW l c.L.base (c.L.keep (c.at rel)) J (c.k rel) }
def Ctx.pass (c:Ctx)(rel:List Nat)(l:Nat)(J:St->Prop):Ctx :=
 { c with code:=(findLabel (Ew (rel++[0]) c.code) l).getD .skip,p0:=1::c.at rel,K0:=RW l c.L.base (c.L.keep (c.at rel)) J (c.k rel) }
def Ctx.cut (c:Ctx)(rel:List Nat):Ctx:={ c with code:=Ew rel c.code,p0:=c.at rel,K0:=c.k rel }
def CR (P:Program)(T:TypeId->TE)(Sh:Shs)(L:Ann)(pub:Bool)(fn:Func)(hs':List Ob)(r:VV):Ctx :=
 ⟨P,T,Sh,fn.ntmps,L,YF fn,[],Akk T pub L.base fn.results.toList hs' r⟩
theorem AbD {c:Ctx}(hT:TOk c.P c.T)(hmx:c.P.follows .mixedOrders=true){rel:List Nat}{st:St}(J:Nat->St->Prop)(hl:c.sub rel=.loop (Ew (rel++[0]) c.code))(hB:EK c.N (Ew (rel++[0]) c.code)=true)(hJ:∃ g,Up (J g) st)
  (round:∀ g st,J g st->(c.loop rel fun st'=>∃ g',g'<g/\Up (J g') st').goal st):AA c rel st :=
 Aet (L:=c.L) (p:=c.at rel) (K:=c.k rel) hT hmx _ c.Sh (c.L.keep (c.at rel)) J hl hB hJ round
theorem Xj {c:Ctx}(hT:TOk c.P c.T)(hmx:c.P.follows .mixedOrders=true){rel:List Nat}{st:St}(l:Nat)(J:Nat->St->Prop)(hl:c.sub rel=.scope (Ew (rel++[0]) c.code))(hf:(findLabel (Ew (rel++[0]) c.code) l).isSome=true)
  (hB:EK c.N (Ew (rel++[0]) c.code)=true) (hB':EK c.N ((findLabel (Ew (rel++[0]) c.code) l).getD .skip)=true)
  (first:(c.first rel l fun st'=>∃ g,Up (J g) st').goal st) (pass:∀ g st,J g st->(c.pass rel l fun st'=>∃ g',g'<g/\Up (J g') st').goal st):AA c rel st:=by
 obtain⟨rest,hr⟩:=Option.isSome_iff_exists.1 hf
 have e:(findLabel (Ew (rel++[0]) c.code) l).getD .skip=rest:=by rw[hr];rfl
 refine AbA (L:=c.L) (p:=c.at rel) (K:=c.k rel) hT hmx _ rest c.Sh (c.L.keep (c.at rel)) l J hl hr hB (by rw[← e];exact hB') first fun g st h=>?_
 rw[← e]
 exact pass g st h
theorem AA.le {c:Ctx}{rel:List Nat}{l l':List (Nat × VV)}{hs hs':List Ob}(h1:leT l l')(h2:leO hs hs')(h:AA c rel (Aq l' hs')):AA c rel (Aq l hs):=Sat.le h1 h2 h
theorem AA.own {c:Ctx}{rel:List Nat}{l:List (Nat × VV)}{hs:List Ob}(k t sz:Nat)(f:Nat->List VV)(hk:l[k]?=some (t,.nl))(h:AA c rel (Aq (l.set k (t,.ow hs.length 0 0)) (hs++[.arr true 0 0 sz f]))):AA c rel (Aq l hs):=Sat.own k t sz f hk h
structure Be (A:Prop):Prop where
 out:A
theorem Alu {A Q:Prop}(e:A=Q)(h:Q):Be A:=⟨e.mpr h⟩
theorem Ah {P:Program}{T:TypeId->TE}(hT:TOk P T)(hmx:P.follows .mixedOrders=true){f:FuncId}{fn:Func}{hs:List Ob}{xs:List VV}{hs':List Ob}{r:VV}{Sh:Shs}{L:Ann}{pub:Bool}{Q:Prop}(hf:P.funcs[f]?=some fn)
  (hfn:fnB fn xs.length=true) (hb:L.base=hs.length) (e:(CR P T Sh L pub fn hs' r).goal (St.init hs xs)=Q) (h:Q):Ai P f hs xs hs' r :=
 AdK hT hmx Sh L pub hf hfn hb (e.mpr h)
theorem OR {c:Ctx}(hT:TOk c.P c.T)(hmx:c.P.follows .mixedOrders=true){rel:List Nat}{st:St}{Q:Prop}(hB:EK c.N (Ew rel c.code)=true)(e:(c.cut rel).goal st=Q)(h:Q):AA c rel st :=
 Ht (L:=c.L) hT hmx _ hB _ _ _ (e.mpr h)
theorem Bh {c:Ctx}(hT:TOk c.P c.T)(hmx:c.P.follows .mixedOrders=true){rel:List Nat}{st:St}(J:Nat->St->Prop)(hl:c.sub rel=.loop (Ew (rel++[0]) c.code))(hB:EK c.N (Ew (rel++[0]) c.code)=true)(hJ:∃ g,Up (J g) st)
  (round:∀ g st,J g st->Be ((c.loop rel fun st'=>∃ g',g'<g/\Up (J g') st').goal st)):AA c rel st :=
 AbD hT hmx J hl hB hJ fun g st h=>(round g st h).out
theorem M0 {c:Ctx}(hT:TOk c.P c.T)(hmx:c.P.follows .mixedOrders=true){rel:List Nat}{st:St}(l:Nat)(J:Nat->St->Prop)(hl:c.sub rel=.scope (Ew (rel++[0]) c.code))(hf:(findLabel (Ew (rel++[0]) c.code) l).isSome=true)
  (hB:EK c.N (Ew (rel++[0]) c.code)=true) (hB':EK c.N ((findLabel (Ew (rel++[0]) c.code) l).getD .skip)=true)
  (first:Be ((c.first rel l fun st'=>∃ g,Up (J g) st').goal st)) (pass:∀ g st,J g st->Be ((c.pass rel l fun st'=>∃ g',g'<g/\Up (J g') st').goal st)):AA c rel st :=
 Xj hT hmx l J hl hf hB hB' first.out fun g st h=>(pass g st h).out
end
section
section
variable {w : World} {E:AF} {m:Option Phi} {v:Value}
theorem V.unmap {φ:Phi}(hφ:∀ id,φ id=none){x:VV}(h:V w E (some φ) x v):V w E none x v:=by
 generalize hm:some φ=m0 at h
 induction h with
 | dead=>exact .dead
 | sc=>exact .sc
 | nl=>exact .nl
 | nil h=>exact .nil h
 | sl u h1 h2 h3 h4 h5 h6 h7 _=>exact .sl u h1 h2 h3 h4 h5 h6 h7
 | tp u h1 h2 h3 h4 _=>exact .tp u h1 h2 h3 h4
 | bp h=>obtain rfl:=Ali hm;rw[hφ]at h;cases h
 | ow h=>obtain rfl:=Ali hm;rw[hφ]at h;cases h
 | ep h=>obtain rfl:=Ali hm;rw[hφ]at h;cases h
 | agg h1 h2 ih=>exact .agg h1 fun j x hx=>ih j x hx hm
 | tup h1 h2 ih=>exact .tup h1 fun j x hx=>ih j x hx hm
 | fn h1 h2 ih=>exact .fn h1 fun j x hx=>ih j x hx hm
 | er h=>exact .er h
theorem CS.cons_inv {x:VV}{xs:List VV}{vs:Array Value}(h:CS w E m (x::xs) vs):∃ u us,vs=#[u]++us/\V w E m x u/\CS w E m xs us:=by
 obtain⟨l⟩:=vs
 match l,h with
 | [],h=>have:=h.1;simp at this
 | u::l,h =>
  refine⟨u,l.toArray,by simp,h.2 0 x rfl,by have:=h.1;simpa using this,fun j y hy=>?_⟩
  have:=h.2 (j+1) y hy
  simpa[AlJ] using this
theorem CS.nil_inv {vs:Array Value}(h:CS w E m [] vs):vs=#[]:=by
 have:=h.1;exact Array.eq_empty_of_size_eq_zero (by simpa using this)
theorem V.agg2_inv {x y:VV}(h:V w E m (.agg [x,y]) v):∃ a b,v=.agg #[a,b]/\V w E m x a/\V w E m y b:=by
 obtain⟨vs,rfl,h1,h2⟩:=h.agg_inv
 obtain⟨l⟩:=vs
 match l,h1,h2 with
 | [a,b],_,h2=>exact⟨a,b,rfl,h2 0 x rfl,h2 1 y rfl⟩
theorem WL {x y:VV}{a b:Value}(h1:V w E m x a)(h2:V w E m y b):V w E m (.agg [x,y]) (.agg #[a,b]):=by
 refine .agg rfl fun j z hz=>?_
 match j,hz with
 | 0,hz=>simp only[Ala,Ak1]at hz;subst hz;exact h1
 | 1,hz=>simp only[AlN,Ala,Ak1]at hz;subst hz;exact h2
 | j+2,hz=>simp at hz
theorem MS {x y:VV}{a b:Value}(h1:V w E m x a)(h2:V w E m y b):V w E m (.tup [x,y]) (.tuple #[a,b]):=by
 refine .tup rfl fun j z hz=>?_
 match j,hz with
 | 0,hz=>simp only[Ala,Ak1]at hz;subst hz;exact h1
 | 1,hz=>simp only[AlN,Ala,Ak1]at hz;subst hz;exact h2
 | j+2,hz=>simp at hz
theorem AdQ {x y z:VV}{a b c:Value}(h1:V w E m x a)(h2:V w E m y b)(h3:V w E m z c):V w E m (.tup [x,y,z]) (.tuple #[a,b,c]):=by
 refine .tup rfl fun j z hz=>?_
 match j,hz with
 | 0,hz=>simp only[Ala,Ak1]at hz;subst hz;exact h1
 | 1,hz=>simp only[AlN,Ala,Ak1]at hz;subst hz;exact h2
 | 2,hz=>simp only[AlN,Ala,Ak1]at hz;subst hz;exact h3
 | j+3,hz=>simp at hz
end
theorem Ai.hand {P:Program}{f:FuncId}{xs:List VV}{r:VV}(hc:Hd P f)
  (h:∀ (w:World) (E:AF) (vs:Array Value),(∀ k,E.fz k->k<w.heap.size)->Cb w->(∀ k,k∈DX->k<w.heap.size)->(∀ k,E.br k->E.fz k)->CS w E none xs vs->Calls P f vs w fun e w'=>∃ v,e=.returned v/\V w' E none r v/\Below w.heap.size w w'):Ai P f [] xs [] r:=by
 refine⟨hc,fun w E φ vs hz hH hφ hs=>?_⟩
 have hnone:∀ id,φ id=none:=fun id=>Alt fun hn=>by have:=(hφ id).1 hn;simp at this
 refine(h w (E.up φ) vs ?_ hz.lib.at' hz.lib.lt ?_ ⟨hs.1,fun j x hx=>(hs.2 j x hx).unmap hnone⟩).mono ?_
 ·rintro k (hk | hk)
  ·exact hz.lt k hk
  ·exact hH.lt hk
 ·exact fun k hk=>hk.imp (hH.sub k) fun h=>h
 ·rintro e w' ⟨v,rfl,hV,hB⟩
  exact⟨v,φ,rfl,hH.below hB,AmB (Ext.of_below hB),hφ,hV.held⟩
theorem Ai.start {P:Program}{f:FuncId}{xs:List VV}{r:VV}(h:Ai P f [] xs [] r){w:World}{vs:Array Value}(hL:Cb w)(hB:∀ k,k∈DX->k<w.heap.size)(hs:CS w ⟨fun _=>False,fun _=>False,0,[]⟩ none xs vs) :
  Calls P f vs w fun e w'=>∃ v,e=.returned v/\Below w.heap.size w w'/\V w' ⟨fun _=>False,fun _=>False,0,[]⟩ none r v:=by
 have hno:∀ k,¬ Own (fun _=>none:Phi) k:=by
  rintro k ⟨id,hb⟩
  obtain⟨p,hp,_⟩:=AI.1 hb
  cases hp
 refine(h.call w ⟨fun _=>False,fun _=>False,0,[]⟩ (fun _=>none) vs ⟨fun _ h=>h.elim,hL,hB,fun k _ ho=>hno k ho⟩ ⟨fun _ h=>h,fun id p e=>(by cases e),fun i j k hb=>(hno k ⟨i,hb⟩).elim,fun k hk=>(hno k hk).elim⟩ (fun id=>by simp) ⟨hs.1,fun j x hx=>?_⟩).mono ?_
 ·exact((hs.2 j x hx).held).less (fun k hk=>hk.elim (fun h=>h) (hno k)) fun k hk=>hk.elim (fun h=>h) (hno k)
 ·rintro e w' ⟨v,φ',rfl,_,h2,h3,h4⟩
  have hnone:∀ id,φ' id=none:=fun id=>Alt fun hn=>by have:=(h3 id).1 hn;simp at this
  refine⟨v,rfl,⟨h2.os,h2.tape,h2.output,h2.size,fun k hk=>h2.block k hk (hno k)⟩,(h4.unmap hnone).less (fun _ h=>h.elim) fun _ h=>h.elim⟩
end
def Aa (n:Int):VV:=.sc (.int .i64 n)
def Ac (b:Bool):VV:=.sc (.bool b)
def AD (s:ByteArray):VV:=.sc (.string s)
structure Ev {α:Type} (p:Pkg α) (enc:α->List VV) (wf:α->Prop):Prop where
 ok:∀ {w:World} {E:AF} {m:Option Phi} {cs:List Value} {x:α},(∀ k,¬ E.fz k)->p.mu x<=1048576->Is p w cs x->cs.length=(enc x).length/\(∀ (j:Nat) (y:VV),(enc x)[j]?=some y->V w E m y (cs.getD j undef))/\wf x
namespace Ev
def wInt (k:IntKind)(n:Int):Prop:=(Lit.int k n).wf=true
theorem imp {α:Type}{p:Pkg α}{e e':α->List VV}{wf wf':α->Prop}(h:Ev p e wf)(he:∀ x,e x=e' x)(hw:∀ x,wf x->wf' x):Ev p e' wf':=⟨fun{w E m cs x} hE hm k=>by
 obtain⟨h1,h2,h3⟩:=h.ok (E:=E) (m:=m) hE hm k
 rw[← he x]
 exact⟨h1,h2,hw x h3⟩⟩
theorem int (k:IntKind):Ev (Pkg.int k) (fun n=>[.sc (.int k n)]) (wInt k):=⟨fun{w E m cs x} _ _ h=>by
 obtain⟨rfl,hw⟩:=X4.1 h
 refine⟨rfl,fun j y hy=>?_,hw⟩
 match j,hy with
 | 0,hy=>simp only[Ala,Ak1]at hy;subst hy;exact .sc
 | j+1,hy=>simp at hy⟩
theorem bool : Ev Pkg.bool (fun b=>[.sc (.bool b)]) (fun _=>True):=⟨fun{w E m cs x} _ _ h=>by
 obtain rfl:=Ahl.1 h
 refine⟨rfl,fun j y hy=>?_,trivial⟩
 match j,hy with
 | 0,hy=>simp only[Ala,Ak1]at hy;subst hy;exact .sc
 | j+1,hy=>simp at hy⟩
theorem str : Ev Pkg.str (fun b=>[.sc (.string b)]) (fun b=>b.size<=1048576):=⟨fun{w E m cs x} _ hm h=>by
 obtain⟨rfl,hs⟩:=Ajl.1 h
 have hm':x.size+1<=1048576:=hm
 refine⟨rfl,fun j y hy=>?_,by omega⟩
 match j,hy with
 | 0,hy=>simp only[Ala,Ak1]at hy;subst hy;exact .sc
 | j+1,hy=>simp at hy⟩
theorem unit : Ev Pkg.unit (fun _=>[]) (fun _=>True):=⟨fun{w E m cs x} _ _ h=>by
 obtain rfl:=ZM.1 h
 exact⟨rfl,fun j y hy=>by simp at hy,trivial⟩⟩
theorem cons {α β:Type}{p:Pkg α}{q:Pkg β}{e1:α->List VV}{e2:β->List VV}{w1:α->Prop}{w2:β->Prop}{n:Nat}(h1:Ev p e1 w1)(h2:Ev q e2 w2):Ev (Pkg.cons n p q) (fun y=>e1 y.1++e2 y.2) (fun y=>w1 y.1/\w2 y.2):=⟨fun{w E m cs x} hE hm h=>by
 obtain⟨a,b,rfl,ha,k1,k2⟩:=Ahk.1 h
 have hm':p.mu x.1+q.mu x.2<=1048576:=hm
 obtain⟨l1,v1,f1⟩:=h1.ok (E:=E) (m:=m) hE (by omega) k1
 obtain⟨l2,v2,f2⟩:=h2.ok (E:=E) (m:=m) hE (by omega) k2
 refine⟨by simp[l1,l2],fun j y hy=>?_,f1,f2⟩
 by_cases hj:j<(e1 x.1).length
 ·rw[Ale hj]at hy
  have:=v1 j y hy
  rw[Alf,Ale (by omega),← Alf]
  exact this
 ·rw[All (by omega)]at hy
  have:=v2 _ y hy
  rw[Alf,All (by omega),l1,← Alf]
  exact this⟩
theorem via {α β:Type}{p:Pkg α}{e:α->List VV}{wf:α->Prop}(f:β->α)(h:Ev p e wf):Ev (Pkg.via f p) (fun y=>e (f y)) (fun y=>wf (f y)):=⟨fun{w E m cs x} hE hm k=>h.ok hE (by have hm':p.mu (f x)+1<=1048576:=hm;omega) (Afj.1 k)⟩
theorem mem_sum {α:Type}{μ:α->Nat}:∀ {l:List α} {y:α},y∈l->μ y<=Rd.sum μ l
 | x::l,y,h=>by
  rcases AlQ.1 h with rfl | h
  ·simp only[Rd.sum];omega
  ·have:=mem_sum (μ:=μ) h;simp only[Rd.sum];omega
 | [],_,h=>by cases h
theorem len_sum {α:Type}{μ:α->Nat}(h1:∀ x,1<=μ x):∀ (l:List α),l.length<=Rd.sum μ l
 | []=>by simp
 | x::l=>by have:=len_sum h1 l;have:=h1 x;simp only[Rd.sum,AlE];omega
theorem one_sum {α:Type}{μ:α->Nat}:∀ (l:List α),1<=Rd.sum μ l
 | []=>by simp[Rd.sum]
 | x::l=>by have:=one_sum (μ:=μ) l;simp only[Rd.sum];omega
theorem slice {α:Type}{p:Pkg α}{e:α->List VV}{wf:α->Prop}{size bytes:Nat}(d:α)(h:Ev p e wf)(hl:∀ x,(e x).length=size)(hp:∀ x,1<=p.mu x):Ev (Pkg.slice size bytes p) (fun l=>[.sl true l.length size fun i=>e (l.getD i d)]) (fun l=>l.length<=1048576/\∀ y∈l,wf y):=⟨fun{w E m cs x} hE hmu k=>by
 have hmu':Rd.sum p.mu x<=1048576:=hmu
 have hmem:∀ y∈x,p.mu y<=1048576:=fun y hy=>Als (mem_sum hy) hmu'
 obtain⟨v,rfl⟩:∃ v,cs=[v]:=by
  obtain⟨ao,cap,e',_⟩:=k
  exact⟨_,e'⟩
 obtain⟨ao,cap,rfl,k1,k2,k3⟩:=Qf k
 refine⟨rfl,fun j y hy=>?_,Als (len_sum hp x) hmu',fun y hy=>?_⟩
 ·match j,hy with
  | 0,hy =>
   simp only[Ala,Ak1]at hy
   subst hy
   refine AmK k1 k2 fun hp=>?_
   obtain⟨b,off,rfl,hb,hel⟩:=k3 hp
   have hat:∀ i,i<x.length->∃ es:List Value,es.length=size/\(∀ k,k<size->w.cell? ⟨b,off+i*size+k,none⟩=es[k]?)/\Is p w es (x.getD i d):=fun i hi=>hel i (x.getD i d) (by simp[List.getD,hi])
   refine⟨b,off,rfl,hb,hE b,fun i _=>hl _,fun i j=>(w.cell? ⟨b,off+i*size+j,none⟩).getD undef,fun i j y hi hy=>?_,fun i j y hi hy=>?_⟩
   ·obtain⟨es,h4,h5,h6⟩:=hat i hi
    have hj:j<size:=by rw[← hl (x.getD i d)];exact(Ak3.1 hy).1
    show w.cell? ⟨b,off+i*size+j,none⟩=some ((w.cell? ⟨b,off+i*size+j,none⟩).getD undef)
    have h7:w.cell? ⟨b,off+i*size+j,none⟩=some (es[j]'(by omega)):=by rw[h5 j hj,Ald (by omega)]
    rw[h7];rfl
   ·obtain⟨es,h4,h5,h6⟩:=hat i hi
    have hj:j<size:=by rw[← hl (x.getD i d)];exact(Ak3.1 hy).1
    have hi':x.getD i d∈x:=by simp[List.getD,hi]
    have:=(h.ok (E:=E.at true) (m:=none) (fun k=>hE k) (hmem _ hi') h6).2.1 j y hy
    rw[Alf,← h5 j hj]at this
    exact this
  | j+1,hy=>simp at hy
 ·have hm:=hmem y hy
  obtain⟨i,hi,rfl⟩:=List.mem_iff_getElem.1 hy
  obtain⟨b,off,e',hb,hel⟩:=k3 (by omega)
  obtain⟨es,_,_,hx⟩:=hel i x[i] (Ald hi)
  exact(h.ok (E:=E) (m:=m) hE hm hx).2.2⟩
theorem agg {α:Type}{p:Pkg α}{e:α->List VV}{wf:α->Prop}(h:Ev p e wf){w:World}{E:AF}{m:Option Phi}{cs:Array Value}{x:α}(hE:∀ k,¬ E.fz k)(hm:p.mu x<=1048576)(k:Is p w cs.toList x):V w E m (.agg (e x)) (.agg cs)/\wf x:=by
 obtain⟨h1,h2,h3⟩:=h.ok (E:=E) (m:=m) hE hm k
 refine⟨.agg (by simpa using h1) fun j y hy=>?_,h3⟩
 have:=h2 j y hy
 simpa[AlJ,Alf] using this
theorem one {α:Type}{p:Pkg α}{e:α->VV}{wf:α->Prop}(h:Ev p (fun x=>[e x]) wf){w:World}{E:AF}{m:Option Phi}{v:Value}{x:α}(hE:∀ k,¬ E.fz k)(hm:p.mu x<=1048576)(k:Is p w [v] x):V w E m (e x) v/\wf x:=by
 obtain⟨h1,h2,h3⟩:=h.ok (E:=E) (m:=m) hE hm k
 exact⟨h2 0 (e x) rfl,h3⟩
end Ev
instance : Inhabited D.Type:=⟨⟨0,false⟩⟩
def Dx (x:D.Type):List VV:=[Aa x.Bits,Ac x.Signed]
structure YP (x:D.Type):Prop where
 Bits:Ev.wInt .i64 x.Bits
 Signed:True
theorem Ahq : Ev HM Dx YP:=(Ev.via (fun x:D.Type=>(x.Bits,x.Signed,())) (Ev.cons (Ev.int .i64) (Ev.cons Ev.bool Ev.unit))).imp (fun _=>rfl) fun _ ⟨h0,h1,_⟩=>⟨h0,h1⟩
def AJ (fz:Bool)(l:List D.Type):VV:=.sl fz l.length 2 fun i=>Dx (l.getD i default)
def LK (l:List D.Type):Prop:=l.length<=1048576/\∀ y∈l,YP y
theorem Ql : Ev (Pkg.slice 2 16 HM) (fun l=>[AJ true l]) LK:=Ev.slice default Ahq (fun _=>rfl) (fun _=>AmC (Alc _))
instance : Inhabited D.Shape:=⟨⟨0,[]⟩⟩
def FC (x:D.Shape):List VV:=[Aa x.Room,AJ true x.Fields]
structure O5 (x:D.Shape):Prop where
 Room:Ev.wInt .i64 x.Room
 Fields:LK x.Fields
theorem AfE : Ev OJ FC O5:=(Ev.via (fun x:D.Shape=>(x.Room,x.Fields,())) (Ev.cons (Ev.int .i64) (Ev.cons Ql Ev.unit))).imp (fun _=>rfl) fun _ ⟨h0,h1,_⟩=>⟨h0,h1⟩
def Ad (fz:Bool)(l:List Int):VV:=.sl fz l.length 1 fun i=>[Aa (l.getD i 0)]
def Hi (l:List Int):Prop:=l.length<=1048576/\∀ y∈l,Ev.wInt .i64 y
theorem IS : Ev (Pkg.slice 1 8 (Pkg.int .i64)) (fun l=>[Ad true l]) Hi:=Ev.slice 0 (Ev.int .i64) (fun _=>rfl) (fun _=>Ak6 _)
instance : Inhabited D.Stmt:=⟨⟨0,0,0,0,[],[],⟨#[]⟩⟩⟩
def Ap (x:D.Stmt):List VV:=[Aa x.Kind,Aa x.A,Aa x.B,Aa x.N,Ad true x.Args,Ad true x.Match,AD x.Text]
structure Sr (x:D.Stmt):Prop where
 Kind:Ev.wInt .i64 x.Kind
 A:Ev.wInt .i64 x.A
 B:Ev.wInt .i64 x.B
 N:Ev.wInt .i64 x.N
 Args:Hi x.Args
 Match:Hi x.Match
 Text:(x.Text).size<=1048576
theorem Ahr : Ev XJ Ap Sr:=(Ev.via (fun x:D.Stmt=>(x.Kind,x.A,x.B,x.N,x.Args,x.Match,x.Text,())) (Ev.cons (Ev.int .i64) (Ev.cons (Ev.int .i64) (Ev.cons (Ev.int .i64) (Ev.cons (Ev.int .i64) (Ev.cons IS (Ev.cons IS (Ev.cons Ev.str Ev.unit)))))))).imp (fun _=>rfl) fun _ ⟨h0,h1,h2,h3,h4,h5,h6,_⟩=>⟨h0,h1,h2,h3,h4,h5,h6⟩
instance : Inhabited D.Trans:=⟨⟨default,0,0⟩⟩
def CY (x:D.Trans):List VV:=[Aa x.S.Kind,Aa x.S.A,Aa x.S.B,Aa x.S.N,Ad true x.S.Args,Ad true x.S.Match,AD x.S.Text,Aa x.To,Aa x.Line]
structure O4 (x:D.Trans):Prop where
 S:Sr x.S
 To:Ev.wInt .i64 x.To
 Line:Ev.wInt .i64 x.Line
theorem AfD : Ev Kv CY O4:=(Ev.via (fun x:D.Trans=>(x.S,x.To,x.Line,())) (Ev.cons Ahr (Ev.cons (Ev.int .i64) (Ev.cons (Ev.int .i64) Ev.unit)))).imp (fun _=>rfl) fun _ ⟨h0,h1,h2,_⟩=>⟨h0,h1,h2⟩
def As (fz:Bool)(l:List D.Trans):VV:=.sl fz l.length 9 fun i=>CY (l.getD i default)
def Kb (l:List D.Trans):Prop:=l.length<=1048576/\∀ y∈l,O4 y
theorem Sd : Ev (Pkg.slice 9 112 Kv) (fun l=>[As true l]) Kb:=Ev.slice default AfD (fun _=>rfl) (fun _=>AmC (Alc _))
def BT (fz:Bool)(l:List (List D.Trans)):VV:=.sl fz l.length 1 fun i=>[As true (l.getD i [])]
def O7 (l:List (List D.Trans)):Prop:=l.length<=1048576/\∀ y∈l,Kb y
theorem Yt : Ev (Pkg.slice 1 24 (Pkg.slice 9 112 Kv)) (fun l=>[BT true l]) O7:=Ev.slice [] Sd (fun _=>rfl) (fun _=>Ev.one_sum _)
instance : Inhabited D.Loc:=⟨⟨[],[],false,false,false,false,false⟩⟩
def AY (x:D.Loc):List VV:=[As true x.Out,BT true x.Esc,Ac x.Atomic,Ac x.Dstep,Ac x.End,Ac x.Accept,Ac x.Progress]
structure O6 (x:D.Loc):Prop where
 Out:Kb x.Out
 Esc:O7 x.Esc
 Atomic:True
 Dstep:True
 End:True
 Accept:True
 Progress:True
theorem Ajt : Ev Zu AY O6:=(Ev.via (fun x:D.Loc=>(x.Out,x.Esc,x.Atomic,x.Dstep,x.End,x.Accept,x.Progress,())) (Ev.cons Sd (Ev.cons Yt (Ev.cons Ev.bool (Ev.cons Ev.bool (Ev.cons Ev.bool (Ev.cons Ev.bool (Ev.cons Ev.bool Ev.unit)))))))).imp (fun _=>rfl) fun _ ⟨h0,h1,h2,h3,h4,h5,h6,_⟩=>⟨h0,h1,h2,h3,h4,h5,h6⟩
def E4 (fz:Bool)(l:List D.Loc):VV:=.sl fz l.length 7 fun i=>AY (l.getD i default)
def YQ (l:List D.Loc):Prop:=l.length<=1048576/\∀ y∈l,O6 y
theorem Ahu : Ev (Pkg.slice 7 56 Zu) (fun l=>[E4 true l]) YQ:=Ev.slice default Ajt (fun _=>rfl) (fun _=>AmC (Alc _))
instance : Inhabited D.Proc:=⟨⟨⟨#[]⟩,0,[],[],[],0,0,0,0,0⟩⟩
def Bc (x:D.Proc):List VV:=[AD x.Name,Aa x.Params,AJ true x.Frame,Ad true x.Init,E4 true x.Locs,Aa x.Start,Aa x.Final,Aa x.Active,Aa x.Prio,Aa x.Provided]
structure Ka (x:D.Proc):Prop where
 Name:(x.Name).size<=1048576
 Params:Ev.wInt .i64 x.Params
 Frame:LK x.Frame
 Init:Hi x.Init
 Locs:YQ x.Locs
 Start:Ev.wInt .i64 x.Start
 Final:Ev.wInt .i64 x.Final
 Active:Ev.wInt .i64 x.Active
 Prio:Ev.wInt .i64 x.Prio
 Provided:Ev.wInt .i64 x.Provided
theorem Ahs : Ev S8 Bc Ka:=(Ev.via (fun x:D.Proc=>(x.Name,x.Params,x.Frame,x.Init,x.Locs,x.Start,x.Final,x.Active,x.Prio,x.Provided,())) (Ev.cons Ev.str (Ev.cons (Ev.int .i64) (Ev.cons Ql (Ev.cons IS (Ev.cons Ahu (Ev.cons (Ev.int .i64) (Ev.cons (Ev.int .i64) (Ev.cons (Ev.int .i64) (Ev.cons (Ev.int .i64) (Ev.cons (Ev.int .i64) Ev.unit))))))))))).imp (fun _=>rfl) fun _ ⟨h0,h1,h2,h3,h4,h5,h6,h7,h8,h9,_⟩=>⟨h0,h1,h2,h3,h4,h5,h6,h7,h8,h9⟩
instance : Inhabited D.Dim:=⟨⟨0,0,0⟩⟩
def ZY (x:D.Dim):List VV:=[Aa x.I,Aa x.Len,Aa x.Stride]
structure AdF (x:D.Dim):Prop where
 I:Ev.wInt .i64 x.I
 Len:Ev.wInt .i64 x.Len
 Stride:Ev.wInt .i64 x.Stride
theorem Aju : Ev Zv ZY AdF:=(Ev.via (fun x:D.Dim=>(x.I,x.Len,x.Stride,())) (Ev.cons (Ev.int .i64) (Ev.cons (Ev.int .i64) (Ev.cons (Ev.int .i64) Ev.unit)))).imp (fun _=>rfl) fun _ ⟨h0,h1,h2,_⟩=>⟨h0,h1,h2⟩
def Dc (fz:Bool)(l:List D.Dim):VV:=.sl fz l.length 3 fun i=>ZY (l.getD i default)
def YR (l:List D.Dim):Prop:=l.length<=1048576/\∀ y∈l,AdF y
theorem Ahv : Ev (Pkg.slice 3 24 Zv) (fun l=>[Dc true l]) YR:=Ev.slice default Aju (fun _=>rfl) (fun _=>AmC (Alc _))
instance : Inhabited D.Var:=⟨⟨0,0,0,0,[]⟩⟩
def Cq (x:D.Var):List VV:=[Aa x.Scope,Aa x.Slot,Aa x.Who,Aa x.Type_,Dc true x.Dims]
structure K5 (x:D.Var):Prop where
 Scope:Ev.wInt .i64 x.Scope
 Slot:Ev.wInt .i64 x.Slot
 Who:Ev.wInt .i64 x.Who
 Type_:Ev.wInt .i64 x.Type_
 Dims:YR x.Dims
theorem Ajs : Ev Ae0 Cq K5:=(Ev.via (fun x:D.Var=>(x.Scope,x.Slot,x.Who,x.Type_,x.Dims,())) (Ev.cons (Ev.int .i64) (Ev.cons (Ev.int .i64) (Ev.cons (Ev.int .i64) (Ev.cons (Ev.int .i64) (Ev.cons Ahv Ev.unit)))))).imp (fun _=>rfl) fun _ ⟨h0,h1,h2,h3,h4,_⟩=>⟨h0,h1,h2,h3,h4⟩
instance : Inhabited D.Expr:=⟨⟨0,0,0,0,0,default,[],[]⟩⟩
def AS (x:D.Expr):List VV:=[Aa x.Op,Aa x.N,Aa x.A,Aa x.B,Aa x.C,Aa x.V.Scope,Aa x.V.Slot,Aa x.V.Who,Aa x.V.Type_,Dc true x.V.Dims,Ad true x.Args,Ad true x.Match]
structure Oi (x:D.Expr):Prop where
 Op:Ev.wInt .i64 x.Op
 N:Ev.wInt .i64 x.N
 A:Ev.wInt .i64 x.A
 B:Ev.wInt .i64 x.B
 C:Ev.wInt .i64 x.C
 V:K5 x.V
 Args:Hi x.Args
 Match:Hi x.Match
theorem Aht : Ev S9 AS Oi:=(Ev.via (fun x:D.Expr=>(x.Op,x.N,x.A,x.B,x.C,x.V,x.Args,x.Match,())) (Ev.cons (Ev.int .i64) (Ev.cons (Ev.int .i64) (Ev.cons (Ev.int .i64) (Ev.cons (Ev.int .i64) (Ev.cons (Ev.int .i64) (Ev.cons Ajs (Ev.cons IS (Ev.cons IS Ev.unit))))))))).imp (fun _=>rfl) fun _ ⟨h0,h1,h2,h3,h4,h5,h6,h7,_⟩=>⟨h0,h1,h2,h3,h4,h5,h6,h7⟩
def Bd (fz:Bool)(l:List D.Shape):VV:=.sl fz l.length 2 fun i=>FC (l.getD i default)
def Rb (l:List D.Shape):Prop:=l.length<=1048576/\∀ y∈l,O5 y
theorem Ac1 : Ev (Pkg.slice 2 32 OJ) (fun l=>[Bd true l]) Rb:=Ev.slice default AfE (fun _=>rfl) (fun _=>AmC (Alc _))
def A4 (fz:Bool)(l:List D.Proc):VV:=.sl fz l.length 10 fun i=>Bc (l.getD i default)
def T0 (l:List D.Proc):Prop:=l.length<=1048576/\∀ y∈l,Ka y
theorem AfG : Ev (Pkg.slice 10 136 S8) (fun l=>[A4 true l]) T0:=Ev.slice default Ahs (fun _=>rfl) (fun _=>AmC (Alc _))
def Bs (fz:Bool)(l:List D.Expr):VV:=.sl fz l.length 12 fun i=>AS (l.getD i default)
def T3 (l:List D.Expr):Prop:=l.length<=1048576/\∀ y∈l,Oi y
theorem AfH : Ev (Pkg.slice 12 144 S9) (fun l=>[Bs true l]) T3:=Ev.slice default Aht (fun _=>rfl) (fun _=>AmC (Alc _))
instance : Inhabited D.Model:=⟨⟨[],[],[],[],[],0,[]⟩⟩
def Ag (x:D.Model):List VV:=[AJ true x.Globals,Ad true x.Init,Bd true x.Shapes,Ad true x.Chans,A4 true x.Procs,Aa x.Claim,Bs true x.Exprs]
structure Ay (x:D.Model):Prop where
 Globals:LK x.Globals
 Init:Hi x.Init
 Shapes:Rb x.Shapes
 Chans:Hi x.Chans
 Procs:T0 x.Procs
 Claim:Ev.wInt .i64 x.Claim
 Exprs:T3 x.Exprs
theorem AfF : Ev OL Ag Ay:=(Ev.via (fun x:D.Model=>(x.Globals,x.Init,x.Shapes,x.Chans,x.Procs,x.Claim,x.Exprs,())) (Ev.cons Ql (Ev.cons IS (Ev.cons Ac1 (Ev.cons IS (Ev.cons AfG (Ev.cons (Ev.int .i64) (Ev.cons AfH Ev.unit)))))))).imp (fun _=>rfl) fun _ ⟨h0,h1,h2,h3,h4,h5,h6,_⟩=>⟨h0,h1,h2,h3,h4,h5,h6⟩
def BI (fz:Bool)(l:List (List Int)):VV:=.sl fz l.length 1 fun i=>[Ad true (l.getD i [])]
instance : Inhabited D.Chan:=⟨⟨0,[]⟩⟩
def AB (x:D.Chan):List VV:=[Aa x.Shape,BI true x.Queue]
instance : Inhabited D.Process:=⟨⟨0,0,0,[]⟩⟩
def Ar (x:D.Process):List VV:=[Aa x.Type_,Aa x.Loc,Aa x.Prio,Ad true x.Frame]
def AE (fz:Bool)(l:List D.Chan):VV:=.sl fz l.length 2 fun i=>AB (l.getD i default)
def Au (fz:Bool)(l:List D.Process):VV:=.sl fz l.length 4 fun i=>Ar (l.getD i default)
instance : Inhabited D.State:=⟨⟨[],[],[],0,0,0⟩⟩
def Ae (x:D.State):List VV:=[Ad true x.Globals,AE true x.Chans,Au true x.Procs,Aa x.Last,Aa x.Alone,Aa x.Claim]
def Ba (fz:Bool)(l:List Bool):VV:=.sl fz l.length 1 fun i=>[Ac (l.getD i false)]
instance : Inhabited D.Env:=⟨⟨default,default,0,false,[]⟩⟩
def Af (x:D.Env):List VV:=[AJ true x.M.Globals,Ad true x.M.Init,Bd true x.M.Shapes,Ad true x.M.Chans,A4 true x.M.Procs,Aa x.M.Claim,Bs true x.M.Exprs,Ad true x.S.Globals,AE true x.S.Chans,Au true x.S.Procs,Aa x.S.Last,Aa x.S.Alone,Aa x.S.Claim,Aa x.Pid,Ac x.Timeout,Ba true x.Able]
def Ed (n:Nat)(f:Nat->Bool):Bool:=(List.range n).all f
def JV (n:Nat)(f:Nat->Bool):Int :=
 match(List.range n).find? fun i=>!f i with
 | some i=>(i:Int)
 | none=>-1
theorem Bz {n:Nat}{f:Nat->Bool}:Ed n f=true ↔ ∀ i,i<n->f i=true:=by simp[Ed]
theorem De {n k:Nat}{f:Nat->Bool}(hk:k<n)(h:f k=false):Ed n f=false:=by
 cases ha:Ed n f with
 | false=>rfl
 | true=>have:=Bz.1 ha k hk;rw[h]at this;cases this
theorem Ip {n:Nat}{f:Nat->Bool}(h:∀ i,i<n->f i=true):JV n f=-1:=by
 unfold JV
 split
 ·rename_i i hi
  have h1:=List.find?_some hi
  have h2:=Ang hi
  rw[h i (AlP.1 h2)]at h1;cases h1
 ·rfl
theorem Io {n k:Nat}{f:Nat->Bool}(h:∀ i,i<k->f i=true)(hk:k<n)(hf:f k=false):JV n f=k:=by
 unfold JV
 split
 ·rename_i i hi
  rw[List.find?_range_eq_some]at hi
  obtain⟨h1,h2,h3⟩:=hi
  by_cases hik:i<k
  ·rw[h i hik]at h1;cases h1
  ·by_cases hki:k<i
   ·have:=h3 k hki;rw[hf]at this;cases this
   ·congr 1;omega
 ·rename_i hi
  rw[List.find?_eq_none]at hi
  have:=hi k (AlP.2 hk)
  rw[hf]at this;simp at this
theorem QA {n:Nat}{f:Nat->Bool}:(JV n f=-1/\∀ i,i<n->f i=true)∨(∃ k,k<n/\JV n f=(k:Int)/\f k=false):=by
 unfold JV
 split
 ·rename_i i hi
  refine .inr ⟨i,AlP.1 (Ang hi),rfl,?_⟩
  simpa using List.find?_some hi
 ·rename_i hi
  rw[List.find?_eq_none]at hi
  exact .inl ⟨rfl,fun i h=>by simpa using hi i (AlP.2 h)⟩
def Hx (t:D.Type):Bool:=decide (1<=t.Bits)&&(decide (t.Bits<=32)&&(!t.Signed||(decide (t.Bits=16)||decide (t.Bits=32))))
def DD (t:D.Type)(v:Int):Bool :=
 Hx t&&bif t.Signed then decide (-(2 ^ (t.Bits - 1).toNat)<=v)&&decide (v<2 ^ (t.Bits - 1).toNat) else decide (0<=v)&&decide (v<2 ^ t.Bits.toNat)
def Lw (d:D.Dim):Bool:=decide (d.Len<1)||(decide (1073741824<d.Len - 1)||(decide (d.Stride<0)||decide (1073741824<d.Stride)))
def Fu : Int->List D.Dim->Int
 | n,[]=>n
 | n,d::l=>bif Lw d then 0 else Fu (n+(d.Len - 1)*d.Stride) l
def Es (v:D.Var):Int:=bif decide (v.Slot<0)||(decide (1073741824<v.Slot)||decide (4<v.Dims.length)) then 0 else Fu (v.Slot+1) v.Dims
def Fm (t:List D.Type)(init:List Int):Int:=JV t.length fun i=>DD (t.getD i default) (init.getD i 0)
def D5 (s:D.Shape):Bool:=decide (0<=s.Room)&&decide (s.Room<=16)&&decide (1<=s.Fields.length)&&decide (s.Fields.length<=8)&&Ed s.Fields.length fun i=>Hx (s.Fields.getD i default)
def DY (m:D.Model)(n:Int):Bool:=decide (0<=n)&&decide (n<m.Procs.length)&&decide (n≠m.Claim)
def inP (at' x:Int):Bool:=decide (0<=x)&&decide (x<at')
def C7 (at':Int)(l:List Int):Bool:=Ed l.length fun i=>inP at' (l.getD i 0)
def Nn (at':Int)(d:D.Dim):Bool:=inP at' d.I&&decide (1<=d.Len)&&decide (d.Len<=128)&&decide (0<=d.Stride)&&decide (d.Stride<=128)
def EH (m:D.Model)(at':Int)(v:D.Var):Bool :=
 decide (0<=v.Scope)&&decide (v.Scope<=2)&&decide (0<=v.Slot)&&decide (v.Slot<=128)&&decide (v.Dims.length<=4) &&
 (bif decide (v.Scope=2) then inP at' v.Who&&DY m v.Type_ else decide (v.Who=-1)&&decide (v.Type_=-1))&&Ed v.Dims.length fun i=>Nn at' (v.Dims.getD i default)
def Bf (op:Int):Nat:=if op=1∨op=2∨op=31∨op=32∨op=33∨op=34∨op=35∨op=39 then 0 else if op=24 then 3 else if 6<=op/\op<=23 then 2 else 1
def Aw (m:D.Model)(k:Int):D.Expr:=m.Exprs.getD k.toNat default
def Ll (m:D.Model)(a k:Int):Bool:=decide (-1<=k)&&decide (k<=1)&&!(decide (k=0)&&decide ((Aw m a).Op≠2))
def Cu (m:D.Model)(at':Int)(args mt:List Int):Bool :=
 decide (1<=args.length)&&decide (args.length<=8)&&decide (mt.length=args.length)&&C7 at' args&&Ed mt.length fun i=>Ll m (args.getD i 0) (mt.getD i 0)
def IM (m:D.Model)(n:Int):List D.Loc:=(m.Procs.getD n.toNat default).Locs
def OG (m:D.Model)(x:D.Expr):Bool:=decide (0<=x.N)&&decide (x.N<1073741824)&&DY m x.N&&decide (1<=x.Args.length)&&C7 (IM m x.N).length x.Args
def FU (at':Int)(op:Int)(i:Nat)(p:Int):Bool:=bif decide (i<Bf op) then inP at' p else decide (p=-1)
def EN (m:D.Model)(at':Int):Bool :=
  let x:=Aw m at'
  decide (1<=x.Op)&&decide (x.Op<=39)&&(FU at' x.Op 0 x.A&&FU at' x.Op 1 x.B&&FU at' x.Op 2 x.C) &&
  (if x.Op=1 then DD ⟨32,true⟩ x.N else if x.Op=2 then EH m at' x.V else if x.Op=30 then Cu m at' x.Args x.Match&&(decide (x.N=0)||decide (x.N=1))
   else if x.Op=38 then OG m x else if x.Op=39 then decide (0<=x.N)&&decide (x.N<1073741824)&&DY m x.N&&decide ((x.Args.length:Int)=(m.Procs.getD x.N.toNat default).Params)&&C7 at' x.Args else true)
def Ci (x:D.Expr):List Int :=
 [x.A,x.B,x.C].take (Bf x.Op)++((if x.Op=30∨x.Op=39 then x.Args else[])++(if x.Op=2 then(if x.V.Scope=2 then[x.V.Who] else[])++x.V.Dims.map D.Dim.I else[]))
def DL (l:D.Loc):List (List D.Trans):=l.Out::l.Esc
def Di (p:D.Proc):Bool :=
 decide (p.Frame.length<=128)&&decide (p.Init.length=p.Frame.length)&&decide (Fm p.Frame p.Init<0)&&decide (0<=p.Params)&&decide (p.Params<=p.Frame.length)&&decide (0<=p.Active)&&decide (p.Active<=16)&&decide (1<=p.Prio)&&decide (p.Prio<=255)
def Iz (n:Nat)(many:Nat)(k:Nat):List (List D.Trans)->Option Nat
 | []=>some many
 | w::r=>bif decide (0<k)&&decide (w.length=0) then none else bif decide (1024<many+w.length) then none
   else bif Ed w.length (fun i=>inP n (w.getD i default).To) then Iz n (many+w.length) (k+1) r else none
def Tg (final:Int)(i:Nat)(l:D.Loc):Bool:=decide (8<l.Esc.length)||(l.Dstep&&l.Atomic)||(decide ((i:Int)=final)&&decide (0<l.Out.length+l.Esc.length))
def JF (n:Nat)(final:Int)(many:Nat)(i:Nat):List D.Loc->Bool
 | []=>true
 | l::r=>bif Tg final i l then false else match Iz n many 0 (DL l) with
  | some many'=>JF n final many' (i+1) r
  | none=>false
def EB (p:D.Proc):Bool :=
 decide (1<=p.Locs.length)&&decide (p.Locs.length<=256)&&inP p.Locs.length p.Start&&inP p.Locs.length p.Final&&JF p.Locs.length p.Final 0 0 p.Locs
def GQ (l:D.Loc):Bool:=decide (l.Esc.length=0)&&!l.Atomic&&!l.Dstep
def E6 (p:D.Proc):Bool :=
 decide (p.Frame.length=0)&&decide (p.Params<=0)&&decide (p.Active<=0)&&decide (p.Provided=-1)&&Ed p.Locs.length fun i=>GQ (p.Locs.getD i default)
def FD (s:D.Stmt)(args n text:Bool):Bool:=(!args||decide (s.Args.length+s.Match.length=0))&&(!n||decide (s.N=0))&&(!text||decide (s.Text.size=0))
def Ez (m:D.Model)(a:Int):Bool:=inP m.Exprs.length a
def CT (m:D.Model)(a:Int):Bool:=Ez m a&&decide ((Aw m a).Op=2)&&decide ((Aw m a).V.Scope≠2)
def IC (m:D.Model)(s:D.Stmt):Bool:=Cu m m.Exprs.length s.Args s.Match&&Ed s.Match.length fun i=>!decide (s.Match.getD i 0=0)||CT m (s.Args.getD i 0)
def AL (m:D.Model)(s:D.Stmt):Bool :=
 if s.Kind=1∨s.Kind=3 then Ez m s.A&&decide (s.B=-1)&&FD s true true true
 else if s.Kind=2 then CT m s.A&&Ez m s.B&&FD s true true true
 else if s.Kind=4 then decide (s.A=-1)&&decide (s.B=-1)&&C7 m.Exprs.length s.Args&&decide (s.Match.length=0)&&decide (s.Text.size<=256)&&decide (s.N=0)
 else if s.Kind=5 then Ez m s.A&&decide (s.B=-1)&&decide (1<=s.Args.length)&&decide (s.Args.length<=8)&&C7 m.Exprs.length s.Args&&decide (s.Match.length=0)&&(decide (s.N=0)||decide (s.N=1))&&decide (s.Text.size=0)
 else if s.Kind=6 then Ez m s.A&&decide (s.B=-1)&&IC m s&&decide (0<=s.N)&&decide (s.N<=3)&&decide (s.Text.size=0)
 else if s.Kind=7∨s.Kind=8 then decide (s.A=-1)&&decide (s.B=-1)&&FD s true true true
 else if s.Kind=9 then CT m s.A&&decide (s.B=-1)&&decide (0<=s.N)&&decide (s.N<m.Shapes.length)&&FD s true false true
 else false
def MY (m:D.Model)(i:Int)(v:D.Var):Int :=
 if v.Scope=0 then m.Globals.length else if v.Scope=1 then(m.Procs.getD i.toNat default).Frame.length else(m.Procs.getD v.Type_.toNat default).Frame.length
def F9 (m:D.Model)(i run k:Int):Bool :=
 let x:=Aw m k
 (decide (x.Op=39)&&decide (k≠run))||(decide (i=m.Claim)&&(decide (x.Op=31)||(decide (x.Op=39)||(decide (x.Op=2)&&decide (x.V.Scope=1)))))||(decide (x.Op=2)&&decide (MY m i x.V<Es x.V))
def Pi (m:D.Model)(i run:Int):Nat->List Bool->List Int->Bool
 | _,_,[]=>true
 | 0,_,_=>true
 | g+1,seen,k::r=>bif seen.getD k.toNat false then Pi m i run g seen r else bif F9 m i run k then false else Pi m i run g (seen.set k.toNat true) (r++Ci (Aw m k))
def load (m:D.Model)(seen:List Bool):Nat:=((List.range m.Exprs.length).map fun k=>bif seen.getD k false then 0 else(Ci (m.Exprs.getD k default)).length).sum
def Bg (m:D.Model):List Bool:=List.replicate m.Exprs.length false
def Jo (m:D.Model)(i:Int)(list:List Int)(run:Int):Bool:=Pi m i run (list.length+load m (Bg m)+1) (Bg m) list
def MQ (m:D.Model)(i:Int)(s:D.Stmt):Bool :=
 AL m s&&!(decide (i=m.Claim)&&(decide (s.Kind≠1)&&(decide (s.Kind≠3)&&(decide (s.Kind≠7)&&decide (s.Kind≠8))))) &&
 Jo m i (s.Args++((if 0<=s.A then[s.A] else[])++(if 0<=s.B then[s.B] else[]))) (if s.Kind=1 then s.A else if s.Kind=2 then s.B else -1)
def Lb (m:D.Model)(i:Int)(w:List D.Trans):Bool:=Ed w.length fun k=>MQ m i (w.getD k default).S
def Tf (m:D.Model)(i:Int)(l:D.Loc):Bool:=Ed (DL l).length fun k=>Lb m i ((DL l).getD k [])
def DQ (m:D.Model)(i:Int):Bool :=
 let p:=m.Procs.getD i.toNat default
 (Ed p.Locs.length fun k=>Tf m i (p.Locs.getD k default))&&(decide (p.Provided<0)||Jo m i [p.Provided] (-1))
def AcJ : List Bool->List Int->Option (List Bool)
 | had,[]=>some had
 | had,p::r=>bif had.getD p.toNat false then none else AcJ (had.set p.toNat true) r
def HZ (m:D.Model):Nat->Nat->List Bool->Int
 | 0,_,_=>-1
 | g+1,i,had=>bif EN m i then(match AcJ had (Ci (m.Exprs.getD i default)) with
  | some had'=>HZ m g (i+1) had'
  | none=>i) else i
def Gt (m:D.Model):Int:=JV m.Shapes.length fun i=>D5 (m.Shapes.getD i default)
def IY (m:D.Model):Int:=JV m.Chans.length fun i=>inP m.Shapes.length (m.Chans.getD i 0)
def HY (m:D.Model):Int:=HZ m m.Exprs.length 0 (Bg m)
def CU (m:D.Model):Int × Int :=
 bif decide (128<m.Globals.length)||!decide (m.Init.length=m.Globals.length) then(1,-1)
 else bif decide (0<=Fm m.Globals m.Init) then(1,Fm m.Globals m.Init)
 else bif decide (32<m.Shapes.length)||decide (32<m.Chans.length) then(2,-1)
 else bif decide (0<=Gt m) then(2,Gt m)
 else bif decide (0<=IY m) then(2,IY m)
 else bif decide (m.Procs.length<1)||(decide (16<m.Procs.length)||(decide (m.Claim < -1)||(decide ((m.Procs.length:Int)<=m.Claim)||decide (4096<m.Exprs.length)))) then(3,-1)
 else bif decide (0<=HY m) then(3,HY m) else(0,0)
def D8 (m:D.Model)(i:Nat):Bool :=
 let p:=m.Procs.getD i default
 !Di p||(!EB p||(decide (p.Provided < -1)||(decide ((m.Exprs.length:Int)<=p.Provided)||(decide ((i:Int)=m.Claim)&&!E6 p))))
def E0 (m:D.Model):Int:=JV m.Procs.length fun i=>!D8 m i
def EL (m:D.Model)(k:Nat):Int:=((m.Procs.take k).map D.Proc.Active).sum
def JB (m:D.Model):Int:=JV m.Procs.length fun i=>DQ m i
def IX (m:D.Model):Int × Int × Int :=
 bif decide (0<(CU m).1) then(40,CU m) else bif decide (0<=E0 m) then(40,4,E0 m) else bif decide (16<EL m m.Procs.length) then(40,5,-1)
 else bif decide (0<=JB m) then(40,6,JB m) else(0,0,0)
theorem CC {a x:Int}:inP a x=true ↔ 0<=x/\x<a:=by simp[inP]
theorem ZS {α:Type}{l:List α}{i:Nat}{d:α}(h:i<l.length):l.getD i d∈l:=by simp[List.getD,h]
theorem Ck {α:Type}{l:List α}{d:α}{f:α->Bool}:Ed l.length (fun i=>f (l.getD i d))=true ↔ ∀ x∈l,f x=true:=by
 rw[Bz]
 refine⟨fun h x hx=>?_,fun h i hi=>h _ (ZS hi)⟩
 obtain⟨i,hi,rfl⟩:=List.mem_iff_getElem.1 hx
 have:=h i hi
 simpa[List.getD,hi] using this
theorem FH {a:Int}{l:List Int}:C7 a l=true ↔ ∀ x∈l,0<=x/\x<a:=by
 unfold C7
 rw[Ck (f:=fun x=>inP a x)]
 exact⟨fun h x hx=>CC.1 (h x hx),fun h x hx=>CC.2 (h x hx)⟩
theorem UU (op:Int):Bf op<=3:=by unfold Bf;split<;>(try split)<;>(try split)<;>omega
theorem ZQ {m:D.Model}{i:Int}(h:EN m i=true):∀ p∈Ci (Aw m i),0<=p/\p<i:=by
 unfold EN at h
 simp only[Ak2]at h
 obtain⟨⟨⟨_,_⟩,⟨hA,hB⟩,hC⟩,hO⟩:=h
 generalize Aw m i=x at *
 intro p hp
 unfold Ci at hp
 simp only[AlA]at hp
 rcases hp with hp | hp | hp
 ·have h3:=UU x.Op
  unfold FU at hA hB hC
  rcases(show Bf x.Op=0∨Bf x.Op=1∨Bf x.Op=2∨Bf x.Op=3 by omega) with e | e | e | e<;>rw[e]at hp hA hB hC<;>simp[inP]at hp hA hB hC
  ·subst hp;omega
  ·rcases hp with rfl | rfl<;>omega
  ·rcases hp with rfl | rfl | rfl<;>omega
 ·split at hp
  ·rename_i h30
   rcases h30 with h30 | h39
   ·rw[Alg (by omega),Alg (by omega),Alw h30]at hO
    simp only[Ak2,Cu]at hO
    exact FH.1 hO.1.1.2 p hp
   ·rw[Alg (by omega),Alg (by omega),Alg (by omega),Alg (by omega),Alw h39]at hO
    simp only[Ak2]at hO
    exact FH.1 hO.2 p hp
  ·cases hp
 ·split at hp
  ·rename_i h2
   rw[Alg (by omega),Alw h2]at hO
   simp only[Ak2,EH]at hO
   obtain⟨⟨_,hW⟩,hD⟩:=hO
   simp only[AlA]at hp
   rcases hp with hp | hp
   ·split at hp
    ·rename_i hs
     simp only[Aly]at hp
     subst hp
     simp only[hs,decide_true,Ak4,Ak2]at hW
     exact CC.1 hW.1
    ·cases hp
   ·obtain⟨d,hd,rfl⟩:=Amn.1 hp
    have:=(Ck (f:=fun d=>Nn i d)).1 hD d hd
    simp only[Nn,Ak2]at this
    exact CC.1 this.1.1.1.1
  ·cases hp
theorem U9 {m:D.Model}{seen:List Bool}{k:Nat}(hk:seen.getD k false=false)(hs:k<seen.length):∀ (l:List Nat),l.Nodup ->
  (l.map fun j=>bif seen.getD j false then 0 else(Ci (m.Exprs.getD j default)).length).sum=(l.map fun j=>bif (seen.set k true).getD j false then 0 else(Ci (m.Exprs.getD j default)).length).sum+(if k∈l then(Ci (m.Exprs.getD k default)).length else 0)
 | [],_=>rfl
 | j::l,hn=>by
  have ih:=U9 (m:=m) hk hs l (Anb.1 hn).2
  have hj:=(Anb.1 hn).1
  simp only[AlU,List.sum_cons,ih]
  by_cases hjk:k=j
  ·subst hjk
   have h1:(seen.set k true).getD k false=true:=by simp[List.getD,hs]
   rw[h1,hk,Alg hj,Alw (Alb ..)]
   simp only[Ak4,Ak0];omega
  ·have h1:(seen.set k true).getD j false=seen.getD j false:=by simp[List.getD,hjk]
   have h2:(k∈j::l)=(k∈l):=by simp[hjk]
   rw[h1]
   simp only[h2];omega
theorem Afd {m:D.Model}{seen:List Bool}{k:Nat}(hk:seen.getD k false=false)(hs:k<seen.length)(hm:seen.length=m.Exprs.length):load m seen=load m (seen.set k true)+(Ci (m.Exprs.getD k default)).length:=by
 unfold load
 rw[U9 hk hs _ List.nodup_range,Alw (AlP.2 (by omega))]
theorem Vk {x:D.Expr}(h1:x.Args.length<=1048576)(h2:x.V.Dims.length<=1048576):(Ci x).length<=2097156:=by
 unfold Ci
 simp only[Alh,Amf,AlE,AlX]
 split<;>split<;>(try split)<;>simp<;>omega
theorem Ahc {m:D.Model}(h:∀ x∈m.Exprs,x.Args.length<=1048576/\x.V.Dims.length<=1048576)(seen:List Bool):load m seen<=m.Exprs.length*2097156:=by
 unfold load
 have:∀ (l:List Nat),(∀ j∈l,j<m.Exprs.length)->(l.map fun k=>bif seen.getD k false then 0 else(Ci (m.Exprs.getD k default)).length).sum<=l.length*2097156:=by
  intro l
  induction l with
  | nil=>intro _;simp
  | cons j l ih =>
   intro hl
   have h1:=ih fun i hi=>hl i (Alp _ hi)
   have h2:=h _ (ZS (d:=default) (hl j (Alb ..)))
   have h3:=Vk h2.1 h2.2
   simp only[AlU,List.sum_cons,AlE]
   cases seen.getD j false<;>simp only[Ak4,Ak0]<;>omega
 have h1:=this (List.range m.Exprs.length) fun j hj=>AlP.1 hj
 simpa using h1
theorem Bt {n:Int}(h1:-9223372036854775808<=n)(h2:n<=9223372036854775807):IntKind.i64.wrap n=n:=IntWalk.i64_in n ⟨h1,h2⟩
theorem An {k:Nat}(h:k<=4611686018427387904):IntKind.i64.wrap ((k:Int)+1)=((k+1:Nat):Int):=by rw[Bt (by omega) (by omega)];omega
theorem Av {α:Type}{l:List α}{i:Nat}{d:α}(h:i<l.length):l.getD i d∈l:=by simp[List.getD,h]
theorem AK {c:Ctx}(hT:TOk c.P c.T)(hmx:c.P.follows .mixedOrders=true){rel:List Nat}(n:Nat)(S:Nat->St)(I:Nat->Prop)(hl:c.sub rel=.loop (Ew (rel++[0]) c.code))(hB:EK c.N (Ew (rel++[0]) c.code)=true)(h0:I 0)
  (round:∀ k,k<=n->I k->∀ J:St->Prop,(∀ st',k<n->I (k+1)->Up (fun s=>s=S (k+1)) st'->J st')->Be ((c.loop rel J).goal (S k))):AA c rel (S 0):=by
 refine Bh hT hmx (fun g st=>∃ k,k<=n/\g=n - k/\I k/\st=S k) hl hB ⟨n,Up.of ⟨0,Alc _,rfl,h0,rfl⟩⟩ ?_
 rintro g st ⟨k,hk,rfl,hI,rfl⟩
 refine round k hk hI _ fun st' hlt hI' hup=>⟨n - (k+1),by omega,?_⟩
 obtain⟨s',hc,hs⟩:=hup
 exact⟨s',hc,k+1,hlt,rfl,hI',hs⟩
def tP : TE:=⟨.ptr,1,8,[.sc (.pointer none)],false⟩
def tS (e:Nat):TE:=⟨.sl e,1,24,[.nl],false⟩
def tI (k:IntKind)(b:Nat):TE:=⟨.int k,1,b,[.sc (.int k 0)],false⟩
def tF : TE:=⟨.fn,1,8,[.sc .nilFunc],false⟩
def tG (k:TK)(s b:Nat)(z:List VV):TE:=⟨k,s,b,z,false⟩
def tC (k:TK)(s b:Nat)(z:List VV):TE:=⟨k,s,b,z,true⟩
def z8 : VV:=.sc (.int .i64 0)
def zb : VV:=.sc (.int .u8 0)
def zf : VV:=.sc (.bool false)
def zs : VV:=.sc (.string ByteArray.empty)
def zp : VV:=.sc (.pointer none)
def zn : VV:=.sc .nilFunc
def tN : TE:=⟨.other,0,0,[],false⟩
def tbL : List (List TE):=[[tN,tF,tI .i64 8,tI .i64 8,tG (.bool) 1 1 [zf],tI .u8 1,tI .u8 1,tC (.agg [(0,2),(1,3),(2,4),(3,6)]) 4 24 [z8,z8,zf,zb],tC (.agg [(0,2),(1,3),(2,4),(3,6)]) 4 24 [z8,z8,zf,zb],tG (.str) 1 16 [zs],tG (.str) 1 16 [zs],tG (.str) 1 16 [zs],tI .u64 8,tG (.agg [(0,9),(1,12)]) 2 24 [zs,.sc (.int .u64 0)],tG (.agg [(0,9),(1,12)]) 2 24 [zs,.sc (.int .u64 0)],tP],
 [tP,tP,tG (.agg [(0,17)]) 1 8 [zp],tG (.agg [(0,17)]) 1 8 [zp],tG (.ifc) 1 16 [.sc .nilIface],tI .i32 4,tS 117,tS 2,tS 166,tS 3,tS 58,tS 173,tG (.agg [(0,22),(1,23),(2,24),(3,25),(4,26),(5,3),(6,27)]) 7 152 [.nl,.nl,.nl,.nl,.nl,z8,.nl],tG (.agg [(0,22),(1,23),(2,24),(3,25),(4,26),(5,3),(6,27)]) 7 152 [.nl,.nl,.nl,.nl,.nl,z8,.nl],tF,tS 65],
 [tS 86,tS 88,tG (.agg [(0,23),(1,32),(2,33),(3,3),(4,3),(5,3)]) 6 96 [.nl,.nl,.nl,z8,z8,z8],tG (.agg [(0,23),(1,32),(2,33),(3,3),(4,3),(5,3)]) 6 96 [.nl,.nl,.nl,z8,z8,z8],tI .i64 8,tG (.agg [(0,31),(1,35),(7,9),(8,36),(9,4)]) 10 152 [.nl,.nl,.nl,.nl,z8,z8,z8,zs,z8,zf],tG (.agg [(0,31),(1,35),(7,9),(8,36),(9,4)]) 10 152 [.nl,.nl,.nl,.nl,z8,z8,z8,zs,z8,zf],tN,tF,tF,tF,tS 35,tN,tF,tF,tF],
 [tG (.agg [(0,3),(1,3),(2,3),(3,3),(4,25),(5,25),(6,9)]) 7 96 [z8,z8,z8,z8,.nl,.nl,zs],tG (.agg [(0,3),(1,3),(2,3),(3,3),(4,25),(5,25),(6,9)]) 7 96 [z8,z8,z8,z8,.nl,.nl,zs],tG (.agg [(0,49),(7,3),(8,3)]) 9 112 [z8,z8,z8,z8,.nl,.nl,zs,z8,z8],tG (.agg [(0,49),(7,3),(8,3)]) 9 112 [z8,z8,z8,z8,.nl,.nl,zs,z8,z8],tS 51,tS 52,tG (.agg [(0,52),(1,53),(2,4),(3,4),(4,4),(5,4),(6,4)]) 7 56 [.nl,.nl,zf,zf,zf,zf,zf],tG (.agg [(0,52),(1,53),(2,4),(3,4),(4,4),(5,4),(6,4)]) 7 56 [.nl,.nl,zf,zf,zf,zf,zf],tS 55,tG (.agg [(0,9),(1,3),(2,22),(3,23),(4,56),(5,3),(6,3),(7,3),(8,3),(9,3)]) 10 136 [zs,z8,.nl,.nl,.nl,z8,z8,z8,z8,z8],tG (.agg [(0,9),(1,3),(2,22),(3,23),(4,56),(5,3),(6,3),(7,3),(8,3),(9,3)]) 10 136 [zs,z8,.nl,.nl,.nl,z8,z8,z8,z8,z8],tN,tF,tF,tF,tF],
 [tC (.agg [(0,3),(1,3),(2,3),(3,3),(4,3),(5,3),(6,3)]) 7 56 [z8,z8,z8,z8,z8,z8,z8],tC (.agg [(0,3),(1,3),(2,3),(3,3),(4,3),(5,3),(6,3)]) 7 56 [z8,z8,z8,z8,z8,z8,z8],tG (.agg [(0,65),(7,35),(13,36),(14,9)]) 15 176 [z8,z8,z8,z8,z8,z8,z8,.nl,.nl,.nl,z8,z8,z8,z8,zs],tG (.agg [(0,65),(7,35),(13,36),(14,9)]) 15 176 [z8,z8,z8,z8,z8,z8,z8,.nl,.nl,.nl,z8,z8,z8,z8,zs],tS 67,tN,tF,tF,tN,tF,tG (.agg [(0,3),(1,3),(2,36),(3,3),(4,31),(5,3),(6,3),(7,3)]) 8 80 [z8,z8,z8,z8,.nl,z8,z8,z8],tG (.agg [(0,3),(1,3),(2,36),(3,3),(4,31),(5,3),(6,3),(7,3)]) 8 80 [z8,z8,z8,z8,.nl,z8,z8,z8],tN,tF,tF,tF],
 [tF,tF,tF,tF,tS 98,tG (.agg [(0,3),(1,84)]) 2 32 [z8,.nl],tG (.agg [(0,3),(1,84)]) 2 32 [z8,.nl],tG (.agg [(0,3),(1,3),(2,3),(3,23)]) 4 48 [z8,z8,z8,.nl],tG (.agg [(0,3),(1,3),(2,3),(3,23)]) 4 48 [z8,z8,z8,.nl],tF,tF,tF,tF,tF,tS 97,tF],
 [tC (.agg [(0,4),(1,36)]) 2 16 [zf,z8],tC (.agg [(0,4),(1,36)]) 2 16 [zf,z8],tS 2,tF,tP,tS 5,tG (.agg [(0,100),(1,101)]) 2 32 [zp,.nl],tG (.agg [(0,100),(1,101)]) 2 32 [zp,.nl],tG (.ifc) 1 16 [.sc .nilIface],tG (.ifc) 1 16 [.sc .nilIface],tN,tF,tF,tF,tF,tN],
 [tF,tN,tF,tF,tC (.agg [(0,3),(1,4)]) 2 16 [z8,zf],tC (.agg [(0,3),(1,4)]) 2 16 [z8,zf],tF,tF,tF,tF,tS 4,tG (.agg [(0,29),(7,35),(13,3),(14,4),(15,122)]) 16 288 [.nl,.nl,.nl,.nl,.nl,z8,.nl,.nl,.nl,.nl,z8,z8,z8,z8,zf,.nl],tG (.agg [(0,29),(7,35),(13,3),(14,4),(15,122)]) 16 288 [.nl,.nl,.nl,.nl,.nl,z8,.nl,.nl,.nl,.nl,z8,z8,z8,z8,zf,.nl],tC (.agg [(0,3),(1,3),(2,3),(3,3),(4,3),(5,36)]) 6 48 [z8,z8,z8,z8,z8,z8],tC (.agg [(0,3),(1,3),(2,3),(3,3),(4,3),(5,36)]) 6 48 [z8,z8,z8,z8,z8,z8],tF],
 [tN,tF,tF,tF,tP,tS 9,tF,tN,tF,tF,tP,tG (.agg [(0,29)]) 7 152 [.nl,.nl,.nl,.nl,.nl,z8,.nl],tG (.agg [(0,29)]) 7 152 [.nl,.nl,.nl,.nl,.nl,z8,.nl],tN,tF,tF],
 [tF,tF,tF,tS 151,tF,tS 126,tG (.agg [(0,124),(16,149)]) 17 312 [.nl,.nl,.nl,.nl,.nl,z8,.nl,.nl,.nl,.nl,z8,z8,z8,z8,zf,.nl,.nl],tG (.agg [(0,124),(16,149)]) 17 312 [.nl,.nl,.nl,.nl,.nl,z8,.nl,.nl,.nl,.nl,z8,z8,z8,z8,zf,.nl,.nl],tN,tF,tF,tN,tF,tF,tN,tF],
 [tN,tF,tF,tF,tF,tG (.agg [(0,3),(1,22)]) 2 32 [z8,.nl],tG (.agg [(0,3),(1,22)]) 2 32 [z8,.nl],tF,tF,tS 228,tG (.agg [(0,3),(1,3),(2,3),(3,3),(4,169)]) 5 56 [z8,z8,z8,z8,.nl],tG (.agg [(0,3),(1,3),(2,3),(3,3),(4,169)]) 5 56 [z8,z8,z8,z8,.nl],tG (.agg [(0,3),(1,2),(2,3),(3,3),(4,3),(5,171),(10,25),(11,25)]) 12 144 (List.replicate 9 z8++[.nl,.nl,.nl]),tG (.agg [(0,3),(1,2),(2,3),(3,3),(4,3),(5,171),(10,25),(11,25)]) 12 144 (List.replicate 9 z8++[.nl,.nl,.nl]),tF,tF],
 [tF,tF,tF,tF,tF,tF,tF,tF,tF,tF,tP,tN,tF,tF,tF,tN],
 [tF,tF,tS 198,tF,tS 200,tG (.agg [(0,4),(1,36),(2,196)]) 3 40 [zf,z8,.nl],tG (.agg [(0,4),(1,36),(2,196)]) 3 40 [zf,z8,.nl],tC (.agg [(0,3),(1,3),(2,3)]) 3 24 [z8,z8,z8],tC (.agg [(0,3),(1,3),(2,3)]) 3 24 [z8,z8,z8],tF,tF,tF,tF,tF,tI .i64 8,tI .u64 8],
 [tN,tF,tI .u64 8,tP,tF,tF,tG (.arr 24 5) 24 24 (List.replicate 24 zb),tF,tF,tN,tF,tF,tF,tG (.arr 3 3) 3 24 [z8,z8,z8],tF,tF],
 [tF,tF,tF,tC (.agg [(0,3),(1,3),(2,3)]) 3 24 [z8,z8,z8],tC (.agg [(0,3),(1,3),(2,3)]) 3 24 [z8,z8,z8],tF,tF,tF,tF,tF,tF,tN,tF,tF,tF,tF],
 [tF,tN,tF,tF,tF,tF,tF,tN,tF,tF,tF,tF,tG (.agg [(0,9),(1,9),(2,105)]) 3 48 [zs,zs,.sc .nilIface],tG (.agg [(0,9),(1,9),(2,105)]) 3 48 [zs,zs,.sc .nilIface],tF,tF],
 [tG (.arr 20 207) 20 160 (List.replicate 20 (.sc (.int .u64 0))),tI .u32 4,tG (.arr 65 5) 65 65 (List.replicate 65 zb),tF,tF,tN,tF,tF,tF,tF,tF,tF,tF,tN,tF,tF],
 [tN,tF,tF,tN,tF,tF,tN,tF,tF,tF,tF,tF,tF,tF,tP,tC (.agg [(0,9)]) 1 16 [zs]],
 [tC (.agg [(0,9)]) 1 16 [zs],tF,tF,tF,tF,tF,tF,tF,tF,tF,tF,tF,tF,tF,tF,tG (.arr 256 5) 256 256 (List.replicate 256 zb)],
 [tC (.agg [(0,5),(1,5)]) 2 2 [zb,zb],tC (.agg [(0,5),(1,5)]) 2 2 [zb,zb],tG (.arr 16 305) 32 32 (List.replicate 32 zb),tN,tF,tG (.arr 32 5) 32 32 (List.replicate 32 zb),tG (.arr 64 5) 64 64 (List.replicate 64 zb),tF,tF,tF,tF,tF,tF,tF,tG (.agg [(0,17),(1,17),(2,17),(3,9)]) 4 40 [zp,zp,zp,zs],tG (.agg [(0,17),(1,17),(2,17),(3,9)]) 4 40 [zp,zp,zp,zs]],
 [tG (.arr 0 16) 0 0 [],tG (.agg [(0,320)]) 0 0 [],tG (.agg [(0,320)]) 0 0 [],tF,tI .u8 1,tI .u8 1,tF,tI .i32 4,tI .i32 4,tG (.agg [(0,12),(1,12),(2,257),(3,324),(4,5),(5,5),(6,325),(7,326),(8,132),(9,327),(10,328)]) 11 48 [.sc (.int .u64 0),.sc (.int .u64 0),.sc (.int .u32 0),zb,zb,zb,zb,zn,zp,.sc (.int .i32 0),.sc (.int .i32 0)],tG (.agg [(0,12),(1,12),(2,257),(3,324),(4,5),(5,5),(6,325),(7,326),(8,132),(9,327),(10,328)]) 11 48 [.sc (.int .u64 0),.sc (.int .u64 0),.sc (.int .u32 0),zb,zb,zb,zb,zn,zp,.sc (.int .i32 0),.sc (.int .i32 0)]]]
def tb (t:TypeId):TE:=bif Nat.blt t 331 then(tbL.getD (t / 16) []).getD (t % 16) tN else tN
def SA : List Nat:=(List.range 331).filter fun t=>match(tb t).k with | .other=>false | _=>true
theorem Agp : SA.map tb=SA.map (Y5 Tryz.prog):=by kernel_rfl
theorem AdV : ((List.range 331).all fun t=>SA.contains t||(match(tb t).k with | .other=>true | _=>false))=true:=by kernel_rfl
theorem Al : TOk Tryz.prog tb:=by
 refine⟨fun t=>?_⟩
 by_cases ht:t<331
 ·have h:=AlF.1 AdV t (AlP.2 ht)
  rw[Amd]at h
  rcases h with h | h
  ·left
   have hm:t∈SA:=by simpa using h
   obtain⟨i,hi,rfl⟩:=Amh hm
   have e:=congrArg (·[i]?) Agp
   simpa[hi] using e
  ·right
   generalize (tb t).k=k at h
   cases k<;>first | rfl | cases h
 ·right
  have hb:Nat.blt t 331=false:=by
   cases hq:Nat.blt t 331 with
   | true=>exact absurd (Alm hq) ht
   | false=>rfl
  unfold tb
  rw[hb]
  rfl
theorem Am : Tryz.prog.follows .mixedOrders=true:=by kernel_rfl
def Abo : Shp:={ α:=Int,enc:=fun b=>([],Aa b) }
def AgE : Shp:={ α:=Bool,enc:=fun b=>([],Ac b) }
def AiB : Shp:={ α:=List Int,enc:=fun l=>([],Ad true l) }
def AkR : Shp:={ α:=List (List D.Trans),enc:=fun l=>([],BT true l) }
def Ah2 : Shp:={ α:=Int × Int,enc:=fun y=>([],.tup [Aa y.1,Aa y.2]) }
def Xd : Shp:={ α:=Int × Int × Int,enc:=fun y=>([],.tup [Aa y.1,Aa y.2.1,Aa y.2.2]) }
def Bj (f:FuncId):Shp :=
 bif Nat.beq f 116||Nat.beq f 69||Nat.beq f 109||Nat.beq f 117 then Abo
 else bif Nat.beq f 72 then AiB else bif Nat.beq f 73 then AkR else bif Nat.beq f 49 then Ah2 else bif Nat.beq f 36 then Xd else AgE
def tpM (m:D.Model):VV:=.tp (Ag m)
def AT : Ann:={ keep:=fun _=>[] }
abbrev BB (c:Bool)(A B:Prop):Prop:=(c=true->A)/\(c=false->B)
abbrev LQ (a b:VV):Prop:=leO [] []/\VV.le a b
abbrev inX (x:Int)(n:Nat):Prop:=0<=x/\x<(n:Int)
abbrev VC (f:FuncId)(xs:List VV)(r:VV):Prop:=Ai Tryz.prog f [] xs [] r
noncomputable abbrev fc (Sh:Shs) (L:Ann) (f:Func) (hs:List Ob) (r:VV):Ctx:=CR Tryz.prog tb Sh L true f hs r
def NA : Ann:={ keep:=fun
  | [0,1,0,1,1,1]=>[3,24,25,26]
  | _=>[] }
def Nt : Ann:={ keep:=fun
  | [0,1,0,1]=>[0,1,7,8]
  | _=>[] }
def Ny : Ann:={ keep:=fun
  | [0,1,0,1,1]=>[26,27,28]
  | _=>[] }
def NG : Ann:={ keep:=fun
  | [0,1,0,1]=>[0,7,8,9]
  | _=>[] }
def LH : Ann:={ keep:=fun
  | [0,1,0,1]=>[0,7,8,9]
  | _=>[] }
def JY : Ann:={ keep:=fun
  | [0,1,0,1,1,1]=>[1,58,59,60]
  | _=>[] }
def J4 : Ann:={ keep:=fun
  | [0,1,0,1,1]=>[0,2,32,33,34]
  | _=>[] }
def Ir : Ann:={ keep:=fun
  | [0,1,0,1,1,1]=>[0,1,5,30,31]
  | _=>[] }
def FJ : Ann:={ keep:=fun
  | [0,1,0,1,1,1,1]=>[1,3,4,43,44,45]
  | [0,1,1,1,0,0,1,1,0,0,1,0,1,1,1,1]=>[1,3,4,43,44,45,79,80,81]
  | [0,1,1,1,1,1,0,0,1,1,0,0,1,1,1,0,0,1,1,0,0,1,0,1,1,1,1]=>[1,3,4,43,44,45,79,80,81,99,100,101]
  | _=>[] }
def J6 : Ann:={ keep:=fun
  | [0,1,0,1,1]=>[25,26,27]
  | _=>[] }
def Nw : Ann:={ keep:=fun
  | [0,1,0,1,1]=>[0,3,21,22,23]
  | _=>[] }
def JZ : Ann:={ keep:=fun
  | [1]=>[0,1,2,3,9,10,11]
  | _=>[] }
def G9 : Ann:={ keep:=fun
  | [0,1,0,1,1]=>[0,1,5,21,22,23]
  | [0,1,1,0,0,1,1,0,0,1,0,1,1]=>[0,1,5,21,22,23,28,29,30]
  | [0,1,1,0,0,1,1,0,0,1,1,0,0,1,1,0,0,1,0,1,1]=>[0,1,5,21,22,23,28,29,30,34,35,36]
  | _=>[] }
def Dj : Ann:={ keep:=fun
  | [0,1,0,1,1,1,1,1]=>[0,4,50,51,52]
  | [0,1,0,1,1,1,1,1,1]=>[0,4,63,64,65]
  | [0,1,0,1,1,1,1,1,1,1,1,1]=>[0,4,10,116,117]
  | [0,1,1,1,0,0,1,1,0,0,1,0,1,1,1,1,1,1,1,1,1]=>[0,4,10,11,116,117,130,131,132]
  | _=>[] }
def Ha : Ann:={ keep:=fun
  | [0,1,1,0,1,0,1,1,1]=>[3,45,46,47]
  | _=>[] }
def Iu : Ann:={ keep:=fun
  | [0,1,0,1,1,1,1]=>[1,5,8,25,26,27]
  | [0,1,0,1,1,1,1,1,1]=>[5,74,75]
  | _=>[] }
def HH (l:List Bool):Nat->List VV:=fun i=>[Ac (l.getD i false)]
def AM (l:List Int):Nat->List VV:=fun i=>[Aa (l.getD i 0)]
def Ow (n:Int)(v:D.Var)(k:Int):St:=Aq [(3,Aa n),(24,Dc true v.Dims),(25,Aa v.Dims.length),(26,Aa k)] []
def Om (t:List D.Type)(init:List Int)(k:Int):St:=Aq [(0,AJ true t),(1,Ad true init),(7,Aa t.length),(8,Aa k)] []
def Oq (s:D.Shape)(k:Int):St:=Aq [(26,AJ true s.Fields),(27,Aa s.Fields.length),(28,Aa k)] []
def OB (a:Int)(l:List Int)(k:Int):St:=Aq [(0,Aa a),(7,Ad false l),(8,Aa l.length),(9,Aa k)] []
def L8 (a:Int)(l:List Int)(k:Int):St:=Aq [(0,Aa a),(7,Ad true l),(8,Aa l.length),(9,Aa k)] []
def MU (a:Int)(v:D.Var)(k:Int):St:=Aq [(1,Aa a),(58,Dc true v.Dims),(59,Aa v.Dims.length),(60,Aa k)] []
def Kh (m:D.Model)(args mt:List Int)(k:Int):St:=Aq [(0,tpM m),(2,Ad true args),(32,Ad true mt),(33,Aa mt.length),(34,Aa k)] []
def Fq (m:D.Model)(a:Int)(x:D.Expr)(k:Int):St:=Aq [(0,tpM m),(1,Aa a),(5,.bp 0 0),(30,.agg [Aa x.A,Aa x.B,Aa x.C]),(31,Aa k)] [.box (AS x)]
def L5 (p:D.Proc)(many k:Int):St:=Aq [(1,.bp 0 0),(3,Aa p.Locs.length),(4,Aa many),(43,E4 true p.Locs),(44,Aa p.Locs.length),(45,Aa k)] [.box (Bc p)]
def L4 (p:D.Proc)(many k:Int)(ws:List (List D.Trans))(j:Int):St:=Aq [(1,.bp 0 0),(3,Aa p.Locs.length),(4,Aa many),(43,E4 true p.Locs),(44,Aa p.Locs.length),(45,Aa k),(79,BT true ws),(80,Aa ws.length),(81,Aa j)] [.box (Bc p)]
def L3 (p:D.Proc)(many k:Int)(ws:List (List D.Trans))(j:Int)(w:List D.Trans)(h:Int):St:=Aq [(1,.bp 0 0),(3,Aa p.Locs.length),(4,Aa many),(43,E4 true p.Locs),(44,Aa p.Locs.length),(45,Aa k),(79,BT true ws),(80,Aa ws.length),(81,Aa j),(99,As true w),(100,Aa w.length),(101,Aa h)] [.box (Bc p)]
def Kj (p:D.Proc)(k:Int):St:=Aq [(25,E4 true p.Locs),(26,Aa p.Locs.length),(27,Aa k)] []
def Oo (m:D.Model)(s:D.Stmt)(k:Int):St:=Aq [(0,tpM m),(3,.bp 0 0),(21,Ad true s.Match),(22,Aa s.Match.length),(23,Aa k)] [.box (Ap s)]
def PC (m:D.Model)(i:Int)(list:List Int)(run:Int)(seen:List Bool)(todo:List Int)(k:Int):St:=Aq [(0,tpM m),(1,Aa i),(2,Ad false list),(3,Aa run),(9,.ow 0 0 seen.length),(10,.ow 1 0 todo.length),(11,Aa k)] [.arr true 0 seen.length 1 (HH seen),.arr true 0 todo.length 1 (AM todo)]
def Y8 (m:D.Model)(i:Int)(list:List Int)(run:Int):St:=Aq [(0,tpM m),(1,Aa i),(2,Ad false list),(3,Aa run),(9,.dead),(10,.dead),(11,.dead)] []
def L2 (m:D.Model)(i:Int)(p:D.Proc)(k:Int):St:=Aq [(0,tpM m),(1,Aa i),(5,.bp 0 0),(21,E4 true p.Locs),(22,Aa p.Locs.length),(23,Aa k)] [.box (Bc p)]
def LZ (m:D.Model)(i:Int)(p:D.Proc)(k:Int)(ws:List (List D.Trans))(j:Int):St:=Aq [(0,tpM m),(1,Aa i),(5,.bp 0 0),(21,E4 true p.Locs),(22,Aa p.Locs.length),(23,Aa k),(28,BT true ws),(29,Aa ws.length),(30,Aa j)] [.box (Bc p)]
def Ox (m:D.Model)(i:Int)(p:D.Proc)(k:Int)(ws:List (List D.Trans))(j:Int)(w:List D.Trans)(h:Int):St:=Aq [(0,tpM m),(1,Aa i),(5,.bp 0 0),(21,E4 true p.Locs),(22,Aa p.Locs.length),(23,Aa k),(28,BT true ws),(29,Aa ws.length),(30,Aa j),(34,As true w),(35,Aa w.length),(36,Aa h)] [.box (Bc p)]
def SI (m:D.Model)(k:Int):St:=Aq [(0,tpM m),(4,.bp 0 0),(50,Bd true m.Shapes),(51,Aa m.Shapes.length),(52,Aa k)] [.box (Ag m)]
def SH (m:D.Model)(k:Int):St:=Aq [(0,tpM m),(4,.bp 0 0),(63,Ad true m.Chans),(64,Aa m.Chans.length),(65,Aa k)] [.box (Ag m)]
def W9 (m:D.Model)(had:List Bool)(k:Int):St:=Aq [(0,tpM m),(4,.bp 0 0),(10,.ow 1 0 had.length),(116,Aa m.Exprs.length),(117,Aa k)] [.box (Ag m),.arr true 0 had.length 1 (HH had)]
def W8 (m:D.Model)(had:List Bool)(k:Int)(l:List Int)(j:Int):St:=Aq [(0,tpM m),(4,.bp 0 0),(10,.ow 1 0 had.length),(11,Aa k),(116,Aa m.Exprs.length),(117,Aa k),(130,Ad true l),(131,Aa l.length),(132,Aa j)] [.box (Ag m),.arr true 0 had.length 1 (HH had)]
def Xb (x:D.Expr)(l:List Int)(k:Int):St:=Aq [(3,.ow 0 0 l.length),(45,Dc true x.V.Dims),(46,Aa x.V.Dims.length),(47,Aa k)] [.arr true 0 l.length 1 (AM l)]
def L7 (m:D.Model)(many k:Int):St:=Aq [(1,.bp 0 0),(5,.bp 1 0),(8,Aa many),(25,A4 true m.Procs),(26,Aa m.Procs.length),(27,Aa k)] [.box (Ag m),.box (Ag m)]
def L6 (m:D.Model)(k:Int):St:=Aq [(5,.bp 0 0),(74,Aa m.Procs.length),(75,Aa k)] [.box (Ag m)]
set_option maxRecDepth 100000
theorem Ago (b:Bool)(t:D.Type):(fc Bj AT Tryz.f108 [] (Ac b)).goal (St.init [] [.agg (Dx t)]) =
  (LQ (Ac (bif bif decide (t.Bits>=1) then decide (t.Bits<=32) else false then bif bif !t.Signed then true else t.Bits==16 then true else t.Bits==32 else false)) (Ac b)):=by kernel_rfl
theorem Afv (b:Bool)(t:D.Type)(v:Int):(fc Bj AT Tryz.f107 [] (Ac b)).goal (St.init [] [.agg (Dx t),Aa v]) =
  (∃ (y:Bool),VC 108 [VV.agg (Dx t)] (Ac y)/\BB (!y) (LQ (Ac false) (Ac b)) (BB t.Signed ((0:Int)<=IntKind.i64.wrap (t.Bits - (1:Int))/\((true&&decide (v>=IntKind.i64.wrap ((-1:Int)*(2:Int) ^ min (IntKind.i64.wrap (t.Bits - (1:Int))).toNat IntKind.i64.bits))==true)=true->(0:Int)<=IntKind.i64.wrap (t.Bits - (1:Int)))/\LQ (Ac (bif decide (v>=IntKind.i64.wrap ((-1:Int)*(2:Int) ^ min (IntKind.i64.wrap (t.Bits - (1:Int))).toNat IntKind.i64.bits)) then decide (v<IntKind.i64.wrap ((1:Int)*(2:Int) ^ min (IntKind.i64.wrap (t.Bits - (1:Int))).toNat IntKind.i64.bits)) else false)) (Ac b)) (((true&&decide (v>=0)==true)=true->(0:Int)<=t.Bits)/\LQ (Ac (bif decide (v>=0) then decide (v<IntKind.i64.wrap ((1:Int)*(2:Int) ^ min t.Bits.toNat IntKind.i64.bits)) else false)) (Ac b)))):=by kernel_rfl
theorem AbS (r:Int)(v:D.Var):(fc Bj NA Tryz.f116 [] (Aa r)).goal (St.init [] [.agg (Cq v)]) =
  (BB (bif bif decide (v.Slot<0) then true else decide (v.Slot > 1073741824) then true else decide ((↑v.Dims.length:Int) > 4)) (LQ (Aa 0) (Aa r)) (AA (fc Bj NA Tryz.f116 [] (Aa r)) [1,1,1,0,1,0] (Ow (IntKind.i64.wrap (v.Slot+(1:Int))) v (0:Int)))):=by kernel_rfl
theorem AaS (r:Int)(t:List D.Type)(init:List Int):(fc Bj Nt Tryz.f69 [] (Aa r)).goal (St.init [] [AJ true t,Ad true init]) =
  (AA (fc Bj Nt Tryz.f69 [] (Aa r)) [1,0,1,0] (Om t init (0:Int))):=by kernel_rfl
theorem Abq (b:Bool)(s:D.Shape):(fc Bj Ny Tryz.f70 [] (Ac b)).goal (St.init [] [.agg (FC s)]) =
  (BB (bif bif bif decide (s.Room<0) then true else decide (s.Room > 16) then true else decide ((↑s.Fields.length:Int)<1) then true else decide ((↑s.Fields.length:Int) > 8)) (LQ (Ac false) (Ac b)) (AA (fc Bj Ny Tryz.f70 [] (Ac b)) [1,1,0,1,0] (Oq s (0:Int)))):=by kernel_rfl
theorem XD (b:Bool)(m:D.Model)(n:Int):(fc Bj AT Tryz.f114 [] (Ac b)).goal (St.init [] [tpM m,Aa n]) =
  (LQ (Ac (bif bif decide (n>=0) then decide (n<(↑m.Procs.length:Int)) else false then n != m.Claim else false)) (Ac b)):=by kernel_rfl
theorem Adh (b:Bool)(a:Int)(l:List Int):(fc Bj NG Tryz.f110 [] (Ac b)).goal (St.init [] [Aa a,Ad false l]) =
  (AA (fc Bj NG Tryz.f110 [] (Ac b)) [1,0,1,0] (OB a l (0:Int))):=by kernel_rfl
theorem YG (b:Bool)(a:Int)(l:List Int):(fc Bj LH Tryz.f110 [] (Ac b)).goal (St.init [] [Aa a,Ad true l]) =
  (AA (fc Bj LH Tryz.f110 [] (Ac b)) [1,0,1,0] (L8 a l (0:Int))):=by kernel_rfl
theorem AdP (b:Bool)(m:D.Model)(a:Int)(v:D.Var):(fc Bj JY Tryz.f111 [] (Ac b)).goal (St.init [] [tpM m,Aa a,.agg (Cq v)]) =
  (BB (bif bif bif bif decide (v.Scope<0) then true else decide (v.Scope > 2) then true else decide (v.Slot<0) then true else decide (v.Slot > 128) then true else decide ((↑v.Dims.length:Int) > 4)) (LQ (Ac false) (Ac b)) (BB (v.Scope==2) (∃ (y:Bool),VC 110 [Aa a,VV.sl false 1 1 fun(i:Nat)=>List.take 1 (List.drop (i*1) [Aa v.Who])] (Ac y)/\∃ (y_1:Bool),((true&&(!y)==false)=true->VC 114 [tpM m,Aa v.Type_] (Ac y_1))/\BB (bif !y then true else !y_1) (LQ (Ac false) (Ac b)) (AA (fc Bj JY Tryz.f111 [] (Ac b)) [1,1,1,0,1,0] (MU a v (0:Int)))) (BB (bif v.Who != (-1:Int) then true else v.Type_ != (-1:Int)) (LQ (Ac false) (Ac b)) (AA (fc Bj JY Tryz.f111 [] (Ac b)) [1,1,1,0,1,0] (MU a v (0:Int)))))):=by kernel_rfl
theorem Ab5 (r:Int)(op:Int):(fc Bj AT Tryz.f109 [] (Aa r)).goal (St.init [] [Aa op]) =
  (BB (op==1) (BB (op==1) (LQ (Aa 0) (Aa r)) (BB (op==24) (LQ (Aa 3) (Aa r)) (BB (bif decide (op>=6) then decide (op<=23) else false) (LQ (Aa 2) (Aa r)) (LQ (Aa 1) (Aa r))))) (BB (op==2) (BB (op==2) (LQ (Aa 0) (Aa r)) (BB (op==24) (LQ (Aa 3) (Aa r)) (BB (bif decide (op>=6) then decide (op<=23) else false) (LQ (Aa 2) (Aa r)) (LQ (Aa 1) (Aa r))))) (BB (op==31) (BB (op==31) (LQ (Aa 0) (Aa r)) (BB (op==24) (LQ (Aa 3) (Aa r)) (BB (bif decide (op>=6) then decide (op<=23) else false) (LQ (Aa 2) (Aa r)) (LQ (Aa 1) (Aa r))))) (BB (op==32) (BB (op==32) (LQ (Aa 0) (Aa r)) (BB (op==24) (LQ (Aa 3) (Aa r)) (BB (bif decide (op>=6) then decide (op<=23) else false) (LQ (Aa 2) (Aa r)) (LQ (Aa 1) (Aa r))))) (BB (op==33) (BB (op==33) (LQ (Aa 0) (Aa r)) (BB (op==24) (LQ (Aa 3) (Aa r)) (BB (bif decide (op>=6) then decide (op<=23) else false) (LQ (Aa 2) (Aa r)) (LQ (Aa 1) (Aa r))))) (BB (op==34) (BB (op==34) (LQ (Aa 0) (Aa r)) (BB (op==24) (LQ (Aa 3) (Aa r)) (BB (bif decide (op>=6) then decide (op<=23) else false) (LQ (Aa 2) (Aa r)) (LQ (Aa 1) (Aa r))))) (BB (op==35) (BB (op==35) (LQ (Aa 0) (Aa r)) (BB (op==24) (LQ (Aa 3) (Aa r)) (BB (bif decide (op>=6) then decide (op<=23) else false) (LQ (Aa 2) (Aa r)) (LQ (Aa 1) (Aa r))))) (BB (op==39) (LQ (Aa 0) (Aa r)) (BB (op==24) (LQ (Aa 3) (Aa r)) (BB (bif decide (op>=6) then decide (op<=23) else false) (LQ (Aa 2) (Aa r)) (LQ (Aa 1) (Aa r)))))))))))):=by kernel_rfl
theorem U6 (b:Bool)(m:D.Model)(a:Int)(args mt:List Int):(fc Bj J4 Tryz.f112 [] (Ac b)).goal (St.init [] [tpM m,Aa a,Ad true args,Ad true mt]) =
  (∃ (y:Bool),((true&&(bif bif decide ((↑args.length:Int)<1) then true else decide ((↑args.length:Int) > 8) then true else(↑mt.length:Int) != (↑args.length:Int))==false)=true->VC 110 [Aa a,Ad true args] (Ac y))/\BB (bif bif bif decide ((↑args.length:Int)<1) then true else decide ((↑args.length:Int) > 8) then true else(↑mt.length:Int) != (↑args.length:Int) then true else !y) (LQ (Ac false) (Ac b)) (AA (fc Bj J4 Tryz.f112 [] (Ac b)) [1,1,0,1,0] (Kh m args mt (0:Int)))):=by kernel_rfl
theorem AfA (b:Bool)(m:D.Model)(a:Int):(fc Bj Ir Tryz.f71 [] (Ac b)).goal (St.init [] [tpM m,Aa a]) =
  (inX a m.Exprs.length/\BB (bif decide ((m.Exprs.getD a.toNat default).Op<1) then true else decide ((m.Exprs.getD a.toNat default).Op > 39)) (LQ (Ac false) (Ac b)) (AA (fc Bj Ir Tryz.f71 [] (Ac b)) [1,1,1,0,1,0] (Fq m a (m.Exprs.getD a.toNat default) (0:Int)))):=by kernel_rfl
theorem XH (b:Bool)(m:D.Model)(x:D.Expr):(fc Bj AT Tryz.f113 [] (Ac b)).goal (St.init [] [tpM m,.agg (AS x)]) =
  (∃ (y:Bool),((true&&(bif decide (x.N<0) then true else decide (x.N>=1073741824))==false)=true->VC 114 [tpM m,Aa x.N] (Ac y))/\BB (bif bif bif decide (x.N<0) then true else decide (x.N>=1073741824) then true else !y then true else decide ((↑x.Args.length:Int)<1)) (LQ (Ac false) (Ac b)) (inX x.N m.Procs.length/\∃ (y:Bool),VC 110 [Aa (↑(m.Procs.getD x.N.toNat default).Locs.length:Int),Ad true x.Args] (Ac y)/\LQ (Ac y) (Ac b))):=by kernel_rfl
theorem AdG (r:List (List D.Trans))(l:D.Loc):(fc Bj AT Tryz.f73 [] (BT true r)).goal (St.init [] [.agg (AY l)]) =
  ((1+l.Esc.length)*24<=140737488355328/\(∀ (i:Nat),i<l.Esc.length->((fun(i:Nat)=>[As true (l.Esc.getD i [])]) i).all VV.mem1=true)/\LQ (VV.sl true (1+l.Esc.length) 1 fun(i:Nat)=>bif i.blt 1 then(fun(i:Nat)=>List.take 1 (List.drop (i*1) [As true l.Out])) i else[As true (l.Esc.getD (i - 1) [])]) (BT true r)):=by kernel_rfl
theorem AcN (b:Bool)(p:D.Proc):(fc Bj AT Tryz.f50 [] (Ac b)).goal (St.init [] [.agg (Bc p)]) =
  (∃ (y:Int),((true&&(bif decide ((↑p.Frame.length:Int)<=128) then(↑p.Init.length:Int)==(↑p.Frame.length:Int) else false)==true)=true->VC 69 [AJ true p.Frame,Ad true p.Init] (Aa y))/\LQ (Ac (bif bif bif bif bif bif bif bif decide ((↑p.Frame.length:Int)<=128) then(↑p.Init.length:Int)==(↑p.Frame.length:Int) else false then decide (y<0) else false then decide (p.Params>=0) else false then decide (p.Params<=(↑p.Frame.length:Int)) else false then decide (p.Active>=0) else false then decide (p.Active<=16) else false then decide (p.Prio>=1) else false then decide (p.Prio<=255) else false)) (Ac b)):=by kernel_rfl
theorem AcK (b:Bool)(p:D.Proc):(fc Bj FJ Tryz.f51 [] (Ac b)).goal (St.init [] [.agg (Bc p)]) =
  (BB (bif bif bif bif bif decide ((↑p.Locs.length:Int)<1) then true else decide ((↑p.Locs.length:Int) > 256) then true else decide (p.Start<0) then true else decide (p.Start>=(↑p.Locs.length:Int)) then true else decide (p.Final<0) then true else decide (p.Final>=(↑p.Locs.length:Int))) (LQ (Ac false) (Ac b)) (AA (fc Bj FJ Tryz.f51 [] (Ac b)) [1,1,1,1,0,1,0] (L5 p (0:Int) (0:Int)))):=by kernel_rfl
theorem VM (b:Bool)(p:D.Proc):(fc Bj J6 Tryz.f52 [] (Ac b)).goal (St.init [] [.agg (Bc p)]) =
  (BB (bif bif bif decide ((↑p.Frame.length:Int) > 0) then true else decide (p.Params > 0) then true else decide (p.Active > 0) then true else p.Provided != (-1:Int)) (LQ (Ac false) (Ac b)) (AA (fc Bj J6 Tryz.f52 [] (Ac b)) [1,1,0,1,0] (Kj p (0:Int)))):=by kernel_rfl
theorem Ac4 (b:Bool)(s:D.Stmt)(u v x:Bool):(fc Bj AT Tryz.f150 [] (Ac b)).goal (St.init [] [.agg (Ap s),Ac u,Ac v,Ac x]) =
  (LQ (Ac (bif bif bif !u then true else IntKind.i64.wrap ((↑s.Args.length:Int)+(↑s.Match.length:Int))==0 then bif !v then true else s.N==0 else false then bif !x then true else s.Text.toList==(⟨#[]⟩:ByteArray).toList else false)) (Ac b)):=by kernel_rfl
theorem Ab4 (b:Bool)(m:D.Model)(a:Int):(fc Bj AT Tryz.f149 [] (Ac b)).goal (St.init [] [tpM m,Aa a]) =
  (∃ (y:Bool),VC 110 [Aa (↑m.Exprs.length:Int),VV.sl false 1 1 fun(i:Nat)=>List.take 1 (List.drop (i*1) [Aa a])] (Ac y)/\LQ (Ac y) (Ac b)):=by kernel_rfl
theorem WT (b:Bool)(m:D.Model)(a:Int):(fc Bj AT Tryz.f151 [] (Ac b)).goal (St.init [] [tpM m,Aa a]) =
  (∃ (y:Bool),VC 149 [tpM m,Aa a] (Ac y)/\((true&&y==true)=true->inX a m.Exprs.length)/\((true&&(bif y then(m.Exprs.getD a.toNat default).Op==2 else false)==true)=true->inX a m.Exprs.length)/\LQ (Ac (bif bif y then(m.Exprs.getD a.toNat default).Op==2 else false then(m.Exprs.getD a.toNat default).V.Scope != 2 else false)) (Ac b)):=by kernel_rfl
theorem QU (b:Bool)(m:D.Model)(s:D.Stmt):(fc Bj AT Tryz.f115 [] (Ac b)).goal (St.init [] [tpM m,.agg (Ap s)]) =
  (BB (s.Kind==1) (BB (s.Kind==1) (∃ (y:Bool),VC 149 [tpM m,Aa s.A] (Ac y)/\∃ (y_1:Bool),((true&&(bif y then s.B==(-1:Int) else false)==true)=true->VC 150 [VV.agg (Ap s),Ac true,Ac true,Ac true] (Ac y_1))/\LQ (Ac (bif bif y then s.B==(-1:Int) else false then y_1 else false)) (Ac b)) (BB (s.Kind==2) (∃ (y:Bool),VC 151 [tpM m,Aa s.A] (Ac y)/\∃ (y_1:Bool),((true&&y==true)=true->VC 149 [tpM m,Aa s.B] (Ac y_1))/\∃ (y_2:Bool),((true&&(bif y then y_1 else false)==true)=true->VC 150 [VV.agg (Ap s),Ac true,Ac true,Ac true] (Ac y_2))/\LQ (Ac (bif bif y then y_1 else false then y_2 else false)) (Ac b)) (BB (s.Kind==4) (∃ (y:Bool),((true&&(bif s.A==(-1:Int) then s.B==(-1:Int) else false)==true)=true->VC 110 [Aa (↑m.Exprs.length:Int),Ad true s.Args] (Ac y))/\LQ (Ac (bif bif bif bif bif s.A==(-1:Int) then s.B==(-1:Int) else false then y else false then(↑s.Match.length:Int)==0 else false then decide ((↑s.Text.size:Int)<=256) else false then s.N==0 else false)) (Ac b)) (BB (s.Kind==5) (∃ (y:Bool),VC 149 [tpM m,Aa s.A] (Ac y)/\∃ (y_1:Bool),((true&&(bif bif bif y then s.B==(-1:Int) else false then decide ((↑s.Args.length:Int)>=1) else false then decide ((↑s.Args.length:Int)<=8) else false)==true)=true->VC 110 [Aa (↑m.Exprs.length:Int),Ad true s.Args] (Ac y_1))/\LQ (Ac (bif bif bif bif bif bif bif y then s.B==(-1:Int) else false then decide ((↑s.Args.length:Int)>=1) else false then decide ((↑s.Args.length:Int)<=8) else false then y_1 else false then(↑s.Match.length:Int)==0 else false then bif s.N==0 then true else s.N==1 else false then s.Text.toList==(⟨#[]⟩:ByteArray).toList else false)) (Ac b)) (BB (s.Kind==6) (∃ (y:Bool),VC 149 [tpM m,Aa s.A] (Ac y)/\∃ (y_1:Bool),((true&&(bif y then s.B==(-1:Int) else false)==true)=true->VC 152 [tpM m,VV.agg (Ap s)] (Ac y_1))/\LQ (Ac (bif bif bif bif bif y then s.B==(-1:Int) else false then y_1 else false then decide (s.N>=0) else false then decide (s.N<=3) else false then s.Text.toList==(⟨#[]⟩:ByteArray).toList else false)) (Ac b)) (BB (s.Kind==7) (BB (s.Kind==7) (∃ (y:Bool),((true&&(bif s.A==(-1:Int) then s.B==(-1:Int) else false)==true)=true->VC 150 [VV.agg (Ap s),Ac true,Ac true,Ac true] (Ac y))/\LQ (Ac (bif bif s.A==(-1:Int) then s.B==(-1:Int) else false then y else false)) (Ac b)) (BB (s.Kind==9) (∃ (y:Bool),VC 151 [tpM m,Aa s.A] (Ac y)/\∃ (y_1:Bool),((true&&(bif bif bif y then s.B==(-1:Int) else false then decide (s.N>=0) else false then decide (s.N<(↑m.Shapes.length:Int)) else false)==true)=true->VC 150 [VV.agg (Ap s),Ac true,Ac false,Ac true] (Ac y_1))/\LQ (Ac (bif bif bif bif y then s.B==(-1:Int) else false then decide (s.N>=0) else false then decide (s.N<(↑m.Shapes.length:Int)) else false then y_1 else false)) (Ac b)) (LQ (Ac false) (Ac b)))) (BB (s.Kind==8) (∃ (y:Bool),((true&&(bif s.A==(-1:Int) then s.B==(-1:Int) else false)==true)=true->VC 150 [VV.agg (Ap s),Ac true,Ac true,Ac true] (Ac y))/\LQ (Ac (bif bif s.A==(-1:Int) then s.B==(-1:Int) else false then y else false)) (Ac b)) (BB (s.Kind==9) (∃ (y:Bool),VC 151 [tpM m,Aa s.A] (Ac y)/\∃ (y_1:Bool),((true&&(bif bif bif y then s.B==(-1:Int) else false then decide (s.N>=0) else false then decide (s.N<(↑m.Shapes.length:Int)) else false)==true)=true->VC 150 [VV.agg (Ap s),Ac true,Ac false,Ac true] (Ac y_1))/\LQ (Ac (bif bif bif bif y then s.B==(-1:Int) else false then decide (s.N>=0) else false then decide (s.N<(↑m.Shapes.length:Int)) else false then y_1 else false)) (Ac b)) (LQ (Ac false) (Ac b)))))))))) (BB (s.Kind==3) (∃ (y:Bool),VC 149 [tpM m,Aa s.A] (Ac y)/\∃ (y_1:Bool),((true&&(bif y then s.B==(-1:Int) else false)==true)=true->VC 150 [VV.agg (Ap s),Ac true,Ac true,Ac true] (Ac y_1))/\LQ (Ac (bif bif y then s.B==(-1:Int) else false then y_1 else false)) (Ac b)) (BB (s.Kind==2) (∃ (y:Bool),VC 151 [tpM m,Aa s.A] (Ac y)/\∃ (y_1:Bool),((true&&y==true)=true->VC 149 [tpM m,Aa s.B] (Ac y_1))/\∃ (y_2:Bool),((true&&(bif y then y_1 else false)==true)=true->VC 150 [VV.agg (Ap s),Ac true,Ac true,Ac true] (Ac y_2))/\LQ (Ac (bif bif y then y_1 else false then y_2 else false)) (Ac b)) (BB (s.Kind==4) (∃ (y:Bool),((true&&(bif s.A==(-1:Int) then s.B==(-1:Int) else false)==true)=true->VC 110 [Aa (↑m.Exprs.length:Int),Ad true s.Args] (Ac y))/\LQ (Ac (bif bif bif bif bif s.A==(-1:Int) then s.B==(-1:Int) else false then y else false then(↑s.Match.length:Int)==0 else false then decide ((↑s.Text.size:Int)<=256) else false then s.N==0 else false)) (Ac b)) (BB (s.Kind==5) (∃ (y:Bool),VC 149 [tpM m,Aa s.A] (Ac y)/\∃ (y_1:Bool),((true&&(bif bif bif y then s.B==(-1:Int) else false then decide ((↑s.Args.length:Int)>=1) else false then decide ((↑s.Args.length:Int)<=8) else false)==true)=true->VC 110 [Aa (↑m.Exprs.length:Int),Ad true s.Args] (Ac y_1))/\LQ (Ac (bif bif bif bif bif bif bif y then s.B==(-1:Int) else false then decide ((↑s.Args.length:Int)>=1) else false then decide ((↑s.Args.length:Int)<=8) else false then y_1 else false then(↑s.Match.length:Int)==0 else false then bif s.N==0 then true else s.N==1 else false then s.Text.toList==(⟨#[]⟩:ByteArray).toList else false)) (Ac b)) (BB (s.Kind==6) (∃ (y:Bool),VC 149 [tpM m,Aa s.A] (Ac y)/\∃ (y_1:Bool),((true&&(bif y then s.B==(-1:Int) else false)==true)=true->VC 152 [tpM m,VV.agg (Ap s)] (Ac y_1))/\LQ (Ac (bif bif bif bif bif y then s.B==(-1:Int) else false then y_1 else false then decide (s.N>=0) else false then decide (s.N<=3) else false then s.Text.toList==(⟨#[]⟩:ByteArray).toList else false)) (Ac b)) (BB (s.Kind==7) (BB (s.Kind==7) (∃ (y:Bool),((true&&(bif s.A==(-1:Int) then s.B==(-1:Int) else false)==true)=true->VC 150 [VV.agg (Ap s),Ac true,Ac true,Ac true] (Ac y))/\LQ (Ac (bif bif s.A==(-1:Int) then s.B==(-1:Int) else false then y else false)) (Ac b)) (BB (s.Kind==9) (∃ (y:Bool),VC 151 [tpM m,Aa s.A] (Ac y)/\∃ (y_1:Bool),((true&&(bif bif bif y then s.B==(-1:Int) else false then decide (s.N>=0) else false then decide (s.N<(↑m.Shapes.length:Int)) else false)==true)=true->VC 150 [VV.agg (Ap s),Ac true,Ac false,Ac true] (Ac y_1))/\LQ (Ac (bif bif bif bif y then s.B==(-1:Int) else false then decide (s.N>=0) else false then decide (s.N<(↑m.Shapes.length:Int)) else false then y_1 else false)) (Ac b)) (LQ (Ac false) (Ac b)))) (BB (s.Kind==8) (∃ (y:Bool),((true&&(bif s.A==(-1:Int) then s.B==(-1:Int) else false)==true)=true->VC 150 [VV.agg (Ap s),Ac true,Ac true,Ac true] (Ac y))/\LQ (Ac (bif bif s.A==(-1:Int) then s.B==(-1:Int) else false then y else false)) (Ac b)) (BB (s.Kind==9) (∃ (y:Bool),VC 151 [tpM m,Aa s.A] (Ac y)/\∃ (y_1:Bool),((true&&(bif bif bif y then s.B==(-1:Int) else false then decide (s.N>=0) else false then decide (s.N<(↑m.Shapes.length:Int)) else false)==true)=true->VC 150 [VV.agg (Ap s),Ac true,Ac false,Ac true] (Ac y_1))/\LQ (Ac (bif bif bif bif y then s.B==(-1:Int) else false then decide (s.N>=0) else false then decide (s.N<(↑m.Shapes.length:Int)) else false then y_1 else false)) (Ac b)) (LQ (Ac false) (Ac b))))))))))):=by kernel_rfl
theorem Aa1 (b:Bool)(m:D.Model)(s:D.Stmt):(fc Bj Nw Tryz.f152 [] (Ac b)).goal (St.init [] [tpM m,.agg (Ap s)]) =
  (∃ (y:Bool),VC 112 [tpM m,Aa (↑m.Exprs.length:Int),Ad true s.Args,Ad true s.Match] (Ac y)/\BB (!y) (LQ (Ac false) (Ac b)) (AA (fc Bj Nw Tryz.f152 [] (Ac b)) [1,1,0,1,0] (Oo m s (0:Int)))):=by kernel_rfl
theorem AdT (b:Bool)(m:D.Model)(i:Int)(list:List Int)(run:Int):(fc Bj JZ Tryz.f75 [] (Ac b)).goal (St.init [] [tpM m,Aa i,Ad false list,Aa run]) =
  (AA (fc Bj JZ Tryz.f75 [] (Ac b)) [1] (Y8 m i list run)):=by kernel_rfl
theorem Abj (r:Int)(m:D.Model)(i:Int)(v:D.Var):(fc Bj AT Tryz.f117 [] (Aa r)).goal (St.init [] [tpM m,Aa i,.agg (Cq v)]) =
  (BB (v.Scope==0) (LQ (Aa (↑m.Globals.length:Int)) (Aa r)) (BB (v.Scope==1) (inX i m.Procs.length/\LQ (Aa (↑(m.Procs.getD i.toNat default).Frame.length:Int)) (Aa r)) (inX v.Type_ m.Procs.length/\LQ (Aa (↑(m.Procs.getD v.Type_.toNat default).Frame.length:Int)) (Aa r)))):=by kernel_rfl
theorem Agg (b:Bool)(m:D.Model)(i:Int)(s:D.Stmt):(fc Bj AT Tryz.f74 [] (Ac b)).goal (St.init [] [tpM m,Aa i,.agg (Ap s)]) =
  (∃ (y:Bool),VC 115 [tpM m,VV.agg (Ap s)] (Ac y)/\BB (bif !y then true else bif bif bif bif i==m.Claim then s.Kind != 1 else false then s.Kind != 3 else false then s.Kind != 7 else false then s.Kind != 8 else false) (LQ (Ac false) (Ac b)) (s.Args.length*8<=140737488355328/\(∀ (i:Nat),i<s.Args.length->(AM s.Args i).all VV.mem1=true)/\BB (decide (s.A>=0)) ((s.Args.length+1)*8<=140737488355328/\BB (decide (s.B>=0)) ((s.Args.length+1+1)*8<=140737488355328/\BB (s.Kind==1) (∃ (y:Bool),VC 75 [tpM m,Aa i,VV.sl false (s.Args.length+1+1) 1 fun(i:Nat)=>bif i.blt (s.Args.length+1) then(fun(i:Nat)=>bif i.blt s.Args.length then[Aa (s.Args.getD i 0)] else(fun(i:Nat)=>List.take 1 (List.drop (i*1) [Aa s.A])) (i - s.Args.length)) i else(fun(i:Nat)=>List.take 1 (List.drop (i*1) [Aa s.B])) (i - (s.Args.length+1)),Aa s.A] (Ac y)/\LQ (Ac y) (Ac b)) (BB (s.Kind==2) (∃ (y:Bool),VC 75 [tpM m,Aa i,VV.sl false (s.Args.length+1+1) 1 fun(i:Nat)=>bif i.blt (s.Args.length+1) then(fun(i:Nat)=>bif i.blt s.Args.length then[Aa (s.Args.getD i 0)] else(fun(i:Nat)=>List.take 1 (List.drop (i*1) [Aa s.A])) (i - s.Args.length)) i else(fun(i:Nat)=>List.take 1 (List.drop (i*1) [Aa s.B])) (i - (s.Args.length+1)),Aa s.B] (Ac y)/\LQ (Ac y) (Ac b)) (∃ (y:Bool),VC 75 [tpM m,Aa i,VV.sl false (s.Args.length+1+1) 1 fun(i:Nat)=>bif i.blt (s.Args.length+1) then(fun(i:Nat)=>bif i.blt s.Args.length then[Aa (s.Args.getD i 0)] else(fun(i:Nat)=>List.take 1 (List.drop (i*1) [Aa s.A])) (i - s.Args.length)) i else(fun(i:Nat)=>List.take 1 (List.drop (i*1) [Aa s.B])) (i - (s.Args.length+1)),Aa (-1)] (Ac y)/\LQ (Ac y) (Ac b)))) (BB (s.Kind==1) (∃ (y:Bool),VC 75 [tpM m,Aa i,VV.sl false (s.Args.length+1) 1 fun(i:Nat)=>bif i.blt s.Args.length then[Aa (s.Args.getD i 0)] else(fun(i:Nat)=>List.take 1 (List.drop (i*1) [Aa s.A])) (i - s.Args.length),Aa s.A] (Ac y)/\LQ (Ac y) (Ac b)) (BB (s.Kind==2) (∃ (y:Bool),VC 75 [tpM m,Aa i,VV.sl false (s.Args.length+1) 1 fun(i:Nat)=>bif i.blt s.Args.length then[Aa (s.Args.getD i 0)] else(fun(i:Nat)=>List.take 1 (List.drop (i*1) [Aa s.A])) (i - s.Args.length),Aa s.B] (Ac y)/\LQ (Ac y) (Ac b)) (∃ (y:Bool),VC 75 [tpM m,Aa i,VV.sl false (s.Args.length+1) 1 fun(i:Nat)=>bif i.blt s.Args.length then[Aa (s.Args.getD i 0)] else(fun(i:Nat)=>List.take 1 (List.drop (i*1) [Aa s.A])) (i - s.Args.length),Aa (-1)] (Ac y)/\LQ (Ac y) (Ac b))))) (BB (decide (s.B>=0)) ((s.Args.length+1)*8<=140737488355328/\BB (s.Kind==1) (∃ (y:Bool),VC 75 [tpM m,Aa i,VV.sl false (s.Args.length+1) 1 fun(i:Nat)=>bif i.blt s.Args.length then[Aa (s.Args.getD i 0)] else(fun(i:Nat)=>List.take 1 (List.drop (i*1) [Aa s.B])) (i - s.Args.length),Aa s.A] (Ac y)/\LQ (Ac y) (Ac b)) (BB (s.Kind==2) (∃ (y:Bool),VC 75 [tpM m,Aa i,VV.sl false (s.Args.length+1) 1 fun(i:Nat)=>bif i.blt s.Args.length then[Aa (s.Args.getD i 0)] else(fun(i:Nat)=>List.take 1 (List.drop (i*1) [Aa s.B])) (i - s.Args.length),Aa s.B] (Ac y)/\LQ (Ac y) (Ac b)) (∃ (y:Bool),VC 75 [tpM m,Aa i,VV.sl false (s.Args.length+1) 1 fun(i:Nat)=>bif i.blt s.Args.length then[Aa (s.Args.getD i 0)] else(fun(i:Nat)=>List.take 1 (List.drop (i*1) [Aa s.B])) (i - s.Args.length),Aa (-1)] (Ac y)/\LQ (Ac y) (Ac b)))) (BB (s.Kind==1) (∃ (y:Bool),VC 75 [tpM m,Aa i,Ad false s.Args,Aa s.A] (Ac y)/\LQ (Ac y) (Ac b)) (BB (s.Kind==2) (∃ (y:Bool),VC 75 [tpM m,Aa i,Ad false s.Args,Aa s.B] (Ac y)/\LQ (Ac y) (Ac b)) (∃ (y:Bool),VC 75 [tpM m,Aa i,Ad false s.Args,Aa (-1)] (Ac y)/\LQ (Ac y) (Ac b))))))):=by kernel_rfl
theorem AeQ (b:Bool)(m:D.Model)(i:Int):(fc Bj G9 Tryz.f53 [] (Ac b)).goal (St.init [] [tpM m,Aa i]) =
  (inX i m.Procs.length/\AA (fc Bj G9 Tryz.f53 [] (Ac b)) [1,1,0,1,0] (L2 m i (m.Procs.getD i.toNat default) (0:Int))):=by kernel_rfl
theorem WX (r e:Int)(m:D.Model):(fc Bj Dj Tryz.f49 [] (.tup [Aa r,Aa e])).goal (St.init [] [tpM m]) =
  (BB (bif decide ((↑m.Globals.length:Int) > 128) then true else(↑m.Init.length:Int) != (↑m.Globals.length:Int)) (LQ (VV.tup [Aa 1,Aa (-1)]) (VV.tup [Aa r,Aa e])) (∃ (y:Int),VC 69 [AJ true m.Globals,Ad true m.Init] (Aa y)/\BB (decide (y>=0)) (LQ (VV.tup [Aa 1,Aa y]) (VV.tup [Aa r,Aa e])) (BB (bif decide ((↑m.Shapes.length:Int) > 32) then true else decide ((↑m.Chans.length:Int) > 32)) (LQ (VV.tup [Aa 2,Aa (-1)]) (VV.tup [Aa r,Aa e])) (AA (fc Bj Dj Tryz.f49 [] (VV.tup [Aa r,Aa e])) [1,1,1,1,1,0,1,0] (SI m (0:Int)))))):=by kernel_rfl
theorem Afn (r:List Int)(x:D.Expr):(fc Bj Ha Tryz.f72 [] (Ad true r)).goal (St.init [] [.agg (AS x)]) =
  (∃ (y:Int),VC 109 [Aa x.Op] (Aa y)/\((0:Int)<=y/\y<=(↑3:Int))/\y.toNat*8<=140737488355328/\BB (bif x.Op==30 then true else x.Op==39) ((y.toNat+x.Args.length)*8<=140737488355328/\(∀ (i:Nat),i<x.Args.length->(AM x.Args i).all VV.mem1=true)/\BB (x.Op==2) (BB (x.V.Scope==2) ((y.toNat+x.Args.length+1)*8<=140737488355328/\AA (fc Bj Ha Tryz.f72 [] (Ad true r)) [1,1,1,0,1,0,1,1,0] (Aq [(3,VV.ow 0 0 (y.toNat+x.Args.length+1)),(45,Dc true x.V.Dims),(46,Aa (↑x.V.Dims.length:Int)),(47,Aa 0)] [Ob.arr true 0 (y.toNat+x.Args.length+1) 1 fun(i:Nat)=>bif i.blt (y.toNat+x.Args.length) then(fun(i:Nat)=>bif i.blt y.toNat then(fun(i:Nat)=>List.take 1 (List.drop (i*1) [Aa x.A,Aa x.B,Aa x.C])) i else[Aa (x.Args.getD (i - y.toNat) 0)]) i else(fun(i:Nat)=>List.take 1 (List.drop (i*1) [Aa x.V.Who])) (i - (y.toNat+x.Args.length))])) (AA (fc Bj Ha Tryz.f72 [] (Ad true r)) [1,1,1,0,1,0,1,1,0] (Aq [(3,VV.ow 0 0 (y.toNat+x.Args.length)),(45,Dc true x.V.Dims),(46,Aa (↑x.V.Dims.length:Int)),(47,Aa 0)] [Ob.arr true 0 (y.toNat+x.Args.length) 1 fun(i:Nat)=>bif i.blt y.toNat then(fun(i:Nat)=>List.take 1 (List.drop (i*1) [Aa x.A,Aa x.B,Aa x.C])) i else[Aa (x.Args.getD (i - y.toNat) 0)]]))) (LQ (VV.sl true (y.toNat+x.Args.length) 1 fun(i:Nat)=>bif i.blt y.toNat then(fun(i:Nat)=>List.take 1 (List.drop (i*1) [Aa x.A,Aa x.B,Aa x.C])) i else[Aa (x.Args.getD (i - y.toNat) 0)]) (Ad true r))) (BB (x.Op==2) (BB (x.V.Scope==2) ((y.toNat+1)*8<=140737488355328/\AA (fc Bj Ha Tryz.f72 [] (Ad true r)) [1,1,1,0,1,0,1,1,0] (Aq [(3,VV.ow 0 0 (y.toNat+1)),(45,Dc true x.V.Dims),(46,Aa (↑x.V.Dims.length:Int)),(47,Aa 0)] [Ob.arr true 0 (y.toNat+1) 1 fun(i:Nat)=>bif i.blt y.toNat then(fun(i:Nat)=>List.take 1 (List.drop (i*1) [Aa x.A,Aa x.B,Aa x.C])) i else(fun(i:Nat)=>List.take 1 (List.drop (i*1) [Aa x.V.Who])) (i - y.toNat)])) (AA (fc Bj Ha Tryz.f72 [] (Ad true r)) [1,1,1,0,1,0,1,1,0] (Aq [(3,VV.ow 0 0 y.toNat),(45,Dc true x.V.Dims),(46,Aa (↑x.V.Dims.length:Int)),(47,Aa 0)] [Ob.arr true 0 y.toNat 1 fun(i:Nat)=>List.take 1 (List.drop (i*1) [Aa x.A,Aa x.B,Aa x.C])]))) (LQ (VV.sl true y.toNat 1 fun(i:Nat)=>List.take 1 (List.drop (i*1) [Aa x.A,Aa x.B,Aa x.C])) (Ad true r)))):=by kernel_rfl
theorem Adc (r e f:Int)(m:D.Model):(fc Bj Iu Tryz.f36 [] (.tup [Aa r,Aa e,Aa f])).goal (St.init [] [.agg (Ag m)]) =
  (∃ (y:Int × Int),VC 49 [tpM m] (VV.tup [Aa y.fst,Aa y.snd])/\BB (decide (y.fst > 0)) (LQ (VV.tup [Aa 40,Aa y.fst,Aa y.snd]) (VV.tup [Aa r,Aa e,Aa f])) (AA (fc Bj Iu Tryz.f36 [] (VV.tup [Aa r,Aa e,Aa f])) [1,1,1,1,0,1,0] (L7 m (0:Int) (0:Int)))):=by kernel_rfl
end Go.Proofs.YtmdcknlpalfhhaaGreatDoor
namespace Go.Proofs.YtmdcknlpalfhhaaGreatDoor
open Go.RowKit
set_option maxRecDepth 100000
theorem Xw (r:Int)(n:Int)(v:D.Var)(k:Int)(J:St->Prop):((fc Bj NA Tryz.f116 [] (Aa r)).loop [1,1,1,0,1,0] J).goal (Ow n v k) =
  (BB (decide (k<(↑v.Dims.length:Int))) (inX k v.Dims.length/\BB (bif bif bif decide ((v.Dims.getD k.toNat default).Len<1) then true else decide (IntKind.i64.wrap ((v.Dims.getD k.toNat default).Len - (1:Int)) > 1073741824) then true else decide ((v.Dims.getD k.toNat default).Stride<0) then true else decide ((v.Dims.getD k.toNat default).Stride > 1073741824)) (LQ (Aa 0) (Aa r)) (J (Ow (IntKind.i64.wrap (n+IntKind.i64.wrap (IntKind.i64.wrap ((v.Dims.getD k.toNat default).Len - (1:Int))*(v.Dims.getD k.toNat default).Stride))) v (IntKind.i64.wrap (k+(1:Int)))))) (LQ (Aa n) (Aa r))):=by kernel_rfl
theorem WM (r:Int)(t:List D.Type)(init:List Int)(k:Int)(J:St->Prop):((fc Bj Nt Tryz.f69 [] (Aa r)).loop [1,0,1,0] J).goal (Om t init k) =
  (BB (decide (k<(↑t.length:Int))) (inX k t.length/\inX k init.length/\∃ (y:Bool),VC 107 [VV.agg (Dx (t.getD k.toNat default)),Aa (init.getD k.toNat 0)] (Ac y)/\BB (!y) (LQ (Aa k) (Aa r)) (J (Om t init (IntKind.i64.wrap (k+(1:Int)))))) (LQ (Aa (-1)) (Aa r))):=by kernel_rfl
theorem Xh (b:Bool)(s:D.Shape)(k:Int)(J:St->Prop):((fc Bj Ny Tryz.f70 [] (Ac b)).loop [1,1,0,1,0] J).goal (Oq s k) =
  (BB (decide (k<(↑s.Fields.length:Int))) (inX k s.Fields.length/\∃ (y:Bool),VC 108 [VV.agg (Dx (s.Fields.getD k.toNat default))] (Ac y)/\BB (!y) (LQ (Ac false) (Ac b)) (J (Oq s (IntKind.i64.wrap (k+(1:Int)))))) (LQ (Ac true) (Ac b))):=by kernel_rfl
theorem YH (b:Bool)(a:Int)(l:List Int)(k:Int)(J:St->Prop):((fc Bj NG Tryz.f110 [] (Ac b)).loop [1,0,1,0] J).goal (OB a l k) =
  (BB (decide (k<(↑l.length:Int))) (inX k l.length/\BB (bif decide (l.getD k.toNat 0<0) then true else decide (l.getD k.toNat 0>=a)) (LQ (Ac false) (Ac b)) (J (OB a l (IntKind.i64.wrap (k+(1:Int)))))) (LQ (Ac true) (Ac b))):=by kernel_rfl
theorem VU (b:Bool)(a:Int)(l:List Int)(k:Int)(J:St->Prop):((fc Bj LH Tryz.f110 [] (Ac b)).loop [1,0,1,0] J).goal (L8 a l k) =
  (BB (decide (k<(↑l.length:Int))) (inX k l.length/\BB (bif decide (l.getD k.toNat 0<0) then true else decide (l.getD k.toNat 0>=a)) (LQ (Ac false) (Ac b)) (J (L8 a l (IntKind.i64.wrap (k+(1:Int)))))) (LQ (Ac true) (Ac b))):=by kernel_rfl
theorem AaO (b:Bool)(a:Int)(v:D.Var)(k:Int)(J:St->Prop):((fc Bj JY Tryz.f111 [] (Ac b)).loop [1,1,1,0,1,0] J).goal (MU a v k) =
  (BB (decide (k<(↑v.Dims.length:Int))) (inX k v.Dims.length/\∃ (y:Bool),VC 110 [Aa a,VV.sl false 1 1 fun(i:Nat)=>List.take 1 (List.drop (i*1) [Aa (v.Dims.getD k.toNat default).I])] (Ac y)/\BB (bif bif bif bif !y then true else decide ((v.Dims.getD k.toNat default).Len<1) then true else decide ((v.Dims.getD k.toNat default).Len > 128) then true else decide ((v.Dims.getD k.toNat default).Stride<0) then true else decide ((v.Dims.getD k.toNat default).Stride > 128)) (LQ (Ac false) (Ac b)) (J (MU a v (IntKind.i64.wrap (k+(1:Int)))))) (LQ (Ac true) (Ac b))):=by kernel_rfl
theorem Te (b:Bool)(m:D.Model)(args mt:List Int)(k:Int)(J:St->Prop):((fc Bj J4 Tryz.f112 [] (Ac b)).loop [1,1,0,1,0] J).goal (Kh m args mt k) =
  (BB (decide (k<(↑mt.length:Int))) (inX k mt.length/\((true&&(bif decide (mt.getD k.toNat 0<(-1:Int)) then true else decide (mt.getD k.toNat 0 > 1))==false&&(mt.getD k.toNat 0==0)==true)=true->inX k args.length)/\((true&&(bif decide (mt.getD k.toNat 0<(-1:Int)) then true else decide (mt.getD k.toNat 0 > 1))==false&&(mt.getD k.toNat 0==0)==true)=true->inX (args.getD k.toNat 0) m.Exprs.length)/\BB (bif bif decide (mt.getD k.toNat 0<(-1:Int)) then true else decide (mt.getD k.toNat 0 > 1) then true else bif mt.getD k.toNat 0==0 then(m.Exprs.getD (args.getD k.toNat 0).toNat default).Op != 2 else false) (LQ (Ac false) (Ac b)) (J (Kh m args mt (IntKind.i64.wrap (k+(1:Int)))))) (LQ (Ac true) (Ac b))):=by kernel_rfl
theorem Vz (b:Bool)(m:D.Model)(a:Int)(x:D.Expr)(J:St->Prop):((fc Bj Ir Tryz.f71 [] (Ac b)).loop [1,1,1,0,1,0] J).goal (Fq m a x 0) =
  (BB true (inX (0:Int) 3/\∃ (y:Int),VC 109 [Aa x.Op] (Aa y)/\∃ (y_1:Bool),((true&&decide ((0:Int)<y)==true)=true->VC 110 [Aa a,VV.sl true 1 1 fun(i:Nat)=>List.take 1 (List.drop (i*1) [Aa x.A])] (Ac y_1))/\∃ (y_2:Int),((true&&(bif decide ((0:Int)<y) then !y_1 else false)==false)=true->VC 109 [Aa x.Op] (Aa y_2))/\BB (bif bif decide ((0:Int)<y) then !y_1 else false then true else bif decide ((0:Int)>=y_2) then x.A != (-1:Int) else false) (LQ (Ac false) (Ac b)) (J (Fq m a x (IntKind.i64.wrap ((0:Int)+(1:Int)))))) (BB (x.Op==1) (∃ (y:Bool),VC 107 [VV.agg [Aa 32,Ac true],Aa x.N] (Ac y)/\LQ (Ac y) (Ac b)) (BB (x.Op==2) (∃ (y:Bool),VC 111 [tpM m,Aa a,VV.agg (Cq x.V)] (Ac y)/\LQ (Ac y) (Ac b)) (BB (x.Op==30) (∃ (y:Bool),VC 112 [tpM m,Aa a,Ad true x.Args,Ad true x.Match] (Ac y)/\LQ (Ac (bif y then bif x.N==0 then true else x.N==1 else false)) (Ac b)) (BB (x.Op==38) (∃ (y:Bool),VC 113 [tpM m,VV.agg (AS x)] (Ac y)/\LQ (Ac y) (Ac b)) (BB (x.Op==39) (∃ (y:Bool),((true&&(bif decide (x.N>=0) then decide (x.N<1073741824) else false)==true)=true->VC 114 [tpM m,Aa x.N] (Ac y))/\((true&&(bif bif decide (x.N>=0) then decide (x.N<1073741824) else false then y else false)==true)=true->inX x.N m.Procs.length)/\∃ (y_1:Bool),((true&&(bif bif bif decide (x.N>=0) then decide (x.N<1073741824) else false then y else false then(↑x.Args.length:Int)==(m.Procs.getD x.N.toNat default).Params else false)==true)=true->VC 110 [Aa a,Ad true x.Args] (Ac y_1))/\LQ (Ac (bif bif bif bif decide (x.N>=0) then decide (x.N<1073741824) else false then y else false then(↑x.Args.length:Int)==(m.Procs.getD x.N.toNat default).Params else false then y_1 else false)) (Ac b)) (LQ (Ac true) (Ac b)))))))):=by kernel_rfl
theorem Vy (b:Bool)(m:D.Model)(a:Int)(x:D.Expr)(J:St->Prop):((fc Bj Ir Tryz.f71 [] (Ac b)).loop [1,1,1,0,1,0] J).goal (Fq m a x 1) =
  (BB true (inX (1:Int) 3/\∃ (y:Int),VC 109 [Aa x.Op] (Aa y)/\∃ (y_1:Bool),((true&&decide ((1:Int)<y)==true)=true->VC 110 [Aa a,VV.sl true 1 1 fun(i:Nat)=>List.take 1 (List.drop (i*1) [Aa x.B])] (Ac y_1))/\∃ (y_2:Int),((true&&(bif decide ((1:Int)<y) then !y_1 else false)==false)=true->VC 109 [Aa x.Op] (Aa y_2))/\BB (bif bif decide ((1:Int)<y) then !y_1 else false then true else bif decide ((1:Int)>=y_2) then x.B != (-1:Int) else false) (LQ (Ac false) (Ac b)) (J (Fq m a x (IntKind.i64.wrap ((1:Int)+(1:Int)))))) (BB (x.Op==1) (∃ (y:Bool),VC 107 [VV.agg [Aa 32,Ac true],Aa x.N] (Ac y)/\LQ (Ac y) (Ac b)) (BB (x.Op==2) (∃ (y:Bool),VC 111 [tpM m,Aa a,VV.agg (Cq x.V)] (Ac y)/\LQ (Ac y) (Ac b)) (BB (x.Op==30) (∃ (y:Bool),VC 112 [tpM m,Aa a,Ad true x.Args,Ad true x.Match] (Ac y)/\LQ (Ac (bif y then bif x.N==0 then true else x.N==1 else false)) (Ac b)) (BB (x.Op==38) (∃ (y:Bool),VC 113 [tpM m,VV.agg (AS x)] (Ac y)/\LQ (Ac y) (Ac b)) (BB (x.Op==39) (∃ (y:Bool),((true&&(bif decide (x.N>=0) then decide (x.N<1073741824) else false)==true)=true->VC 114 [tpM m,Aa x.N] (Ac y))/\((true&&(bif bif decide (x.N>=0) then decide (x.N<1073741824) else false then y else false)==true)=true->inX x.N m.Procs.length)/\∃ (y_1:Bool),((true&&(bif bif bif decide (x.N>=0) then decide (x.N<1073741824) else false then y else false then(↑x.Args.length:Int)==(m.Procs.getD x.N.toNat default).Params else false)==true)=true->VC 110 [Aa a,Ad true x.Args] (Ac y_1))/\LQ (Ac (bif bif bif bif decide (x.N>=0) then decide (x.N<1073741824) else false then y else false then(↑x.Args.length:Int)==(m.Procs.getD x.N.toNat default).Params else false then y_1 else false)) (Ac b)) (LQ (Ac true) (Ac b)))))))):=by kernel_rfl
theorem Vx (b:Bool)(m:D.Model)(a:Int)(x:D.Expr)(J:St->Prop):((fc Bj Ir Tryz.f71 [] (Ac b)).loop [1,1,1,0,1,0] J).goal (Fq m a x 2) =
  (BB true (inX (2:Int) 3/\∃ (y:Int),VC 109 [Aa x.Op] (Aa y)/\∃ (y_1:Bool),((true&&decide ((2:Int)<y)==true)=true->VC 110 [Aa a,VV.sl true 1 1 fun(i:Nat)=>List.take 1 (List.drop (i*1) [Aa x.C])] (Ac y_1))/\∃ (y_2:Int),((true&&(bif decide ((2:Int)<y) then !y_1 else false)==false)=true->VC 109 [Aa x.Op] (Aa y_2))/\BB (bif bif decide ((2:Int)<y) then !y_1 else false then true else bif decide ((2:Int)>=y_2) then x.C != (-1:Int) else false) (LQ (Ac false) (Ac b)) (J (Fq m a x (IntKind.i64.wrap ((2:Int)+(1:Int)))))) (BB (x.Op==1) (∃ (y:Bool),VC 107 [VV.agg [Aa 32,Ac true],Aa x.N] (Ac y)/\LQ (Ac y) (Ac b)) (BB (x.Op==2) (∃ (y:Bool),VC 111 [tpM m,Aa a,VV.agg (Cq x.V)] (Ac y)/\LQ (Ac y) (Ac b)) (BB (x.Op==30) (∃ (y:Bool),VC 112 [tpM m,Aa a,Ad true x.Args,Ad true x.Match] (Ac y)/\LQ (Ac (bif y then bif x.N==0 then true else x.N==1 else false)) (Ac b)) (BB (x.Op==38) (∃ (y:Bool),VC 113 [tpM m,VV.agg (AS x)] (Ac y)/\LQ (Ac y) (Ac b)) (BB (x.Op==39) (∃ (y:Bool),((true&&(bif decide (x.N>=0) then decide (x.N<1073741824) else false)==true)=true->VC 114 [tpM m,Aa x.N] (Ac y))/\((true&&(bif bif decide (x.N>=0) then decide (x.N<1073741824) else false then y else false)==true)=true->inX x.N m.Procs.length)/\∃ (y_1:Bool),((true&&(bif bif bif decide (x.N>=0) then decide (x.N<1073741824) else false then y else false then(↑x.Args.length:Int)==(m.Procs.getD x.N.toNat default).Params else false)==true)=true->VC 110 [Aa a,Ad true x.Args] (Ac y_1))/\LQ (Ac (bif bif bif bif decide (x.N>=0) then decide (x.N<1073741824) else false then y else false then(↑x.Args.length:Int)==(m.Procs.getD x.N.toNat default).Params else false then y_1 else false)) (Ac b)) (LQ (Ac true) (Ac b)))))))):=by kernel_rfl
theorem Vw (b:Bool)(m:D.Model)(a:Int)(x:D.Expr)(J:St->Prop):((fc Bj Ir Tryz.f71 [] (Ac b)).loop [1,1,1,0,1,0] J).goal (Fq m a x 3) =
  (BB false (inX (3:Int) 3/\False/\∃ (y:Int),VC 109 [Aa x.Op] (Aa y)/\((true&&decide ((3:Int)<y)==true)=true->False)/\∃ (y_1:Bool),((true&&decide ((3:Int)<y)==true)=true->VC 110 [Aa a,VV.dead] (Ac y_1))/\∃ (y_2:Int),((true&&(bif decide ((3:Int)<y) then !y_1 else false)==false)=true->VC 109 [Aa x.Op] (Aa y_2))/\((true&&(bif decide ((3:Int)<y) then !y_1 else false)==false&&decide ((3:Int)>=y_2)==true)=true->False)/\((true&&(bif decide ((3:Int)<y) then !y_1 else false)==false)=true->False)/\False/\False) (BB (x.Op==1) (∃ (y:Bool),VC 107 [VV.agg [Aa 32,Ac true],Aa x.N] (Ac y)/\LQ (Ac y) (Ac b)) (BB (x.Op==2) (∃ (y:Bool),VC 111 [tpM m,Aa a,VV.agg (Cq x.V)] (Ac y)/\LQ (Ac y) (Ac b)) (BB (x.Op==30) (∃ (y:Bool),VC 112 [tpM m,Aa a,Ad true x.Args,Ad true x.Match] (Ac y)/\LQ (Ac (bif y then bif x.N==0 then true else x.N==1 else false)) (Ac b)) (BB (x.Op==38) (∃ (y:Bool),VC 113 [tpM m,VV.agg (AS x)] (Ac y)/\LQ (Ac y) (Ac b)) (BB (x.Op==39) (∃ (y:Bool),((true&&(bif decide (x.N>=0) then decide (x.N<1073741824) else false)==true)=true->VC 114 [tpM m,Aa x.N] (Ac y))/\((true&&(bif bif decide (x.N>=0) then decide (x.N<1073741824) else false then y else false)==true)=true->inX x.N m.Procs.length)/\∃ (y_1:Bool),((true&&(bif bif bif decide (x.N>=0) then decide (x.N<1073741824) else false then y else false then(↑x.Args.length:Int)==(m.Procs.getD x.N.toNat default).Params else false)==true)=true->VC 110 [Aa a,Ad true x.Args] (Ac y_1))/\LQ (Ac (bif bif bif bif decide (x.N>=0) then decide (x.N<1073741824) else false then y else false then(↑x.Args.length:Int)==(m.Procs.getD x.N.toNat default).Params else false then y_1 else false)) (Ac b)) (LQ (Ac true) (Ac b)))))))):=by kernel_rfl
theorem Yf (b:Bool)(p:D.Proc)(many k:Int)(J:St->Prop):((fc Bj FJ Tryz.f51 [] (Ac b)).loop [1,1,1,1,0,1,0] J).goal (L5 p many k) =
  (BB (decide (k<(↑p.Locs.length:Int))) (inX k p.Locs.length/\BB (bif bif decide ((↑(p.Locs.getD k.toNat default).Esc.length:Int) > 8) then true else bif (p.Locs.getD k.toNat default).Dstep then(p.Locs.getD k.toNat default).Atomic else false then true else bif k==p.Final then decide (IntKind.i64.wrap ((↑(p.Locs.getD k.toNat default).Out.length:Int)+(↑(p.Locs.getD k.toNat default).Esc.length:Int)) > 0) else false) (LQ (Ac false) (Ac b)) (∃ (y:List (List D.Trans)),VC 73 [VV.agg (AY (p.Locs.getD k.toNat default))] (BT true y)/\AA ((fc Bj FJ Tryz.f51 [] (Ac b)).loop [1,1,1,1,0,1,0] J) [1,1,0,0,1,1,1,0] (L4 p many k y (0:Int)))) (LQ (Ac true) (Ac b))):=by kernel_rfl
theorem Ye (b:Bool)(p:D.Proc)(many k:Int)(ws:List (List D.Trans))(j:Int)(J J2:St->Prop):(((fc Bj FJ Tryz.f51 [] (Ac b)).loop [1,1,1,1,0,1,0] J).loop [1,1,0,0,1,1,1,0] J2).goal (L4 p many k ws j) =
  (BB (decide (j<(↑ws.length:Int))) (inX j ws.length/\BB (bif decide (j > 0) then(↑(ws.getD j.toNat []).length:Int)==0 else false) (LQ (Ac false) (Ac b)) (BB (decide (IntKind.i64.wrap (many+(↑(ws.getD j.toNat []).length:Int)) > 1024)) (LQ (Ac false) (Ac b)) (AA (((fc Bj FJ Tryz.f51 [] (Ac b)).loop [1,1,1,1,0,1,0] J).loop [1,1,0,0,1,1,1,0] J2) [1,1,0,0,1,1,1,1,1,0] (L3 p (IntKind.i64.wrap (many+(↑(ws.getD j.toNat []).length:Int))) k ws j (ws.getD j.toNat []) (0:Int))))) (J (L5 p many (IntKind.i64.wrap (k+(1:Int)))))):=by kernel_rfl
theorem Yd (b:Bool)(p:D.Proc)(many k:Int)(ws:List (List D.Trans))(j:Int)(w:List D.Trans)(h:Int)(J J2 J3:St->Prop):((((fc Bj FJ Tryz.f51 [] (Ac b)).loop [1,1,1,1,0,1,0] J).loop [1,1,0,0,1,1,1,0] J2).loop [1,1,0,0,1,1,1,1,1,0] J3).goal (L3 p many k ws j w h) =
  (BB (decide (h<(↑w.length:Int))) (inX h w.length/\BB (bif decide ((w.getD h.toNat default).To<0) then true else decide ((w.getD h.toNat default).To>=(↑p.Locs.length:Int))) (LQ (Ac false) (Ac b)) (J3 (L3 p many k ws j w (IntKind.i64.wrap (h+(1:Int)))))) (J2 (L4 p many k ws (IntKind.i64.wrap (j+(1:Int)))))):=by kernel_rfl
theorem Tx (b:Bool)(p:D.Proc)(k:Int)(J:St->Prop):((fc Bj J6 Tryz.f52 [] (Ac b)).loop [1,1,0,1,0] J).goal (Kj p k) =
  (BB (decide (k<(↑p.Locs.length:Int))) (inX k p.Locs.length/\BB (bif bif decide ((↑(p.Locs.getD k.toNat default).Esc.length:Int) > 0) then true else(p.Locs.getD k.toNat default).Atomic then true else(p.Locs.getD k.toNat default).Dstep) (LQ (Ac false) (Ac b)) (J (Kj p (IntKind.i64.wrap (k+(1:Int)))))) (LQ (Ac true) (Ac b))):=by kernel_rfl
theorem WV (b:Bool)(m:D.Model)(s:D.Stmt)(k:Int)(J:St->Prop):((fc Bj Nw Tryz.f152 [] (Ac b)).loop [1,1,0,1,0] J).goal (Oo m s k) =
  (BB (decide (k<(↑s.Match.length:Int))) (inX k s.Match.length/\((true&&(s.Match.getD k.toNat 0==0)==true)=true->inX k s.Args.length)/\∃ (y:Bool),((true&&(s.Match.getD k.toNat 0==0)==true)=true->VC 151 [tpM m,Aa (s.Args.getD k.toNat 0)] (Ac y))/\BB (bif s.Match.getD k.toNat 0==0 then !y else false) (LQ (Ac false) (Ac b)) (J (Oo m s (IntKind.i64.wrap (k+(1:Int)))))) (LQ (Ac true) (Ac b))):=by kernel_rfl
theorem AaR (b:Bool)(m:D.Model)(i:Int)(list:List Int)(run:Int)(J:St->Prop):((fc Bj JZ Tryz.f75 [] (Ac b)).first [1] 0 J).goal (Y8 m i list run) =
  (((0:Int)<=(↑m.Exprs.length:Int)/\(↑m.Exprs.length:Int)<=(↑m.Exprs.length:Int)/\(↑m.Exprs.length:Int)*(↑1:Int)<=140737488355328)/\list.length*8<=140737488355328/\(∀ (i:Nat),i<list.length->(AM list i).all VV.mem1=true)/\BB ((0:Int)==(↑list.length:Int)) (LQ (Ac true) (Ac b)) (inX (0:Int) list.length/\inX (list.getD (Int.toNat (0:Int)) (0:Int)) (↑m.Exprs.length:Int).toNat/\BB false (J (Aq [(0,tpM m),(1,Aa i),(2,Ad false list),(3,Aa run),(9,VV.ow 0 0 (↑m.Exprs.length:Int).toNat),(10,VV.ow 1 0 list.length),(11,Aa (IntKind.i64.wrap ((0:Int)+(1:Int))))] [Ob.arr true 0 (↑m.Exprs.length:Int).toNat 1 fun(_:Nat)=>(((fc Bj JZ Tryz.f75 [] (Ac b)).first [1] 0 J).T 4).zero,Ob.arr true 0 list.length 1 (AM list)])) (inX (list.getD (Int.toNat (0:Int)) (0:Int)) (↑m.Exprs.length:Int).toNat/\inX (list.getD (Int.toNat (0:Int)) (0:Int)) m.Exprs.length/\BB (bif bif (m.Exprs.getD (list.getD (Int.toNat (0:Int)) (0:Int)).toNat default).Op==39 then list.getD (Int.toNat (0:Int)) (0:Int) != run else false then true else bif i==m.Claim then bif bif (m.Exprs.getD (list.getD (Int.toNat (0:Int)) (0:Int)).toNat default).Op==31 then true else(m.Exprs.getD (list.getD (Int.toNat (0:Int)) (0:Int)).toNat default).Op==39 then true else bif (m.Exprs.getD (list.getD (Int.toNat (0:Int)) (0:Int)).toNat default).Op==2 then(m.Exprs.getD (list.getD (Int.toNat (0:Int)) (0:Int)).toNat default).V.Scope==1 else false else false) (LQ (Ac false) (Ac b)) (BB ((m.Exprs.getD (list.getD (Int.toNat (0:Int)) (0:Int)).toNat default).Op==2) (∃ (y:Int),VC 116 [VV.agg (Cq (m.Exprs.getD (list.getD (Int.toNat (0:Int)) (0:Int)).toNat default).V)] (Aa y)/\∃ (y_1:Int),VC 117 [tpM m,Aa i,VV.agg (Cq (m.Exprs.getD (list.getD (Int.toNat (0:Int)) (0:Int)).toNat default).V)] (Aa y_1)/\BB (decide (y > y_1)) (LQ (Ac false) (Ac b)) (∃ (y:List Int),VC 72 [VV.agg (AS (m.Exprs.getD (list.getD (Int.toNat (0:Int)) (0:Int)).toNat default))] (Ad true y)/\(list.length+y.length)*8<=140737488355328/\(∀ (i:Nat),i<y.length->(AM y i).all VV.mem1=true)/\J (Aq [(0,tpM m),(1,Aa i),(2,Ad false list),(3,Aa run),(9,VV.ow 0 0 (↑m.Exprs.length:Int).toNat),(10,VV.ow 1 0 (list.length+y.length)),(11,Aa (IntKind.i64.wrap ((0:Int)+(1:Int))))] [Ob.arr true 0 (↑m.Exprs.length:Int).toNat 1 fun(j:Nat)=>bif j.beq (list.getD 0 0).toNat then[Ac true] else[Ac false],Ob.arr true 0 (list.length+y.length) 1 fun(i:Nat)=>bif i.blt list.length then AM list i else AM y (i - list.length)]))) (∃ (y:List Int),VC 72 [VV.agg (AS (m.Exprs.getD (list.getD (Int.toNat (0:Int)) (0:Int)).toNat default))] (Ad true y)/\(list.length+y.length)*8<=140737488355328/\(∀ (i:Nat),i<y.length->(AM y i).all VV.mem1=true)/\J (Aq [(0,tpM m),(1,Aa i),(2,Ad false list),(3,Aa run),(9,VV.ow 0 0 (↑m.Exprs.length:Int).toNat),(10,VV.ow 1 0 (list.length+y.length)),(11,Aa (IntKind.i64.wrap ((0:Int)+(1:Int))))] [Ob.arr true 0 (↑m.Exprs.length:Int).toNat 1 fun(j:Nat)=>bif j.beq (list.getD 0 0).toNat then[Ac true] else[Ac false],Ob.arr true 0 (list.length+y.length) 1 fun(i:Nat)=>bif i.blt list.length then AM list i else AM y (i - list.length)])))))):=by kernel_rfl
theorem AaQ (b:Bool)(m:D.Model)(i:Int)(list:List Int)(run:Int)(seen:List Bool)(todo:List Int)(k:Int)(J:St->Prop):((fc Bj JZ Tryz.f75 [] (Ac b)).pass [1] 0 J).goal (PC m i list run seen todo k) =
  (BB (k==(↑todo.length:Int)) (LQ (Ac true) (Ac b)) (inX k todo.length/\inX (todo.getD k.toNat 0) seen.length/\BB (seen.getD (todo.getD k.toNat 0).toNat false) (J (PC m i list run seen todo (IntKind.i64.wrap (k+(1:Int))))) (inX (todo.getD k.toNat 0) seen.length/\inX (todo.getD k.toNat 0) m.Exprs.length/\BB (bif bif (m.Exprs.getD (todo.getD k.toNat 0).toNat default).Op==39 then todo.getD k.toNat 0 != run else false then true else bif i==m.Claim then bif bif (m.Exprs.getD (todo.getD k.toNat 0).toNat default).Op==31 then true else(m.Exprs.getD (todo.getD k.toNat 0).toNat default).Op==39 then true else bif (m.Exprs.getD (todo.getD k.toNat 0).toNat default).Op==2 then(m.Exprs.getD (todo.getD k.toNat 0).toNat default).V.Scope==1 else false else false) (LQ (Ac false) (Ac b)) (BB ((m.Exprs.getD (todo.getD k.toNat 0).toNat default).Op==2) (∃ (y:Int),VC 116 [VV.agg (Cq (m.Exprs.getD (todo.getD k.toNat 0).toNat default).V)] (Aa y)/\∃ (y_1:Int),VC 117 [tpM m,Aa i,VV.agg (Cq (m.Exprs.getD (todo.getD k.toNat 0).toNat default).V)] (Aa y_1)/\BB (decide (y > y_1)) (LQ (Ac false) (Ac b)) (∃ (y:List Int),VC 72 [VV.agg (AS (m.Exprs.getD (todo.getD k.toNat 0).toNat default))] (Ad true y)/\(todo.length+y.length)*8<=140737488355328/\(∀ (i:Nat),i<y.length->(AM y i).all VV.mem1=true)/\J (Aq [(0,tpM m),(1,Aa i),(2,Ad false list),(3,Aa run),(9,VV.ow 0 0 seen.length),(10,VV.ow 1 0 (todo.length+y.length)),(11,Aa (IntKind.i64.wrap (k+(1:Int))))] [Ob.arr true 0 seen.length 1 fun(j:Nat)=>bif j.beq (todo.getD k.toNat 0).toNat then[Ac true] else[Ac (seen.getD j false)],Ob.arr true 0 (todo.length+y.length) 1 fun(i:Nat)=>bif i.blt todo.length then AM todo i else AM y (i - todo.length)]))) (∃ (y:List Int),VC 72 [VV.agg (AS (m.Exprs.getD (todo.getD k.toNat 0).toNat default))] (Ad true y)/\(todo.length+y.length)*8<=140737488355328/\(∀ (i:Nat),i<y.length->(AM y i).all VV.mem1=true)/\J (Aq [(0,tpM m),(1,Aa i),(2,Ad false list),(3,Aa run),(9,VV.ow 0 0 seen.length),(10,VV.ow 1 0 (todo.length+y.length)),(11,Aa (IntKind.i64.wrap (k+(1:Int))))] [Ob.arr true 0 seen.length 1 fun(j:Nat)=>bif j.beq (todo.getD k.toNat 0).toNat then[Ac true] else[Ac (seen.getD j false)],Ob.arr true 0 (todo.length+y.length) 1 fun(i:Nat)=>bif i.blt todo.length then AM todo i else AM y (i - todo.length)])))))):=by kernel_rfl
theorem Ab1 (b:Bool)(m:D.Model)(i:Int)(p:D.Proc)(k:Int)(J:St->Prop):((fc Bj G9 Tryz.f53 [] (Ac b)).loop [1,1,0,1,0] J).goal (L2 m i p k) =
  (BB (decide (k<(↑p.Locs.length:Int))) (inX k p.Locs.length/\∃ (y:List (List D.Trans)),VC 73 [VV.agg (AY (p.Locs.getD k.toNat default))] (BT true y)/\AA ((fc Bj G9 Tryz.f53 [] (Ac b)).loop [1,1,0,1,0] J) [1,1,0,0,1,1,0] (LZ m i p k y (0:Int))) (∃ (y:Bool),((true&&decide (p.Provided<0)==false)=true->VC 75 [tpM m,Aa i,VV.sl true 1 1 fun(i:Nat)=>List.take 1 (List.drop (i*1) [Aa p.Provided]),Aa (-1)] (Ac y))/\LQ (Ac (bif decide (p.Provided<0) then true else y)) (Ac b))):=by kernel_rfl
theorem Ab0 (b:Bool)(m:D.Model)(i:Int)(p:D.Proc)(k:Int)(ws:List (List D.Trans))(j:Int)(J J2:St->Prop):(((fc Bj G9 Tryz.f53 [] (Ac b)).loop [1,1,0,1,0] J).loop [1,1,0,0,1,1,0] J2).goal (LZ m i p k ws j) =
  (BB (decide (j<(↑ws.length:Int))) (inX j ws.length/\AA (((fc Bj G9 Tryz.f53 [] (Ac b)).loop [1,1,0,1,0] J).loop [1,1,0,0,1,1,0] J2) [1,1,0,0,1,1,0] (Ox m i p k ws j (ws.getD j.toNat []) (0:Int))) (J (L2 m i p (IntKind.i64.wrap (k+(1:Int)))))):=by kernel_rfl
theorem AbZ (b:Bool)(m:D.Model)(i:Int)(p:D.Proc)(k:Int)(ws:List (List D.Trans))(j:Int)(w:List D.Trans)(h:Int)(J J2 J3:St->Prop):((((fc Bj G9 Tryz.f53 [] (Ac b)).loop [1,1,0,1,0] J).loop [1,1,0,0,1,1,0] J2).loop [1,1,0,0,1,1,0] J3).goal (Ox m i p k ws j w h) =
  (BB (decide (h<(↑w.length:Int))) (inX h w.length/\∃ (y:Bool),VC 74 [tpM m,Aa i,VV.agg (Ap (w.getD h.toNat default).S)] (Ac y)/\BB (!y) (LQ (Ac false) (Ac b)) (J3 (Ox m i p k ws j w (IntKind.i64.wrap (h+(1:Int)))))) (J2 (LZ m i p k ws (IntKind.i64.wrap (j+(1:Int)))))):=by kernel_rfl
theorem Uo (r e:Int)(m:D.Model)(k:Int)(J:St->Prop):((fc Bj Dj Tryz.f49 [] (.tup [Aa r,Aa e])).loop [1,1,1,1,1,0,1,0] J).goal (SI m k) =
  (BB (decide (k<(↑m.Shapes.length:Int))) (inX k m.Shapes.length/\∃ (y:Bool),VC 70 [VV.agg (FC (m.Shapes.getD k.toNat default))] (Ac y)/\BB (!y) (LQ (VV.tup [Aa 2,Aa k]) (VV.tup [Aa r,Aa e])) (J (SI m (IntKind.i64.wrap (k+(1:Int)))))) (AA (fc Bj Dj Tryz.f49 [] (VV.tup [Aa r,Aa e])) [1,1,1,1,1,1,0,1,0] (SH m (0:Int)))):=by kernel_rfl
theorem Un (r e:Int)(m:D.Model)(k:Int)(J:St->Prop):((fc Bj Dj Tryz.f49 [] (.tup [Aa r,Aa e])).loop [1,1,1,1,1,1,0,1,0] J).goal (SH m k) =
  (BB (decide (k<(↑m.Chans.length:Int))) (inX k m.Chans.length/\BB (bif decide (m.Chans.getD k.toNat 0<0) then true else decide (m.Chans.getD k.toNat 0>=(↑m.Shapes.length:Int))) (LQ (VV.tup [Aa 2,Aa k]) (VV.tup [Aa r,Aa e])) (J (SH m (IntKind.i64.wrap (k+(1:Int)))))) (BB (bif bif bif bif decide ((↑m.Procs.length:Int)<1) then true else decide ((↑m.Procs.length:Int) > 16) then true else decide (m.Claim<(-1:Int)) then true else decide (m.Claim>=(↑m.Procs.length:Int)) then true else decide ((↑m.Exprs.length:Int) > 4096)) (LQ (VV.tup [Aa 3,Aa (-1)]) (VV.tup [Aa r,Aa e])) (((0:Int)<=(↑m.Exprs.length:Int)/\(↑m.Exprs.length:Int)<=(↑m.Exprs.length:Int)/\(↑m.Exprs.length:Int)*(↑1:Int)<=140737488355328)/\AA (fc Bj Dj Tryz.f49 [] (VV.tup [Aa r,Aa e])) [1,1,1,1,1,1,1,1,1,0,1,0] (Aq [(0,tpM m),(4,VV.bp 0 0),(10,VV.ow 1 0 (↑m.Exprs.length:Int).toNat),(116,Aa (↑m.Exprs.length:Int)),(117,Aa 0)] [Ob.box (Ag m),Ob.arr true 0 (↑m.Exprs.length:Int).toNat 1 fun(_:Nat)=>((fc Bj Dj Tryz.f49 [] (VV.tup [Aa r,Aa e])).T 4).zero])))):=by kernel_rfl
theorem Um (r e:Int)(m:D.Model)(had:List Bool)(k:Int)(J:St->Prop):((fc Bj Dj Tryz.f49 [] (.tup [Aa r,Aa e])).loop [1,1,1,1,1,1,1,1,1,0,1,0] J).goal (W9 m had k) =
  (BB (decide (k<(↑m.Exprs.length:Int))) (∃ (y:Bool),VC 71 [tpM m,Aa k] (Ac y)/\BB (!y) (LQ (VV.tup [Aa 3,Aa k]) (VV.tup [Aa r,Aa e])) (inX k m.Exprs.length/\∃ (y:List Int),VC 72 [VV.agg (AS (m.Exprs.getD k.toNat default))] (Ad true y)/\AA ((fc Bj Dj Tryz.f49 [] (VV.tup [Aa r,Aa e])).loop [1,1,1,1,1,1,1,1,1,0,1,0] J) [1,1,0,0,1,1,1,0] (W8 m had k y (0:Int)))) (LQ (VV.tup [Aa 0,Aa 0]) (VV.tup [Aa r,Aa e]))):=by kernel_rfl
theorem Ul (r e:Int)(m:D.Model)(had:List Bool)(k:Int)(l:List Int)(j:Int)(J J2:St->Prop):(((fc Bj Dj Tryz.f49 [] (.tup [Aa r,Aa e])).loop [1,1,1,1,1,1,1,1,1,0,1,0] J).loop [1,1,0,0,1,1,1,0] J2).goal (W8 m had k l j) =
  (BB (decide (j<(↑l.length:Int))) (inX j l.length/\inX (l.getD j.toNat 0) had.length/\BB (had.getD (l.getD j.toNat 0).toNat false) (LQ (VV.tup [Aa 3,Aa k]) (VV.tup [Aa r,Aa e])) (inX (l.getD j.toNat 0) had.length/\J2 (Aq [(0,tpM m),(4,VV.bp 0 0),(10,VV.ow 1 0 had.length),(11,Aa k),(116,Aa (↑m.Exprs.length:Int)),(117,Aa k),(130,Ad true l),(131,Aa (↑l.length:Int)),(132,Aa (IntKind.i64.wrap (j+(1:Int))))] [Ob.box (Ag m),Ob.arr true 0 had.length 1 fun(j_1:Nat)=>bif j_1.beq (l.getD j.toNat 0).toNat then[Ac true] else[Ac (had.getD j_1 false)]]))) (J (W9 m had (IntKind.i64.wrap (k+(1:Int)))))):=by kernel_rfl
theorem AcI (r:List Int)(x:D.Expr)(l:List Int)(k:Int)(J:St->Prop):((fc Bj Ha Tryz.f72 [] (Ad true r)).loop [1,1,1,0,1,0,1,1,0] J).goal (Xb x l k) =
  (BB (decide (k<(↑x.V.Dims.length:Int))) (inX k x.V.Dims.length/\(l.length+1)*8<=140737488355328/\J (Aq [(3,VV.ow 0 0 (l.length+1)),(45,Dc true x.V.Dims),(46,Aa (↑x.V.Dims.length:Int)),(47,Aa (IntKind.i64.wrap (k+(1:Int))))] [Ob.arr true 0 (l.length+1) 1 fun(i:Nat)=>bif i.blt l.length then[Aa (l.getD i 0)] else(fun(i:Nat)=>List.take 1 (List.drop (i*1) [Aa (x.V.Dims.getD k.toNat default).I])) (i - l.length)])) (LQ (Ad true l) (Ad true r))):=by kernel_rfl
theorem YC (r e f:Int)(m:D.Model)(many k:Int)(J:St->Prop):((fc Bj Iu Tryz.f36 [] (.tup [Aa r,Aa e,Aa f])).loop [1,1,1,1,0,1,0] J).goal (L7 m many k) =
  (BB (decide (k<(↑m.Procs.length:Int))) (inX k m.Procs.length/\∃ (y:Bool),VC 50 [VV.agg (Bc (m.Procs.getD k.toNat default))] (Ac y)/\∃ (y_1:Bool),((true&&(!y)==false)=true->VC 51 [VV.agg (Bc (m.Procs.getD k.toNat default))] (Ac y_1))/\∃ (y_2:Bool),((true&&(bif bif bif !y then true else !y_1 then true else decide ((m.Procs.getD k.toNat default).Provided<(-1:Int)) then true else decide ((m.Procs.getD k.toNat default).Provided>=(↑m.Exprs.length:Int)))==false&&(k==m.Claim)==true)=true->VC 52 [VV.agg (Bc (m.Procs.getD k.toNat default))] (Ac y_2))/\BB (bif bif bif bif !y then true else !y_1 then true else decide ((m.Procs.getD k.toNat default).Provided<(-1:Int)) then true else decide ((m.Procs.getD k.toNat default).Provided>=(↑m.Exprs.length:Int)) then true else bif k==m.Claim then !y_2 else false) (LQ (VV.tup [Aa 40,Aa 4,Aa k]) (VV.tup [Aa r,Aa e,Aa f])) (J (L7 m (IntKind.i64.wrap (many+(m.Procs.getD k.toNat default).Active)) (IntKind.i64.wrap (k+(1:Int)))))) (BB (decide (many > 16)) (LQ (VV.tup [Aa 40,Aa 5,Aa (-1)]) (VV.tup [Aa r,Aa e,Aa f])) (AA (fc Bj Iu Tryz.f36 [] (VV.tup [Aa r,Aa e,Aa f])) [1,1,1,1,1,1,0,1,0] (L6 m (0:Int))))):=by kernel_rfl
theorem YB (r e f:Int)(m:D.Model)(k:Int)(J:St->Prop):((fc Bj Iu Tryz.f36 [] (.tup [Aa r,Aa e,Aa f])).loop [1,1,1,1,1,1,0,1,0] J).goal (L6 m k) =
  (BB (decide (k<(↑m.Procs.length:Int))) (∃ (y:Bool),VC 53 [tpM m,Aa k] (Ac y)/\BB (!y) (LQ (VV.tup [Aa 40,Aa 6,Aa k]) (VV.tup [Aa r,Aa e,Aa f])) (J (L6 m (IntKind.i64.wrap (k+(1:Int)))))) (LQ (VV.tup [Aa 0,Aa 0,Aa 0]) (VV.tup [Aa r,Aa e,Aa f]))):=by kernel_rfl
end Go.Proofs.YtmdcknlpalfhhaaGreatDoor
